/- What an act is, and what laying one gives; the walk of laying one into a Writer. -/
import Derived.Test.YtdhlcofjpkbgaaaDoorCodecC
namespace Go.Proofs.YtdhlcofjpkbgaaaDoor
open Go.RowKit

/-- An act, as data. -/
structure Ac where
  kind : Int
  size : Int
  n : Nat
  s : ByteArray
  h : List UInt8
  b : List UInt8

/-- The bytes behind an act, and the error. -/
def layB (xs : List UInt8) (a : Ac) : List UInt8 :=
  if a.kind = 1 then (if 255 < a.s.size then xs else xs ++ strB a.s)
  else if a.kind = 2 then xs ++ a.h
  else if a.kind = 3 then xs ++ a.b
  else if a.kind = 4 then (if 65536 < a.size ∨ a.size < xs.length then xs else xs ++ List.replicate (a.size.toNat - xs.length) 0)
  else if a.size < 0 ∨ 8 < a.size ∨ 0 < a.n / 256 ^ a.size.toNat then xs else xs ++ putB a.n a.size.toNat
def layE (xs : List UInt8) (a : Ac) : Int :=
  if a.kind = 1 then (if 255 < a.s.size then 2 else 0)
  else if a.kind = 2 then 0
  else if a.kind = 3 then 0
  else if a.kind = 4 then (if 65536 < a.size ∨ a.size < xs.length then 2 else 0)
  else if a.size < 0 ∨ 8 < a.size ∨ 0 < a.n / 256 ^ a.size.toNat then 2 else 0

/-- An act's cells. -/
structure AcIs (w : World) (arr : Array Value) (a : Ac) : Prop where
  cells : ∃ v, arr.toList = [.int .i64 a.kind, .int .i64 a.size, .int .u64 (a.n : Int), .string a.s] ++ a.h.map Bv ++ [v] ∧ Sl w 1 v a.b.length (a.b.map Bv)
  hash : a.h.length = 32
  num : a.n < 18446744073709551616

theorem AcIs.fr {w w' : World} {arr : Array Value} {a : Ac} (h : AcIs w arr a) (hf : ∀ v, Sl w 1 v a.b.length (a.b.map Bv) → Sl w' 1 v a.b.length (a.b.map Bv)) : AcIs w' arr a := by
  obtain ⟨⟨v, h1, h2⟩, h3, h4⟩ := h
  exact ⟨⟨v, h1, hf v h2⟩, h3, h4⟩
theorem AcIs.size {w : World} {arr : Array Value} {a : Ac} (h : AcIs w arr a) : arr.size = 37 := by
  obtain ⟨⟨v, h1, h2⟩, h3, h4⟩ := h
  rw [← Array.length_toList, h1]; simp [h3]
/-- Its fields, each as the walk reads it. -/
theorem AcIs.get {w : World} {arr : Array Value} {a : Ac} (h : AcIs w arr a) : ∃ v, arr[0]? = some (.int .i64 a.kind) ∧ arr[1]? = some (.int .i64 a.size) ∧ arr[2]? = some (.int .u64 (a.n : Int)) ∧ arr[3]? = some (.string a.s) ∧ arr[36]? = some v ∧
    Sl w 1 v a.b.length (a.b.map Bv) ∧ (∀ i u, (a.h.map Bv)[i]? = some u → arr[4 + i]? = some u) := by
  obtain ⟨⟨v, h1, h2⟩, h3, h4⟩ := h
  have e : ∀ i : Nat, arr[i]? = ([.int .i64 a.kind, .int .i64 a.size, .int .u64 (a.n : Int), .string a.s] ++ a.h.map Bv ++ [v])[i]? := by
    intro i; rw [← h1]; simp
  refine ⟨v, by rw [e]; rfl, by rw [e]; rfl, by rw [e]; rfl, by rw [e]; rfl, ?_, h2, ?_⟩
  · rw [e, List.getElem?_append_right (by simp [h3])]
    simp [h3]
  · intro i u hu
    rw [e, List.getElem?_append_left (by have := (List.getElem?_eq_some_iff.1 hu).1; simp at this ⊢; omega), List.getElem?_append_right (by simp)]
    simpa using hu

theorem info_hash : (Tryd.prog.info? 46).map (·.size) = some 32 := by kernel_rfl

/-- An array of bytes, read at an address. -/
theorem load_hash {ops : Array Oper} {rest : List Oper} {o : Oper} {a : Act} {w : World} {Q : Exit → Act → World → Prop} (hgd : o.guard = none) (x : Operand) (ho : o.op = .load 46 x)
    {b off : Nat} (hx : a.eval x = .pointer (some ⟨b, off, none⟩)) {h : List UInt8} (hc : At w b off (h.map Bv)) (hl : h.length = 32)
    (hK : wpList Tryd.prog ops Q rest (a.put o.dst (.agg (h.map Bv).toArray)) w) : wpList Tryd.prog ops Q (o :: rest) a w :=
  wpList_load_at hgd _ x ho b off hx (h.map Bv) _ hc Tryd.underlying46 rfl (by rw [info_hash]; simp [hl]) hK

theorem Laid.alloc {w w' : World} {o : Obj} {base b : Nat} {row : Option Nat} {xs : List UInt8} (h : Laid (w.alloc o) w' base b row xs) : Laid w w' base b row xs := by
  obtain ⟨row', a1, a2, a3⟩ := h
  exact ⟨row', a1, ((Fr.refl _ w).alloc _).trans a2, fun k hk => (a3 k hk).imp id (fun h => by simp at h; omega)⟩
theorem Laid.none {w w' : World} {base b : Nat} {row : Option Nat} {xs : List UInt8} (h : Wr w base b row xs) (hf : Fr (WS b row) w w') (hw : w'.heap = w.heap ∨ Wr w' base b row xs) : Laid w w' base b row xs :=
  ⟨row, hw.elim (fun e => by obtain ⟨v, h1, h2, h3⟩ := h; exact ⟨v, by rw [e]; exact h1, by simpa only [World.ownsRow, e] using h2, h3⟩) id, hf, fun k hk => Or.inl hk⟩

set_option maxHeartbeats 1000000 in
theorem lay_any (arr : Array Value) (a : Ac) (xs : List UInt8) (base b : Nat) (row : Option Nat) (w : World) (hw : Wr w base b row xs) (hbase : base ≤ w.heap.size) (hA : AcIs w arr a) (hr : xs.length ≤ 1000000000) (hrb : a.b.length ≤ 1000000000) :
    Calls Tryd.prog 25 #[.pointer (some ⟨b, 0, none⟩), .agg arr] w fun e w' => e = .returned (.int .i64 (layE xs a)) ∧ Laid w w' base b row (layB xs a) := by
  obtain ⟨vb, g0, g1, g2, g3, g36, hsl, hh⟩ := hA.get
  have HW := Lib.hid (hw.fr ((Fr.refl (fun _ => False) w).alloc (.cells arr 48)) id (fun _ _ => id))
  have HS := Lib.hid (hsl.below ((Below.refl _ w).alloc (Nat.le_refl _) (.cells arr 48)))
  have hat : At (w.alloc (.cells arr 48)) w.heap.size 4 (a.h.map Bv) := by
    intro i u hu
    rw [cell_of_row _ _ _ _ _ _ (heap_alloc_new _ _)]
    exact hh i u hu
  have HT := Lib.hid hat
  have HL := Lib.hid hA.hash
  have HN := Lib.hid hA.num
  clear hw hsl hh hA hat
  have hnone : Laid (w.alloc (.cells arr 48)) (w.alloc (.cells arr 48)) base b row xs := Laid.none HW.out (Fr.refl _ _) (Or.inl rfl)
  have HNo := Lib.hid hnone
  clear hnone
  by_cases h1 : a.kind = 1
  · rw [h1] at g0
    have H1 := Lib.hid h1
    clear h1
    rcases Nat.lt_or_ge 255 a.s.size with hs | hs
    · have eB : layB xs a = xs := by simp [layB, H1.out, hs]
      have eE : layE xs a = 2 := by simp [layE, H1.out, hs]
      rw [eB, eE]
      clear eB eE
      go_enter Tryd.func25, Tryd.ntmps25
      go_wp2_with fail
      refine (wStr_long _ _ _ hs).mono ?_
      rintro e w1 ⟨rfl, rfl⟩
      go_wp2
      go_ret
      exact ⟨rfl, HNo.out.alloc⟩
    · have eB : layB xs a = xs ++ strB a.s := by simp [layB, H1.out, show ¬ 255 < a.s.size by omega]
      have eE : layE xs a = 0 := by simp [layE, H1.out, show ¬ 255 < a.s.size by omega]
      rw [eB, eE]
      clear eB eE
      go_enter Tryd.func25, Tryd.ntmps25
      go_wp2_with fail
      refine (wStr_ok b base row xs a.s _ HW.out (by simp; omega) hs (by omega)).mono ?_
      rintro e w1 ⟨rfl, hl⟩
      have HLd := Lib.hid hl.alloc
      clear hl
      go_wp2
      go_ret
      exact ⟨rfl, HLd.out⟩
  by_cases h2 : a.kind = 2
  · rw [h2] at g0
    have eB : layB xs a = xs ++ a.h := by simp [layB, h2]
    have eE : layE xs a = 0 := by simp [layE, h2]
    rw [eB, eE]
    clear eB eE h1 h2
    go_enter Tryd.func25, Tryd.ntmps25
    go_wp2_with (refine load_hash rfl (.tmp 16) rfl rfl HT.out HL.out ?_)
    refine (wHash_ok b base row xs a.h _ HW.out (by simp; omega) HL.out (by omega)).mono ?_
    rintro e w1 ⟨rfl, hl⟩
    have HLd := Lib.hid hl.alloc
    clear hl
    go_wp2
    go_ret
    exact ⟨rfl, HLd.out⟩
  by_cases h3 : a.kind = 3
  · rw [h3] at g0
    have eB : layB xs a = xs ++ a.b := by simp [layB, h3]
    have eE : layE xs a = 0 := by simp [layE, h3]
    rw [eB, eE]
    clear eB eE h1 h2 h3
    go_enter Tryd.func25, Tryd.ntmps25
    go_wp2_with fail
    refine (wRaw_ok b base row xs a.b _ _ HW.out (by simp; omega) HS.out (by omega)).mono ?_
    rintro e w1 ⟨rfl, hl⟩
    have HLd := Lib.hid hl.alloc
    clear hl
    go_wp2
    go_ret
    exact ⟨rfl, HLd.out⟩
  by_cases h4 : a.kind = 4
  · rw [h4] at g0
    have H4 := Lib.hid h4
    clear h1 h2 h3 h4
    by_cases h5 : 65536 < a.size ∨ a.size < xs.length
    · have eB : layB xs a = xs := by simp [layB, H4.out, h5]
      have eE : layE xs a = 2 := by simp [layE, H4.out, h5]
      rw [eB, eE]
      have H5 := Lib.hid h5
      clear eB eE h5
      go_enter Tryd.func25, Tryd.ntmps25
      go_wp2_with fail
      refine (wPad_err b base _ row xs _ HW.out H5.out).mono ?_
      rintro e w1 ⟨rfl, rfl⟩
      go_wp2
      go_ret
      exact ⟨rfl, HNo.out.alloc⟩
    · obtain ⟨n, hn⟩ := Int.eq_ofNat_of_zero_le (show 0 ≤ a.size by omega)
      have eB : layB xs a = xs ++ List.replicate (n - xs.length) 0 := by simp only [layB, H4.out]; rw [if_neg (by decide), if_neg (by decide), if_neg (by decide), if_pos trivial, if_neg h5, hn]; rfl
      have eE : layE xs a = 0 := by simp only [layE, H4.out]; rw [if_neg (by decide), if_neg (by decide), if_neg (by decide), if_pos trivial, if_neg h5]
      rw [eB, eE]
      rw [hn] at g1
      have c1 : n ≤ 65536 := by omega
      have c2 : xs.length ≤ n := by omega
      clear eB eE h5 hn
      go_enter Tryd.func25, Tryd.ntmps25
      go_wp2_with fail
      refine (wPad_ok b base n row xs _ HW.out (by simp; omega) c1 c2).mono ?_
      rintro e w1 ⟨rfl, hl⟩
      have HLd := Lib.hid hl.alloc
      clear hl
      go_wp2
      go_ret
      exact ⟨rfl, HLd.out⟩
  have k1 : (a.kind == 1) = false := by simp [h1]
  have k2 : (a.kind == 2) = false := by simp [h2]
  have k3 : (a.kind == 3) = false := by simp [h3]
  have k4 : (a.kind == 4) = false := by simp [h4]
  by_cases h5 : a.size < 0 ∨ 8 < a.size ∨ 0 < a.n / 256 ^ a.size.toNat
  · have eB : layB xs a = xs := by unfold layB; rw [if_neg h1, if_neg h2, if_neg h3, if_neg h4, if_pos h5]
    have eE : layE xs a = 2 := by unfold layE; rw [if_neg h1, if_neg h2, if_neg h3, if_neg h4, if_pos h5]
    rw [eB, eE]
    have h6 : a.size < 0 ∨ 8 < a.size ∨ (0 ≤ a.size ∧ a.size < 8 ∧ 256 ^ a.size.toNat ≤ a.n) := by
      by_cases c1 : a.size < 0
      · exact Or.inl c1
      by_cases c2 : 8 < a.size
      · exact Or.inr (Or.inl c2)
      have c3 := (h5.resolve_left c1).resolve_left c2
      by_cases c4 : a.size = 8
      · exfalso
        rw [c4] at c3
        have hn := HN.out
        have : a.n / 256 ^ (8 : Int).toNat = 0 := Nat.div_eq_of_lt (show a.n < 256 ^ 8 from hn)
        omega
      · refine Or.inr (Or.inr ⟨by omega, by omega, ?_⟩)
        rcases Nat.lt_or_ge a.n (256 ^ a.size.toNat) with h | h
        · rw [Nat.div_eq_of_lt h] at c3; omega
        · exact h
    have H6 := Lib.hid h6
    clear eB eE h5 h6 h1 h2 h3 h4
    go_enter Tryd.func25, Tryd.ntmps25
    go_wp2_with fail
    refine (wNum_err b _ _ _ H6.out).mono ?_
    rintro e w1 ⟨rfl, rfl⟩
    go_wp2
    go_ret
    exact ⟨rfl, HNo.out.alloc⟩
  · obtain ⟨n, hn⟩ := Int.eq_ofNat_of_zero_le (show 0 ≤ a.size by omega)
    have eB : layB xs a = xs ++ putB a.n n := by unfold layB; rw [if_neg h1, if_neg h2, if_neg h3, if_neg h4, if_neg h5, hn]; rfl
    have eE : layE xs a = 0 := by unfold layE; rw [if_neg h1, if_neg h2, if_neg h3, if_neg h4, if_neg h5]
    rw [eB, eE]
    rw [hn] at g1
    have h8 : n ≤ 8 := by omega
    have hfit : n = 8 ∨ a.n < 256 ^ n := by
      right
      rw [hn, Int.toNat_natCast] at h5
      have : a.n / 256 ^ n = 0 := Nat.eq_zero_of_not_pos (fun hp => h5 (Or.inr (Or.inr hp)))
      exact Nat.lt_of_div_eq_zero (Nat.pow_pos (by decide)) this
    have HFit := Lib.hid hfit
    clear eB eE h5 hn h1 h2 h3 h4 hfit
    go_enter Tryd.func25, Tryd.ntmps25
    go_wp2_with fail
    refine (wNum_ok b base row xs a.n n _ HW.out (by simp; omega) h8 HFit.out (by omega)).mono ?_
    rintro e w1 ⟨rfl, hl⟩
    have HLd := Lib.hid hl.alloc
    clear hl
    go_wp2
    go_ret
    exact ⟨rfl, HLd.out⟩

end Go.Proofs.YtdhlcofjpkbgaaaDoor
