/- Walks: codec.Writer's Hash, Raw, Pad; the reference's Str and Put. -/
import Derived.Test.YtdmgmpagnmmehaaDoorCodecB
import Derived.Test.YtdmgmpagnmmehaaDoorAgg
namespace Go.Proofs.YtdmgmpagnmmehaaDoor
open Go.RowKit

/-- append of noughts onto own bytes. -/
theorem append_zeros_u8 {w : World} {ops : Array Oper} {rest : List Oper} {o : Oper} {a : Act} {Q : Exit → Act → World → Prop} (hgd : o.guard = none) (s x : Operand)
    (ho : o.op = .call { callee := .builtin .append, args := #[s, x], argTypes := #[28, 3] })
    {base : Nat} {v : Value} {n : Nat} {xs : List UInt8} (hown : w.ownsRow base 5 1 v n (xs.map Bv)) {k : Nat}
    (hs : a.eval s = v) (hxe : a.eval x = .int .i64 (k : Int)) (hr : n + k ≤ 140737488355328) (hbase : base ≤ w.heap.size)
    (h : ∀ v' w', w'.ownsRow base 5 1 v' (n + k) ((xs ++ List.replicate k 0).map Bv) → Fr (fun k => v.ownBlock = some k) w w' → (v'.ownBlock = v.ownBlock ∨ v'.ownBlock = some w.heap.size) →
      wpList Tryd.prog ops Q rest (a.put o.dst v') w') : wpList Tryd.prog ops Q (o :: rest) a w := by
  obtain ⟨i0, hi, hz0, hz1, hz2⟩ := info_parts info_u8
  obtain ⟨v', w', hr', h2, hg, h3⟩ := run_append_zeros_own (P := Tryd.prog) w base 28 3 o.type 5 i0 (.int .u8 0) .i64 .i64 Tryd.underlying28 Tryd.underlying3 hi hz0 hz1 hz2 rfl rfl v n _ hown k hr hbase
  refine Lib.wpList_append_run w hgd s x _ _ ho v _ hs hxe v' w' hr' ?_
  have e : xs.map Bv ++ List.replicate k (.int .u8 0) = (xs ++ List.replicate k 0).map Bv := by rw [List.map_append, List.map_replicate]; rfl
  rw [e] at h2
  exact h v' w' h2 ((Fr.refl _ w).grown hg (fun k hk => Or.inl hk)) h3

theorem wRaw_ok (b base : Nat) (row : Option Nat) (os xs : List UInt8) (v : Value) (w : World) (hw : Wr w base b row os) (hbase : base ≤ w.heap.size) (h : Sl w 1 v xs.length (xs.map Bv)) (hr : os.length + xs.length ≤ 140737488351232) :
    Calls Tryd.prog 41 #[.pointer (some ⟨b, 0, none⟩), v] w fun e w' => e = .returned (.int .i64 0) ∧ Laid w w' base b row (os ++ xs) := by
  have HW := Lib.hid hw
  have HH := Lib.hid h
  clear hw h
  go_enter Tryd.func41, Tryd.ntmps41
  go_wp2_with fail
  refine (add_ok b base row os xs _ w HW.out hbase HH.out hr).mono ?_
  rintro e w2 ⟨rfl, hl⟩
  have HL := Lib.hid hl
  clear hl
  go_wp2
  go_ret
  exact ⟨rfl, HL.out⟩

/-- A boxed array of bytes, as the slice of all of it. -/
theorem Sl_box (w : World) (h : List UInt8) (t : TypeId) : Sl (w.alloc (.cells (h.map Bv).toArray t)) 1 (.slice (some ⟨w.heap.size, 0, none⟩) h.length h.length) h.length (h.map Bv) := by
  refine ⟨by simp, _, _, rfl, Nat.le_refl _, fun h => (by cases h), fun i u hu => ⟨_, 0, rfl, ?_⟩⟩
  rw [Nat.zero_add, cell_of_row _ w.heap.size i _ t (0, 0) (heap_alloc_new _ _)]
  simpa using hu

set_option maxHeartbeats 400000 in
theorem wHash_ok (b base : Nat) (row : Option Nat) (os h : List UInt8) (w : World) (hw : Wr w base b row os) (hbase : base ≤ w.heap.size) (hh : h.length = 32) (hr : os.length + 32 ≤ 140737488351232) :
    Calls Tryd.prog 42 #[.pointer (some ⟨b, 0, none⟩), .agg (h.map Bv).toArray] w fun e w' => e = .returned (.int .i64 0) ∧ Laid w w' base b row (os ++ h) := by
  have hS := Sl_box w h 45
  rw [hh] at hS
  obtain ⟨cs, hcs⟩ : ∃ cs, cs = (h.map Bv).toArray := ⟨_, rfl⟩
  rw [← hcs] at hS ⊢
  have HS := Lib.hid hS
  have HW := Lib.hid (hw.fr ((Fr.refl (fun _ => False) w).alloc (.cells cs 45)) id (fun _ _ => id))
  have HH := Lib.hid hh
  clear hcs hS hw hh
  go_enter Tryd.func42, Tryd.ntmps42
  go_wp2_with fail
  refine (add_ok b base row os h _ _ HW.out (by simp; omega) (by rw [HH.out]; exact HS.out) (by rw [HH.out]; omega)).mono ?_
  rintro e w2 ⟨rfl, hl⟩
  have HL := Lib.hid hl
  clear hl
  go_wp2
  go_ret
  obtain ⟨row', a1, a2, a3⟩ := HL.out
  exact ⟨rfl, row', a1, ((Fr.refl _ w).alloc _).trans a2, fun k hk => (a3 k hk).imp id (fun h => by simp at h; omega)⟩

set_option maxHeartbeats 400000 in
theorem wPad_ok (b base n : Nat) (row : Option Nat) (os : List UInt8) (w : World) (hw : Wr w base b row os) (hbase : base ≤ w.heap.size) (h1 : n ≤ 65536) (h2 : os.length ≤ n) :
    Calls Tryd.prog 31 #[.pointer (some ⟨b, 0, none⟩), .int .i64 (n : Int)] w fun e w' => e = .returned (.int .i64 0) ∧ Laid w w' base b row (os ++ List.replicate (n - os.length) 0) := by
  have HW := Lib.hid hw
  obtain ⟨v0, hb, ho, rfl⟩ := hw
  have c0 := cell_of_one hb
  obtain ⟨a, cap, rfl, _⟩ := (Sl.own ho).len
  have b1 : decide ((65536 : Int) < (n : Int)) = false := by simp; omega
  have b2 : ¬ (n : Int) < (os.length : Int) := by omega
  have es : (n : Int) - (os.length : Int) = ((n - os.length : Nat) : Int) := by omega
  clear hb ho
  go_enter Tryd.func31, Tryd.ntmps31
  go_wp2_with (at_make; refine make_u8 rfl (.tmp 25) (.tmp 25) rfl (n - os.length) rfl rfl (by omega) ?_)
  intro w1 hown hb
  have hw1 := Lib.hid (HW.out.fr (Fr.of_below (S := fun _ => False) hb) id (fun _ _ => id))
  have HB := Lib.hid hb
  have hs := hb.size
  have HS := Lib.hid (Sl.own hown)
  clear hown hb es
  go_wp2_with fail
  refine (add_ok b base _ os (List.replicate (n - os.length) 0) _ w1 hw1.out (by omega) (by simpa using HS.out) (by simp; omega)).mono ?_
  rintro e w2 ⟨rfl, hl⟩
  have HL := Lib.hid hl
  clear hl
  go_wp2
  go_ret
  obtain ⟨row', a1, a2, a3⟩ := HL.out
  exact ⟨rfl, row', a1, (Fr.of_below HB.out).trans a2, fun k hk => (a3 k hk).imp id (fun h => by omega)⟩

set_option maxHeartbeats 400000 in
theorem wPad_err (b base : Nat) (n : Int) (row : Option Nat) (os : List UInt8) (w : World) (hw : Wr w base b row os) (h : 65536 < n ∨ n < os.length) :
    Calls Tryd.prog 31 #[.pointer (some ⟨b, 0, none⟩), .int .i64 n] w fun e w' => e = .returned (.int .i64 2) ∧ w = w' := by
  obtain ⟨v0, hb, ho, rfl⟩ := hw
  have c0 := cell_of_one hb
  obtain ⟨a, cap, rfl, _⟩ := (Sl.own ho).len
  clear hb ho
  by_cases h1 : 65536 < n
  · clear h
    go_enter Tryd.func31, Tryd.ntmps31
    go_wp2
    go_ret
    exact ⟨rfl, rfl⟩
  · have h2 : n < os.length := h.resolve_left h1
    clear h
    go_enter Tryd.func31, Tryd.ntmps31
    go_wp2
    go_ret
    exact ⟨rfl, rfl⟩

set_option maxHeartbeats 400000 in
theorem refPut_arg (x size : Int) (w : World) (h : size < 0 ∨ 8 < size) :
    Calls Tryd.prog 93 #[.int .u64 x, .int .i64 size] w fun e w' => e = .returned (.tuple #[.slice none 0 0, .int .i64 2]) ∧ w = w' := by
  rcases h with h | h
  · go_enter Tryd.func93, Tryd.ntmps93
    go_wp2
    go_ret2
    exact ⟨rfl, rfl⟩
  · have h0 : ¬ size < 0 := by omega
    go_enter Tryd.func93, Tryd.ntmps93
    go_wp2
    go_ret2
    exact ⟨rfl, rfl⟩

/-- The bytes laid from the last one on, k of them yet to be laid. -/
def putDown (x n k : Nat) : List UInt8 := (List.range n).map fun j => if j < k then 0 else UInt8.ofNat (x / 256 ^ (n - 1 - j))
theorem putDown_all (x n : Nat) : putDown x n n = List.replicate n 0 := by
  apply List.ext_getElem? ; intro j; by_cases h : j < n <;> simp [putDown, h]
theorem putDown_zero (x n : Nat) : putDown x n 0 = putB x n := by
  apply List.ext_getElem? ; intro j; by_cases h : j < n <;> simp [putDown, putB, h]
theorem putDown_succ (x n k : Nat) (h : k < n) : (putDown x n (k + 1)).set k (UInt8.ofNat (x / 256 ^ (n - 1 - k))) = putDown x n k := by
  apply List.ext_getElem?
  intro j
  rw [List.getElem?_set]
  by_cases hj : k = j
  · subst hj
    simp [putDown, h]
  · by_cases h1 : j < k
    · by_cases h2 : j < n <;> simp [putDown, hj, h1, h2, show j < k + 1 by omega]
    · by_cases h2 : j < n <;> simp [putDown, hj, h1, h2, show ¬ j < k + 1 by omega]

set_option maxRecDepth 100000 in
set_option maxHeartbeats 400000 in
theorem refPut_all (x n : Nat) (w : World) (h8 : n ≤ 8) (hx : x < 18446744073709551616) :
    Calls Tryd.prog 93 #[.int .u64 (x : Int), .int .i64 (n : Int)] w fun e w' => Below w.heap.size w w' ∧
      ((0 < x / 256 ^ n ∧ e = .returned (.tuple #[.slice none 0 0, .int .i64 2])) ∨ (x / 256 ^ n = 0 ∧ ∃ aa cc, e = .returned (.tuple #[.slice aa n cc, .int .i64 0]) ∧ w'.ownsRow w.heap.size 5 1 (.slice aa n cc) n ((putB x n).map Bv))) := by
  have b1 : decide ((n : Int) < 0) = false := by simp
  have b2 : decide ((8 : Int) < (n : Int)) = false := by simp; omega
  have HX := Lib.hid hx
  clear hx
  go_enter Tryd.func93, Tryd.ntmps93
  go_wp2_with (at_make; refine make_u8 rfl (.tmp 14) (.tmp 14) rfl n rfl rfl (by omega) ?_)
  intro w1 hown hb
  have HO := Lib.hid hown
  have HB := Lib.hid hb
  clear hown hb
  go_wp2_with fail
  go_loopw [0, 7] (fun y i wr => ∃ k : Nat, k ≤ n ∧ i = .int .i64 ((k : Int) - 1) ∧ y = .int .u64 ((x / 256 ^ (n - k) : Nat) : Int) ∧ wr.ownsRow w.heap.size 5 1 (.slice (some ⟨w.heap.size, 0, none⟩) n n) n ((putDown x n k).map Bv) ∧ Below w.heap.size w wr) (fun _ i _ => (intOf i + 1).toNat)
  case atStart => exact ⟨n, Nat.le_refl _, rfl, by simp, by rw [putDown_all]; simpa using HO.out, HB.out⟩
  case round =>
    obtain ⟨k, hk, rfl, rfl, hown, hb⟩ := hrel
    have HO := Lib.hid hown
    have HB := Lib.hid hb
    clear hb
    cases k with
    | zero =>
      clear hown
      obtain ⟨y, hy⟩ : ∃ y, y = x / 256 ^ n := ⟨_, rfl⟩
      rw [Nat.sub_zero, ← hy]
      have HY := Lib.hid hy
      clear hy
      rw [putDown_zero] at HO
      rcases Nat.eq_zero_or_pos y with h0 | h0
      · subst h0
        go_wp2
        go_ret2
        exact ⟨HB.out, Or.inr ⟨HY.out.symm, _, _, rfl, HO.out⟩⟩
      · go_wp2
        go_ret2
        exact ⟨HB.out, Or.inl ⟨HY.out ▸ h0, rfl⟩⟩
    | succ j =>
      have hc : ∃ u, wr.cell? ⟨w.heap.size, j, none⟩ = some (Bv u) := ⟨_, by rw [hown.cellAt j (by omega)]; simp [putDown, show j < n by omega]; rfl⟩
      obtain ⟨u, hc⟩ := hc
      have hf := hown.frozenAt j
      have e1 : ((j + 1 : Nat) : Int) - 1 = (j : Int) := by omega
      rw [e1]
      clear hown e1
      obtain ⟨y, hy⟩ : ∃ y, y = x / 256 ^ (n - (j + 1)) := ⟨_, rfl⟩
      rw [← hy]
      have hy2 : ((y : Int) / 256) = ((x / 256 ^ (n - j) : Nat) : Int) := by
        rw [hy, show n - j = (n - (j + 1)) + 1 by omega, Nat.pow_succ, ← Nat.div_div_eq_div_mul]; simp
      have hy3 : Value.int .u8 ((y : Int) % 256) = Bv (UInt8.ofNat (x / 256 ^ (n - 1 - j))) := by
        rw [hy, show n - (j + 1) = n - 1 - j by omega]
        simp only [Bv, UInt8.toNat_ofNat']; rfl
      have hyw : IntKind.u64.wrap ((y : Int) / 256) = (y : Int) / 256 := by
        have h1 : y ≤ x := by rw [hy]; exact Nat.div_le_self _ _
        have h2 := HX.out
        rw [IntKind.wrap_u64]; omega
      have HW := Lib.hid hyw
      clear hyw
      have HY2 := Lib.hid hy2
      have HY3 := Lib.hid hy3
      clear hy hy2 hy3
      go_wp2
      go_roundw
      case rel =>
        refine ⟨j, by omega, by go_num, by first | rw [HW.out, HY2.out] | rw [HY2.out], ?_, HB.out.setCell (Nat.le_refl _) _⟩
        have h2 := (HO.out.stored j (.int .u8 ((y : Int) % 256))).1
        rw [HY3.out, ← List.map_set, putDown_succ x n j (by omega)] at h2
        rw [HY3.out]
        exact h2
      case measure => simp [intOf]

end Go.Proofs.YtdmgmpagnmmehaaDoor
