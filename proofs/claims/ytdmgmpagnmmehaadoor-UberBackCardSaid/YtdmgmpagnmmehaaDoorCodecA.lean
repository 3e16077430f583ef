/- Walks: slices.Clone over bytes; codec.Writer. -/
import Derived.Test.YtdmgmpagnmmehaaDoorNum
namespace Go.Proofs.YtdmgmpagnmmehaaDoor
open Go.RowKit

set_option maxHeartbeats 400000 in
theorem clone_any (v : Value) (xs : List UInt8) (n : Nat) (w : World) (h : Sl w 1 v n (xs.map Bv)) (hr : n ≤ 140737488351232) :
    Calls Tryd.prog 56 #[v] w fun e w' => ∃ aa cc, e = .returned (.slice aa n cc) ∧ w'.ownsRow w.heap.size 5 1 (.slice aa n cc) n (xs.map Bv) ∧ Below w.heap.size w w' := by
  obtain ⟨a, cap, rfl, hlc⟩ := h.len
  have q := fun (w : World) => Lib.run_eql_slice_nil (P := Tryd.prog) w 28 5 a n cap 0 0 Tryd.underlying28
  cases a with
  | none =>
    obtain ⟨hl, a', cap', e, hlc', hnil, hc⟩ := h
    simp only [Value.slice.injEq, true_and] at e
    obtain ⟨rfl, rfl⟩ := e
    obtain rfl : cap = 0 := hnil rfl
    obtain rfl : n = 0 := by omega
    have hx : xs = [] := List.eq_nil_of_length_eq_zero (by simpa using hl)
    subst hx
    clear hl hnil hc
    go_enter Tryd.func56, Tryd.ntmps56
    go_wp2
    go_ret
    exact ⟨_, _, rfl, World.ownsRow_nil _ _ _ _, Below.refl _ _⟩
  | some ad =>
    have HH := Lib.hid (h.below ((Below.refl _ w).alloc (Nat.le_refl _) (.cells #[] 5)))
    have HO := Lib.hid (own_empty w)
    clear h
    go_enter Tryd.func56, Tryd.ntmps56
    go_wp2_with (at_builtin; refine append_u8 rfl (.tmp 5) (.tmp 6) rfl HO.out HH.out rfl rfl (by omega) (by simp) ?_)
    intro aa cc w1 hown hg h3
    have hb : Below w.heap.size w w1 := ((Below.refl _ _).alloc (Nat.le_refl _) _).trans (hg.below (by simp) (fun k h => by simp [Value.ownBlock] at h; omega))
    have HB := Lib.hid hb
    have HO := Lib.hid hown
    clear hb hown hg h3
    go_wp2
    go_ret
    exact ⟨_, _, rfl, by simpa using HO.out, HB.out⟩

/-- A Writer at block b has laid xs; 'row': its bytes' block. -/
def Wr (w : World) (base b : Nat) (row : Option Nat) (xs : List UInt8) : Prop :=
  ∃ v, w.heap[b]? = some (.cells #[v] 69 (0, 0)) ∧ w.ownsRow base 5 1 v xs.length (xs.map Bv) ∧ v.ownBlock = row

theorem Wr.row_ne {w : World} {base b : Nat} {row : Option Nat} {xs : List UInt8} (h : Wr w base b row xs) : row ≠ some b := by
  obtain ⟨v, h1, h2, rfl⟩ := h
  rcases h2.2 with ⟨rfl, _⟩ | ⟨g, cap, cur, rfl, _, h3, _⟩
  · simp [Value.ownBlock]
  · simp only [Value.ownBlock, ne_eq, Option.some.injEq]
    rintro rfl
    rw [h1] at h3
    simp at h3
theorem Wr.lt {w : World} {base b : Nat} {row : Option Nat} {xs : List UInt8} (h : Wr w base b row xs) : b < w.heap.size ∧ ∀ k, row = some k → base ≤ k ∧ k < w.heap.size := by
  obtain ⟨v, h1, h2, rfl⟩ := h
  exact ⟨lt_of_block h1, h2.lt⟩
theorem Wr.fr {w w' : World} {S : Nat → Prop} {base b : Nat} {row : Option Nat} {xs : List UInt8} (h : Wr w base b row xs) (hf : Fr S w w') (h1 : ¬ S b) (h2 : ∀ k, row = some k → ¬ S k) : Wr w' base b row xs := by
  have hlt := h.lt
  obtain ⟨v, hb, ho, rfl⟩ := h
  refine ⟨v, (hf.block b hlt.1 h1).trans hb, ho.fr hf h2, rfl⟩

/-- A Writer's two blocks. -/
def WS (b : Nat) (row : Option Nat) (k : Nat) : Prop := k = b ∨ row = some k
/-- What a call that lays more leaves. -/
def Laid (w w' : World) (base b : Nat) (row : Option Nat) (xs : List UInt8) : Prop :=
  ∃ row', Wr w' base b row' xs ∧ Fr (WS b row) w w' ∧ ∀ k, row' = some k → row = some k ∨ w.heap.size ≤ k

set_option maxHeartbeats 400000 in
theorem add_ok (b base : Nat) (row : Option Nat) (os xs : List UInt8) (v : Value) (w : World) (hw : Wr w base b row os) (hbase : base ≤ w.heap.size) (h : Sl w 1 v xs.length (xs.map Bv)) (hr : os.length + xs.length ≤ 140737488351232) :
    Calls Tryd.prog 54 #[.pointer (some ⟨b, 0, none⟩), v, .int .i64 0] w fun e w' => e = .returned (.int .i64 0) ∧ Laid w w' base b row (os ++ xs) := by
  have hrow := hw.row_ne
  have hrlt := hw.lt
  obtain ⟨v0, hb, ho, rfl⟩ := hw
  have c0 := cell_of_one hb
  have f0 := free_of_one hb
  have HO := Lib.hid ho
  have HH := Lib.hid h
  have HB := Lib.hid hb
  have HR := Lib.hid hrow
  have HL := Lib.hid hrlt
  clear ho h hb hrow hrlt
  go_enter Tryd.func54, Tryd.ntmps54
  go_wp2_with (at_builtin; refine append_u8 rfl (.tmp 15) (.tmp 16) rfl HO.out HH.out rfl rfl (by omega) hbase ?_)
  intro aa cc w1 hown hg h3
  have hb1 : w1.heap[b]? = some (.cells #[v0] 69 (0, 0)) := (hg.block b HL.out.1 (fun e => HR.out e)).trans HB.out
  have c1 := cell_of_one hb1
  have f1 := free_of_one hb1
  have HB1 := Lib.hid hb1
  have HO1 := Lib.hid hown
  have HG := Lib.hid hg
  have H3 := Lib.hid h3
  clear hb1 hown hg h3
  go_wp2
  go_ret
  have hne : (Value.slice aa (os.length + xs.length) cc).ownBlock ≠ some b := by
    rcases H3.out with e | e
    · rw [e]; exact HR.out
    · rw [e]; have := HL.out.1; simp; omega
  have hrow' : ∀ k, (Value.slice aa (os.length + xs.length) cc).ownBlock = some k → v0.ownBlock = some k ∨ w.heap.size ≤ k := by
    intro k hk
    rcases H3.out with e | e
    · exact Or.inl (e ▸ hk)
    · rw [e] at hk; simp at hk; exact Or.inr (by omega)
  refine ⟨rfl, _, ⟨_, one_setCell HB1.out, ?_, rfl⟩, Fr.set (S := WS b v0.ownBlock) (HG.out.mono (fun k _ h => Or.inr h)) b 0 (Or.inl rfl) _, hrow'⟩
  rw [List.length_append, List.map_append]
  exact HO1.out.set_other hne 0 _

set_option maxHeartbeats 400000 in
theorem add_err (b : Nat) (e : Int) (v : Value) (w : World) (he : (e == 0) = false) :
    Calls Tryd.prog 54 #[.pointer (some ⟨b, 0, none⟩), v, .int .i64 e] w fun e' w' => e' = .returned (.int .i64 e) ∧ w = w' := by
  go_enter Tryd.func54, Tryd.ntmps54
  go_wp2
  go_ret
  exact ⟨rfl, rfl⟩

set_option maxHeartbeats 400000 in
theorem wNum_ok (b base : Nat) (row : Option Nat) (os : List UInt8) (x n : Nat) (w : World) (hw : Wr w base b row os) (hbase : base ≤ w.heap.size) (h8 : n ≤ 8) (hfit : n = 8 ∨ x < 256 ^ n) (hr : os.length + n ≤ 140737488351232) :
    Calls Tryd.prog 28 #[.pointer (some ⟨b, 0, none⟩), .int .u64 (x : Int), .int .i64 (n : Int)] w fun e w' => e = .returned (.int .i64 0) ∧ Laid w w' base b row (os ++ putB x n) := by
  have HW := Lib.hid hw
  have HF := Lib.hid hfit
  clear hw hfit
  go_enter Tryd.func28, Tryd.ntmps28
  go_wp2_with fail
  refine (numPut_ok x n _ h8 HF.out).mono ?_
  rintro e w1 ⟨aa, cc, rfl, hown, hb⟩
  have hw1 : Wr w1 base b row os := HW.out.fr (Fr.of_below (S := fun _ => False) hb) id (fun _ _ => id)
  have hsl : Sl w1 1 (.slice aa n cc) (putB x n).length ((putB x n).map Bv) := by rw [putB_length]; exact Sl.own hown
  have hs1 := hb.size
  have H1 := Lib.hid hw1
  have H2 := Lib.hid hsl
  have HB := Lib.hid hb
  clear hw1 hsl hb hown
  go_wp2_with fail
  refine (add_ok b base row os (putB x n) _ w1 H1.out (by omega) H2.out (by rw [putB_length]; omega)).mono ?_
  rintro e w2 ⟨rfl, hl⟩
  have HL := Lib.hid hl
  clear hl
  go_wp2
  go_ret
  obtain ⟨row', a1, a2, a3⟩ := HL.out
  exact ⟨rfl, row', a1, (Fr.of_below HB.out).trans a2, fun k hk => (a3 k hk).imp id (fun h => by omega)⟩

set_option maxHeartbeats 400000 in
/-- A number that doesn't fit its size; a size that may not be. -/
theorem wNum_err (b : Nat) (x : Nat) (size : Int) (w : World) (hx : size < 0 ∨ 8 < size ∨ (0 ≤ size ∧ size < 8 ∧ 256 ^ size.toNat ≤ x)) :
    Calls Tryd.prog 28 #[.pointer (some ⟨b, 0, none⟩), .int .u64 (x : Int), .int .i64 size] w fun e w' => e = .returned (.int .i64 2) ∧ w = w' := by
  have hc : Calls Tryd.prog 53 #[.int .u64 (x : Int), .int .i64 size] w fun e w' => e = .returned (.tuple #[.slice none 0 0, .int .i64 2]) ∧ w = w' := by
    rcases hx with h | h | ⟨h0, h8, hx⟩
    · exact numPut_arg _ _ _ (Or.inl h)
    · exact numPut_arg _ _ _ (Or.inr h)
    · obtain ⟨n, rfl⟩ := Int.eq_ofNat_of_zero_le h0
      exact numPut_great x n w (by omega) hx
  have HC := Lib.hid hc
  clear hc hx
  go_enter Tryd.func28, Tryd.ntmps28
  go_wp2_with fail
  refine HC.out.mono ?_
  rintro e w1 ⟨rfl, rfl⟩
  go_wp2_with fail
  refine (add_err b 2 _ w (by decide)).mono ?_
  rintro e w1 ⟨rfl, rfl⟩
  go_wp2
  go_ret
  exact ⟨rfl, rfl⟩

set_option maxHeartbeats 400000 in
theorem wBytes_ok (b base : Nat) (row : Option Nat) (os : List UInt8) (w : World) (hw : Wr w base b row os) (hr : os.length ≤ 140737488351232) :
    Calls Tryd.prog 32 #[.pointer (some ⟨b, 0, none⟩)] w fun e w' => ∃ aa cc, e = .returned (.slice aa os.length cc) ∧ w'.ownsRow w.heap.size 5 1 (.slice aa os.length cc) os.length (os.map Bv) ∧ Below w.heap.size w w' := by
  obtain ⟨v0, hb, ho, rfl⟩ := hw
  have c0 := cell_of_one hb
  have HO := Lib.hid (Sl.own ho)
  clear ho hb
  go_enter Tryd.func32, Tryd.ntmps32
  go_wp2_with fail
  refine (clone_any v0 os os.length w HO.out hr).mono ?_
  rintro e w1 ⟨aa, cc, rfl, hown, hb⟩
  have HO1 := Lib.hid hown
  have HB := Lib.hid hb
  clear hown hb
  go_wp2
  go_ret
  exact ⟨_, _, rfl, HO1.out, HB.out⟩

/-- A Reader at block b has yet to read xs. -/
def Rd (w : World) (b : Nat) (xs : List UInt8) : Prop :=
  ∃ v, w.heap[b]? = some (.cells #[v] 109 (0, 0)) ∧ Sl w 1 v xs.length (xs.map Bv)

theorem Rd.lt {w : World} {b : Nat} {xs : List UInt8} (h : Rd w b xs) : b < w.heap.size := by
  obtain ⟨v, h1, _⟩ := h; exact lt_of_block h1

end Go.Proofs.YtdmgmpagnmmehaaDoor
