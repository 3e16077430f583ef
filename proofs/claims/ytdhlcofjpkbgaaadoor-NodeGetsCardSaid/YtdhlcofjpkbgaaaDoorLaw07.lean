/- Walk: banyanlaw07's alive. -/
import Derived.Test.YtdhlcofjpkbgaaaDoorCodecB
namespace Go.Proofs.YtdhlcofjpkbgaaaDoor
open Go.RowKit

/-- A new Writer. -/
theorem Wr.new (w : World) (B : Nat) : Wr (w.alloc (.cells #[.slice none 0 0] 26)) B w.heap.size none [] :=
  ⟨_, heap_alloc_new _ _, World.ownsRow_nil _ _ _ _, rfl⟩

theorem Laid.below {w w' : World} {base b B : Nat} {row : Option Nat} {xs : List UInt8} (h : Laid w w' base b row xs) (hB : B ≤ w.heap.size) (h1 : B ≤ b) (h2 : ∀ k, row = some k → B ≤ k) : Below B w w' := by
  obtain ⟨_, _, hf, _⟩ := h
  exact hf.below hB (fun k hk => hk.elim (fun e => e ▸ h1) (h2 k))

theorem Sl_lit (w : World) (cs : Array Value) (xs : List UInt8) (n : Nat) (hn : n = xs.length) (hcs : cs.toList = xs.map Bv) (hm : n ≤ maxLen) : Sl (w.alloc (.cells cs 5)) 1 (.slice (some ⟨w.heap.size, 0, none⟩) n n) n (xs.map Bv) := by
  have := World.ownsRow_lit (e := 5) (size := 1) (base := w.heap.size) w cs n (Nat.le_refl _) hm (by rw [Nat.mul_one, hn, ← Array.length_toList, hcs]; simp)
  rw [hcs] at this
  exact Sl.own this

set_option maxHeartbeats 1000000 in
theorem alive07 (w : World) : Calls Tryd.prog 14 #[] w fun e w' => e = .returned (.bool true) ∧ Below w.heap.size w w' := by
  go_enter Tryd.func14, Tryd.ntmps14
  go_wp2_with fail
  refine (wNum_ok w.heap.size w.heap.size none [] 258 2 _ (Wr.new w _) (by simp) (by decide) (Or.inr (by decide)) (by decide)).mono ?_
  rintro e w1 ⟨rfl, hl⟩
  have hb1 := ((Below.refl w.heap.size w).alloc (Nat.le_refl _) (.cells #[.slice none 0 0] 26)).trans (hl.below (by simp) (Nat.le_refl _) (by simp))
  obtain ⟨row1, hw1, -, hr1⟩ := hl
  have hr1' : ∀ k, row1 = some k → w.heap.size ≤ k := fun k hk => by rcases hr1 k hk with h | h; (· cases h); (· simp at h; omega)
  have HW := Lib.hid hw1
  have HB := Lib.hid hb1
  have HR := Lib.hid hr1'
  have hs1 := hb1.size
  clear hw1 hb1 hr1 hr1'
  go_wp2_with fail
  refine (wStr_ok w.heap.size w.heap.size row1 _ _ _ HW.out (by omega) (by decide) (by decide)).mono ?_
  rintro e w2 ⟨rfl, hl⟩
  have hb2 := HB.out.trans (hl.below hs1 (Nat.le_refl _) HR.out)
  obtain ⟨row2, hw2, -, hr2⟩ := hl
  have HW2 := Lib.hid hw2
  have HB2 := Lib.hid hb2
  have hs2 := hb2.size
  clear hw2 hb2 hr2 HW HB HR hs1
  go_wp2_with fail
  refine (rNum_nil _).mono ?_
  rintro e w3 ⟨rfl, rfl⟩
  go_wp2_with fail
  refine (wBytes_ok w.heap.size w.heap.size row2 _ _ HW2.out (by decide)).mono ?_
  rintro e w3 ⟨aa, cc, rfl, hown, hb⟩
  have hb3 := HB2.out.trans (hb.mono hs2)
  have hs3 := hb3.size
  have HO := Lib.hid (Sl.own hown)
  have HB3 := Lib.hid hb3
  clear hown hb hb3 HB2
  go_wp2_with fail
  refine (same_any _ _ _ _ _ [1, 2, 2, 97, 98] _ (HO.out.below ((Below.refl _ _).alloc (Nat.le_refl _) _)) (Sl_lit _ _ _ 5 rfl rfl (by decide))).mono ?_
  rintro e w4 ⟨rfl, rfl⟩
  rw [show decide (([] ++ putB 258 2 ++ strB ⟨#[97, 98]⟩) = [1, 2, 2, 97, 98]) = true by decide]
  go_wp2
  go_ret
  exact ⟨rfl, HB3.out.alloc hs3 _⟩

end Go.Proofs.YtdhlcofjpkbgaaaDoor
