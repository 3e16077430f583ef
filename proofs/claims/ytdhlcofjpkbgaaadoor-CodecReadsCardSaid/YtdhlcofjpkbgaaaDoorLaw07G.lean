/- Walk: banyanlaw07's read: both Readers read an act's kind alike. -/
import Derived.Test.YtdhlcofjpkbgaaaDoorCodecF
import Derived.Test.YtdhlcofjpkbgaaaDoorHashEq
import Derived.Test.YtdhlcofjpkbgaaaDoorActs
namespace Go.Proofs.YtdhlcofjpkbgaaaDoor
open Go.RowKit

/-- Two Readers' blocks. -/
def RS (b b' : Nat) (k : Nat) : Prop := k = b ∨ k = b'
/-- What read leaves. -/
def ReadPost (b b' : Nat) (w : World) (n : Nat) (w' : World) : Prop := ∃ ys : List UInt8, ys.length ≤ n ∧ Rd w' b ys ∧ Rf w' b' ys ∧ Fr (RS b b') w w'

set_option maxHeartbeats 2000000 in
theorem read_law (b b' : Nat) (xs : List UInt8) (arr : Array Value) (a : Ac) (w : World) (hR : Rd w b xs) (hF : Rf w b' xs) (hne : b ≠ b') (hA : AcIs w arr a) (hr : xs.length ≤ 1000000000) :
    Calls Tryd.prog 23 #[.pointer (some ⟨b, 0, none⟩), .pointer (some ⟨b', 0, none⟩), .agg arr] w fun e w' => e = .returned (.bool true) ∧ ReadPost b b' w xs.length w' := by
  obtain ⟨vb, g0, g1, g2, g3, g36, hsl, hh⟩ := hA.get
  have hb0 : Below w.heap.size w (w.alloc (.cells arr 48)) := (Below.refl _ w).alloc (Nat.le_refl _) _
  have HR := Lib.hid (hR.below hb0)
  have HF := Lib.hid (hF.below hb0)
  have HF0 := Lib.hid (Fr.of_below (S := RS b b') hb0)
  have HBX := Lib.hid (And.intro hR.lt hF.lt)
  have HNe := Lib.hid hne
  clear hR hF hb0 hsl hh hA hne
  by_cases h1 : a.kind = 1
  · rw [h1] at g0
    have HL := Lib.hid (strOf_le xs)
    clear h1
    obtain ⟨r, hrr⟩ : ∃ r, r = strOf xs := ⟨_, rfl⟩
    have hs := fun b w h => rStr_any b xs w h (by omega)
    have hs' := fun b w h => fStr_any b xs w h (by omega)
    rw [← hrr] at HL hs hs'
    have HS := Lib.hid hs
    have HS' := Lib.hid hs'
    clear hs hs' hrr
    go_enter Tryd.func23, Tryd.ntmps23
    go_wp2_with fail
    refine (HS.out b _ HR.out).mono ?_
    rintro e w1 ⟨rfl, hr1, hf1⟩
    have HF1 := Lib.hid (HF.out.stay HR.out hf1 (Ne.symm HNe.out))
    have HR1 := Lib.hid hr1
    have HP := Lib.hid (HF0.out.trans (hf1.mono (T := RS b b') (fun _ _ h => Or.inl h)))
    clear hr1 hf1
    go_wp2_with fail
    refine (HS'.out b' _ HF1.out).mono ?_
    rintro e w2 ⟨rfl, hr2, hf2⟩
    have HR2 := Lib.hid (HR1.out.stay HF1.out hf2 HNe.out)
    have HF2 := Lib.hid hr2
    have HP2 := Lib.hid (HP.out.trans (hf2.mono (T := RS b b') (fun _ _ h => Or.inr h)))
    clear hr2 hf2
    go_wp2
    go_ret
    exact ⟨by simp, _, HL.out, HR2.out, HF2.out, HP2.out⟩
  by_cases h2 : a.kind = 2
  · rw [h2] at g0
    have HL := Lib.hid (hashOf_le xs)
    have HH := Lib.hid (hashOf_length xs)
    clear h1 h2
    obtain ⟨r, hrr⟩ : ∃ r, r = hashOf xs := ⟨_, rfl⟩
    have hs := fun b w h => rHash_any b xs w h (by omega)
    have hs' := fun b w h => fHash_any b xs w h (by omega)
    rw [← hrr] at HL HH hs hs'
    have HS := Lib.hid hs
    have HS' := Lib.hid hs'
    clear hs hs' hrr
    go_enter Tryd.func23, Tryd.ntmps23
    go_wp2_with fail
    refine (HS.out b _ HR.out).mono ?_
    rintro e w1 ⟨rfl, hr1, hf1⟩
    have HF1 := Lib.hid (HF.out.stay HR.out hf1 (Ne.symm HNe.out))
    have HR1 := Lib.hid hr1
    have HP := Lib.hid (HF0.out.trans (hf1.mono (T := RS b b') (fun _ _ h => Or.inl h)))
    clear hr1 hf1
    go_wp2_with (refine store_hash rfl (.tmp 11) (.tmp 50) rfl rfl rfl (alloc_zero32 w1) (by simp) HH.out ?_)
    intro w2 hg2 hf2
    have hb2 : Below w1.heap.size w1 w2 := ((Below.refl _ w1).alloc (Nat.le_refl _) _).trans (hf2.below (by simp) (fun k hk => by omega))
    have HR2 := Lib.hid (HR1.out.below hb2)
    have HF2 := Lib.hid (HF1.out.below hb2)
    have HP2 := Lib.hid (HP.out.trans (Fr.of_below hb2))
    have HG2 := Lib.hid hg2
    clear hb2 hg2 hf2
    go_wp2_with fail
    refine (HS'.out b' _ HF2.out).mono ?_
    rintro e w3 ⟨rfl, hr3, hf3⟩
    have HR3 := Lib.hid (HR2.out.stay HF2.out hf3 HNe.out)
    have HF3 := Lib.hid hr3
    have HP3 := Lib.hid (HP2.out.trans (hf3.mono (T := RS b b') (fun _ _ h => Or.inr h)))
    have HG3 := Lib.hid ((hf3.block _ (lt_of_block HG2.out) (by have := HF1.out.lt; omega)).trans HG2.out)
    clear hr3 hf3
    go_wp2_with (refine store_hash rfl (.tmp 13) (.tmp 55) rfl rfl rfl (alloc_zero32 w3) (by simp) HH.out ?_)
    intro w4 hg4 hf4
    have hb4 : Below w3.heap.size w3 w4 := ((Below.refl _ w3).alloc (Nat.le_refl _) _).trans (hf4.below (by simp) (fun k hk => by omega))
    have HR4 := Lib.hid (HR3.out.below hb4)
    have HF4 := Lib.hid (HF3.out.below hb4)
    have HP4 := Lib.hid (HP3.out.trans (Fr.of_below hb4))
    have HA4 := Lib.hid (At.of_row (cs := r.1.map Bv) ((hb4.block _ (lt_of_block HG3.out)).trans HG3.out))
    have HA5 := Lib.hid (At.of_row (cs := r.1.map Bv) hg4)
    clear hb4 hg4 hf4
    go_wp2_with (first | (refine load_hash' rfl (.tmp 11) rfl rfl HA4.out HH.out ?_) | (refine load_hash' rfl (.tmp 13) rfl rfl HA5.out HH.out ?_) | (refine eql_hash rfl (.tmp 57) (.tmp 58) _ rfl rfl rfl HH.out HH.out ?_))
    go_ret
    exact ⟨by simp, _, HL.out, HR4.out, HF4.out, HP4.out⟩
  by_cases h3 : a.kind = 3
  · rw [h3] at g0
    have HL := Lib.hid (rawOf_le a.size xs)
    clear h1 h2 h3
    obtain ⟨r, hrr⟩ : ∃ r, r = rawOf a.size xs := ⟨_, rfl⟩
    have hs := fun b w h => rRaw_any b a.size xs w h (by omega)
    have hs' := fun b w h => fRaw_any b a.size xs w h (by omega)
    rw [← hrr] at HL hs hs'
    have HS := Lib.hid hs
    have HS' := Lib.hid hs'
    clear hs hs' hrr
    go_enter Tryd.func23, Tryd.ntmps23
    go_wp2_with fail
    refine (HS.out b _ HR.out).mono ?_
    rintro e w1 ⟨v1, rfl, ho1, hr1, hf1⟩
    have hg : (w1.cell? ⟨w.heap.size, 1, none⟩) = some (.int .i64 a.size) := by
      rw [cell_of_row w1 w.heap.size 1 arr 48 (0, 0) ((hf1.block w.heap.size (by simp) (by have := HBX.out.1; omega)).trans (heap_alloc_new _ _))]
      exact g1
    have HF1 := Lib.hid (HF.out.stay HR.out hf1 (Ne.symm HNe.out))
    have HR1 := Lib.hid hr1
    have HP := Lib.hid (HF0.out.trans (hf1.mono (T := RS b b') (fun _ _ h => Or.inl h)))
    have HS1 := Lib.hid (Sl.own ho1)
    clear hr1 hf1 ho1
    go_wp2_with fail
    refine (HS'.out b' _ HF1.out).mono ?_
    rintro e w2 ⟨v2, rfl, ho2, hr2, hf2⟩
    have HS1' := Lib.hid (HS1.out.stay hf2 (fun p x hp => HF1.out.notByte p x hp))
    have HS2 := Lib.hid ho2
    have HR2 := Lib.hid (HR1.out.stay HF1.out hf2 HNe.out)
    have HF2 := Lib.hid hr2
    have HP2 := Lib.hid (HP.out.trans (hf2.mono (T := RS b b') (fun _ _ h => Or.inr h)))
    clear hr2 hf2 ho2 hg
    go_wp2_with fail
    refine (same_any _ _ _ _ _ _ _ HS1'.out HS2.out).mono ?_
    rintro e w3 ⟨rfl, rfl⟩
    rw [decide_eq_true (rfl : r.1 = r.1)]
    go_wp2
    go_ret
    exact ⟨by simp, _, HL.out, HR2.out, HF2.out, HP2.out⟩
  by_cases h4 : a.kind = 4
  · rw [h4] at g0
    clear h1 h2 h3 h4
    obtain ⟨r, hrr⟩ : ∃ r, r = endE xs := ⟨_, rfl⟩
    have hs := fun b w h => rEnd_any b xs w h (by omega)
    have hs' := fun b w h => fEnd_any b xs w h (by omega)
    rw [← hrr] at hs hs'
    have HS := Lib.hid hs
    have HS' := Lib.hid hs'
    clear hs hs' hrr
    go_enter Tryd.func23, Tryd.ntmps23
    go_wp2_with fail
    refine (HS.out b _ HR.out).mono ?_
    rintro e w1 ⟨rfl, hr1, hb1⟩
    have HF1 := Lib.hid (HF.out.below hb1)
    have HR1 := Lib.hid hr1
    have HP := Lib.hid (HF0.out.trans (Fr.of_below hb1))
    clear hr1 hb1
    go_wp2_with fail
    refine (HS'.out b' _ HF1.out).mono ?_
    rintro e w2 ⟨rfl, rfl⟩
    go_wp2
    go_ret
    exact ⟨by simp, _, Nat.le_refl _, HR1.out, HF1.out, HP.out⟩
  have k1 : (a.kind == 1) = false := by simp [h1]
  have k2 : (a.kind == 2) = false := by simp [h2]
  have k3 : (a.kind == 3) = false := by simp [h3]
  have k4 : (a.kind == 4) = false := by simp [h4]
  have HL := Lib.hid (numOf_le a.size xs)
  clear h1 h2 h3 h4
  obtain ⟨r, hrr⟩ : ∃ r, r = numOf a.size xs := ⟨_, rfl⟩
  have hs := fun b w h => rNum_any b a.size xs w h (by omega)
  have hs' := fun b w h => fNum_any b a.size xs w h (by omega)
  rw [← hrr] at HL hs hs'
  have HS := Lib.hid hs
  have HS' := Lib.hid hs'
  clear hs hs' hrr
  go_enter Tryd.func23, Tryd.ntmps23
  go_wp2_with fail
  refine (HS.out b _ HR.out).mono ?_
  rintro e w1 ⟨rfl, hr1, hf1⟩
  have hg : (w1.cell? ⟨w.heap.size, 1, none⟩) = some (.int .i64 a.size) := by
    rw [cell_of_row w1 w.heap.size 1 arr 48 (0, 0) ((hf1.block w.heap.size (by simp) (by have := HBX.out.1; omega)).trans (heap_alloc_new _ _))]
    exact g1
  have HF1 := Lib.hid (HF.out.stay HR.out hf1 (Ne.symm HNe.out))
  have HR1 := Lib.hid hr1
  have HP := Lib.hid (HF0.out.trans (hf1.mono (T := RS b b') (fun _ _ h => Or.inl h)))
  clear hr1 hf1
  go_wp2_with fail
  refine (HS'.out b' _ HF1.out).mono ?_
  rintro e w2 ⟨rfl, hr2, hf2⟩
  have HR2 := Lib.hid (HR1.out.stay HF1.out hf2 HNe.out)
  have HF2 := Lib.hid hr2
  have HP2 := Lib.hid (HP.out.trans (hf2.mono (T := RS b b') (fun _ _ h => Or.inr h)))
  clear hr2 hf2 hg
  go_wp2
  go_ret
  exact ⟨by simp, _, HL.out, HR2.out, HF2.out, HP2.out⟩

end Go.Proofs.YtdhlcofjpkbgaaaDoor
