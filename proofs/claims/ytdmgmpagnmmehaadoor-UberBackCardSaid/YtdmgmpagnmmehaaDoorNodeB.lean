/- Walks: node's form, Size, Check. -/
import Derived.Test.YtdmgmpagnmmehaaDoorNodeA
namespace Go.Proofs.YtdmgmpagnmmehaaDoor
open Go.RowKit

/-- Is all of a node as it must be, but its size? -/
def formB (n : Nd) : Bool :=
  keysB n.keys && (if n.leaf then decide (n.vals.length = n.keys.length) && decide (n.kids.length = 0) && !longB n.vals
    else decide (n.vals.length = 0) && decide (0 < n.keys.length) && decide (n.kids.length = n.keys.length + 1) && !badB n.kids)

theorem beq_nat (a b : Nat) : ((a : Int) == (b : Int)) = decide (a = b) := by rw [Bool.eq_iff_iff]; simp only [beq_iff_eq, decide_eq_true_iff]; omega
theorem beq_zero (a : Nat) : ((a : Int) == 0) = decide (a = 0) := beq_nat a 0
theorem beq_succ (a b : Nat) : ((a : Int) == (b : Int) + 1) = decide (a = b + 1) := by rw [Bool.eq_iff_iff]; simp only [beq_iff_eq, decide_eq_true_iff]; omega

/-- Bounds on a node that came in. -/
structure Nd.Fits (n : Nd) : Prop where
  keys : n.keys.length ≤ 140737488351232
  vals : n.vals.length ≤ 140737488351232
  kids : n.kids.length ≤ 4139337892682
  keyS : ∀ s ∈ n.keys, s.size ≤ 140737488351232
  valS : ∀ s ∈ n.vals, s.size ≤ 140737488351232

theorem NdIs.get {w : World} {arr : Array Value} {n : Nd} (h : NdIs w arr n) : ∃ ak ck av cv ap cp, arr = #[.bool n.leaf, .slice ak n.keys.length ck, .slice av n.vals.length cv, .slice ap n.kids.length cp] ∧
    StrsIn w (.slice ak n.keys.length ck) n.keys ∧ StrsIn w (.slice av n.vals.length cv) n.vals ∧ PtsIn w (.slice ap n.kids.length cp) n.kids := by
  obtain ⟨vk, vv, vp, h0, h1, h2, h3⟩ := h
  obtain ⟨ak, ck, rfl, _⟩ := h1.open
  obtain ⟨av, cv, rfl, _⟩ := h2.open
  obtain ⟨ap, cp, rfl, _⟩ := h3.open
  exact ⟨ak, ck, av, cv, ap, cp, h0, h1, h2, h3⟩

set_option maxHeartbeats 2000000 in
theorem form_any (arr : Array Value) (n : Nd) (w : World) (h : NdIs w arr n) (hf : n.Fits) :
    Calls Tryd.prog 33 #[.agg arr] w fun e w' => e = .returned (.bool (formB n)) ∧ Below w.heap.size w w' := by
  obtain ⟨ak, ck, av, cv, ap, cp, rfl, hk, hv, hp⟩ := h.get
  have hb0 : Below w.heap.size w (w.alloc (.cells #[.bool n.leaf, .slice ak n.keys.length ck, .slice av n.vals.length cv, .slice ap n.kids.length cp] 25)) := (Below.refl _ w).alloc (Nat.le_refl _) _
  have HK := Lib.hid (hk.below hb0)
  have HV := Lib.hid (hv.below hb0)
  have HP := Lib.hid (hp.below hb0)
  have HB := Lib.hid hb0
  have HF := Lib.hid hf
  have b1 := hf.keys
  have b2 := hf.vals
  have b3 := hf.kids
  clear h hk hv hp hb0 hf
  cases hkb : keysB n.keys with
  | false =>
    have HQ := Lib.hid (show formB n = false by unfold formB; rw [hkb]; rfl)
    have HKK := Lib.hid (fun v w h => keys_any v n.keys w h HF.out.keys)
    rw [hkb] at HKK
    clear hkb
    go_enter Tryd.func33, Tryd.ntmps33
    go_wp2_with fail
    refine (HKK.out _ _ HK.out).mono ?_
    rintro e w1 ⟨rfl, rfl⟩
    go_wp2
    go_ret
    exact ⟨by rw [HQ.out]; rfl, HB.out⟩
  | true =>
    have HKK := Lib.hid (fun v w h => keys_any v n.keys w h HF.out.keys)
    rw [hkb] at HKK
    cases hl : n.leaf with
    | true =>
      have hq : formB n = (decide (n.vals.length = n.keys.length) && decide (n.kids.length = 0) && !longB n.vals) := by unfold formB; rw [hkb, hl]; simp
      rw [hl] at HK HV HP HB
      clear hkb hl
      by_cases h1 : n.vals.length = n.keys.length
      · by_cases h2 : n.kids.length = 0
        · rw [decide_eq_true h1, decide_eq_true h2] at hq
          have HQ := Lib.hid hq
          have e1 : ((n.vals.length : Int) == (n.keys.length : Int)) = true := by rw [beq_nat]; first | exact decide_eq_true h1 | exact decide_eq_false h1
          have e2 : ((n.kids.length : Int) == 0) = true := by rw [beq_zero]; exact decide_eq_true h2
          clear h1 h2 hq
          go_enter Tryd.func33, Tryd.ntmps33
          go_wp2_with fail
          refine (HKK.out _ _ HK.out).mono ?_
          rintro e w1 ⟨rfl, rfl⟩
          go_wp2_with fail
          refine (containsLong_any _ _ _ HV.out HF.out.vals).mono ?_
          rintro e w1 ⟨rfl, rfl⟩
          go_wp2
          go_ret
          exact ⟨by rw [HQ.out]; rfl, HB.out⟩
        · rw [decide_eq_true h1, decide_eq_false h2] at hq
          have HQ := Lib.hid hq
          have e1 : ((n.vals.length : Int) == (n.keys.length : Int)) = true := by rw [beq_nat]; first | exact decide_eq_true h1 | exact decide_eq_false h1
          have e2 : ((n.kids.length : Int) == 0) = false := by rw [beq_zero]; exact decide_eq_false h2
          clear h1 h2 hq
          go_enter Tryd.func33, Tryd.ntmps33
          go_wp2_with fail
          refine (HKK.out _ _ HK.out).mono ?_
          rintro e w1 ⟨rfl, rfl⟩
          go_wp2
          go_ret
          exact ⟨by rw [HQ.out]; rfl, HB.out⟩
      · rw [decide_eq_false h1] at hq
        have HQ := Lib.hid hq
        have e1 : ((n.vals.length : Int) == (n.keys.length : Int)) = false := by rw [beq_nat]; first | exact decide_eq_true h1 | exact decide_eq_false h1
        clear h1 hq
        go_enter Tryd.func33, Tryd.ntmps33
        go_wp2_with fail
        refine (HKK.out _ _ HK.out).mono ?_
        rintro e w1 ⟨rfl, rfl⟩
        go_wp2
        go_ret
        exact ⟨by rw [HQ.out]; rfl, HB.out⟩
    | false =>
      have hq : formB n = (decide (n.vals.length = 0) && decide (0 < n.keys.length) && decide (n.kids.length = n.keys.length + 1) && !badB n.kids) := by unfold formB; rw [hkb, hl]; simp
      rw [hl] at HK HV HP HB
      clear hkb hl
      by_cases h1 : n.vals.length = 0
      · by_cases h2 : 0 < n.keys.length
        · by_cases h3 : n.kids.length = n.keys.length + 1
          · rw [decide_eq_true h1, decide_eq_true h2, decide_eq_true h3] at hq
            have HQ := Lib.hid hq
            have e1 : ((n.vals.length : Int) == 0) = true := by rw [beq_zero]; exact decide_eq_true h1
            have e2 : (0 : Int) < (n.keys.length : Int) := by omega
            have e3 : ((n.kids.length : Int) == (n.keys.length : Int) + 1) = true := by rw [beq_succ]; exact decide_eq_true h3
            clear h1 h2 h3 hq
            go_enter Tryd.func33, Tryd.ntmps33
            go_wp2_with fail
            refine (HKK.out _ _ HK.out).mono ?_
            rintro e w1 ⟨rfl, rfl⟩
            go_wp2_with fail
            refine (containsBad_any _ _ _ HP.out (by omega)).mono ?_
            rintro e w2 ⟨rfl, hb⟩
            have HB2 := Lib.hid (HB.out.trans (hb.mono HB.out.size))
            clear hb
            go_wp2
            go_ret
            exact ⟨by rw [HQ.out]; rfl, HB2.out⟩
          · rw [decide_eq_true h1, decide_eq_true h2, decide_eq_false h3] at hq
            have HQ := Lib.hid hq
            have e1 : ((n.vals.length : Int) == 0) = true := by rw [beq_zero]; exact decide_eq_true h1
            have e2 : (0 : Int) < (n.keys.length : Int) := by omega
            have e3 : ((n.kids.length : Int) == (n.keys.length : Int) + 1) = false := by rw [beq_succ]; exact decide_eq_false h3
            clear h1 h2 h3 hq
            go_enter Tryd.func33, Tryd.ntmps33
            go_wp2_with fail
            refine (HKK.out _ _ HK.out).mono ?_
            rintro e w1 ⟨rfl, rfl⟩
            go_wp2
            go_ret
            exact ⟨by rw [HQ.out]; rfl, HB.out⟩
        · rw [decide_eq_true h1, decide_eq_false h2] at hq
          have HQ := Lib.hid hq
          have e1 : ((n.vals.length : Int) == 0) = true := by rw [beq_zero]; exact decide_eq_true h1
          have e2 : ¬ (0 : Int) < (n.keys.length : Int) := by omega
          clear h1 h2 hq
          go_enter Tryd.func33, Tryd.ntmps33
          go_wp2_with fail
          refine (HKK.out _ _ HK.out).mono ?_
          rintro e w1 ⟨rfl, rfl⟩
          go_wp2
          go_ret
          exact ⟨by rw [HQ.out]; rfl, HB.out⟩
      · rw [decide_eq_false h1] at hq
        have HQ := Lib.hid hq
        have e1 : ((n.vals.length : Int) == 0) = false := by rw [beq_zero]; exact decide_eq_false h1
        clear h1 hq
        go_enter Tryd.func33, Tryd.ntmps33
        go_wp2_with fail
        refine (HKK.out _ _ HK.out).mono ?_
        rintro e w1 ⟨rfl, rfl⟩
        go_wp2
        go_ret
        exact ⟨by rw [HQ.out]; rfl, HB.out⟩

end Go.Proofs.YtdmgmpagnmmehaaDoor
