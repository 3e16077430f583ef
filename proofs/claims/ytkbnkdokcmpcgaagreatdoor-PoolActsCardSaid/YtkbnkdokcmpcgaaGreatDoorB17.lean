/- Walks: the reference's Check of a pointer, and its form of a node. Walks: the reference's Size, Check and Put of a node. -/
import Derived.Test.YtkbnkdokcmpcgaaGreatDoorB3
import Derived.Test.YtkbnkdokcmpcgaaGreatDoorB13
import Derived.Test.YtkbnkdokcmpcgaaGreatDoorB15
import Derived.Test.YtkbnkdokcmpcgaaGreatDoorB16
namespace Go.Proofs.YtkbnkdokcmpcgaaGreatDoor
open Go.RowKit

set_option maxHeartbeats 2000000 in
theorem refPtrCheck_any (p : Pt) (n : Nat) (w : World) (h : p.Wf) (hn : n ≤ 4294967295) :
    Calls Tryz.prog 193 #[.agg p.arr, .int .i64 (n : Int)] w fun e w' => e = .returned (.int .i64 (ptrE p n)) ∧ Below w.heap.size w w' := by
  have g0 := p.get0
  have g1 := p.get1
  have hg := heap_alloc_new w (.cells p.arr 43)
  have c0 : (w.alloc (.cells p.arr 43)).cell? ⟨w.heap.size, 0, none⟩ = some (.int .u32 (p.addr : Int)) := (cell_of_row _ _ 0 _ _ _ hg).trans g0
  have c1 : (w.alloc (.cells p.arr 43)).cell? ⟨w.heap.size, 1, none⟩ = some (.int .u64 (p.birth : Int)) := (cell_of_row _ _ 1 _ _ _ hg).trans g1
  have HAT := Lib.hid (At_box w p 43)
  have HW := Lib.hid h
  have HB := Lib.hid ((Below.refl _ w).alloc (Nat.le_refl _) (.cells p.arr 43))
  have ha := h.addr
  clear h g0 g1 hg
  obtain ⟨w1, hw1⟩ : ∃ w1, w1 = w.alloc (.cells p.arr 43) := ⟨_, rfl⟩
  by_cases h0 : p.addr = 0
  · have HQ := Lib.hid (show ptrOk p n = decide (p = Pt.zero) by unfold ptrOk; rw [if_pos h0])
    have e0 : ((p.addr : Int) == 0) = true := by rw [beq_zero]; exact decide_eq_true h0
    clear h0
    by_cases hz : p = Pt.zero
    · rw [decide_eq_true hz] at HQ
      replace HQ := Lib.hid (ptrE_ok HQ.out)
      have HZ := Lib.hid hz
      clear hz
      go_enter Tryz.func193, Tryz.ntmps193
      go_wp2_with (first | (refine load_ptr rfl (.tmp 2) rfl rfl HAT.out HW.out ?_) | (refine eql_ptr (q := Pt.zero) rfl (.tmp 8) (.tmp 9) _ rfl rfl rfl HW.out Pt.zero_wf ?_; rw [decide_eq_true HZ.out]))
      go_ret
      exact ⟨by rw [HQ.out]; rfl, HB.out⟩
    · rw [decide_eq_false hz] at HQ
      replace HQ := Lib.hid (ptrE_bad HQ.out)
      have HZ := Lib.hid hz
      clear hz
      go_enter Tryz.func193, Tryz.ntmps193
      go_wp2_with (first | (refine load_ptr rfl (.tmp 2) rfl rfl HAT.out HW.out ?_) | (refine eql_ptr (q := Pt.zero) rfl (.tmp 8) (.tmp 9) _ rfl rfl rfl HW.out Pt.zero_wf ?_; rw [decide_eq_false HZ.out]))
      go_ret
      exact ⟨by rw [HQ.out]; rfl, HB.out⟩
  · have hq : ptrOk p n = (decide (2 ≤ p.addr) && decide ((p.addr : Int) < n) && decide (0 < p.birth)) := by unfold ptrOk; rw [if_neg h0]
    have e0 : ((p.addr : Int) == 0) = false := by rw [beq_zero]; exact decide_eq_false h0
    have n0 : ¬ ((n : Int) < 0) := by omega
    clear h0
    by_cases h1 : 2 ≤ p.addr
    · have m1 : ¬ ((p.addr : Int) < 2) := by omega
      by_cases h2 : (p.addr : Int) < n
      · have m2 : ¬ ((n : Int) ≤ (p.addr : Int)) := by omega
        by_cases h3 : 0 < p.birth
        · rw [decide_eq_true h1, decide_eq_true h2, decide_eq_true h3] at hq
          have HQ := Lib.hid (ptrE_ok hq)
          have m3 : ((p.birth : Int) == 0) = false := by rw [beq_zero]; exact decide_eq_false (by omega)
          clear hq h1 h2 h3
          go_enter Tryz.func193, Tryz.ntmps193
          go_wp2
          go_ret
          exact ⟨by rw [HQ.out]; rfl, HB.out⟩
        · rw [decide_eq_true h1, decide_eq_true h2, decide_eq_false h3] at hq
          have HQ := Lib.hid (ptrE_bad hq)
          have m3 : ((p.birth : Int) == 0) = true := by rw [beq_zero]; exact decide_eq_true (by omega)
          clear hq h1 h2 h3
          go_enter Tryz.func193, Tryz.ntmps193
          go_wp2
          go_ret
          exact ⟨by rw [HQ.out]; rfl, HB.out⟩
      · rw [decide_eq_true h1, decide_eq_false h2] at hq
        have HQ := Lib.hid (ptrE_bad hq)
        have m2 : ((n : Int) ≤ (p.addr : Int)) := by omega
        clear hq h1 h2
        go_enter Tryz.func193, Tryz.ntmps193
        go_wp2
        go_ret
        exact ⟨by rw [HQ.out]; rfl, HB.out⟩
    · rw [decide_eq_false h1] at hq
      have HQ := Lib.hid (ptrE_bad hq)
      have m1 : ((p.addr : Int) < 2) := by omega
      clear hq h1
      go_enter Tryz.func193, Tryz.ntmps193
      go_wp2
      go_ret
      exact ⟨by rw [HQ.out]; rfl, HB.out⟩

end Go.Proofs.YtkbnkdokcmpcgaaGreatDoor

namespace Go.Proofs.YtkbnkdokcmpcgaaGreatDoor
open Go.RowKit

theorem formB_keysbad {n : Nd} (h : keysB n.keys = false) : formB n = false := by unfold formB; rw [h]; rfl
theorem formB_leafq {n : Nd} (h : keysB n.keys = true) (hl : n.leaf = true) : formB n = (decide (n.vals.length = n.keys.length) && decide (n.kids.length = 0) && !longB n.vals) := by unfold formB; rw [h, hl]; simp
theorem formB_innerq {n : Nd} (h : keysB n.keys = true) (hl : n.leaf = false) : formB n = (decide (n.vals.length = 0) && decide (0 < n.keys.length) && decide (n.kids.length = n.keys.length + 1) && !badB n.kids) := by unfold formB; rw [h, hl]; simp

set_option maxRecDepth 100000 in
set_option maxHeartbeats 4000000 in
theorem refForm_any (arr : Array Value) (n : Nd) (w : World) (h : NdIs w arr n) (hf : n.Fits) :
    Calls Tryz.prog 164 #[.agg arr] w fun e w' => e = .returned (.bool (formB n)) ∧ Below w.heap.size w w' := by
  obtain ⟨ak, ck, av, cv, ap, cp, rfl, hk, hv, hp⟩ := h.get
  have hb0 : Below w.heap.size w (w.alloc (.cells #[.bool n.leaf, .slice ak n.keys.length ck, .slice av n.vals.length cv, .slice ap n.kids.length cp] 25)) := (Below.refl _ w).alloc (Nat.le_refl _) _
  have hT := At_nd (heap_alloc_new w (.cells #[.bool n.leaf, .slice ak n.keys.length ck, .slice av n.vals.length cv, .slice ap n.kids.length cp] 25))
  have HK := Lib.hid (hk.below hb0)
  have HV := Lib.hid (hv.below hb0)
  have HP := Lib.hid (hp.below hb0)
  have HB := Lib.hid hb0
  have b1 := hf.keys
  have b2 := hf.vals
  have b3 := hf.kids
  clear h hk hv hp hb0 hf
  go_enter Tryz.func164, Tryz.ntmps164
  obtain ⟨w0, hw0⟩ : ∃ w0, w0 = w.alloc (.cells #[.bool n.leaf, .slice ak n.keys.length ck, .slice av n.vals.length cv, .slice ap n.kids.length cp] 25) := ⟨_, rfl⟩
  have c0 : w0.cell? ⟨w.heap.size, 0, none⟩ = some (.bool n.leaf) := by rw [hw0]; simp
  have c1 : w0.cell? ⟨w.heap.size, 1, none⟩ = some (.slice ak n.keys.length ck) := by rw [hw0]; simp
  have c2 : w0.cell? ⟨w.heap.size, 2, none⟩ = some (.slice av n.vals.length cv) := by rw [hw0]; simp
  have c3 : w0.cell? ⟨w.heap.size, 3, none⟩ = some (.slice ap n.kids.length cp) := by rw [hw0]; simp
  have HW0 := Lib.hid hw0
  clear hT
  go_wp2_with fail
  rw [← HW0.out] at HK HV HP HB ⊢
  clear hw0
  go_loop [12, 3, 4] (fun i _ _ => ∃ k : Nat, k ≤ n.keys.length ∧ i = .int .i64 k ∧ ∀ j, j < k → keyAt n.keys j = true) (fun i _ _ => n.keys.length - (intOf i).toNat)
  case atStart => exact ⟨0, Nat.zero_le _, rfl, fun j hj => by omega⟩
  case round =>
    obtain ⟨k, hk, rfl, hz⟩ := hrel
    have HZ := Lib.hid hz
    clear hz
    rcases Nat.lt_or_ge k n.keys.length with hlt | hge
    · obtain ⟨a', c', e', hel⟩ := HK.out.open
      simp only [Value.slice.injEq, true_and] at e'
      obtain ⟨rfl, rfl⟩ := e'
      obtain ⟨b, o, rfl, hc⟩ := hel k hlt
      obtain ⟨s, hs⟩ : ∃ s, s = n.keys[k]'hlt := ⟨_, rfl⟩
      have hg : n.keys[k]? = some s := by rw [hs]; exact List.getElem?_eq_getElem hlt
      rw [← hs] at hc
      have HG := Lib.hid hg
      clear hs hg
      by_cases h0 : s.size = 0
      · have HF := Lib.hid (formB_keysbad (keysB_false hlt (show keyAt n.keys k = false by unfold keyAt; rw [HG.out]; simp [h0])))
        have m1 : (s.size : Int) < 1 := by omega
        clear h0 hel
        go_wp2
        go_ret
        exact ⟨by rw [HF.out]; rfl, HB.out⟩
      have m1 : ¬ (s.size : Int) < 1 := by omega
      by_cases h1 : s.size ≤ 32
      · have m2 : ¬ (32 : Int) < (s.size : Int) := by omega
        cases k with
        | zero =>
          rw [Nat.add_zero] at hc
          have HKk := Lib.hid (show keyAt n.keys 0 = true by unfold keyAt; rw [HG.out]; simp [h0, h1])
          clear h0 h1 hel
          go_wp2
          go_round
          case rel => exact ⟨1, by omega, by go_num, fun j hj => by obtain rfl : j = 0 := by omega
                                                                    exact HKk.out⟩
          case measure => simp [intOf]; omega
        | succ m =>
          obtain ⟨b', o', e', hc'⟩ := hel m (by omega)
          simp only [Option.some.injEq, Addr.mk.injEq, and_true] at e'
          obtain ⟨rfl, rfl⟩ := e'
          obtain ⟨s', hs'⟩ : ∃ s', s' = n.keys[m]'(by omega) := ⟨_, rfl⟩
          have hg' : n.keys.getD m ⟨#[]⟩ = s' := by rw [hs', List.getD_eq_getElem?_getD, List.getElem?_eq_getElem (by omega)]; rfl
          rw [← hs'] at hc'
          have ew : wrap64 (m : Int) = (m : Int) := by unfold wrap64; omega
          have m3 : (0 : Int) < (m : Int) + 1 := by omega
          cases hl : sLt s' s with
          | true =>
            have HKk := Lib.hid (show keyAt n.keys (m + 1) = true by unfold keyAt; rw [HG.out]; simp only [hg', hl]; simp [h0, h1])
            have b3 : Op.bytesLess s'.toList s.toList = true := hl
            clear h0 h1 hs' hg' hl hel
            go_wp2
            go_round
            case rel =>
              refine ⟨m + 1 + 1, by omega, by go_num, fun j hj => ?_⟩
              rcases Nat.lt_or_ge j (m + 1) with h | h
              · exact HZ.out j h
              · obtain rfl : j = m + 1 := by omega
                exact HKk.out
            case measure => simp [intOf]; omega
          | false =>
            have HF := Lib.hid (formB_keysbad (keysB_false hlt (show keyAt n.keys (m + 1) = false by unfold keyAt; rw [HG.out]; simp only [hg', hl]; simp)))
            have b3 : Op.bytesLess s'.toList s.toList = false := hl
            clear h0 h1 hs' hg' hl hel
            go_wp2
            go_ret
            exact ⟨by rw [HF.out]; rfl, HB.out⟩
      · have HF := Lib.hid (formB_keysbad (keysB_false hlt (show keyAt n.keys k = false by unfold keyAt; rw [HG.out]; simp [h1])))
        have m2 : (32 : Int) < (s.size : Int) := by omega
        clear h0 h1 hel
        go_wp2
        go_ret
        exact ⟨by rw [HF.out]; rfl, HB.out⟩
    · obtain rfl : k = n.keys.length := by omega
      have HKB := Lib.hid (keysB_true HZ.out)
      cases hl : n.leaf with
      | true =>
        rw [hl] at c0
        have hq := formB_leafq HKB.out hl
        have HQ := Lib.hid hq
        clear hl hq
        go_wp2_with fail
        go_loop [45, 6] (fun i _ => ∃ k : Nat, k ≤ n.vals.length ∧ i = .int .i64 k ∧ ∀ j (hj : j < n.vals.length), j < k → ¬ 96 < n.vals[j].size) (fun i _ => n.vals.length - (intOf i).toNat)
        case atStart => exact ⟨0, Nat.zero_le _, rfl, fun j _ hj => by omega⟩
        case round =>
          obtain ⟨k, hk, rfl, hz⟩ := hrel
          have HZ2 := Lib.hid hz
          clear hz
          rcases Nat.lt_or_ge k n.vals.length with hlt | hge
          · obtain ⟨a', c', e', hel⟩ := HV.out.open
            simp only [Value.slice.injEq, true_and] at e'
            obtain ⟨rfl, rfl⟩ := e'
            obtain ⟨b, o, rfl, hc⟩ := hel k hlt
            obtain ⟨s, hs⟩ : ∃ s, s = n.vals[k]'hlt := ⟨_, rfl⟩
            rw [← hs] at hc
            have HS := Lib.hid hs
            clear hs hel
            by_cases h9 : 96 < s.size
            · have hlo : longB n.vals = true := List.any_eq_true.2 ⟨s, by rw [HS.out]; exact List.getElem_mem hlt, decide_eq_true h9⟩
              have HF := Lib.hid (show formB n = false by rw [HQ.out, hlo]; simp)
              have m1 : (96 : Int) < (s.size : Int) := by omega
              clear h9 hlo
              go_wp2
              go_ret
              exact ⟨by rw [HF.out]; rfl, HB.out⟩
            · have m1 : ¬ (96 : Int) < (s.size : Int) := by omega
              have H9 := Lib.hid h9
              clear h9
              go_wp2
              go_round
              case rel =>
                refine ⟨k + 1, by omega, by go_num, fun j hj hjk => ?_⟩
                rcases Nat.lt_or_ge j k with h | h
                · exact HZ2.out j hj h
                · obtain rfl : j = k := by omega
                  rw [← HS.out]; exact H9.out
              case measure => simp [intOf]; omega
          · obtain rfl : k = n.vals.length := by omega
            have hlo : longB n.vals = false := List.any_eq_false.2 fun x hx => by
              obtain ⟨j, hj, rfl⟩ := List.getElem_of_mem hx
              simpa using HZ2.out j hj hj
            have hq := HQ.out
            rw [hlo] at hq
            clear hlo
            by_cases h1 : n.vals.length = n.keys.length
            · have e1 : ((n.vals.length : Int) == (n.keys.length : Int)) = true := by rw [beq_nat]; exact decide_eq_true h1
              by_cases h2 : n.kids.length = 0
              · rw [decide_eq_true h1, decide_eq_true h2] at hq
                have HF := Lib.hid hq
                have e2 : ((n.kids.length : Int) == 0) = true := by rw [beq_zero]; exact decide_eq_true h2
                clear h1 h2 hq
                go_wp2
                go_ret
                exact ⟨by rw [HF.out]; rfl, HB.out⟩
              · rw [decide_eq_true h1, decide_eq_false h2] at hq
                have HF := Lib.hid hq
                have e2 : ((n.kids.length : Int) == 0) = false := by rw [beq_zero]; exact decide_eq_false h2
                clear h1 h2 hq
                go_wp2
                go_ret
                exact ⟨by rw [HF.out]; rfl, HB.out⟩
            · rw [decide_eq_false h1] at hq
              have HF := Lib.hid hq
              have e1 : ((n.vals.length : Int) == (n.keys.length : Int)) = false := by rw [beq_nat]; exact decide_eq_false h1
              clear h1 hq
              go_wp2
              go_ret
              exact ⟨by rw [HF.out]; rfl, HB.out⟩
      | false =>
        rw [hl] at c0
        have hq := formB_innerq HKB.out hl
        have HQ := Lib.hid hq
        have HC := Lib.hid (show w0.cell? ⟨w.heap.size, 1, none⟩ = _ ∧ w0.cell? ⟨w.heap.size, 2, none⟩ = _ ∧ w0.cell? ⟨w.heap.size, 3, none⟩ = _ from ⟨c1, c2, c3⟩)
        have hbl : w.heap.size < w0.heap.size := World.block_lt_of_cell? w0 _ c0
        clear hl hq
        go_wp2_with fail
        clear c0 c1 c2 c3
        go_loopw [69, 8] (fun i _ wr => ∃ k : Nat, k ≤ n.kids.length ∧ i = .int .i64 k ∧ (∀ j (hj : j < n.kids.length), j < k → kidBad n.kids[j] = false) ∧ Below w0.heap.size w0 wr) (fun i _ _ => n.kids.length - (intOf i).toNat)
        case atStart => exact ⟨0, Nat.zero_le _, rfl, fun j _ hj => by omega, Below.refl _ _⟩
        case round =>
          obtain ⟨k, hk, rfl, hz, hbr⟩ := hrel
          have HZ2 := Lib.hid hz
          have HBR := Lib.hid hbr
          have HBr := Lib.hid (HB.out.trans (hbr.mono (Nat.le_of_lt hbl)))
          clear hz hbr
          rcases Nat.lt_or_ge k n.kids.length with hlt | hge
          · have HWf := Lib.hid HP.out.wf
            obtain ⟨a', c', e', hel⟩ := HP.out.open
            simp only [Value.slice.injEq, true_and] at e'
            obtain ⟨rfl, rfl⟩ := e'
            obtain ⟨b, o, rfl, hat⟩ := hel k hlt
            obtain ⟨p, hp⟩ : ∃ p, p = n.kids[k]'hlt := ⟨_, rfl⟩
            rw [← hp] at hat
            have HW := Lib.hid (show p.Wf by rw [hp]; exact HWf.out _ (List.getElem_mem hlt))
            have HPp := Lib.hid hp
            have HAT := Lib.hid (hat.fr (Fr.of_below (S := fun _ => False) HBR.out) id)
            clear hp hat hel
            go_wp2_with (first | (refine load_ptr rfl (.tmp 71) rfl rfl HAT.out HW.out ?_) | (refine store_ptr rfl (.tmp 8) (.tmp 72) rfl rfl rfl (heap_alloc_new _ _) rfl HW.out ?_))
            intro w2 hb2 hf2 hs2
            have hbel2 : Below wr.heap.size wr w2 := ((Below.refl _ wr).alloc (Nat.le_refl _) _).trans (hf2.below (by simp) (fun k hk => by omega))
            have d0 : w2.cell? ⟨wr.heap.size, 0, none⟩ = some (.int .u32 (p.addr : Int)) := (cell_of_row _ _ 0 _ _ _ hb2).trans p.get0
            have HAT2 := Lib.hid (show At w2 wr.heap.size 0 p.cells from At.of_row hb2)
            have HBR2 := Lib.hid (HBR.out.trans (hbel2.mono HBR.out.size))
            have HBr2 := Lib.hid (HBr.out.trans (hbel2.mono HBr.out.size))
            have ha := HW.out.addr
            clear hbel2 hb2 hf2 hs2
            by_cases h0 : p.addr = 0
            · have hbad : badB n.kids = true := List.any_eq_true.2 ⟨p, by rw [HPp.out]; exact List.getElem_mem hlt, by unfold kidBad; simp [h0]⟩
              have HF := Lib.hid (show formB n = false by rw [HQ.out, hbad]; simp)
              have e0 : ((p.addr : Int) == 0) = true := by rw [beq_zero]; exact decide_eq_true h0
              clear h0 hbad
              go_wp2
              go_ret
              exact ⟨by rw [HF.out]; rfl, HBr2.out⟩
            · have e0 : ((p.addr : Int) == 0) = false := by rw [beq_zero]; exact decide_eq_false h0
              have HKB2 := Lib.hid (show kidBad p = !ptrOk p 4096 by unfold kidBad; simp [h0])
              clear h0
              go_wp2_with (refine gload_ptr rfl (.tmp 8) rfl rfl HAT2.out HW.out ?_)
              refine (refPtrCheck_any p 4096 _ HW.out (by omega)).mono ?_
              rintro e w3 ⟨rfl, hb3⟩
              have HBR3 := Lib.hid (HBR2.out.trans (hb3.mono HBR2.out.size))
              have HBr3 := Lib.hid (HBr2.out.trans (hb3.mono HBr2.out.size))
              clear hb3 d0
              cases hok : ptrOk p 4096 with
              | true =>
                rw [show ptrE p ((4096 : Nat) : Int) = 0 from ptrE_ok hok]
                have HKQ := Lib.hid (show kidBad p = false by rw [HKB2.out, hok]; rfl)
                clear hok
                go_wp2
                go_roundw
                case rel =>
                  refine ⟨k + 1, by omega, by go_num, fun j hj hjk => ?_, HBR3.out⟩
                  rcases Nat.lt_or_ge j k with h | h
                  · exact HZ2.out j hj h
                  · obtain rfl : j = k := by omega
                    rw [← HPp.out]; exact HKQ.out
                case measure => simp [intOf]; omega
              | false =>
                rw [show ptrE p ((4096 : Nat) : Int) = 4 from ptrE_bad hok]
                have hbad : badB n.kids = true := List.any_eq_true.2 ⟨p, by rw [HPp.out]; exact List.getElem_mem hlt, by rw [HKB2.out, hok]; rfl⟩
                have HF := Lib.hid (show formB n = false by rw [HQ.out, hbad]; simp)
                clear hok hbad
                go_wp2
                go_ret
                exact ⟨by rw [HF.out]; rfl, HBr3.out⟩
          · obtain rfl : k = n.kids.length := by omega
            have hbad : badB n.kids = false := List.any_eq_false.2 fun x hx => by
              obtain ⟨j, hj, rfl⟩ := List.getElem_of_mem hx
              simpa using HZ2.out j hj hj
            have hq := HQ.out
            rw [hbad] at hq
            obtain ⟨c1, c2, c3⟩ := HC.out
            replace c1 := (HBR.out.cell (p := ⟨w.heap.size, 1, none⟩) hbl).trans c1
            replace c2 := (HBR.out.cell (p := ⟨w.heap.size, 2, none⟩) hbl).trans c2
            replace c3 := (HBR.out.cell (p := ⟨w.heap.size, 3, none⟩) hbl).trans c3
            clear hbad
            by_cases h1 : n.vals.length = 0
            · have e1 : ((n.vals.length : Int) == 0) = true := by rw [beq_zero]; exact decide_eq_true h1
              by_cases h2 : 0 < n.keys.length
              · have e2 : (0 : Int) < (n.keys.length : Int) := by omega
                by_cases h3 : n.kids.length = n.keys.length + 1
                · rw [decide_eq_true h1, decide_eq_true h2, decide_eq_true h3] at hq
                  have HF := Lib.hid hq
                  have e3 : ((n.kids.length : Int) == (n.keys.length : Int) + 1) = true := by rw [beq_succ]; exact decide_eq_true h3
                  clear h1 h2 h3 hq
                  go_wp2
                  go_ret
                  exact ⟨by rw [HF.out]; rfl, HBr.out⟩
                · rw [decide_eq_true h1, decide_eq_true h2, decide_eq_false h3] at hq
                  have HF := Lib.hid hq
                  have e3 : ((n.kids.length : Int) == (n.keys.length : Int) + 1) = false := by rw [beq_succ]; exact decide_eq_false h3
                  clear h1 h2 h3 hq
                  go_wp2
                  go_ret
                  exact ⟨by rw [HF.out]; rfl, HBr.out⟩
              · rw [decide_eq_true h1, decide_eq_false h2] at hq
                have HF := Lib.hid hq
                have e2 : ¬ (0 : Int) < (n.keys.length : Int) := by omega
                clear h1 h2 hq
                go_wp2
                go_ret
                exact ⟨by rw [HF.out]; rfl, HBr.out⟩
            · rw [decide_eq_false h1] at hq
              have HF := Lib.hid hq
              have e1 : ((n.vals.length : Int) == 0) = false := by rw [beq_zero]; exact decide_eq_false h1
              clear h1 hq
              go_wp2
              go_ret
              exact ⟨by rw [HF.out]; rfl, HBr.out⟩

end Go.Proofs.YtkbnkdokcmpcgaaGreatDoor
namespace Go.Proofs.YtkbnkdokcmpcgaaGreatDoor
open Go.RowKit

theorem NdIs.wf {w : World} {arr : Array Value} {n : Nd} (h : NdIs w arr n) : ∀ p ∈ n.kids, p.Wf := by
  obtain ⟨_, _, _, _, _, _, h3⟩ := h
  exact h3.wf

set_option maxHeartbeats 2000000 in
theorem refSize_any (arr : Array Value) (n : Nd) (w : World) (h : NdIs w arr n) (hf : n.Fits) (hk : n.keys.length ≤ 255) :
    Calls Tryz.prog 128 #[.agg arr] w fun e w' => e = .returned (.tuple #[.int .i64 (sizeV n), .int .i64 (sizeR n)]) ∧ Below w.heap.size w w' := by
  have hwf := h.wf
  have hsz := h.size
  have hb0 : Below w.heap.size w (w.alloc (.cells arr 25)) := (Below.refl _ w).alloc (Nat.le_refl _) _
  have HB := Lib.hid hb0
  have HN := Lib.hid (h.below hb0)
  have HT := Lib.hid (At_nd (heap_alloc_new w (.cells arr 25)))
  have HF := Lib.hid hf
  have HSZ := Lib.hid hsz
  clear h hb0 hf hsz
  cases hfb : formB n with
  | false =>
    have HFm := Lib.hid (fun w h => refForm_any arr n w h HF.out)
    rw [hfb] at HFm
    have HV := Lib.hid (And.intro (sizeV_bad hfb) (sizeR_bad hfb))
    clear hfb hwf
    go_enter Tryz.func128, Tryz.ntmps128
    go_wp2_with (refine load_nd rfl (.tmp 1) rfl rfl HT.out HSZ.out ?_)
    refine (HFm.out _ HN.out).mono ?_
    rintro e w1 ⟨rfl, hb1⟩
    have HB1 := Lib.hid (HB.out.trans (hb1.mono HB.out.size))
    clear hb1
    go_wp2
    go_ret2
    exact ⟨by rw [HV.out.1, HV.out.2]; rfl, HB1.out⟩
  | true =>
    have HFm := Lib.hid (fun w h => refForm_any arr n w h HF.out)
    have HBy := Lib.hid (fun w h => refBytes_any arr n w h hfb hk)
    rw [hfb] at HFm
    have HV := Lib.hid (And.intro (sizeV_ok hfb) (sizeR_ok hfb))
    have HL := Lib.hid (bytesN_length hfb hwf)
    clear hfb hwf
    go_enter Tryz.func128, Tryz.ntmps128
    go_wp2_with (refine load_nd rfl (.tmp 1) rfl rfl HT.out HSZ.out ?_)
    refine (HFm.out _ HN.out).mono ?_
    rintro e w1 ⟨rfl, hb1⟩
    have HB1 := Lib.hid (HB.out.trans (hb1.mono HB.out.size))
    have HN1 := Lib.hid (HN.out.below hb1)
    have HT1 := Lib.hid (HT.out.fr (Fr.of_below (S := fun _ => False) hb1) id)
    clear hb1
    go_wp2_with (refine load_nd rfl (.tmp 1) rfl rfl HT1.out HSZ.out ?_)
    refine (HBy.out _ HN1.out).mono ?_
    rintro e w2 ⟨aa, cc, rfl, ho2, hb2⟩
    rw [HL.out]
    have HB2 := Lib.hid (HB1.out.trans (hb2.mono HB1.out.size))
    clear hb2 ho2
    go_wp2
    go_ret2
    exact ⟨by rw [HV.out.1, HV.out.2]; rfl, HB2.out⟩

set_option maxHeartbeats 2000000 in
theorem refCheck_any (arr : Array Value) (n : Nd) (w : World) (h : NdIs w arr n) (hf : n.Fits) (hk : n.keys.length ≤ 255) :
    Calls Tryz.prog 87 #[.agg arr] w fun e w' => e = .returned (.int .i64 (checkE n)) ∧ Below w.heap.size w w' := by
  have hsz := h.size
  have hb0 : Below w.heap.size w (w.alloc (.cells arr 25)) := (Below.refl _ w).alloc (Nat.le_refl _) _
  have HB := Lib.hid hb0
  have HN := Lib.hid (h.below hb0)
  have HT := Lib.hid (At_nd (heap_alloc_new w (.cells arr 25)))
  have HSZ := Lib.hid hsz
  have HS := Lib.hid (fun w h => refSize_any arr n w h hf hk)
  clear h hb0 hf hsz
  cases hfb : formB n with
  | false =>
    have HQ := Lib.hid (checkE_bad hfb)
    rw [sizeV_bad hfb, sizeR_bad hfb] at HS
    clear hfb
    go_enter Tryz.func87, Tryz.ntmps87
    go_wp2_with (refine load_nd rfl (.tmp 1) rfl rfl HT.out HSZ.out ?_)
    refine (HS.out _ HN.out).mono ?_
    rintro e w1 ⟨rfl, hb1⟩
    have HB1 := Lib.hid (HB.out.trans (hb1.mono HB.out.size))
    clear hb1
    go_wp2
    go_ret
    exact ⟨by rw [HQ.out]; rfl, HB1.out⟩
  | true =>
    rw [sizeV_ok hfb, sizeR_ok hfb] at HS
    by_cases h2 : 512 < sizeN n
    · have HQ := Lib.hid (checkE_full hfb h2)
      have b1 : (512 : Int) < (sizeN n : Int) := by omega
      clear hfb h2
      go_enter Tryz.func87, Tryz.ntmps87
      go_wp2_with (refine load_nd rfl (.tmp 1) rfl rfl HT.out HSZ.out ?_)
      refine (HS.out _ HN.out).mono ?_
      rintro e w1 ⟨rfl, hb1⟩
      have HB1 := Lib.hid (HB.out.trans (hb1.mono HB.out.size))
      clear hb1
      go_wp2
      go_ret
      exact ⟨by rw [HQ.out]; rfl, HB1.out⟩
    · have HQ := Lib.hid (checkE_ok hfb h2)
      have b1 : ¬ (512 : Int) < (sizeN n : Int) := by omega
      clear hfb h2
      go_enter Tryz.func87, Tryz.ntmps87
      go_wp2_with (refine load_nd rfl (.tmp 1) rfl rfl HT.out HSZ.out ?_)
      refine (HS.out _ HN.out).mono ?_
      rintro e w1 ⟨rfl, hb1⟩
      have HB1 := Lib.hid (HB.out.trans (hb1.mono HB.out.size))
      clear hb1
      go_wp2
      go_ret
      exact ⟨by rw [HQ.out]; rfl, HB1.out⟩

end Go.Proofs.YtkbnkdokcmpcgaaGreatDoor

namespace Go.Proofs.YtkbnkdokcmpcgaaGreatDoor
open Go.RowKit

end Go.Proofs.YtkbnkdokcmpcgaaGreatDoor
