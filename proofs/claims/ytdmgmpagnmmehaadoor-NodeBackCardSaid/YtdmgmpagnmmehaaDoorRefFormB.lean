/- Walks: the reference's Check of a pointer, and its form of a node. -/
import Derived.Test.YtdmgmpagnmmehaaDoorNd
namespace Go.Proofs.YtdmgmpagnmmehaaDoor
open Go.RowKit

set_option maxHeartbeats 2000000 in
theorem refPtrCheck_any (p : Pt) (n : Nat) (w : World) (h : p.Wf) (hn : n ≤ 4294967295) :
    Calls Tryd.prog 47 #[.agg p.arr, .int .i64 (n : Int)] w fun e w' => e = .returned (.int .i64 (ptrE p n)) ∧ Below w.heap.size w w' := by
  have g0 := p.get0
  have g1 := p.get1
  have hg := heap_alloc_new w (.cells p.arr 47)
  have c0 : (w.alloc (.cells p.arr 47)).cell? ⟨w.heap.size, 0, none⟩ = some (.int .u32 (p.addr : Int)) := (cell_of_row _ _ 0 _ _ _ hg).trans g0
  have c1 : (w.alloc (.cells p.arr 47)).cell? ⟨w.heap.size, 1, none⟩ = some (.int .u64 (p.birth : Int)) := (cell_of_row _ _ 1 _ _ _ hg).trans g1
  have HAT := Lib.hid (At_box w p 47)
  have HW := Lib.hid h
  have HB := Lib.hid ((Below.refl _ w).alloc (Nat.le_refl _) (.cells p.arr 47))
  have ha := h.addr
  clear h g0 g1 hg
  obtain ⟨w1, hw1⟩ : ∃ w1, w1 = w.alloc (.cells p.arr 47) := ⟨_, rfl⟩
  by_cases h0 : p.addr = 0
  · have HQ := Lib.hid (show ptrOk p n = decide (p = Pt.zero) by unfold ptrOk; rw [if_pos h0])
    have e0 : ((p.addr : Int) == 0) = true := by rw [beq_zero]; exact decide_eq_true h0
    clear h0
    by_cases hz : p = Pt.zero
    · rw [decide_eq_true hz] at HQ
      replace HQ := Lib.hid (ptrE_ok HQ.out)
      have HZ := Lib.hid hz
      clear hz
      go_enter Tryd.func47, Tryd.ntmps47
      go_wp2_with (first | (refine load_ptr rfl (.tmp 2) rfl rfl HAT.out HW.out ?_) | (refine eql_ptr (q := Pt.zero) rfl (.tmp 8) (.tmp 9) _ rfl rfl rfl HW.out Pt.zero_wf ?_; rw [decide_eq_true HZ.out]))
      go_ret
      exact ⟨by rw [HQ.out]; rfl, HB.out⟩
    · rw [decide_eq_false hz] at HQ
      replace HQ := Lib.hid (ptrE_bad HQ.out)
      have HZ := Lib.hid hz
      clear hz
      go_enter Tryd.func47, Tryd.ntmps47
      go_wp2_with (first | (refine load_ptr rfl (.tmp 2) rfl rfl HAT.out HW.out ?_) | (refine eql_ptr (q := Pt.zero) rfl (.tmp 8) (.tmp 9) _ rfl rfl rfl HW.out Pt.zero_wf ?_; rw [decide_eq_false HZ.out]))
      go_ret
      exact ⟨by rw [HQ.out]; rfl, HB.out⟩
  · have hq : ptrOk p n = (decide (2 ≤ p.addr) && decide ((p.addr : Int) < n) && decide (0 < p.birth)) := by unfold ptrOk; rw [if_neg h0]
    have e0 : ((p.addr : Int) == 0) = false := by rw [beq_zero]; exact decide_eq_false h0
    have n0 : ¬ ((n : Int) < 0) := by omega
    clear h0
    by_cases h1 : 2 ≤ p.addr
    · have m1 : ¬ ((p.addr : Int) < 2) := by omega
      by_cases h2 : (p.addr : Int) < n
      · have m2 : ¬ ((n : Int) ≤ (p.addr : Int)) := by omega
        by_cases h3 : 0 < p.birth
        · rw [decide_eq_true h1, decide_eq_true h2, decide_eq_true h3] at hq
          have HQ := Lib.hid (ptrE_ok hq)
          have m3 : ((p.birth : Int) == 0) = false := by rw [beq_zero]; exact decide_eq_false (by omega)
          clear hq h1 h2 h3
          go_enter Tryd.func47, Tryd.ntmps47
          go_wp2
          go_ret
          exact ⟨by rw [HQ.out]; rfl, HB.out⟩
        · rw [decide_eq_true h1, decide_eq_true h2, decide_eq_false h3] at hq
          have HQ := Lib.hid (ptrE_bad hq)
          have m3 : ((p.birth : Int) == 0) = true := by rw [beq_zero]; exact decide_eq_true (by omega)
          clear hq h1 h2 h3
          go_enter Tryd.func47, Tryd.ntmps47
          go_wp2
          go_ret
          exact ⟨by rw [HQ.out]; rfl, HB.out⟩
      · rw [decide_eq_true h1, decide_eq_false h2] at hq
        have HQ := Lib.hid (ptrE_bad hq)
        have m2 : ((n : Int) ≤ (p.addr : Int)) := by omega
        clear hq h1 h2
        go_enter Tryd.func47, Tryd.ntmps47
        go_wp2
        go_ret
        exact ⟨by rw [HQ.out]; rfl, HB.out⟩
    · rw [decide_eq_false h1] at hq
      have HQ := Lib.hid (ptrE_bad hq)
      have m1 : ((p.addr : Int) < 2) := by omega
      clear hq h1
      go_enter Tryd.func47, Tryd.ntmps47
      go_wp2
      go_ret
      exact ⟨by rw [HQ.out]; rfl, HB.out⟩

end Go.Proofs.YtdmgmpagnmmehaaDoor

namespace Go.Proofs.YtdmgmpagnmmehaaDoor
open Go.RowKit

theorem formB_keysbad {n : Nd} (h : keysB n.keys = false) : formB n = false := by unfold formB; rw [h]; rfl
theorem formB_leafq {n : Nd} (h : keysB n.keys = true) (hl : n.leaf = true) : formB n = (decide (n.vals.length = n.keys.length) && decide (n.kids.length = 0) && !longB n.vals) := by unfold formB; rw [h, hl]; simp
theorem formB_innerq {n : Nd} (h : keysB n.keys = true) (hl : n.leaf = false) : formB n = (decide (n.vals.length = 0) && decide (0 < n.keys.length) && decide (n.kids.length = n.keys.length + 1) && !badB n.kids) := by unfold formB; rw [h, hl]; simp

end Go.Proofs.YtdmgmpagnmmehaaDoor
