/- Walk: banyanlaw10's UberSizes. -/
import Derived.Test.YtdmgmpagnmmehaaDoorUberA
namespace Go.Proofs.YtdmgmpagnmmehaaDoor
open Go.RowKit

theorem qeql_ub {ops : Array Oper} {C : World → Prop} {Q : Act → Prop} {rest : List Oper} {o : Oper} {a : Act} (hw : Region.wanted o (yielded ops a.tmps) = true) (x y : Operand) (yt : TypeId) (ho : o.op = .binOp .eql 49 x y yt)
    {u v : Ub} (hx : a.eval x = .agg u.arr) (hy : a.eval y = .agg v.arr) (h1 : u.Wf) (h2 : v.Wf) (h : wpQuiet Tryd.prog ops C Q rest (a.put o.dst (.bool (decide (u = v))))) : wpQuiet Tryd.prog ops C Q (o :: rest) a :=
  BigFrame.wpQuiet_want hw fun K hK => ⟨.bool (decide (u = v)), fun w _ => by
    unfold Oper.quietAt execOp
    simp only [ho, hx, hy, Sem.run_bind, run_eqGuard_agg w _ _ _ _ _ _ guard_ub, Result.andThen_ok, run_eql_struct, run_equalIn_ub u v h1 h2 w]
    exact ⟨rfl, rfl⟩, hK _ h⟩
theorem gneq_ub {ops : Array Oper} {rest : List Oper} {o : Oper} {a : Act} {w : World} {Q : Exit → Act → World → Prop} (hw : Region.wanted o (yielded ops a.tmps) = true) (x y : Operand) (yt : TypeId) (ho : o.op = .binOp .neq 49 x y yt)
    {u v : Ub} (hx : a.eval x = .agg u.arr) (hy : a.eval y = .agg v.arr) (h1 : u.Wf) (h2 : v.Wf)
    (hK : wpList Tryd.prog ops Q rest (a.put o.dst (.bool (!decide (u = v)))) w) : wpList Tryd.prog ops Q (o :: rest) a w := by
  refine BigFrame.wpList_want hw fun K hKK => ?_
  unfold Oper.wp execOp
  simp only [ho, hx, hy, Sem.run_bind, run_eqGuard_agg w _ _ _ _ _ _ guard_ub, Result.andThen_ok, run_neq_struct, run_equalIn_ub u v h1 h2 w]
  exact hKK _ _ hK
theorem gload_ub {ops : Array Oper} {rest : List Oper} {o : Oper} {a : Act} {w : World} {Q : Exit → Act → World → Prop} (hw : Region.wanted o (yielded ops a.tmps) = true) (x : Operand) (ho : o.op = .load 49 x)
    {b off : Nat} (hx : a.eval x = .pointer (some ⟨b, off, none⟩)) {u : Ub} (hc : At w b off u.cells) (hl : u.Wf)
    (hK : wpList Tryd.prog ops Q rest (a.put o.dst (.agg u.arr)) w) : wpList Tryd.prog ops Q (o :: rest) a w :=
  gload_at hw _ x ho b off hx u.cells _ hc Tryd.underlying49 rfl (by rw [info_ub, hl.len]) hK

/-- The same uber, of a later number, on a greater device. -/
def laterU (u : Ub) (k : Nat) : Ub := ⟨u.txg + k, min 4096 (u.size + k), u.root⟩
theorem laterU_wf {u : Ub} {k : Nat} (h : u.Wf) (ht : u.txg + k < 18446744073709551616) : (laterU u k).Wf := ⟨ht, (show min 4096 (u.size + k) < 4294967296 by omega), h.root⟩
theorem laterU_ok {u : Ub} {k : Nat} (hc : ubE u = 0) : ubE (laterU u k) = 0 := by
  rw [ubE_split] at hc ⊢
  unfold ubOk at hc ⊢
  simp only [Bool.and_eq_true, decide_eq_true_eq] at hc ⊢
  obtain ⟨⟨⟨h0, h1⟩, h2⟩, h3⟩ := hc
  refine ⟨⟨⟨?_, ?_⟩, ?_⟩, ?_⟩
  · show u.txg + k ≠ 0; omega
  · show 16 ≤ min 4096 (u.size + k); omega
  · show min 4096 (u.size + k) ≤ 4096; omega
  · show ptrOk u.root ((min 4096 (u.size + k) : Nat) : Int) = true
    unfold ptrOk at h3 ⊢
    split
    · rename_i h; rw [if_pos h] at h3; exact h3
    · rename_i h
      rw [if_neg h] at h3
      simp only [Bool.and_eq_true, decide_eq_true_eq] at h3 ⊢
      exact ⟨⟨h3.1.1, by omega⟩, h3.2⟩

set_option maxRecDepth 100000 in
set_option maxHeartbeats 4000000 in
theorem uberSizes_any (u : Ub) (k : Nat) (w : World) (hu : u.Wf) (hk : k < 65536) :
    Calls Tryd.prog 8 #[.agg u.arr, .int .u16 (k : Int)] w fun e w' => e = .returned (.bool true) ∧ Below w.heap.size w w' := by
  have hb0 : Below w.heap.size w (w.alloc (.cells u.arr 49)) := (Below.refl _ w).alloc (Nat.le_refl _) _
  have hg0 := heap_alloc_new w (.cells u.arr 49)
  have HB := Lib.hid hb0
  have HU := Lib.hid hu
  have HG := Lib.hid hg0
  clear hb0 hg0
  rcases ubE_or u with hc | hc
  · have HC := Lib.hid (fun w1 => hc ▸ ubCheck_any u w1 hu)
    have HCz := Lib.hid hc
    have hs : u.size ≤ 4096 := by
      have := ubE_split.1 hc
      unfold ubOk at this
      simp only [Bool.and_eq_true, decide_eq_true_eq] at this
      exact this.1.2
    have HT := Lib.hid hu.txg
    clear hu hc
    go_enter Tryd.func8, Tryd.ntmps8
    go_wp2_with fail
    refine (alive10 _).mono ?_
    rintro e w1 ⟨rfl, hb1⟩
    have HG1 := Lib.hid ((hb1.block w.heap.size (lt_of_block HG.out)).trans HG.out)
    have HA1 := Lib.hid (show At w1 w.heap.size 0 u.cells from At.of_row HG1.out)
    have HB1 := Lib.hid (HB.out.trans (hb1.mono HB.out.size))
    clear hb1
    go_wp2_with (refine load_ub rfl (.tmp 2) rfl rfl HA1.out HU.out ?_)
    refine (HC.out _).mono ?_
    rintro e w2 ⟨rfl, hb2⟩
    have HG2 := Lib.hid ((hb2.block w.heap.size (lt_of_block HG1.out)).trans HG1.out)
    have HA2 := Lib.hid (show At w2 w.heap.size 0 u.cells from At.of_row HG2.out)
    have HB2 := Lib.hid (HB1.out.trans (hb2.mono HB1.out.size))
    clear hb2
    go_wp2_with (first | (refine load_ub rfl (.tmp 2) rfl rfl HA2.out HU.out ?_) | (refine store_ub rfl (.tmp 6) (.tmp 19) rfl rfl rfl (heap_alloc_new _ _) rfl HU.out ?_))
    intro w3 hg3 hf3 hs3
    have hbel3 : Below w2.heap.size w2 w3 := ((Below.refl _ w2).alloc (Nat.le_refl _) _).trans (hf3.below (by simp) (fun k hk => by omega))
    have hgu := (hbel3.block w.heap.size (lt_of_block HG2.out)).trans HG2.out
    have HGu := Lib.hid hgu
    have HGv := Lib.hid hg3
    have HB3 := Lib.hid (HB2.out.trans (hbel3.mono HB2.out.size))
    have HLT := Lib.hid (show w.heap.size < w2.heap.size from lt_of_block HG2.out)
    have c1 : w3.cell? ⟨w2.heap.size, 1, none⟩ = some (.int .u32 (u.size : Int)) := (cell_of_row _ _ 1 _ _ _ hg3).trans u.get1
    have c0 : w3.cell? ⟨w2.heap.size, 0, none⟩ = some (.int .u64 (u.txg : Int)) := (cell_of_row _ _ 0 _ _ _ hg3).trans u.get0
    have cu : w3.cell? ⟨w.heap.size, 0, none⟩ = some (.int .u64 (u.txg : Int)) := (cell_of_row _ _ 0 _ _ _ hgu).trans u.get0
    have f1 : w3.frozen? ⟨w2.heap.size, 1, none⟩ = false := free_row hg3
    have f0 : w3.frozen? ⟨w2.heap.size, 0, none⟩ = false := free_row hg3
    clear hg3 hf3 hs3 hbel3 hgu
    have hlt : w.heap.size < w2.heap.size := HLT.out
    have hne : ¬ w.heap.size = w2.heap.size := by omega
    obtain ⟨vs, hvs⟩ : ∃ vs, vs = min 4096 (u.size + k) := ⟨_, rfl⟩
    have hmin : min (4096 : Int) ((u.size : Int) + (k : Int)) = (vs : Int) := by rw [hvs]; omega
    have hTT := HT.out
    by_cases ht : u.txg + k < 18446744073709551616
    · obtain ⟨vt, hvt⟩ : ∃ vt, vt = u.txg + k := ⟨_, rfl⟩
      have hwr : IntKind.u64.wrap ((u.txg : Int) + (k : Int)) = (vt : Int) := by simp [IntKind.wrap, IntKind.bits, IntKind.signed]; omega
      have hle : ¬ (vt : Int) < (u.txg : Int) := by omega
      have hvarr : (u.arr.setIfInBounds 1 (.int .u32 (vs : Int))).setIfInBounds 0 (.int .u64 (vt : Int)) = (laterU u k).arr := by rw [hvs, hvt]; simp [Ub.arr, Ub.cells, laterU]
      have hvw := laterU_wf (k := k) HU.out ht
      have hvE := laterU_ok (k := k) HCz.out
      have q1 := conv_key ((w3.setCell ⟨w2.heap.size, 1, none⟩ (.int .u32 (vs : Int))).setCell ⟨w2.heap.size, 0, none⟩ (.int .u64 (vt : Int))) w3.heap.size (by simp)
      obtain ⟨w4, hw4⟩ : ∃ w4, w4 = (w3.setCell ⟨w2.heap.size, 1, none⟩ (.int .u32 (vs : Int))).setCell ⟨w2.heap.size, 0, none⟩ (.int .u64 (vt : Int)) := ⟨_, rfl⟩
      have hz4 : w4.heap[w2.heap.size]? = some (.cells (laterU u k).arr 49 (0, 0)) := by
        rw [hw4, ← hvarr]; exact heap_setCell_same _ _ _ _ _ _ (heap_setCell_same _ _ _ _ _ _ HGv.out)
      have hF4 : Fr (fun j => j = w2.heap.size) w3 w4 := by rw [hw4]; exact (((Fr.refl (fun j => j = w2.heap.size) _).set _ 1 rfl _)).trans ((Fr.refl (fun j => j = w2.heap.size) _).set _ 0 rfl _)
      have hs4 : w4.heap.size = w3.heap.size := by rw [hw4]; simp
      obtain ⟨v, hv⟩ : ∃ v, v = laterU u k := ⟨_, rfl⟩
      rw [← hv] at hvw hvE hz4
      have hzu4 := (hF4.block w.heap.size (lt_of_block HGu.out) (by omega)).trans HGu.out
      have hb4 := HB3.out.trans (hF4.below HB3.out.size (fun j hj => by omega))
      obtain ⟨w5, hw5⟩ : ∃ w5, w5 = w4.alloc (.cells #[.int .u8 107, .int .u8 101, .int .u8 121] 5 (3, 4)) := ⟨_, rfl⟩
      have hb45 : Below w4.heap.size w4 w5 := by rw [hw5]; exact (Below.refl _ w4).alloc (Nat.le_refl _) _
      have HK5 := Lib.hid (show Sl w5 1 (.slice (some ⟨w3.heap.size, 0, none⟩) 3 3) 3 (keyK.map Bv) by rw [hw5]; exact Sl_litm _ _ _ _ 3 rfl hs4.symm rfl)
      have hzu5 := (hb45.block w.heap.size (lt_of_block hzu4)).trans hzu4
      have HZv5 := Lib.hid ((hb45.block w2.heap.size (lt_of_block hz4)).trans hz4)
      have HZu5 := Lib.hid hzu5
      have HA5 := Lib.hid (show At w5 w.heap.size 0 u.cells from At.of_row hzu5)
      have HB5 := Lib.hid (hb4.trans (hb45.mono hb4.size))
      rw [← hw4, ← hw5] at q1
      rw [hw4] at q1
      have HV := Lib.hid hvw
      have HVE := Lib.hid hvE
      have HNe := Lib.hid (show u = v ↔ ubS keyK u = ubS keyK v from ⟨fun h => by rw [h], fun h => ubS_inj HU.out hvw h⟩)
      clear hvs hvt ht hTT hvarr hvw hvE hw4 hz4 hF4 hs4 hzu4 hb4 hw5 hb45 hzu5 hv
      go_wp2_with (refine load_ub rfl (.tmp 2) rfl rfl HA5.out HU.out ?_)
      refine (ubPut_ok' _ keyK 3 rfl u _ HK5.out (by decide) HU.out HCz.out).mono ?_
      rintro e w6 ⟨a6, c6, rfl, hs6, hb6⟩
      have HB6 := Lib.hid (HB5.out.trans (hb6.mono HB5.out.size))
      have hzv6 := (hb6.block w2.heap.size (lt_of_block HZv5.out)).trans HZv5.out
      have HZu6 := Lib.hid ((hb6.block w.heap.size (lt_of_block HZu5.out)).trans HZu5.out)
      have q2 := conv_key w6 w6.heap.size rfl
      obtain ⟨w7, hw7⟩ : ∃ w7, w7 = w6.alloc (.cells #[.int .u8 107, .int .u8 101, .int .u8 121] 5 (3, 4)) := ⟨_, rfl⟩
      have hb7 : Below w6.heap.size w6 w7 := by rw [hw7]; exact (Below.refl _ w6).alloc (Nat.le_refl _) _
      have HK7 := Lib.hid (show Sl w7 1 (.slice (some ⟨w6.heap.size, 0, none⟩) 3 3) 3 (keyK.map Bv) by rw [hw7]; exact Sl_litm _ _ _ _ 3 rfl rfl rfl)
      have HZv7 := Lib.hid ((hb7.block w2.heap.size (lt_of_block hzv6)).trans hzv6)
      have HZu7 := Lib.hid ((hb7.block w.heap.size (lt_of_block HZu6.out)).trans HZu6.out)
      have HS7 := Lib.hid (hs6.below hb7)
      have HB7 := Lib.hid (HB6.out.trans (hb7.mono HB6.out.size))
      have HA7 := Lib.hid (show At w7 w2.heap.size 0 v.cells from At.of_row HZv7.out)
      rw [← hw7] at q2
      clear hs6 hb6 hzv6 hw7 hb7 c0 c1 cu f0 f1 q1
      go_wp2_with (refine load_ub rfl (.tmp 6) rfl rfl HA7.out HV.out ?_)
      refine (ubPut_ok' _ keyK 3 rfl v _ HK7.out (by decide) HV.out HVE.out).mono ?_
      rintro e w8 ⟨a8, c8, rfl, hs8, hb8⟩
      have hzu8 := (hb8.block w.heap.size (lt_of_block HZu7.out)).trans HZu7.out
      have hzv8 := (hb8.block w2.heap.size (lt_of_block HZv7.out)).trans HZv7.out
      have HB8 := Lib.hid (HB7.out.trans (hb8.mono HB7.out.size))
      have hsu8 := HS7.out.below hb8
      have HUu := Lib.hid (fun w' (hw : ∃ x : Wd w8.heap.size w8, w' = x.to) => (by obtain ⟨x, rfl⟩ := hw; exact x.at (At.of_row hzu8) : At w' w.heap.size 0 u.cells))
      have HUv := Lib.hid (fun w' (hw : ∃ x : Wd w8.heap.size w8, w' = x.to) => (by obtain ⟨x, rfl⟩ := hw; exact x.at (At.of_row hzv8) : At w' w2.heap.size 0 v.cells))
      have HQc := Lib.hid (fun (x : Wd w8.heap.size w8) => Calls.wd x (Nat.le_refl _) (show Calls Tryd.prog 20 #[.agg v.cells.toArray] x.to _ from HVE.out ▸ ubCheck_any v x.to HV.out))
      have HQs := Lib.hid (fun (x : Wd w8.heap.size w8) => Calls.wd_same x (same_any _ _ _ _ _ _ x.to (hsu8.below x.hb) (hs8.below x.hb)))
      clear hs8 hb8 hzu8 hzv8 hsu8 q2
      go_wp2_with fail
      refine wp_region_wd w8.heap.size (by kernel_rfl) (by kernel_rfl) ?_
      repeat (first
        | (refine wpQuiet_load_at rfl 49 (.tmp 6) rfl w2.heap.size 0 rfl _ _ HUv.out Tryd.underlying49 rfl (by rw [info_ub, HV.out.len]) ?_; simp only [Act.put, List.setIfInBounds_toArray, List.set_cons_succ, List.set_cons_zero])
        | (refine wpQuiet_load_at rfl 49 (.tmp 2) rfl w.heap.size 0 rfl _ _ HUu.out Tryd.underlying49 rfl (by rw [info_ub, HU.out.len]) ?_; simp only [Act.put, List.setIfInBounds_toArray, List.set_cons_succ, List.set_cons_zero])
        | (refine qeql_ub (u := u) (v := v) rfl (.tmp 67) (.tmp 68) _ rfl rfl rfl HU.out HV.out ?_; simp only [Act.put, List.setIfInBounds_toArray, List.set_cons_succ, List.set_cons_zero])
        | go_big_quiet_step (first | with_reducible exact HQc.out _ | with_reducible exact HQs.out _))
      refine wpQuiet_nil ?_
      rintro w9 ⟨⟨_, hb9⟩, rfl⟩
      have HB9 := Lib.hid (HB8.out.trans (hb9.mono HB8.out.size))
      clear hb9
      go_wp2
      go_ret
      have e9 : decide (u = v) = decide (ubS keyK u = ubS keyK v) := by simp only [HNe.out]
      refine ⟨?_, HB9.out⟩
      simp [e9]
    · obtain ⟨vt, hvt⟩ : ∃ vt, vt = u.txg + k - 18446744073709551616 := ⟨_, rfl⟩
      have hwr : IntKind.u64.wrap ((u.txg : Int) + (k : Int)) = (vt : Int) := by simp [IntKind.wrap, IntKind.bits, IntKind.signed]; omega
      have hle : (vt : Int) < (u.txg : Int) := by omega
      have hF4 : Fr (fun j => j = w2.heap.size) w3 ((w3.setCell ⟨w2.heap.size, 1, none⟩ (.int .u32 (vs : Int))).setCell ⟨w2.heap.size, 0, none⟩ (.int .u64 (vt : Int))) := (((Fr.refl (fun j => j = w2.heap.size) _).set _ 1 rfl _)).trans ((Fr.refl (fun j => j = w2.heap.size) _).set _ 0 rfl _)
      have HB4 := Lib.hid (HB3.out.trans (hF4.below HB3.out.size (fun j hj => by omega)))
      clear hvs hvt ht hTT hF4
      go_wp2
      go_ret
      exact ⟨rfl, HB4.out⟩
  · have HC := Lib.hid (fun w1 => hc ▸ ubCheck_any u w1 hu)
    clear hu hc
    go_enter Tryd.func8, Tryd.ntmps8
    go_wp2_with fail
    refine (alive10 _).mono ?_
    rintro e w1 ⟨rfl, hb1⟩
    have HA1 := Lib.hid (show At w1 w.heap.size 0 u.cells from At.of_row ((hb1.block w.heap.size (lt_of_block HG.out)).trans HG.out))
    have HB1 := Lib.hid (HB.out.trans (hb1.mono HB.out.size))
    clear hb1
    go_wp2_with (refine load_ub rfl (.tmp 2) rfl rfl HA1.out HU.out ?_)
    refine (HC.out _).mono ?_
    rintro e w2 ⟨rfl, hb2⟩
    have HB2 := Lib.hid (HB1.out.trans (hb2.mono HB1.out.size))
    clear hb2
    go_wp2
    go_ret
    exact ⟨rfl, HB2.out⟩
end Go.Proofs.YtdmgmpagnmmehaaDoor
