/- Walk: banyanlaw13.PoolTwice. Walk: banyanlaw13.PoolTurns. -/
import Derived.Test.YtkbnkdokcmpcgaaGreatDoorB23
namespace Go.Proofs.YtkbnkdokcmpcgaaGreatDoor
open Go.RowKit

theorem neq_ptr {ops : Array Oper} {rest : List Oper} {o : Oper} {a : Act} {w : World} {Q : Exit → Act → World → Prop} (hgd : o.guard = none) (x y : Operand) (yt : TypeId) (ho : o.op = .binOp .neq 43 x y yt)
    {p q : Pt} (hx : a.eval x = .agg p.arr) (hy : a.eval y = .agg q.arr) (h1 : p.Wf) (h2 : q.Wf)
    (hK : wpList Tryz.prog ops Q rest (a.put o.dst (.bool (!decide (p = q)))) w) : wpList Tryz.prog ops Q (o :: rest) a w := by
  refine wpList_plain hgd fun K hKK => ?_
  unfold Oper.wp execOp
  simp only [ho, hx, hy, Sem.run_bind, run_eqGuard_agg w _ _ _ _ _ _ guard_ptr, Result.andThen_ok, run_neq_struct, run_equalIn_ptr p q h1 h2 w]
  exact hKK _ _ hK
theorem bytes_back (ks : List UInt8) (birth a : Nat) (b : List UInt8) (hk : ks.length = 64) : cryptB (ks.take 32) (nonceB birth a) (cryptB (ks.take 32) (nonceB birth a) b) = b :=
  cryptB_twice _ _ _ (by rw [List.length_take, hk]; rfl) (nonceB_length _ _)
/-- What was written is read by its pointer. -/
theorem RdPost.back {w w' : World} {ks : List UInt8} {d : Dv} {e : Ending} {n : Nd} {birth a : Nat} (h : RdPost w ks d (sealP ks birth a (nodeB n)) e w') (h1 : d.down = false) (hk : ks.length = 64) (hc : d.cur a = cryptB (ks.take 32) (nonceB birth a) (nodeB n))
    (hfo : formB n = true) (hsz : sizeN n ≤ 512) (hw : ∀ p ∈ n.kids, p.Wf) : ∃ arr, e = .returned (.tuple #[.agg arr, .int .i64 0]) ∧ NdIs w' arr n ∧ Below w.heap.size w w' := by
  obtain ⟨arr, rfl, hnd, hb⟩ := h.get h1 (by show hashN (d.cur a) = _; rw [hc]; rfl)
  have ho : openB ks d (sealP ks birth a (nodeB n)) = nodeB n := by
    unfold openB
    show cryptB _ (nonceB birth a) (d.cur a) = _
    rw [hc, bytes_back _ _ _ _ hk]
  have hg := nodeB_get hfo hsz (checkE_le hfo hsz) hw
  rw [ho, hg.2] at hnd
  rw [ho, hg.1]
  exact ⟨arr, rfl, hnd, hb⟩

set_option maxRecDepth 100000 in
set_option maxHeartbeats 8000000 in
theorem poolTwice_any (arr : Array Value) (n : Nd) (na nb : Nat) (w : World) (h : NdIs w arr n) (hf : n.Fits) (ha : na < 256) (hbb : nb < 256) (hT : Tz w) :
    Calls Tryz.prog 4 #[.agg arr, .int .u8 (na : Int), .int .u8 (nb : Int)] w fun e w' => e = .returned (.bool true) ∧ Below w.heap.size w w' := by
  have hb0 : Below w.heap.size w (w.alloc (.cells arr 25)) := (Below.refl _ w).alloc (Nat.le_refl _) _
  have HB0 := Lib.hid hb0
  have HN0 := Lib.hid (h.below hb0)
  have HT0 := Lib.hid (hT.below hb0)
  have HSZ := Lib.hid h.size
  have HF := Lib.hid hf
  have HWf := Lib.hid (show ∀ p ∈ n.kids, p.Wf by obtain ⟨_, _, _, _, _, _, _, _, _, hp⟩ := h.get; exact hp.wf)
  have HA0 := Lib.hid (heap_alloc_new w (.cells arr 25))
  clear h hf hT hb0
  go_enter Tryz.func4, Tryz.ntmps4
  go_wp2_with fail
  refine (alive13 _ HT0.out).mono ?_
  rintro e w1 ⟨rfl, hb1⟩
  have HB1 := Lib.hid (HB0.out.trans (hb1.mono HB0.out.size))
  have HN1 := Lib.hid (HN0.out.below hb1)
  have HT1 := Lib.hid (HT0.out.below hb1)
  have HA1 := Lib.hid ((hb1.block _ (lt_of_block HA0.out)).trans HA0.out)
  clear hb1 HB0 HN0 HT0 HA0
  go_wp2_with (refine load_nd rfl (.tmp 3) rfl rfl (At_nd HA1.out) HSZ.out ?_)
  refine (heavy_any _ n w1 HN1.out HF.out).mono ?_
  rintro e w2 ⟨rfl, hb2⟩
  have HB2 := Lib.hid (HB1.out.trans (hb2.mono HB1.out.size))
  have HN2 := Lib.hid (HN1.out.below hb2)
  have HT2 := Lib.hid (HT1.out.below hb2)
  have HA2 := Lib.hid ((hb2.block _ (lt_of_block HA1.out)).trans HA1.out)
  clear hb2 HB1 HN1 HT1 HA1
  cases hhv : heavy13 n with
  | true =>
    clear hhv
    go_wp2
    go_ret
    exact ⟨rfl, HB2.out⟩
  | false =>
    clear hhv
    go_wp2_with fail
    refine (made_ps 16 w2 (by decide) (by decide)).mono ?_
    rintro e w3 ⟨P, D, S, W, lo, rfl, hps, hb3⟩
    obtain ⟨ks, hks⟩ : ∃ ks, ks = MK := ⟨_, rfl⟩
    rw [← hks] at hps ⊢
    have HKl := Lib.hid (show ks.length = 64 by rw [hks]; exact MK_length)
    have HP3 := Lib.hid (hps w2.heap.size (Nat.le_refl _))
    have HX3 := Lib.hid hb3
    clear hks hps hb3
    go_wp2_with (refine wpList_store_row rfl _ (.tmp 9) (.tmp 27) rfl w3.heap.size rfl (ks.map Bv) rfl _ _ (heap_alloc_new w3 (.cells ((zB 64).map Bv).toArray 35)) (by rw [List.length_map, HKl.out]; rfl) (Bv_oneCell _) (by rw [info_keys, List.length_map, HKl.out]) ?_; intro w4 hg hf hs; have HGw4 := Lib.hid hg; have HBww4 := Lib.hid (show Below w3.heap.size w3 w4 from ((Below.refl _ w3).alloc (Nat.le_refl _) _).trans (hf.below (by simp) (fun j hj => by omega))); clear hg hf hs)
    have HP4 := Lib.hid (HP3.out.add HBww4.out HGw4.out (Nat.le_refl _))
    have HX4 := Lib.hid (HX3.out.trans (HBww4.out.mono HX3.out.size))
    clear HP3 HX3 HGw4 HBww4
    refine (begin_ps w2.heap.size P D S W lo 0 ks noneT _ _ w4 (na + 1) HP4.out HX4.out.size (by omega) (by omega)).mono ?_
    rintro e w5 ⟨rfl, hp5, hx5⟩
    have HP5 := Lib.hid hp5
    have HX5 := Lib.hid (HX4.out.trans hx5)
    clear hp5 hx5 HP4 HX4
    have HA5 := Lib.hid ((HX5.out.block _ (lt_of_block HA2.out)).trans HA2.out)
    go_wp2_with (refine load_nd rfl (.tmp 3) rfl rfl (At_nd HA5.out) HSZ.out ?_)
    by_cases hc : checkE n = 0
    · obtain ⟨hfo, hsz⟩ := checkE_split.1 hc
      clear hc
      have HFo := Lib.hid hfo
      have HSi := Lib.hid hsz
      clear hfo hsz
      refine (write_ps_ok w2.heap.size P D S W lo (na + 1) ks noneT _ _ w5 arr n HP5.out HX5.out.size (HN2.out.below HX5.out) (HT2.out.below HX5.out) (by omega) HF.out HFo.out HSi.out 2 (by decide) rfl (step_up (d := Dv.new 16) rfl).1 (by decide)).mono ?_
      rintro e w6 ⟨rfl, hp6, hx6⟩
      obtain ⟨c1, hc1⟩ : ∃ c, c = cryptB (ks.take 32) (nonceB (na + 1) 2) (nodeB n) := ⟨_, rfl⟩
      obtain ⟨p1, hp1⟩ : ∃ p, p = sealP ks (na + 1) 2 (nodeB n) := ⟨_, rfl⟩
      have HPv := Lib.hid (show p1.addr = 2 ∧ p1.birth = na + 1 by rw [hp1]; exact ⟨rfl, rfl⟩)
      have HPw := Lib.hid (show p1.Wf by rw [hp1]; exact sealP_wf _ _ _ _ (by omega) (by decide))
      rw [← hc1] at hp6
      obtain ⟨d1, hd1⟩ : ∃ d, d = (Dv.new 16).step.wrote 2 c1 := ⟨_, rfl⟩
      rw [← hd1] at hp6
      have H1 := Lib.hid (show d1.size = 16 ∧ d1.down = false ∧ d1.left = -1 ∧ d1.waits.length = 1 ∧ d1.cur 2 = c1 by
        refine ⟨by rw [hd1]; rfl, ?_, ?_, by rw [hd1]; rfl, by rw [hd1, Dv.cur_wrote, if_pos rfl]⟩
        · rw [hd1]; exact (step_up (d := Dv.new 16) rfl).1
        · rw [hd1]; exact (step_up (d := Dv.new 16) rfl).2)
      rw [← hp1]
      have HC1 := Lib.hid hc1
      have HQ1 := Lib.hid hp1
      have HP6 := Lib.hid hp6
      have HX6 := Lib.hid (HX5.out.trans hx6)
      clear hp1 hc1 hd1 hp6 hx6 HP5 HX5 HA5
      go_wp2_with (refine store_ptr rfl (.tmp 11) (.tmp 43) rfl rfl (p := p1) rfl (heap_alloc_new w6 (.cells Pt.zero.arr 43)) Pt.zero_wf.size HPw.out ?_; intro w7 hg hf hs; have HGw7 := Lib.hid hg; have HBww7 := Lib.hid (show Below w6.heap.size w6 w7 from ((Below.refl _ w6).alloc (Nat.le_refl _) _).trans (hf.below (by simp) (fun j hj => by omega))); clear hg hf hs)
      have HP7 := Lib.hid (HP6.out.add HBww7.out HGw7.out (Nat.le_refl _))
      have HX7 := Lib.hid (HX6.out.trans (HBww7.out.mono HX6.out.size))
      have HL6 := Lib.hid (lt_of_block HGw7.out)
      clear HP6 HX6 HGw7 HBww7
      refine (begin_ps w2.heap.size P D S W lo (na + 1) ks _ _ _ w7 (nb + 1) HP7.out HX7.out.size (by omega) (by omega)).mono ?_
      rintro e w8 ⟨rfl, hp8, hx8⟩
      have HP8 := Lib.hid hp8
      have HX8 := Lib.hid (HX7.out.trans hx8)
      clear hp8 hx8 HP7 HX7
      have HA8 := Lib.hid ((HX8.out.block _ (lt_of_block HA2.out)).trans HA2.out)
      go_wp2_with (refine load_nd rfl (.tmp 3) rfl rfl (At_nd HA8.out) HSZ.out ?_)
      refine (write_ps_ok w2.heap.size P D S W lo (nb + 1) ks (updT noneT 2 true) d1 _ w8 arr n HP8.out HX8.out.size (HN2.out.below HX8.out) (HT2.out.below HX8.out) (by omega) HF.out HFo.out HSi.out 3 (by rw [H1.out.1]; decide) H1.out.2.1 ((step_up H1.out.2.2.1).1.trans H1.out.2.1) (by rw [H1.out.2.2.2.1]; decide)).mono ?_
      rintro e w9 ⟨rfl, hp9, hx9⟩
      obtain ⟨c2, hc2⟩ : ∃ c, c = cryptB (ks.take 32) (nonceB (nb + 1) 3) (nodeB n) := ⟨_, rfl⟩
      obtain ⟨p2, hp2⟩ : ∃ p, p = sealP ks (nb + 1) 3 (nodeB n) := ⟨_, rfl⟩
      have HRv := Lib.hid (show p2.addr = 3 ∧ p2.birth = nb + 1 by rw [hp2]; exact ⟨rfl, rfl⟩)
      have HRw := Lib.hid (show p2.Wf by rw [hp2]; exact sealP_wf _ _ _ _ (by omega) (by decide))
      rw [← hc2] at hp9
      obtain ⟨d2, hd2⟩ : ∃ d, d = d1.step.wrote 3 c2 := ⟨_, rfl⟩
      rw [← hd2] at hp9
      have H2 := Lib.hid (show d2.size = 16 ∧ d2.down = false ∧ d2.waits.length = 2 ∧ d2.cur 2 = c1 ∧ d2.cur 3 = c2 by
        refine ⟨by rw [hd2]; exact H1.out.1, ?_, ?_, ?_, by rw [hd2, Dv.cur_wrote, if_pos rfl]⟩
        · rw [hd2]; exact (step_up H1.out.2.2.1).1.trans H1.out.2.1
        · rw [hd2]; show (d1.waits ++ [_]).length = 2; rw [List.length_append, H1.out.2.2.2.1]; rfl
        · rw [hd2, Dv.cur_wrote, if_neg (by decide)]; exact H1.out.2.2.2.2)
      rw [← hp2]
      have HC2 := Lib.hid hc2
      have HQ2 := Lib.hid hp2
      have HP9 := Lib.hid hp9
      have HX9 := Lib.hid (HX8.out.trans hx9)
      clear hp2 hc2 hd2 hp9 hx9 HP8 HX8 HA8
      have hpe1 : ptrE p1 d2.size = 0 := by
        rw [H2.out.1]
        refine ptrE_ok ?_
        unfold ptrOk
        rw [if_neg (by rw [HPv.out.1]; decide), HPv.out.1, HPv.out.2]
        simp
      have hpe2 : ptrE p2 d2.size = 0 := by
        rw [H2.out.1]
        refine ptrE_ok ?_
        unfold ptrOk
        rw [if_neg (by rw [HRv.out.1]; decide), HRv.out.1, HRv.out.2]
        simp
      have HE1 := Lib.hid hpe1
      have HE2 := Lib.hid hpe2
      clear hpe1 hpe2
      go_wp2_with (first | (refine store_ptr rfl (.tmp 13) (.tmp 55) rfl rfl (p := p2) rfl (heap_alloc_new w9 (.cells Pt.zero.arr 43)) Pt.zero_wf.size HRw.out ?_; intro w10 hg hf hs; have HGw10 := Lib.hid hg; have HBww10 := Lib.hid (show Below w9.heap.size w9 w10 from ((Below.refl _ w9).alloc (Nat.le_refl _) _).trans (hf.below (by simp) (fun j hj => by omega))); clear hg hf hs; have HP10 := Lib.hid (HP9.out.add HBww10.out HGw10.out (Nat.le_refl _)); have HX10 := Lib.hid (HX9.out.trans (HBww10.out.mono HX9.out.size)); have HR10 := Lib.hid (show w10.heap[w6.heap.size]? = some (.cells p1.cells.toArray 43 (0, 0)) from HP10.out.row (List.mem_cons_of_mem _ List.mem_cons_self))) | (refine load_ptr rfl (.tmp 11) rfl rfl (At.of_row HR10.out) HPw.out ?_))
      clear HP9 HX9 HGw10 HBww10
      refine (read_ps w2.heap.size P D S W lo (nb + 1) ks _ d2 _ w10 p1 HP10.out HPw.out (by rw [HPv.out.1]; decide) HE1.out (by rw [H2.out.2.2.1]; decide)).mono ?_
      rintro e w11 hpost
      rw [HQ1.out] at hpost
      obtain ⟨arr1, rfl, hn11, hb11⟩ := hpost.back H2.out.2.1 HKl.out (by rw [← HC1.out]; exact H2.out.2.2.2.1) HFo.out HSi.out HWf.out
      have HN11 := Lib.hid hn11
      have HSA := Lib.hid hn11.size
      have HP11 := Lib.hid (HP10.out.below hb11)
      have HX11 := Lib.hid (HX10.out.trans (hb11.mono HX10.out.size))
      clear hn11 hb11 HP10 HX10 HR10 hpost
      go_wp2_with (first | (refine store_nd rfl (.tmp 15) (.tmp 70) rfl rfl (arr := arr1) rfl (heap_alloc_new w11 (.cells zeroArr 25)) rfl HSA.out HN11.out.one ?_; intro w12 hg hf hs; have HGw12 := Lib.hid hg; have HBww12 := Lib.hid (show Below w11.heap.size w11 w12 from ((Below.refl _ w11).alloc (Nat.le_refl _) _).trans (hf.below (by simp) (fun j hj => by omega))); clear hg hf hs; have HP12 := Lib.hid (HP11.out.add HBww12.out HGw12.out (Nat.le_refl _)); have HX12 := Lib.hid (HX11.out.trans (HBww12.out.mono HX11.out.size)); have HN12 := Lib.hid (HN11.out.below HBww12.out); have HR12 := Lib.hid (show w12.heap[w9.heap.size]? = some (.cells p2.cells.toArray 43 (0, 0)) from HP12.out.row (List.mem_cons_of_mem _ List.mem_cons_self))) | (refine load_ptr rfl (.tmp 13) rfl rfl (At.of_row HR12.out) HRw.out ?_))
      clear HP11 HX11 HGw12 HBww12 HN11
      refine (read_ps w2.heap.size P D S W lo (nb + 1) ks _ d2 _ w12 p2 HP12.out HRw.out (by rw [HRv.out.1]; decide) HE2.out (by rw [H2.out.2.2.1]; decide)).mono ?_
      rintro e w13 hpost
      rw [HQ2.out] at hpost
      obtain ⟨arr2, rfl, hn13, hb13⟩ := hpost.back H2.out.2.1 HKl.out (by rw [← HC2.out]; exact H2.out.2.2.2.2) HFo.out HSi.out HWf.out
      have HN13 := Lib.hid hn13
      have HM13 := Lib.hid (HN12.out.below hb13)
      have HSB := Lib.hid hn13.size
      have HP13 := Lib.hid (HP12.out.below hb13)
      have HX13 := Lib.hid (HX12.out.trans (hb13.mono HX12.out.size))
      clear hn13 hb13 HP12 HX12 HR12 HN12 hpost
      have hne : decide (p1 = p2) = false := decide_eq_false (fun e => by have h1 := HPv.out.1; rw [e, HRv.out.1] at h1; cases h1)
      go_wp2_with (first | (refine store_nd rfl (.tmp 17) (.tmp 76) rfl rfl (arr := arr2) rfl (heap_alloc_new w13 (.cells zeroArr 25)) rfl HSB.out HN13.out.one ?_; intro w14 hg hf hs; have HGw14 := Lib.hid hg; have HBww14 := Lib.hid (show Below w13.heap.size w13 w14 from ((Below.refl _ w13).alloc (Nat.le_refl _) _).trans (hf.below (by simp) (fun j hj => by omega))); clear hg hf hs; have HP14 := Lib.hid (HP13.out.add HBww14.out HGw14.out (Nat.le_refl _)); have HX14 := Lib.hid (HX13.out.trans (HBww14.out.mono HX13.out.size)); have HN14 := Lib.hid (HN13.out.below HBww14.out); have HM14 := Lib.hid (HM13.out.below HBww14.out); have HR1 := Lib.hid (show w14.heap[w6.heap.size]? = some (.cells p1.cells.toArray 43 (0, 0)) from HP14.out.row (by simp [Pt.arr])); have HR2 := Lib.hid (show w14.heap[w9.heap.size]? = some (.cells p2.cells.toArray 43 (0, 0)) from HP14.out.row (by simp [Pt.arr])); have HR3 := Lib.hid (show w14.heap[w11.heap.size]? = some (.cells arr1 25 (0, 0)) from HP14.out.row (by simp)); have HR4 := Lib.hid (show w14.heap[w13.heap.size]? = some (.cells arr2 25 (0, 0)) from HP14.out.row (by simp)); have HA14 := Lib.hid ((HX14.out.block _ (lt_of_block HA2.out)).trans HA2.out); have a0 : w14.cell? ⟨w6.heap.size, 0, none⟩ = some (.int .u32 2) := (by rw [cell_of_row _ _ 0 _ _ _ HR1.out]; show some (Value.int .u32 (p1.addr : Int)) = _; rw [HPv.out.1]; rfl); have a1 : w14.cell? ⟨w6.heap.size, 1, none⟩ = some (.int .u64 ((na : Int) + 1)) := (by rw [cell_of_row _ _ 1 _ _ _ HR1.out]; show some (Value.int .u64 (p1.birth : Int)) = _; rw [HPv.out.2]; rfl); have b0 : w14.cell? ⟨w9.heap.size, 0, none⟩ = some (.int .u32 3) := (by rw [cell_of_row _ _ 0 _ _ _ HR2.out]; show some (Value.int .u32 (p2.addr : Int)) = _; rw [HRv.out.1]; rfl); have b1 : w14.cell? ⟨w9.heap.size, 1, none⟩ = some (.int .u64 ((nb : Int) + 1)) := (by rw [cell_of_row _ _ 1 _ _ _ HR2.out]; show some (Value.int .u64 (p2.birth : Int)) = _; rw [HRv.out.2]; rfl)) | (refine load_ptr rfl (.tmp 11) rfl rfl (At.of_row HR1.out) HPw.out ?_) | (refine load_ptr rfl (.tmp 13) rfl rfl (At.of_row HR2.out) HRw.out ?_) | (refine neq_ptr rfl (.tmp 78) (.tmp 79) _ rfl (p := p1) (q := p2) rfl rfl HPw.out HRw.out ?_; rw [hne]) | (refine gload_nd rfl (.tmp 15) rfl rfl (At_nd HR3.out) HSA.out ?_) | (refine gload_nd rfl (.tmp 17) rfl rfl (At_nd HR4.out) HSB.out ?_) | (refine gload_nd rfl (.tmp 3) rfl rfl (At_nd HA14.out) HSZ.out ?_))
      refine (nodeSame_any arr1 arr n n w14 HM14.out (HN2.out.below HX14.out) HF.out HF.out).mono ?_
      rw [sameN_refl]
      rintro e w15 ⟨rfl, hb15⟩
      have HX15 := Lib.hid (HX14.out.trans (hb15.mono HX14.out.size))
      have HN15 := Lib.hid (HN14.out.below hb15)
      have HA15 := Lib.hid ((hb15.block _ (lt_of_block HA14.out)).trans HA14.out)
      have HR5 := Lib.hid ((hb15.block _ (lt_of_block HR4.out)).trans HR4.out)
      clear hb15
      go_wp2_with (first | (refine gload_nd rfl (.tmp 17) rfl rfl (At_nd HR5.out) HSB.out ?_) | (refine gload_nd rfl (.tmp 3) rfl rfl (At_nd HA15.out) HSZ.out ?_))
      refine (nodeSame_any arr2 arr n n w15 HN15.out (HN2.out.below HX15.out) HF.out HF.out).mono ?_
      rw [sameN_refl]
      rintro e w16 ⟨rfl, hb16⟩
      have HX16 := Lib.hid (HX15.out.trans (hb16.mono HX15.out.size))
      clear hb16
      go_wp2
      go_ret
      exact ⟨rfl, HB2.out.trans (HX16.out.mono HB2.out.size)⟩
    · have hcb : (checkE n != 0) = true := by simpa using hc
      refine (write_ps_bad w2.heap.size P D S W lo (na + 1) ks noneT _ _ w5 arr n HP5.out (HN2.out.below HX5.out) (by omega) HF.out hc).mono ?_
      rintro e w6 ⟨rfl, hp6, hb6⟩
      have HP6 := Lib.hid hp6
      have HX6 := Lib.hid (HX5.out.trans (hb6.mono HX5.out.size))
      clear hp6 hb6 HP5 HX5 HA5
      go_wp2_with (refine store_ptr rfl (.tmp 11) (.tmp 43) rfl rfl (p := Pt.zero) rfl (heap_alloc_new w6 (.cells Pt.zero.arr 43)) Pt.zero_wf.size Pt.zero_wf ?_; intro w7 hg hf hs; have HGw7 := Lib.hid hg; have HBww7 := Lib.hid (show Below w6.heap.size w6 w7 from ((Below.refl _ w6).alloc (Nat.le_refl _) _).trans (hf.below (by simp) (fun j hj => by omega))); clear hg hf hs)
      have HP7 := Lib.hid (HP6.out.add HBww7.out HGw7.out (Nat.le_refl _))
      have HX7 := Lib.hid (HX6.out.trans (HBww7.out.mono HX6.out.size))
      clear HP6 HX6 HGw7 HBww7
      refine (begin_ps w2.heap.size P D S W lo (na + 1) ks _ _ _ w7 (nb + 1) HP7.out HX7.out.size (by omega) (by omega)).mono ?_
      rintro e w8 ⟨rfl, hp8, hx8⟩
      have HP8 := Lib.hid hp8
      have HX8 := Lib.hid (HX7.out.trans hx8)
      clear hp8 hx8 HP7 HX7
      have HA8 := Lib.hid ((HX8.out.block _ (lt_of_block HA2.out)).trans HA2.out)
      go_wp2_with (refine load_nd rfl (.tmp 3) rfl rfl (At_nd HA8.out) HSZ.out ?_)
      refine (write_ps_bad w2.heap.size P D S W lo (nb + 1) ks noneT _ _ w8 arr n HP8.out (HN2.out.below HX8.out) (by omega) HF.out hc).mono ?_
      rintro e w9 ⟨rfl, hp9, hb9⟩
      have HX9 := Lib.hid (HX8.out.trans (hb9.mono HX8.out.size))
      clear hp9 hb9 HP8 HX8 HA8 hc
      go_wp2_with (refine store_ptr rfl (.tmp 13) (.tmp 55) rfl rfl (p := Pt.zero) rfl (heap_alloc_new w9 (.cells Pt.zero.arr 43)) Pt.zero_wf.size Pt.zero_wf ?_; intro w10 hg hf hs; have HGw10 := Lib.hid hg; have HBww10 := Lib.hid (show Below w9.heap.size w9 w10 from ((Below.refl _ w9).alloc (Nat.le_refl _) _).trans (hf.below (by simp) (fun j hj => by omega))); clear hg hf hs)
      go_ret
      exact ⟨rfl, HB2.out.trans ((HX9.out.trans (HBww10.out.mono HX9.out.size)).mono HB2.out.size)⟩

end Go.Proofs.YtkbnkdokcmpcgaaGreatDoor
namespace Go.Proofs.YtkbnkdokcmpcgaaGreatDoor
open Go.RowKit

section
variable (B P D S W lo birth : Nat) (ks : List UInt8) (t : Nat → Bool) (d : Dv) (L : List (Nat × Obj)) (w : World)
theorem flush_ps (h : PS B w P D S W lo ks t birth d L) (hB : B ≤ w.heap.size) (hd : d.down = false) (hs : d.step.down = false) (hn : d.waits.length ≤ 1000000) :
    Calls Tryz.prog 29 #[.pointer (some ⟨D, 0, none⟩)] w fun e w' => e = .returned (.int .i64 0) ∧ PS B w' P D S W lo ks t birth d.step.flushed L ∧ Below B w w' := by
  obtain ⟨F, h1, h2, h3, h4, h5⟩ := h
  refine (dvFlush_ok D lo F d w h2 hd hs hn).mono ?_
  rintro e w' ⟨F', rfl, hdv, hfr, hF⟩
  exact ⟨rfl, PS.after B P D S W lo birth ks t d L w hB h1 h3 h4 h5 rfl (h1.fr hfr (fun k hk => (h4 k hk).2)) hdv hF (hfr.mono (fun k _ hk => Or.inl hk))⟩
theorem poke_ps (a : Nat) (b : List UInt8) (v : Value) (h : PS B w P D S W lo ks t birth d L) (hB : B ≤ w.heap.size) (ha : a < d.size) (hb : b.length = 512) (hv : Sl w 1 v 512 (b.map Bv)) :
    Calls Tryz.prog 31 #[.pointer (some ⟨D, 0, none⟩), .int .u32 (a : Int), v] w fun e w' => e = .returned (.int .i64 0) ∧ PS B w' P D S W lo ks t birth (d.poked a b) L ∧ Below B w w' ∧ ∃ F : Nat → Prop, Fr F w w' ∧ (∀ k, F k → k < w.heap.size) ∧ ∀ b o, (b, o) ∈ L → ¬ F b := by
  obtain ⟨F, h1, h2, h3, h4, h5⟩ := h
  refine (dvPoke_ok D a lo F d b v w h2 ha hb hv).mono ?_
  rintro e w' ⟨rfl, hdv, hfr⟩
  have hps := PS.after B P D S W lo birth ks t d L w hB h1 h3 h4 h5 (show (d.poked a b).size = d.size from rfl) (h1.fr hfr (fun k hk => (h4 k hk).2)) hdv (fun k hk => Or.inl hk) (hfr.mono (fun k _ hk => Or.inl hk))
  exact ⟨rfl, hps.1, hps.2, F, hfr, fun k hk => (h3 k hk).2, fun b o hm => (h5 b o hm).2.1⟩
theorem peek_ps (a : Nat) (h : PS B w P D S W lo ks t birth d L) (ha : a < d.size) :
    Calls Tryz.prog 30 #[.pointer (some ⟨D, 0, none⟩), .int .u32 (a : Int)] w fun e w' => ∃ aa cc, e = .returned (.tuple #[.slice aa 512 cc, .int .i64 0]) ∧ w'.ownsRow w.heap.size 5 1 (.slice aa 512 cc) 512 ((d.lies a).map Bv) ∧ Below w.heap.size w w' := by
  obtain ⟨F, h1, h2, _⟩ := h
  exact dvPeek_ok D a lo F d w h2 ha
end

theorem geql_hash {ops : Array Oper} {rest : List Oper} {o : Oper} {a : Act} {w : World} {Q : Exit → Act → World → Prop} (hw : Region.wanted o (yielded ops a.tmps) = true) (x y : Operand) (yt : TypeId) (ho : o.op = .binOp .eql 33 x y yt)
    {xs ys : List UInt8} (hx : a.eval x = .agg (xs.map Bv).toArray) (hy : a.eval y = .agg (ys.map Bv).toArray) (h1 : xs.length = 32) (h2 : ys.length = 32)
    (hK : wpList Tryz.prog ops Q rest (a.put o.dst (.bool (decide (xs = ys)))) w) : wpList Tryz.prog ops Q (o :: rest) a w := by
  refine BigFrame.wpList_want hw fun K hKK => ?_
  unfold Oper.wp execOp
  simp only [ho, hx, hy, Sem.run_bind, run_eqGuard_agg w _ _ _ _ _ _ guard_hash, Result.andThen_ok, run_eql_hash xs ys h1 h2 w]
  exact hKK _ _ hK
theorem zero_fits : Nd.zero.Fits := ⟨by decide, by decide, by decide, by simp [Nd.zero], by simp [Nd.zero]⟩
/-- Own bytes, some: their block. -/
theorem own_form {w : World} {base n cap : Nat} {a : Option Addr} {e : TypeId} {xs : List Value} (h : w.ownsRow base e 1 (.slice a n cap) n xs) (hn : 0 < n) : ∃ g o, a = some ⟨g, 0, none⟩ ∧ base ≤ g ∧ n ≤ cap ∧ w.heap[g]? = some o := by
  rcases h.2 with ⟨_, e0⟩ | ⟨g', cap', cur, e0, hb, hg, hnc, hcm, hsz, htk⟩
  · omega
  · injection e0 with e1 e2 e3
    subst e1 e3
    exact ⟨g', _, rfl, hb, hnc, hg⟩
theorem own_keep {w w' : World} {base n cap g : Nat} {e : TypeId} {xs : List Value} (h : w.ownsRow base e 1 (.slice (some ⟨g, 0, none⟩) n cap) n xs) {o : Obj} (h1 : w.heap[g]? = some o) (h2 : w'.heap[g]? = some o) : w'.ownsRow base e 1 (.slice (some ⟨g, 0, none⟩) n cap) n xs := by
  refine ⟨h.1, ?_⟩
  rcases h.2 with ⟨e0, _⟩ | ⟨g', cap', cur, e0, hb, hg, rest⟩
  · cases e0
  · injection e0 with e1 e2 e3
    injection e1 with e4
    injection e4 with e5
    subst e5 e3
    exact .inr ⟨g, cap, cur, rfl, hb, (h2.trans h1.symm).trans hg, rest⟩
/-- A row of L is turned into another. -/
theorem PS.turn {B P D S W lo birth : Nat} {w w' : World} {ks : List UInt8} {t : Nat → Bool} {d : Dv} {L : List (Nat × Obj)} {g : Nat} {o o' : Obj} (h : PS B w P D S W lo ks t birth d ((g, o) :: L)) (hf : Fr (fun k => k = g) w w') (hg : w'.heap[g]? = some o') (hn : ∀ b o, (b, o) ∈ L → b ≠ g) :
    PS B w' P D S W lo ks t birth d ((g, o') :: L) := by
  obtain ⟨F, h1, h2, h3, h4, h5⟩ := h
  have hg5 := h5 g o List.mem_cons_self
  refine ⟨F, h1.fr hf (fun k hk e => hg5.2.2 (e ▸ hk)), h2.fr hf (fun k hk e => hg5.2.1 (e ▸ hk)), fun k hk => ⟨(h3 k hk).1, Nat.lt_of_lt_of_le (h3 k hk).2 hf.size⟩, h4, fun b o2 hm => ?_⟩
  rcases List.mem_cons.1 hm with e | hm
  · injection e with e1 e2
    subst e1 e2
    exact ⟨hg, hg5.2⟩
  · have h6 := h5 b o2 (List.mem_cons_of_mem _ hm)
    exact ⟨(hf.block b (lt_of_block h6.1) (hn b o2 hm)).trans h6.1, h6.2⟩

theorem over_taken {α : Type} (cur : List α) (n off : Nat) (Y : List α) (h : off + Y.length ≤ n) (hn : n ≤ cur.length) : (cur.take off ++ (Y ++ cur.drop (off + Y.length))).take n = over (cur.take n) off Y := by
  unfold over
  rw [List.take_append, List.take_append, List.take_of_length_le (show (cur.take off).length ≤ n by rw [List.length_take]; omega), List.take_take, List.drop_take, List.length_take, Nat.min_eq_left (show off ≤ n by omega), Nat.min_eq_left (show off ≤ cur.length by omega), List.take_of_length_le (show Y.length ≤ n - off by omega), Nat.sub_sub]
theorem over_map {α β : Type} (f : α → β) (xs ys : List α) (off : Nat) : over (xs.map f) off (ys.map f) = (over xs off ys).map f := by simp [over]
/-- copy into own bytes, from a place on. -/
theorem copy_owned {w : World} {ops : Array Oper} {rest : List Oper} {o : Oper} {a : Act} {Q : Exit → Act → World → Prop} (hgd : o.guard = none) (d s : Operand)
    (ho : o.op = .call { callee := .builtin .copy, args := #[d, s], argTypes := #[26, 26] })
    {base g n cap off dCap : Nat} {xs ys : List UInt8} {vs : Value} {m : Nat} (hown : w.ownsRow base 5 1 (.slice (some ⟨g, 0, none⟩) n cap) n (xs.map Bv)) (hsrc : Sl w 1 vs m (ys.map Bv))
    (hd : a.eval d = .slice (some ⟨g, off, none⟩) (n - off) dCap) (hs : a.eval s = vs) (hoff : off ≤ n)
    (h : ∀ w' o', w'.ownsRow base 5 1 (.slice (some ⟨g, 0, none⟩) n cap) n ((over xs off (ys.take (min m (n - off)))).map Bv) → w'.heap[g]? = some o' → Fr (fun k => k = g) w w' → wpList Tryz.prog ops Q rest (a.put o.dst (.int .i64 (min m (n - off) : Nat))) w') :
    wpList Tryz.prog ops Q (o :: rest) a w := by
  obtain ⟨hl, sp, sCap, rfl, hsc, hnil, hc⟩ := hsrc
  have hyl : ys.length = m := by simpa using hl
  have hxl : xs.length = n := by have := hown.1; simpa using this
  have hrow : ∃ cur, w.heap[g]? = some (.cells cur 5 (0, 0)) ∧ n ≤ cur.size ∧ base ≤ g ∧ n ≤ cap ∧ cap ≤ maxLen ∧ cur.size = cap * 1 ∧ cur.toList.take n = xs.map Bv := by
    rcases hown.2 with ⟨e, _⟩ | ⟨g', cap', cur, e, hb, hg, hnc, hcm, hsz, htk⟩
    · cases e
    · injection e with e1 e2 e3
      injection e1 with e4
      injection e4 with e5
      subst e5
      subst e3
      exact ⟨cur, hg, by omega, hb, hnc, hcm, hsz, by simpa using htk⟩
  obtain ⟨cur, hg, hcn, hbg, hnc, hcm, hsz, htk⟩ := hrow
  by_cases h0 : min m (n - off) = 0
  · refine wpList_copy_nothing hgd d s _ _ ho 5 Tryz.underlying26 size_u8' _ _ (n - off) dCap m sCap hd hs (by simpa [Nat.min_def] using h0) ?_
    have := h w _ (by rw [h0]; simpa [over] using hown) hg (Fr.refl _ _)
    rw [h0] at this
    exact this
  · have hn0 : 0 < m := by omega
    obtain ⟨b, o', rfl, _⟩ := hc 0 (Bv (ys[0]'(by omega))) (by simp [show 0 < ys.length by omega])
    have hlt : (ys.take (min m (n - off))).length = min m (n - off) := by rw [List.length_take]; omega
    refine wpList_copy_own hgd d s _ _ ho 5 Tryz.underlying26 size_u8' g off (n - off) dCap ⟨b, o', none⟩ m sCap hd hs cur 5 hg ((ys.take (min m (n - off))).map Bv) (by rw [List.length_map, hlt]) ?_ (by simp only [List.length_map, hlt]; omega) (Bv_oneCell _) ?_
    · intro j u hj
      rw [List.map_take, List.getElem?_take] at hj
      split at hj
      · obtain ⟨b2, o2, e, hc2⟩ := hc j u hj
        simp only [Option.some.injEq, Addr.mk.injEq, and_true] at e
        obtain ⟨rfl, rfl⟩ := e
        rw [Addr.add_lit]; exact hc2
      · cases hj
    · have e3 : goInt ((ys.take (min m (n - off))).map Bv).length = .int .i64 (min m (n - off) : Nat) := by rw [List.length_map, hlt]; rfl
      rw [e3]
      have hset := setRow_heap w g cur (cur.toList.take off ++ ((ys.take (min m (n - off))).map Bv ++ cur.toList.drop (off + ((ys.take (min m (n - off))).map Bv).length))).toArray 5 _ hg
      refine h _ _ ?_ hset ⟨rfl, rfl, rfl, by simp, fun k _ hk => setRow_other w g k _ hk⟩
      have hcl : cur.toList.length = cap := by rw [Array.length_toList, hsz, Nat.mul_one]
      refine ⟨by rw [List.length_map, over_length _ _ _ (by rw [hlt]; omega)]; omega, .inr ⟨g, cap, _, rfl, hbg, hset, hnc, hcm, ?_, ?_⟩⟩
      · simp only [List.size_toArray, List.length_append, List.length_take, List.length_drop, List.length_map, hcl]; omega
      · rw [Nat.mul_one, over_taken cur.toList n off _ (by rw [List.length_map, hlt]; omega) (by omega), htk, over_map]

set_option maxRecDepth 100000 in
set_option maxHeartbeats 8000000 in
theorem poolTurns_any (arr : Array Value) (n : Nd) (v : Value) (bs : List UInt8) (na : Nat) (w : World) (h : NdIs w arr n) (hf : n.Fits) (hb : Sl w 1 v bs.length (bs.map Bv)) (ha : na < 65536) (hT : Tz w) :
    Calls Tryz.prog 7 #[.agg arr, v, .int .u16 (na : Int)] w fun e w' => e = .returned (.bool true) ∧ Below w.heap.size w w' := by
  obtain ⟨a1, c1, rfl, _⟩ := hb.len
  have HSF := Lib.hid (fun (w' : World) (hh : Below w.heap.size w w') => (hb.below hh : Sl w' 1 (.slice a1 bs.length c1) bs.length (bs.map Bv)))
  clear hb
  have hb0 : Below w.heap.size w (w.alloc (.cells arr 25)) := (Below.refl _ w).alloc (Nat.le_refl _) _
  have HB0 := Lib.hid hb0
  have HN0 := Lib.hid (h.below hb0)
  have HT0 := Lib.hid (hT.below hb0)
  have HSZ := Lib.hid h.size
  have HF := Lib.hid hf
  have HWf := Lib.hid (show ∀ p ∈ n.kids, p.Wf by obtain ⟨_, _, _, _, _, _, _, _, _, hp⟩ := h.get; exact hp.wf)
  have HA0 := Lib.hid (heap_alloc_new w (.cells arr 25))
  clear h hf hT hb0
  go_enter Tryz.func7, Tryz.ntmps7
  go_wp2_with fail
  refine (alive13 _ HT0.out).mono ?_
  rintro e w1 ⟨rfl, hb1⟩
  have HB1 := Lib.hid (HB0.out.trans (hb1.mono HB0.out.size))
  have HN1 := Lib.hid (HN0.out.below hb1)
  have HT1 := Lib.hid (HT0.out.below hb1)
  have HA1 := Lib.hid ((hb1.block _ (lt_of_block HA0.out)).trans HA0.out)
  clear hb1 HB0 HN0 HT0 HA0
  go_wp2_with (refine load_nd rfl (.tmp 3) rfl rfl (At_nd HA1.out) HSZ.out ?_)
  refine (heavy_any _ n w1 HN1.out HF.out).mono ?_
  rintro e w2 ⟨rfl, hb2⟩
  have HB2 := Lib.hid (HB1.out.trans (hb2.mono HB1.out.size))
  have HN2 := Lib.hid (HN1.out.below hb2)
  have HT2 := Lib.hid (HT1.out.below hb2)
  have HA2 := Lib.hid ((hb2.block _ (lt_of_block HA1.out)).trans HA1.out)
  clear hb2 HB1 HN1 HT1 HA1
  cases hhv : heavy13 n with
  | true =>
    clear hhv
    go_wp2
    go_ret
    exact ⟨rfl, HB2.out⟩
  | false =>
    clear hhv
    by_cases hl : (512 : Int) < (bs.length : Int)
    · go_wp2
      go_ret
      exact ⟨rfl, HB2.out⟩
    have HLn := Lib.hid (show bs.length ≤ 512 by omega)
    go_wp2_with fail
    refine (made_ps 16 w2 (by decide) (by decide)).mono ?_
    rintro e w3 ⟨P, D, S, W, lo, rfl, hps, hb3⟩
    obtain ⟨ks, hks⟩ : ∃ ks, ks = MK := ⟨_, rfl⟩
    rw [← hks] at hps ⊢
    have HKl := Lib.hid (show ks.length = 64 by rw [hks]; exact MK_length)
    have HP3 := Lib.hid (hps w2.heap.size (Nat.le_refl _))
    have HX3 := Lib.hid hb3
    clear hks hps hb3
    go_wp2_with (refine wpList_store_row rfl _ (.tmp 9) (.tmp 31) rfl w3.heap.size rfl (ks.map Bv) rfl _ _ (heap_alloc_new w3 (.cells ((zB 64).map Bv).toArray 35)) (by rw [List.length_map, HKl.out]; rfl) (Bv_oneCell _) (by rw [info_keys, List.length_map, HKl.out]) ?_; intro w4 hg hf hs; have HGw4 := Lib.hid hg; have HBww4 := Lib.hid (show Below w3.heap.size w3 w4 from ((Below.refl _ w3).alloc (Nat.le_refl _) _).trans (hf.below (by simp) (fun j hj => by omega))); clear hg hf hs)
    have HP4 := Lib.hid (HP3.out.add HBww4.out HGw4.out (Nat.le_refl _))
    have HX4 := Lib.hid (HX3.out.trans (HBww4.out.mono HX3.out.size))
    clear HP3 HX3 HGw4 HBww4
    clear hl
    refine (begin_ps w2.heap.size P D S W lo 0 ks noneT _ _ w4 3 HP4.out HX4.out.size (by decide) (by decide)).mono ?_
    rintro e w5 ⟨rfl, hp5, hx5⟩
    have HP5 := Lib.hid hp5
    have HX5 := Lib.hid (HX4.out.trans hx5)
    clear hp5 hx5 HP4 HX4
    have HA5 := Lib.hid ((HX5.out.block _ (lt_of_block HA2.out)).trans HA2.out)
    go_wp2_with (refine load_nd rfl (.tmp 3) rfl rfl (At_nd HA5.out) HSZ.out ?_)
    by_cases hc : checkE n = 0
    · obtain ⟨hfo, hsz⟩ := checkE_split.1 hc
      clear hc
      have HFo := Lib.hid hfo
      have HSi := Lib.hid hsz
      clear hfo hsz
      refine (write_ps_ok w2.heap.size P D S W lo 3 ks noneT _ _ w5 arr n HP5.out HX5.out.size (HN2.out.below HX5.out) (HT2.out.below HX5.out) (by decide) HF.out HFo.out HSi.out 2 (by decide) rfl (step_up (d := Dv.new 16) rfl).1 (by decide)).mono ?_
      rintro e w6 ⟨rfl, hp6, hx6⟩
      obtain ⟨c, hc1⟩ : ∃ c, c = cryptB (ks.take 32) (nonceB 3 2) (nodeB n) := ⟨_, rfl⟩
      obtain ⟨p, hp1⟩ : ∃ p, p = sealP ks 3 2 (nodeB n) := ⟨_, rfl⟩
      have HPv := Lib.hid (show p.addr = 2 ∧ p.birth = 3 ∧ p.sum = hashN c by rw [hp1, hc1]; exact ⟨rfl, rfl, rfl⟩)
      have HPw := Lib.hid (show p.Wf by rw [hp1]; exact sealP_wf _ _ _ _ (by decide) (by decide))
      rw [← hc1] at hp6
      obtain ⟨d1, hd1⟩ : ∃ d, d = (Dv.new 16).step.wrote 2 c := ⟨_, rfl⟩
      rw [← hd1] at hp6
      have H1 := Lib.hid (show d1.size = 16 ∧ d1.down = false ∧ d1.left = -1 ∧ d1.waits.length = 1 ∧ d1.cur 2 = c by
        refine ⟨by rw [hd1]; rfl, ?_, ?_, by rw [hd1]; rfl, by rw [hd1, Dv.cur_wrote, if_pos rfl]⟩
        · rw [hd1]; exact (step_up (d := Dv.new 16) rfl).1
        · rw [hd1]; exact (step_up (d := Dv.new 16) rfl).2)
      have HC := Lib.hid (show c.length = 512 by rw [hc1, cryptB_length _ _ _ (by rw [List.length_take, HKl.out]; rfl) (nonceB_length _ _)]; exact nodeB_length HFo.out HWf.out HSi.out)
      rw [← hp1]
      have HC1 := Lib.hid hc1
      have HQ1 := Lib.hid hp1
      have HP6 := Lib.hid hp6
      have HX6 := Lib.hid (HX5.out.trans hx6)
      clear hp1 hc1 hd1 hp6 hx6 HP5 HX5 HA5
      go_wp2_with (refine store_ptr rfl (.tmp 11) (.tmp 44) rfl rfl (p := p) rfl (heap_alloc_new w6 (.cells Pt.zero.arr 43)) Pt.zero_wf.size HPw.out ?_; intro w7 hg hf hs; have HGw7 := Lib.hid hg; have HBww7 := Lib.hid (show Below w6.heap.size w6 w7 from ((Below.refl _ w6).alloc (Nat.le_refl _) _).trans (hf.below (by simp) (fun j hj => by omega))); clear hg hf hs)
      have HP7 := Lib.hid (HP6.out.add HBww7.out HGw7.out (Nat.le_refl _))
      have HX7 := Lib.hid (HX6.out.trans (HBww7.out.mono HX6.out.size))
      clear HP6 HX6 HGw7 HBww7
      refine (flush_ps w2.heap.size P D S W lo 3 ks _ d1 _ w7 HP7.out HX7.out.size H1.out.2.1 ((step_up H1.out.2.2.1).1.trans H1.out.2.1) (by rw [H1.out.2.2.2.1]; decide)).mono ?_
      rintro e w8 ⟨rfl, hp8, hx8⟩
      obtain ⟨d2, hd2⟩ : ∃ d, d = d1.step.flushed := ⟨_, rfl⟩
      rw [← hd2] at hp8
      have H2 := Lib.hid (show d2.size = 16 ∧ d2.down = false ∧ d2.waits.length = 0 ∧ d2.lies 2 = c ∧ d2.waits = [] by
        refine ⟨by rw [hd2]; exact H1.out.1, ?_, by rw [hd2]; rfl, ?_, by rw [hd2]; rfl⟩
        · rw [hd2]; exact (step_up H1.out.2.2.1).1.trans H1.out.2.1
        · rw [hd2]; exact H1.out.2.2.2.2)
      have HP8 := Lib.hid hp8
      have HX8 := Lib.hid (HX7.out.trans hx8)
      clear hd2 hp8 hx8 HP7 HX7
      have hr8 := HP8.out.row (show (w6.heap.size, Obj.cells p.arr 43) ∈ _ from List.mem_cons_self)
      have a0 : w8.cell? ⟨w6.heap.size, 0, none⟩ = some (.int .u32 2) := by
        rw [cell_of_row _ _ 0 _ _ _ hr8]; show some (Value.int .u32 (p.addr : Int)) = _; rw [HPv.out.1]; rfl
      clear hr8
      go_wp2_with fail
      refine (peek_ps w2.heap.size P D S W lo 3 ks _ d2 _ w8 2 HP8.out (by rw [H2.out.1]; decide)).mono ?_
      rintro e w9 ⟨aa, cc, rfl, ho9, hb9⟩
      rw [H2.out.2.2.2.1] at ho9
      obtain ⟨gw, o9, rfl, hgw, -, hr9⟩ := own_form ho9 (by decide)
      have HO9 := Lib.hid ho9
      have HR9 := Lib.hid hr9
      have HP9 := Lib.hid (HP8.out.add hb9 hr9 hgw)
      have HX9 := Lib.hid (HX8.out.trans (hb9.mono HX8.out.size))
      clear ho9 hb9 hr9 HP8 HX8 a0
      go_wp2_with (first | (refine append_u8 rfl (.tmp 61) (.tmp 62) rfl (own_empty w9) (vx := .slice (some ⟨gw, 0, none⟩) 512 cc) (m := 512) (news := c) ((Sl.own HO9.out).below ((Below.refl _ w9).alloc (Nat.le_refl _) _)) rfl rfl (by decide) (by simp) ?_; intro aa2 cc2 w10 ho10 hf10 _; rw [Nat.zero_add, List.nil_append] at ho10; obtain ⟨g2, o10, rfl, hg2, hcc2, hr10⟩ := own_form ho10 (by decide); have hcne : ¬ cc2 = na % 512 := (by omega); have HO10 := Lib.hid ho10; have HB10 := Lib.hid (((Below.refl _ w9).alloc (Nat.le_refl _) _).trans (hf10.below (by simp) (fun k e => Nat.le_of_eq (Option.some.inj e)))); have HP10 := Lib.hid (HP9.out.add HB10.out hr10 hg2); have HX10 := Lib.hid (HX9.out.trans (HB10.out.mono HX9.out.size)); have HG2 := Lib.hid hg2; clear ho10 hf10 hr10) | (refine copy_owned rfl (.tmp 68) (.tmp 69) rfl HO10.out (off := na % 512) (m := bs.length) (ys := bs) (HSF.out w10 (HB2.out.trans (HX10.out.mono HB2.out.size))) rfl rfl (by omega) ?_; intro w11 o11 ho11 hg11 hf11; have HO11 := Lib.hid ho11; have HR11 := Lib.hid hg11; have HP11 := Lib.hid (HP10.out.turn hf11 hg11 (fun b o hm => by have := lt_of_block (HP9.out.row hm); have := HG2.out; omega)); have HX11 := Lib.hid (HX10.out.trans (hf11.below HX10.out.size (fun k e => by have := HG2.out; have := HX9.out.size; omega))); clear ho11 hg11 hf11; have hr11 := HP11.out.row (show (w6.heap.size, Obj.cells p.arr 43) ∈ _ from List.mem_cons_of_mem _ (List.mem_cons_of_mem _ List.mem_cons_self)); have a0 : w11.cell? ⟨w6.heap.size, 0, none⟩ = some (.int .u32 2) := (by rw [cell_of_row _ _ 0 _ _ _ hr11]; show some (Value.int .u32 (p.addr : Int)) = _; rw [HPv.out.1]; rfl); clear hr11) | (fail))
      obtain ⟨cn, hcn⟩ : ∃ cn, cn = over c (na % 512) (bs.take (min bs.length (512 - na % 512))) := ⟨_, rfl⟩
      rw [← hcn] at HO11
      have hcnl : cn.length = 512 := by have := HO11.out.1; simpa using this
      have HCn := Lib.hid hcnl
      clear hcn hcnl HO10 HP10 HX10 HB10
      refine (poke_ps w2.heap.size P D S W lo 3 ks _ d2 _ w11 2 cn _ HP11.out HX11.out.size (by rw [H2.out.1]; decide) HCn.out (Sl.own HO11.out)).mono ?_
      rintro e w12 ⟨rfl, hp12, hx12, -⟩
      obtain ⟨d3, hd3⟩ : ∃ d, d = d2.poked 2 cn := ⟨_, rfl⟩
      rw [← hd3] at hp12
      have H3 := Lib.hid (show d3.size = 16 ∧ d3.down = false ∧ d3.waits.length = 0 ∧ d3.cur 2 = cn by
        refine ⟨by rw [hd3]; exact H2.out.1, by rw [hd3]; exact H2.out.2.1, by rw [hd3]; exact H2.out.2.2.1, ?_⟩
        rw [hd3]
        unfold Dv.cur
        rw [show (d2.poked 2 cn).waits = [] from H2.out.2.2.2.2, lastI_nil]
        show (d2.poked 2 cn).lies 2 = cn
        unfold Dv.poked
        simp)
      have HP12 := Lib.hid hp12
      have HX12 := Lib.hid (HX11.out.trans hx12)
      clear hd3 hp12 hx12 HX11 a0
      have HO2 := Lib.hid (own_keep HO11.out HR11.out (HP12.out.row List.mem_cons_self))
      have HO1 := Lib.hid (own_keep HO9.out HR9.out (HP12.out.row (List.mem_cons_of_mem _ List.mem_cons_self)))
      have hr12 := Lib.hid (show w12.heap[w6.heap.size]? = some (.cells p.cells.toArray 43 (0, 0)) from HP12.out.row (List.mem_cons_of_mem _ (List.mem_cons_of_mem _ List.mem_cons_self)))
      clear HO11 HO9 HP11 HP9 HX9 HR11 HR9
      have HA12 := Lib.hid ((HX12.out.block _ (lt_of_block HA2.out)).trans HA2.out)
      go_wp2_with (refine load_ptr rfl (.tmp 11) rfl rfl (At.of_row hr12.out) HPw.out ?_)
      have hpe : ptrE p d3.size = 0 := by
        rw [H3.out.1]
        refine ptrE_ok ?_
        unfold ptrOk
        rw [if_neg (by rw [HPv.out.1]; decide), HPv.out.1, HPv.out.2.1]; decide
      refine (read_ps w2.heap.size P D S W lo 3 ks _ d3 _ w12 p HP12.out HPw.out (by rw [HPv.out.1]; decide) hpe (by rw [H3.out.2.2.1]; decide)).mono ?_
      rintro e w13 hpost
      by_cases hs : cn = c
      · rw [HQ1.out] at hpost
        obtain ⟨arr2, rfl, hnd, hb13⟩ := hpost.back H3.out.2.1 HKl.out (by rw [← HC1.out, ← hs]; exact H3.out.2.2.2) HFo.out HSi.out HWf.out
        have HN13 := Lib.hid hnd
        have HSA := Lib.hid hnd.size
        have HX13 := Lib.hid (HX12.out.trans (hb13.mono HX12.out.size))
        have HS2 := Lib.hid ((Sl.own HO2.out).below hb13)
        have HS1 := Lib.hid ((Sl.own HO1.out).below hb13)
        have hds : decide (cn = c) = true := decide_eq_true hs
        clear hnd hb13 hpost hs
        go_wp2_with (refine store_nd rfl (.tmp 16) (.tmp 80) rfl rfl (arr := arr2) rfl (heap_alloc_new w13 (.cells zeroArr 25)) rfl HSA.out HN13.out.one ?_; intro w14 hg hf hs; have HGw14 := Lib.hid hg; have HBww14 := Lib.hid (show Below w13.heap.size w13 w14 from ((Below.refl _ w13).alloc (Nat.le_refl _) _).trans (hf.below (by simp) (fun j hj => by omega))); clear hg hf hs)
        have HX14 := Lib.hid (HX13.out.trans (HBww14.out.mono HX13.out.size))
        have HA14 := Lib.hid ((HX14.out.block _ (lt_of_block HA2.out)).trans HA2.out)
        have HG14 := Lib.hid HGw14.out
        refine (same_any _ _ 512 512 cn c w14 (HS2.out.below HBww14.out) (HS1.out.below HBww14.out)).mono ?_
        rw [hds]
        rintro e w15 ⟨rfl, rfl⟩
        go_wp2_with (first | (refine gload_nd rfl (.tmp 16) rfl rfl (At_nd HG14.out) HSA.out ?_) | (refine gload_nd rfl (.tmp 3) rfl rfl (At_nd HA14.out) HSZ.out ?_))
        refine (nodeSame_any arr2 arr n n w14 (HN13.out.below HBww14.out) (HN2.out.below HX14.out) HF.out HF.out).mono ?_
        rw [sameN_refl]
        rintro e w16 ⟨rfl, hb16⟩
        have HX16 := Lib.hid (HX14.out.trans (hb16.mono HX14.out.size))
        clear hb16
        go_wp2
        go_ret
        exact ⟨rfl, HB2.out.trans (HX16.out.mono HB2.out.size)⟩
      · have hds : decide (cn = c) = false := decide_eq_false hs
        by_cases hh : hashN cn = hashN c
        · obtain ⟨arr2, rfl, hnd, hb13⟩ := hpost.get H3.out.2.1 (by rw [HPv.out.1, HPv.out.2.2, H3.out.2.2.2, hh])
          have hxl : (openB ks d3 p).length = 512 := by
            unfold openB
            rw [HPv.out.1, H3.out.2.2.2, cryptB_length _ _ _ (by rw [List.length_take, HKl.out]; rfl) (nonceB_length _ _), HCn.out]
          have hec := getE_cases hxl
          obtain ⟨ex, hex⟩ : ∃ ex, ex = getE (openB ks d3 p) := ⟨_, rfl⟩
          rw [← hex] at hec
          rw [← hex]
          have HN13 := Lib.hid hnd
          have HSA := Lib.hid hnd.size
          have HX13 := Lib.hid (HX12.out.trans (hb13.mono HX12.out.size))
          have HS2 := Lib.hid ((Sl.own HO2.out).below hb13)
          have HS1 := Lib.hid ((Sl.own HO1.out).below hb13)
          have HH := Lib.hid hh
          have hx5 : (ex == 5) = false := by rcases hec with e | e <;> (rw [e]; rfl)
          clear hnd hb13 hpost hs hh hxl hec hex
          go_wp2_with (refine store_nd rfl (.tmp 16) (.tmp 80) rfl rfl (arr := arr2) rfl (heap_alloc_new w13 (.cells zeroArr 25)) rfl HSA.out HN13.out.one ?_; intro w14 hg hf hs; have HGw14 := Lib.hid hg; have HBww14 := Lib.hid (show Below w13.heap.size w13 w14 from ((Below.refl _ w13).alloc (Nat.le_refl _) _).trans (hf.below (by simp) (fun j hj => by omega))); clear hg hf hs)
          have HX14 := Lib.hid (HX13.out.trans (HBww14.out.mono HX13.out.size))
          refine (same_any _ _ 512 512 cn c w14 (HS2.out.below HBww14.out) (HS1.out.below HBww14.out)).mono ?_
          rw [hds]
          rintro e w15 ⟨rfl, rfl⟩
          go_wp2_with fail
          have hsum := shaSum_any (.slice (some ⟨g2, 0, none⟩) 512 cc2) cn w14 (by rw [HCn.out]; exact HS2.out.below HBww14.out) (by rw [HCn.out]; decide)
          refine hsum.mono ?_
          clear hsum
          rintro e w15 ⟨rfl, hb15⟩
          have HX15 := Lib.hid (HX14.out.trans (hb15.mono HX14.out.size))
          have HS15 := Lib.hid ((HS1.out.below HBww14.out).below hb15)
          clear hb15
          go_wp2_with fail
          have hsum := shaSum_any (.slice (some ⟨gw, 0, none⟩) 512 cc) c w15 (by rw [HC.out]; exact HS15.out) (by rw [HC.out]; decide)
          refine hsum.mono ?_
          clear hsum
          rintro e w16 ⟨rfl, hb16⟩
          have HX16 := Lib.hid (HX15.out.trans (hb16.mono HX15.out.size))
          clear hb16
          obtain ⟨h1, hh1⟩ : ∃ h, h = hashN cn := ⟨_, rfl⟩
          obtain ⟨h2, hh2⟩ : ∃ h, h = hashN c := ⟨_, rfl⟩
          have L1 := Lib.hid (show h1.length = 32 by rw [hh1]; exact hashN_length _)
          have L2 := Lib.hid (show h2.length = 32 by rw [hh2]; exact hashN_length _)
          have hdh : decide (h1 = h2) = true := decide_eq_true (by rw [hh1, hh2, HH.out])
          rw [← hh1, ← hh2]
          clear hh1 hh2
          go_wp2_with (refine geql_hash rfl (.tmp 101) (.tmp 103) _ rfl rfl rfl L1.out L2.out ?_; rw [hdh])
          go_ret
          exact ⟨rfl, HB2.out.trans (HX16.out.mono HB2.out.size)⟩
        · obtain ⟨rfl, hb13⟩ := hpost.sum H3.out.2.1 (by rw [HPv.out.1, HPv.out.2.2, H3.out.2.2.2]; exact hh)
          have HX13 := Lib.hid (HX12.out.trans (hb13.mono HX12.out.size))
          have HS2 := Lib.hid ((Sl.own HO2.out).below hb13)
          have HS1 := Lib.hid ((Sl.own HO1.out).below hb13)
          clear hb13 hpost hs hh
          go_wp2_with (refine store_nd rfl (.tmp 16) (.tmp 80) rfl rfl (arr := zeroArr) rfl (heap_alloc_new w13 (.cells zeroArr 25)) rfl rfl (zero_is w).one ?_; intro w14 hg hf hs; have HGw14 := Lib.hid hg; have HBww14 := Lib.hid (show Below w13.heap.size w13 w14 from ((Below.refl _ w13).alloc (Nat.le_refl _) _).trans (hf.below (by simp) (fun j hj => by omega))); clear hg hf hs)
          have HX14 := Lib.hid (HX13.out.trans (HBww14.out.mono HX13.out.size))
          refine (same_any _ _ 512 512 cn c w14 (HS2.out.below HBww14.out) (HS1.out.below HBww14.out)).mono ?_
          rw [hds]
          rintro e w15 ⟨rfl, rfl⟩
          go_wp2_with (refine gload_nd rfl (.tmp 16) rfl rfl (At_nd HGw14.out) rfl ?_)
          refine (nodeSame_any zeroArr zeroArr Nd.zero Nd.zero w14 (zero_is _) (zero_is _) zero_fits zero_fits).mono ?_
          rw [sameN_refl]
          rintro e w16 ⟨rfl, hb16⟩
          have HX16 := Lib.hid (HX14.out.trans (hb16.mono HX14.out.size))
          clear hb16
          go_wp2
          go_ret
          exact ⟨rfl, HB2.out.trans (HX16.out.mono HB2.out.size)⟩
    · have hcb : (checkE n != 0) = true := by simpa using hc
      refine (write_ps_bad w2.heap.size P D S W lo 3 ks noneT _ _ w5 arr n HP5.out (HN2.out.below HX5.out) (by decide) HF.out hc).mono ?_
      rintro e w6 ⟨rfl, hp6, hb6⟩
      have HX6 := Lib.hid (HX5.out.trans (hb6.mono HX5.out.size))
      clear hp6 hb6 HP5 HX5 HA5 hc
      go_wp2_with (first | (refine store_ptr rfl (.tmp 11) (.tmp 44) rfl rfl (p := Pt.zero) rfl (heap_alloc_new w6 (.cells Pt.zero.arr 43)) Pt.zero_wf.size Pt.zero_wf ?_; intro w7 hg hf hs; have HGw7 := Lib.hid hg; have HBww7 := Lib.hid (show Below w6.heap.size w6 w7 from ((Below.refl _ w6).alloc (Nat.le_refl _) _).trans (hf.below (by simp) (fun j hj => by omega))); clear hg hf hs; have HX7 := Lib.hid (HX6.out.trans (HBww7.out.mono HX6.out.size)); have HA7 := Lib.hid ((HX7.out.block _ (lt_of_block HA2.out)).trans HA2.out)) | (refine load_nd rfl (.tmp 3) rfl rfl (At_nd HA7.out) HSZ.out ?_))
      refine (check_any arr n w7 (HN2.out.below HX7.out) HF.out).mono ?_
      rintro e w8 ⟨rfl, hb8⟩
      have HX8 := Lib.hid (HX7.out.trans (hb8.mono HX7.out.size))
      clear hb8
      go_wp2
      go_ret
      exact ⟨rfl, HB2.out.trans (HX8.out.mono HB2.out.size)⟩

end Go.Proofs.YtkbnkdokcmpcgaaGreatDoor
