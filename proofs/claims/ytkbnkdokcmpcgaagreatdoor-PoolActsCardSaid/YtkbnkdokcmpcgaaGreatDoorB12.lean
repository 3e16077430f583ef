/- Walks: dev.Peek, Poke, Crash. Slices of strings, and the walks of node's keys, slices.ContainsFunc over them. Two arrays of bytes, compared. What an api.Ptr is, as data; two of them compared; the walks of ptr's Null and Check. -/
import Derived.Test.YtkbnkdokcmpcgaaGreatDoorB0
import Derived.Test.YtkbnkdokcmpcgaaGreatDoorB11
import Derived.Sort.Walk0
import Derived.ChangeKeysEq
import Derived.Laws.StructEq
namespace Go.Proofs.YtkbnkdokcmpcgaaGreatDoor
open Go.RowKit

theorem yields_lookup_sec {ops : Array Oper} {C : World → Prop} {o : Oper} {a : Act} (hw : Region.wanted o (yielded ops a.tmps) = true) (m x : Operand) (ho : o.op = .lookup 148 m x false) {L n : Nat} {ml : List (Nat × Value)} {b : List UInt8}
    (hm : a.eval m = .map (some L)) (hx : a.eval x = .int .u32 (n : Int)) (hu : ∀ w, C w → UM w L ml) (hl : (getU ml n).getD (SecV (zB 512)) = SecV b) : YieldsC Tryz.prog ops C o (SecV b) a :=
  .inl ⟨hw, fun w' hw' => by
    have hr := run_lookup_um (P := Tryz.prog) (hu w' hw') Tryz.underlying148 Tryz.underlying41 (zero_sec w') false (n := n)
    rw [if_neg (by decide), hl] at hr
    unfold kU at hr
    unfold execOp
    simp only [ho, hm, hx, Sem.run_bind, hr, Result.andThen_ok, Sem.run_pure]⟩
theorem sl_at {w : World} {b o n c : Nat} {xs : List Value} (h : At w b o xs) (hl : xs.length = n) (hc : n ≤ c) : Sl w 1 (.slice (some ⟨b, o, none⟩) n c) n xs :=
  ⟨by rw [hl, Nat.mul_one], some ⟨b, o, none⟩, c, rfl, hc, fun h => (by cases h), fun i u hu => ⟨b, o, rfl, h i u hu⟩⟩
theorem over_torn {old bs : List UInt8} (h1 : old.length = 512) (h2 : bs.length = 512) : over bs 256 (old.drop 256) = tornB old bs := by
  unfold over tornB
  rw [List.length_drop, h1, List.drop_of_length_le (l := bs) (by rw [h2]; decide), List.append_nil]

set_option maxRecDepth 100000 in
set_option maxHeartbeats 4000000 in
theorem dvCrash_any (D lo keep : Nat) (torn : Int) (F : Nat → Prop) (d : Dv) (w : World) (h : DvIn w lo D F d) (hk : keep < 18446744073709551616) (hn : d.waits.length ≤ 1000000) (_ht : -9223372036854775808 ≤ torn ∧ torn ≤ 9223372036854775807) :
    Calls Tryz.prog 28 #[.pointer (some ⟨D, 0, none⟩), .int .u64 (keep : Int), .int .i64 torn] w fun e w' => ∃ F', e = .returned (.tuple #[]) ∧ DvIn w' lo D F' (d.crashed keep torn) ∧ Fr F w w' ∧ ∀ k, F' k → F k ∨ w.heap.size ≤ k := by
  obtain ⟨L, T, wv, h, hF⟩ := h
  obtain ⟨c0, c1, c2, c3, c4, c5, fz⟩ := h.cells
  obtain ⟨av, cw, hwv⟩ : ∃ av cw, wv = .slice av d.waits.length cw := by
    obtain ⟨av, cw, e, _⟩ := (Sl.own h.wt).len
    exact ⟨av, cw, e⟩
  subst hwv
  have hlm := h.lm
  have HLm := Lib.hid hlm
  have HH := Lib.hid h
  have HF := Lib.hid hF
  have HK := Lib.hid hk
  obtain ⟨nw, hnw⟩ : ∃ n, n = d.waits.length := ⟨_, rfl⟩
  rw [← hnw] at c2 hn
  have HNw := Lib.hid hnw
  clear hlm h hF hk hnw c0 c3 c4 c5 fz
  go_enter Tryz.func28, Tryz.ntmps28
  go_wp2_with fail
  go_loopw [17] (fun ii wr => ∃ i : Nat, i ≤ nw ∧ ii = .int .i64 i ∧ (∃ ml, UM wr L ml ∧ LieM ml (crashTo d keep torn i)) ∧ Fr (fun k => k = L) w wr) (fun ii _ => nw - (intOf ii).toNat)
  case atStart => exact ⟨0, Nat.zero_le _, rfl, HLm.out, Fr.refl _ _⟩
  case round =>
    clear HLm
    obtain ⟨i, hi, rfl, hml, hf⟩ := hrel
    have HMl := Lib.hid hml
    have HFr := Lib.hid hf
    clear hml hf
    rcases Nat.lt_or_ge i nw with hlt | hge
    · have hil : i < d.waits.length := by rw [← HNw.out]; exact hlt
      obtain ⟨g, cg, hwv, hat⟩ := wait_at HH.out hil
      simp only [Value.slice.injEq, true_and] at hwv
      obtain ⟨rfl, rfl⟩ := hwv
      have hgn := HH.out.own_ne g rfl
      have HWl := Lib.hid (HH.out.wf.wait hil).1
      obtain ⟨p, hp⟩ : ∃ p, p = d.waits.getD i (0, []) := ⟨_, rfl⟩
      rw [← hp] at hat HWl
      obtain ⟨pa, bs⟩ := p
      have HP := Lib.hid hp
      have HAt := Lib.hid (show At wr g (i * 513) (WrL (pa, bs)) from fun j u hj => HFr.out.cell (hat j u hj) hgn.2.1)
      have HWL := Lib.hid (show (WrL (pa, bs)).length = 513 from WrL_length HWl.out)
      have hl512 : bs.length = 512 := HWl.out
      have HB5 := Lib.hid hl512
      clear hat hp hgn hl512 hil
      rcases Classical.em ((i : Int) = torn) with htn | htn
      · have bt : ((i : Int) == torn) = true := by simp [htn]
        have HNext := Lib.hid (show crashTo d keep torn (i + 1) = fun c => if c = pa then tornB (crashTo d keep torn i pa) bs else crashTo d keep torn i c by
          show crash1 keep torn i (d.waits.getD i (0, [])) (crashTo d keep torn i) = _
          rw [← HP.out]; unfold crash1; rw [if_pos htn])
        clear htn
        go_wp2_with (first | (refine wpList_load_at rfl _ (.tmp 20) rfl g (i * 513) rfl (WrL (pa, bs)) _ HAt.out Tryz.underlying158 rfl (by rw [info_write, HWL.out]) ?_) | (refine wpList_store_row rfl _ (.tmp 7) (.tmp 21) rfl wr.heap.size rfl (WrL (pa, bs)) rfl _ _ (heap_alloc_new _ _) (by rw [HWL.out]; rfl) (WrL_one _) (by rw [info_write, HWL.out]) ?_; intro w2 hg2 hf2 hs2; have HS2 := Lib.hid hs2; clear hs2; have HG2 := Lib.hid hg2; have HF2 := Lib.hid ((Fr.of_below (S := fun k => k = wr.heap.size) ((Below.refl _ wr).alloc (Nat.le_refl _) _)).trans hf2); have HAt2 := Lib.hid (show At w2 wr.heap.size 1 (bs.map Bv) from fun j u hj => by have h0 := At.of_row (cs := WrL (pa, bs)) hg2 (j + 1) u hj; rwa [Nat.zero_add, Nat.add_comm j 1] at h0); clear hg2 hf2) | (refine wpList_load_at rfl _ (.tmp 22) rfl wr.heap.size 1 rfl (bs.map Bv) _ HAt2.out Tryz.underlying156 rfl (by rw [info_sec, List.length_map, HB5.out]) ?_) | (refine wpList_store_row rfl _ (.tmp 8) (.tmp 23) rfl w2.heap.size rfl (bs.map Bv) rfl _ _ (heap_alloc_new _ _) (by rw [List.length_map, HB5.out]; rfl) (Bv_oneCell _) (by rw [info_sec, List.length_map, HB5.out]) ?_; intro w3 hg3 hf3 hs3; have HS3 := Lib.hid hs3; have HG3 := Lib.hid hg3; have HF3 := Lib.hid ((Fr.of_below (S := fun k => k = w2.heap.size) ((Below.refl _ w2).alloc (Nat.le_refl _) _)).trans hf3); clear hg3 hf3 hs3))
        obtain ⟨ml, hm1, hm2⟩ := HMl.out
        have HM1 := Lib.hid hm1
        have HM2 := Lib.hid hm2
        have hszD : D < w.heap.size := lt_of_block HH.out.row
        have hszL : L < w.heap.size := HH.out.lt L (Or.inr (Or.inl rfl))
        have hszw : w.heap.size ≤ wr.heap.size := HFr.out.size
        have hsz2 : wr.heap.size < w2.heap.size := lt_of_block HG2.out
        have HF13 := Lib.hid ((HF2.out.mono (T := fun k => k = wr.heap.size ∨ k = w2.heap.size) (fun k _ e => Or.inl e)).trans (HF3.out.mono (T := fun k => k = wr.heap.size ∨ k = w2.heap.size) (fun k _ e => Or.inr e)))
        have HUM3 := Lib.hid (hm1.fr HF13.out (by rintro (e | e) <;> omega))
        have HFrW3 := Lib.hid (show Fr (fun k => k = L) w w3 from (HFr.out.trans (HF13.out.mono (T := fun k => k = L ∨ wr.heap.size ≤ k) (fun k _ e => by rcases e with e | e <;> omega) |>.mono (fun k hk e => by omega))))
        have HK1 := Lib.hid (HF13.out.cell (HFr.out.cell HH.out.cells.2.1 HH.out.nDL) (by rintro (e | e) <;> dsimp only at e <;> omega))
        have HK7 := Lib.hid (show w3.cell? ⟨wr.heap.size, 0, none⟩ = some (.int .u32 (pa : Int)) from HF3.out.cell ((cell_of_row _ _ 0 _ _ _ HG2.out).trans rfl) (by dsimp only; omega))
        have HOl := Lib.hid (HH.out.wf.crashTo keep torn i (by rw [← HNw.out]; exact hi) pa)
        obtain ⟨old, hold⟩ : ∃ old, old = crashTo d keep torn i pa := ⟨_, rfl⟩
        rw [← hold] at HNext HOl
        have HOld := Lib.hid hold
        have HTl := Lib.hid (tornB_length HOl.out HB5.out)
        clear hold hm1 hm2
        go_wp2_with fail
        refine wp_region_headW (C := fun u => u.cell? ⟨D, 1, none⟩ = some (.map (some L)) ∧ u.cell? ⟨wr.heap.size, 0, none⟩ = some (.int .u32 (pa : Int)) ∧ UM u L ml) 8 (by kernel_rfl) (by decide) ?_
        obtain ⟨wd, hwd⟩ : ∃ wd, wd = { w3 with drawn := w3.drawn + 1 } := ⟨_, rfl⟩
        have HCd := Lib.hid (show wd.cell? ⟨D, 1, none⟩ = some (.map (some L)) ∧ wd.cell? ⟨wr.heap.size, 0, none⟩ = some (.int .u32 (pa : Int)) ∧ UM wd L ml by rw [hwd]; exact ⟨HK1.out, HK7.out, HUM3.out⟩)
        have HFd := Lib.hid (show Fr (fun k => k = L) w wd by rw [hwd]; exact ⟨HFrW3.out.os, HFrW3.out.tape, HFrW3.out.output, HFrW3.out.size, HFrW3.out.block⟩)
        have HGd := Lib.hid ((show wd.heap[w2.heap.size]? = w3.heap[w2.heap.size]? by rw [hwd]).trans HG3.out)
        rw [← hwd]
        clear hwd
        refine wpHeadL_take (i := 0) (v := .pointer (some ⟨D, 0, none⟩)) rfl (by kernel_rfl) (fun _ _ _ h => h) headW_done (.inl ⟨by rfl, fun w' _ => by go_simp⟩) ?_
        simp only [Act.put, sA, sB, sC]
        refine wpHeadL_take (i := 1) (v := .pointer (some ⟨D, 0, none⟩)) rfl (by kernel_rfl) (fun _ _ _ h => h) headW_done (.inl ⟨by rfl, fun w' _ => by go_simp⟩) ?_
        simp only [Act.put, sA, sB, sC]
        refine wpHeadL_take (i := 2) (v := .pointer (some ⟨D, 1, none⟩)) rfl (by kernel_rfl) (fun _ _ _ h => h) headW_done (.inl ⟨by rfl, fun w' _ => by go_simp⟩) ?_
        simp only [Act.put, sA, sB, sC]
        refine wpHeadL_take (i := 3) (v := .map (some L)) rfl (by kernel_rfl) (fun _ _ _ h => h) headW_done (.inl ⟨by rfl, fun w' hw => by (have h := hw.1; go_simp)⟩) ?_
        simp only [Act.put, sA, sB, sC]
        refine wpHeadL_take (i := 4) (v := .pointer (some ⟨wr.heap.size, 0, none⟩)) rfl (by kernel_rfl) (fun _ _ _ h => h) headW_done (.inl ⟨by rfl, fun w' _ => by go_simp⟩) ?_
        simp only [Act.put, sA, sB, sC]
        refine wpHeadL_take (i := 5) (v := .int .u32 (pa : Int)) rfl (by kernel_rfl) (fun _ _ _ h => h) headW_done (.inl ⟨by rfl, fun w' hw => by (have h := hw.2.1; go_simp)⟩) ?_
        simp only [Act.put, sA, sB, sC]
        refine wpHeadL_take (i := 6) (v := SecV old) rfl (by kernel_rfl) (fun _ _ _ h => h) headW_done (yields_lookup_sec (by rfl) (.tmp 30) (.tmp 32) (by rfl) (by rfl) (by rfl) (fun _ h => h.2.2) (by rw [HOld.out]; exact HM2.out pa)) ?_
        simp only [Act.put, sA, sB, sC]
        refine wpHeadL_forced 7 HCd.out (by kernel_rfl) rfl (by rfl) (fun K hK => ?_)
        unfold Oper.wp execOp
        go_simp
        refine hK _ _ ?_
        clear hK K
        obtain ⟨we, hwe⟩ : ∃ we, we = wd.alloc (.cells Tryz.zeroCells156 156) := ⟨_, rfl⟩
        have hbe : Below wd.heap.size wd we := by rw [hwe]; exact (Below.refl _ wd).alloc (Nat.le_refl _) _
        have HGe := Lib.hid (show we.heap[wd.heap.size]? = some (.cells ((zB 512).map Bv).toArray 156 (0, 0)) by rw [hwe]; exact heap_alloc_new _ _)
        have hDd : D < wd.heap.size := World.block_lt_of_cell? _ ⟨D, 1, none⟩ HCd.out.1
        have h7d : wr.heap.size < wd.heap.size := World.block_lt_of_cell? _ ⟨wr.heap.size, 0, none⟩ HCd.out.2.1
        have h8d : w2.heap.size < wd.heap.size := lt_of_block HGd.out
        have HCe := Lib.hid (show we.cell? ⟨D, 1, none⟩ = some (.map (some L)) ∧ we.cell? ⟨wr.heap.size, 0, none⟩ = some (.int .u32 (pa : Int)) ∧ UM we L ml from ⟨(hbe.cell (p := ⟨D, 1, none⟩) hDd).trans HCd.out.1, (hbe.cell (p := ⟨wr.heap.size, 0, none⟩) h7d).trans HCd.out.2.1, HCd.out.2.2.of_block (hbe.block L HCd.out.2.2.lt)⟩)
        have HFe := Lib.hid (HFd.out.trans (Fr.of_below hbe))
        have HG8e := Lib.hid ((hbe.block w2.heap.size h8d).trans HGd.out)
        have hwde : w.heap.size ≤ wd.heap.size := HFd.out.size
        rw [← hwe]
        clear hwe hbe
        refine headW_end HCe.out (by kernel_rfl) ?_
        simp only [List.drop_succ_cons, List.drop_zero]
        go_wp2_with (refine wpList_store_row rfl _ (.tmp 9) (.tmp 33) rfl wd.heap.size rfl (old.map Bv) rfl _ _ HGe.out (by rw [List.length_map, HOl.out]; rfl) (Bv_oneCell _) (by rw [info_sec, List.length_map, HOl.out]) ?_; intro w4 hg4 hf4 hs4)
        have hL9 : L < wd.heap.size := HCd.out.2.2.lt
        have HC4 := Lib.hid (show w4.cell? ⟨D, 1, none⟩ = some (.map (some L)) ∧ w4.cell? ⟨wr.heap.size, 0, none⟩ = some (.int .u32 (pa : Int)) ∧ UM w4 L ml from ⟨hf4.cell HCe.out.1 (by dsimp only; omega), hf4.cell HCe.out.2.1 (by dsimp only; omega), HCe.out.2.2.fr hf4 (by omega)⟩)
        have HFr4 := Lib.hid (HFe.out.step hf4 (fun j e => Or.inr (by omega)))
        have HG84 := Lib.hid ((hf4.block w2.heap.size (lt_of_block HG8e.out) (by omega)).trans HG8e.out)
        have HG94 := Lib.hid hg4
        clear hg4 hf4 hs4
        simp only [Act.put]
        go_wp2_with fail
        refine wp_region_quiet_tail 2 (by kernel_rfl) (by kernel_rfl) ?_
        simp only [List.take_succ_cons, List.take_zero, List.drop_succ_cons, List.drop_zero]
        repeat (go_big_quiet_step (fail))
        refine wpQuiet_nil ?_
        have HOat := Lib.hid (show At w4.drew wd.heap.size 256 ((old.drop 256).map Bv) from by
          have h := At_part8 HG94.out 256 256
          rwa [List.take_of_length_le (by rw [List.length_drop, HOl.out]; decide)] at h)
        go_wp2_with (refine copy_u8 rfl (.tmp 34) (.tmp 35) rfl (g := w2.heap.size) (cur := bs) (show w4.drew.heap[w2.heap.size]? = _ from HG84.out) (n := 256) (ys := old.drop 256) (sl_at HOat.out (by rw [List.length_map, List.length_drop, HOl.out]) (Nat.le_refl _)) rfl rfl (by rw [HB5.out]; decide) ?_; intro w5 hg5 hf5)
        rw [show min 256 256 = 256 from rfl, List.take_of_length_le (by rw [List.length_drop, HOl.out]; decide), over_torn HOl.out HB5.out] at hg5
        obtain ⟨tb, htb⟩ : ∃ tb, tb = tornB old bs := ⟨_, rfl⟩
        rw [← htb] at hg5 HTl HNext
        have hw24 : w2.heap.size ≠ L ∧ D ≠ w2.heap.size := by omega
        have HK1 := Lib.hid (hf5.cell (show w4.drew.cell? ⟨D, 1, none⟩ = _ from HC4.out.1) (by dsimp only; omega))
        have HK7 := Lib.hid (hf5.cell (show w4.drew.cell? ⟨wr.heap.size, 0, none⟩ = _ from HC4.out.2.1) (by dsimp only; omega))
        have HUM := Lib.hid ((show UM w4.drew L ml from HC4.out.2.2).fr hf5 (by omega))
        have HFrW := Lib.hid (HFr4.out.drew.step hf5 (fun j e => Or.inr (by omega)))
        have HG8 := Lib.hid hg5
        clear hg5 hf5 htb
        go_wp2_with fail
        have k1 := HK1.out
        have k7 := HK7.out
        have HAt8 := Lib.hid (show ∀ w', w' = w5.drew → At w' w2.heap.size 0 (tb.map Bv) from fun w' hw' => by subst hw'; exact At.of_row HG8.out)
        refine wp_region_quiet_tail 7 (by kernel_rfl) (by kernel_rfl) ?_
        simp only [List.take_succ_cons, List.take_zero, List.drop_succ_cons, List.drop_zero]
        repeat (first | (refine wpQuiet_load_at rfl 156 (.tmp 8) rfl w2.heap.size 0 rfl (tb.map Bv) _ HAt8.out Tryz.underlying156 rfl (by rw [info_sec, List.length_map, HTl.out]) ?_; simp only [Act.put, sA, sB, sC]) | go_big_quiet_step (fail))
        refine wpQuiet_nil ?_
        go_wp2_with (refine update_sec rfl (.tmp 52) (.tmp 54) (.tmp 55) rfl (val := SecV tb) rfl rfl rfl (show UM w5.drew L ml from HUM.out) ?_; intro w6 hu6 hf6)
        have HEnd := Lib.hid (show (∃ j : Nat, j ≤ nw ∧ (.int .i64 ((i : Int) + 1) : Value) = .int .i64 (j : Int) ∧ (∃ ml, UM w6 L ml ∧ LieM ml (crashTo d keep torn j)) ∧ Fr (fun k => k = L) w w6) ∧ nw - (intOf (.int .i64 ((i : Int) + 1))).toNat < nw - (intOf (.int .i64 (i : Int))).toNat from
          ⟨⟨i + 1, by omega, by go_num, ⟨_, hu6, by rw [HNext.out]; exact LieM.put HM2.out pa tb⟩, (HFrW.out.drew.trans hf6)⟩, by simp [intOf]; omega⟩)
        clear hu6 hf6
        go_wp2_with fail
        exact HEnd.out
      · have bt : ((i : Int) == torn) = false := by simp [htn]
        have hbit := u64_and_nat (keep / 2 ^ (i % 64)) 1 (by have := HK.out; have := Nat.div_le_self keep (2 ^ (i % 64)); omega) (by decide)
        rw [Nat.and_one_is_mod] at hbit
        have hcast : ((keep / 2 ^ (i % 64) : Nat) : Int) = (keep : Int) / 2 ^ (i % 64) := by rw [Int.natCast_ediv, Int.natCast_pow]; rfl
        rw [hcast, show ((1 : Nat) : Int) = 1 from rfl] at hbit
        rcases Classical.em (keep / 2 ^ (i % 64) % 2 = 1) with hb1 | hb1
        · have bb : (bits .and .u64 ((keep : Int) / 2 ^ (i % 64)) 1 == 1) = true := by rw [hbit, hb1]; rfl
          have HNext := Lib.hid (show crashTo d keep torn (i + 1) = fun c => if c = pa then bs else crashTo d keep torn i c by
            show crash1 keep torn i (d.waits.getD i (0, [])) (crashTo d keep torn i) = _
            rw [← HP.out]; unfold crash1; rw [if_neg htn, if_pos hb1])
          clear htn hb1 hbit hcast
          go_wp2_with (first | (refine wpList_load_at rfl _ (.tmp 20) rfl g (i * 513) rfl (WrL (pa, bs)) _ HAt.out Tryz.underlying158 rfl (by rw [info_write, HWL.out]) ?_) | (refine wpList_store_row rfl _ (.tmp 7) (.tmp 21) rfl wr.heap.size rfl (WrL (pa, bs)) rfl _ _ (heap_alloc_new _ _) (by rw [HWL.out]; rfl) (WrL_one _) (by rw [info_write, HWL.out]) ?_; intro w2 hg2 hf2 hs2; have HS2 := Lib.hid hs2; clear hs2; have HG2 := Lib.hid hg2; have HF2 := Lib.hid ((Fr.of_below (S := fun k => k = wr.heap.size) ((Below.refl _ wr).alloc (Nat.le_refl _) _)).trans hf2); have HAt2 := Lib.hid (show At w2 wr.heap.size 1 (bs.map Bv) from fun j u hj => by have h0 := At.of_row (cs := WrL (pa, bs)) hg2 (j + 1) u hj; rwa [Nat.zero_add, Nat.add_comm j 1] at h0); clear hg2 hf2) | (refine wpList_load_at rfl _ (.tmp 22) rfl wr.heap.size 1 rfl (bs.map Bv) _ HAt2.out Tryz.underlying156 rfl (by rw [info_sec, List.length_map, HB5.out]) ?_) | (refine wpList_store_row rfl _ (.tmp 8) (.tmp 23) rfl w2.heap.size rfl (bs.map Bv) rfl _ _ (heap_alloc_new _ _) (by rw [List.length_map, HB5.out]; rfl) (Bv_oneCell _) (by rw [info_sec, List.length_map, HB5.out]) ?_; intro w3 hg3 hf3 hs3; have HS3 := Lib.hid hs3; have HG3 := Lib.hid hg3; have HF3 := Lib.hid ((Fr.of_below (S := fun k => k = w2.heap.size) ((Below.refl _ w2).alloc (Nat.le_refl _) _)).trans hf3); clear hg3 hf3 hs3))
          obtain ⟨ml, hm1, hm2⟩ := HMl.out
          have HM1 := Lib.hid hm1
          have HM2 := Lib.hid hm2
          have hszD : D < w.heap.size := lt_of_block HH.out.row
          have hszL : L < w.heap.size := HH.out.lt L (Or.inr (Or.inl rfl))
          have hszw : w.heap.size ≤ wr.heap.size := HFr.out.size
          have hsz2 : wr.heap.size < w2.heap.size := lt_of_block HG2.out
          have HF13 := Lib.hid ((HF2.out.mono (T := fun k => k = wr.heap.size ∨ k = w2.heap.size) (fun k _ e => Or.inl e)).trans (HF3.out.mono (T := fun k => k = wr.heap.size ∨ k = w2.heap.size) (fun k _ e => Or.inr e)))
          have HUM3 := Lib.hid (hm1.fr HF13.out (by rintro (e | e) <;> omega))
          have HFrW3 := Lib.hid (show Fr (fun k => k = L) w w3 from (HFr.out.trans (HF13.out.mono (T := fun k => k = L ∨ wr.heap.size ≤ k) (fun k _ e => by rcases e with e | e <;> omega) |>.mono (fun k hk e => by omega))))
          have HK1 := Lib.hid (HF13.out.cell (HFr.out.cell HH.out.cells.2.1 HH.out.nDL) (by rintro (e | e) <;> dsimp only at e <;> omega))
          have HK7 := Lib.hid (show w3.cell? ⟨wr.heap.size, 0, none⟩ = some (.int .u32 (pa : Int)) from HF3.out.cell ((cell_of_row _ _ 0 _ _ _ HG2.out).trans rfl) (by dsimp only; omega))
          have HUM := HUM3
          have HFrW := HFrW3
          have HG8 := HG3
          clear hm1 hm2
          have k1 := HK1.out
          have k7 := HK7.out
          have HAt8 := Lib.hid (show ∀ w', w' = w3.drew → At w' w2.heap.size 0 (bs.map Bv) from fun w' hw' => by subst hw'; exact At.of_row HG8.out)
          refine wp_region_quiet_tail 7 (by kernel_rfl) (by kernel_rfl) ?_
          simp only [List.take_succ_cons, List.take_zero, List.drop_succ_cons, List.drop_zero]
          repeat (first | (refine wpQuiet_load_at rfl 156 (.tmp 8) rfl w2.heap.size 0 rfl (bs.map Bv) _ HAt8.out Tryz.underlying156 rfl (by rw [info_sec, List.length_map, HB5.out]) ?_; simp only [Act.put, sA, sB, sC]) | go_big_quiet_step (fail))
          refine wpQuiet_nil ?_
          go_wp2_with (refine update_sec rfl (.tmp 52) (.tmp 54) (.tmp 55) rfl (val := SecV bs) rfl rfl rfl (show UM w3.drew L ml from HUM.out) ?_; intro w6 hu6 hf6)
          have HEnd := Lib.hid (show (∃ j : Nat, j ≤ nw ∧ (.int .i64 ((i : Int) + 1) : Value) = .int .i64 (j : Int) ∧ (∃ ml, UM w6 L ml ∧ LieM ml (crashTo d keep torn j)) ∧ Fr (fun k => k = L) w w6) ∧ nw - (intOf (.int .i64 ((i : Int) + 1))).toNat < nw - (intOf (.int .i64 (i : Int))).toNat from
            ⟨⟨i + 1, by omega, by go_num, ⟨_, hu6, by rw [HNext.out]; exact LieM.put HM2.out pa bs⟩, (HFrW.out.drew.trans hf6)⟩, by simp [intOf]; omega⟩)
          clear hu6 hf6
          go_wp2_with fail
          exact HEnd.out
        · have bb : (bits .and .u64 ((keep : Int) / 2 ^ (i % 64)) 1 == 1) = false := by rw [hbit]; have := Nat.mod_two_eq_zero_or_one (keep / 2 ^ (i % 64)); rcases this with h | h; (· rw [h]; rfl); (· exact absurd h hb1)
          have HNext := Lib.hid (show crashTo d keep torn (i + 1) = crashTo d keep torn i by
            show crash1 keep torn i (d.waits.getD i (0, [])) (crashTo d keep torn i) = _
            rw [← HP.out]; unfold crash1; rw [if_neg htn, if_neg hb1])
          clear htn hb1 hbit hcast
          go_wp2_with (first | (refine wpList_load_at rfl _ (.tmp 20) rfl g (i * 513) rfl (WrL (pa, bs)) _ HAt.out Tryz.underlying158 rfl (by rw [info_write, HWL.out]) ?_) | (refine wpList_store_row rfl _ (.tmp 7) (.tmp 21) rfl wr.heap.size rfl (WrL (pa, bs)) rfl _ _ (heap_alloc_new _ _) (by rw [HWL.out]; rfl) (WrL_one _) (by rw [info_write, HWL.out]) ?_; intro w2 hg2 hf2 hs2; have HS2 := Lib.hid hs2; clear hs2; have HG2 := Lib.hid hg2; have HF2 := Lib.hid ((Fr.of_below (S := fun k => k = wr.heap.size) ((Below.refl _ wr).alloc (Nat.le_refl _) _)).trans hf2); have HAt2 := Lib.hid (show At w2 wr.heap.size 1 (bs.map Bv) from fun j u hj => by have h0 := At.of_row (cs := WrL (pa, bs)) hg2 (j + 1) u hj; rwa [Nat.zero_add, Nat.add_comm j 1] at h0); clear hg2 hf2) | (refine wpList_load_at rfl _ (.tmp 22) rfl wr.heap.size 1 rfl (bs.map Bv) _ HAt2.out Tryz.underlying156 rfl (by rw [info_sec, List.length_map, HB5.out]) ?_) | (refine wpList_store_row rfl _ (.tmp 8) (.tmp 23) rfl w2.heap.size rfl (bs.map Bv) rfl _ _ (heap_alloc_new _ _) (by rw [List.length_map, HB5.out]; rfl) (Bv_oneCell _) (by rw [info_sec, List.length_map, HB5.out]) ?_; intro w3 hg3 hf3 hs3; have HS3 := Lib.hid hs3; have HG3 := Lib.hid hg3; have HF3 := Lib.hid ((Fr.of_below (S := fun k => k = w2.heap.size) ((Below.refl _ w2).alloc (Nat.le_refl _) _)).trans hf3); clear hg3 hf3 hs3))
          obtain ⟨ml, hm1, hm2⟩ := HMl.out
          have HM1 := Lib.hid hm1
          have HM2 := Lib.hid hm2
          have hszD : D < w.heap.size := lt_of_block HH.out.row
          have hszL : L < w.heap.size := HH.out.lt L (Or.inr (Or.inl rfl))
          have hszw : w.heap.size ≤ wr.heap.size := HFr.out.size
          have hsz2 : wr.heap.size < w2.heap.size := lt_of_block HG2.out
          have HF13 := Lib.hid ((HF2.out.mono (T := fun k => k = wr.heap.size ∨ k = w2.heap.size) (fun k _ e => Or.inl e)).trans (HF3.out.mono (T := fun k => k = wr.heap.size ∨ k = w2.heap.size) (fun k _ e => Or.inr e)))
          have HUM3 := Lib.hid (hm1.fr HF13.out (by rintro (e | e) <;> omega))
          have HFrW3 := Lib.hid (show Fr (fun k => k = L) w w3 from (HFr.out.trans (HF13.out.mono (T := fun k => k = L ∨ wr.heap.size ≤ k) (fun k _ e => by rcases e with e | e <;> omega) |>.mono (fun k hk e => by omega))))
          exact ⟨⟨i + 1, by omega, by go_num, ⟨ml, HUM3.out, by rw [HNext.out]; exact HM2.out⟩, HFrW3.out⟩, by simp [intOf]; omega⟩
    · obtain rfl : i = nw := by omega
      obtain ⟨ml, hm1, hm2⟩ := HMl.out
      have hwf : (({ d with lies := crashTo d keep torn i } : Dv)).Wf := ⟨HH.out.wf.lo, HH.out.wf.hi, HH.out.wf.crashTo keep torn i (by rw [HNw.out]; exact Nat.le_refl _), HH.out.wf.waits, HH.out.wf.left⟩
      have hat : DvAt wr lo D L T (.slice av d.waits.length cw) { d with lies := crashTo d keep torn i } :=
        ⟨(HFr.out.block D (lt_of_block HH.out.row) HH.out.nDL).trans HH.out.row, ⟨ml, hm1, hm2⟩, by
          obtain ⟨mt, h1, h2⟩ := HH.out.tm
          exact ⟨mt, h1.fr HFr.out (fun e => HH.out.nLT e.symm), h2⟩, HH.out.wt.fr HFr.out (fun k hk e => (HH.out.own_ne k hk).2.1 e), hwf, HH.out.nDL, HH.out.nDT, HH.out.nLT, HH.out.nD, HH.out.nL, HH.out.nT⟩
      have hq := dvQuiet_any D lo L T _ _ wr hat
      have HQ := Lib.hid hq
      have hsz : w.heap.size ≤ wr.heap.size := HFr.out.size
      clear hat hwf hm1 hm2 hq HMl
      go_wp2_with fail
      refine HQ.out.mono ?_
      rintro e w5 ⟨rfl, h5, hf5⟩
      obtain ⟨_, _, _, _, k4, k5, fz⟩ := h5.cells
      have f4 := fz 4
      have f5 := fz 5
      have HEnd := Lib.hid (show ∀ w6, w6 = (w5.setCell ⟨D, 5, none⟩ (.bool false)).setCell ⟨D, 4, none⟩ (.int .i64 (-1)) → ∃ F', DvIn w6 lo D F' (d.crashed keep torn) ∧ Fr F w w6 ∧ ∀ k, F' k → F k ∨ w.heap.size ≤ k from fun w6 hw6 => by
        subst hw6
        have g1 := ((Fr.refl (fun k => k = D) w5).set D 5 rfl (.bool false)).set D 4 rfl (.int .i64 (-1))
        have r1 := heap_setCell_same _ D 5 _ _ (.bool false) h5.row
        have r2 := heap_setCell_same _ D 4 _ _ (.int .i64 (-1)) r1
        have hfin := h5.laid (d' := d.crashed keep torn) g1 rfl (by rw [HNw.out]; rfl) (HH.out.wf.crashed keep torn) r2
        refine ⟨DvF D L wr.heap.size (.slice none 0 0), ⟨_, _, _, hfin, fun _ h => h⟩, ?_, ?_⟩
        · refine ((HFr.out.mono (T := fun k => k = D ∨ k = L) (fun k _ e => Or.inr e)).trans ((hf5.trans g1).mono (fun k _ e => Or.inl e))).mono (fun k hk e => ?_)
          rcases e with e | e
          · exact HF.out k (Or.inl e)
          · exact HF.out k (Or.inr (Or.inl e))
        · rintro k (e | e | e | e)
          · exact Or.inl (HF.out k (Or.inl e))
          · exact Or.inl (HF.out k (Or.inr (Or.inl e)))
          · exact Or.inr (by omega)
          · cases e)
      clear h5 hf5 fz
      go_wp2
      go_end0
      obtain ⟨F', a1, a2, a3⟩ := HEnd.out _ rfl
      exact ⟨F', rfl, a1, a2, a3⟩

end Go.Proofs.YtkbnkdokcmpcgaaGreatDoor
namespace Go.Proofs.YtkbnkdokcmpcgaaGreatDoor
open Go.RowKit

def StrsIn (w : World) (v : Value) (l : List ByteArray) : Prop := Sl w 1 v l.length (l.map Value.string)
theorem StrsIn.below {w w' : World} {v : Value} {l : List ByteArray} (h : StrsIn w v l) (hb : Below w.heap.size w w') : StrsIn w' v l := Sl.below h hb
theorem StrsIn.open {w : World} {v : Value} {l : List ByteArray} (h : StrsIn w v l) : ∃ a cap, v = .slice a l.length cap ∧ ∀ i (hi : i < l.length), ∃ b o, a = some ⟨b, o, none⟩ ∧ w.cell? ⟨b, o + i, none⟩ = some (.string l[i]) := by
  obtain ⟨_, a, cap, rfl, _, _, h4⟩ := h
  exact ⟨a, cap, rfl, fun i hi => h4 i _ (by simp [hi])⟩

def sLt (a b : ByteArray) : Bool := Op.bytesLess a.toList b.toList
def sEq (a b : ByteArray) : Bool := a.toList == b.toList
theorem sEq_iff (a b : ByteArray) : sEq a b = true ↔ a = b := by
  unfold sEq
  rw [beq_iff_eq, ByteArray.toList_eq, ByteArray.toList_eq, Array.toList_inj]
  exact ⟨fun h => ByteArray.ext h, fun h => by rw [h]⟩
def keyAt (l : List ByteArray) (i : Nat) : Bool :=
  match l[i]? with
  | none => true
  | some k => decide (k.size ≠ 0) && decide (k.size ≤ 32) && (match i with | 0 => true | j + 1 => sLt (l.getD j ⟨#[]⟩) k)
def keysB (l : List ByteArray) : Bool := (List.range l.length).all (keyAt l)
theorem keysB_false {l : List ByteArray} {i : Nat} (hi : i < l.length) (h : keyAt l i = false) : keysB l = false := by
  rw [Bool.eq_false_iff]
  intro ha
  have := List.all_eq_true.1 ha i (by simpa using hi)
  rw [h] at this
  cases this
theorem keysB_true {l : List ByteArray} (h : ∀ i, i < l.length → keyAt l i = true) : keysB l = true :=
  List.all_eq_true.2 fun i hi => h i (by simpa using hi)

theorem size_zero_iff (k : ByteArray) : k.toList = [] ↔ k.size = 0 := by
  rw [ByteArray.toList_eq]
  obtain ⟨⟨l⟩⟩ := k
  show l = [] ↔ l.length = 0
  exact List.length_eq_zero_iff.symm

set_option maxHeartbeats 1000000 in
theorem keys_any (v : Value) (l : List ByteArray) (w : World) (h : StrsIn w v l) (hr : l.length ≤ 140737488351232) :
    Calls Tryz.prog 153 #[v] w fun e w' => e = .returned (.bool (keysB l)) ∧ w = w' := by
  obtain ⟨a, cap, rfl, hel⟩ := h.open
  have HE := Lib.hid hel
  clear h hel
  go_enter Tryz.func153, Tryz.ntmps153
  go_wp2
  go_loop [7] (fun i => ∃ k : Nat, k ≤ l.length ∧ i = .int .i64 k ∧ ∀ j, j < k → keyAt l j = true) (fun i => l.length - (intOf i).toNat)
  case atStart => exact ⟨0, Nat.zero_le _, rfl, fun j hj => by omega⟩
  case round =>
    obtain ⟨k, hk, rfl, hz⟩ := hrel
    have HZ := Lib.hid hz
    clear hz
    rcases Nat.lt_or_ge k l.length with hlt | hge
    · obtain ⟨b, o, rfl, hc⟩ := HE.out k hlt
      obtain ⟨s, hs⟩ : ∃ s, s = l[k]'hlt := ⟨_, rfl⟩
      have hg : l[k]? = some s := by rw [hs]; exact List.getElem?_eq_getElem hlt
      rw [← hs] at hc
      have HG := Lib.hid hg
      have HS := Lib.hid hs
      clear hs hg
      by_cases h0 : s.size = 0
      · have HF := Lib.hid (keysB_false hlt (show keyAt l k = false by unfold keyAt; rw [HG.out]; simp [h0]))
        have b1 := (size_zero_iff s).2 h0
        clear h0
        go_wp2
        go_ret
        exact ⟨by rw [HF.out]; rfl, rfl⟩
      have b1 : ¬ s.toList = [] := fun e => h0 ((size_zero_iff s).1 e)
      have b1' : s.toList.isEmpty = false := by simpa using b1
      by_cases h1 : s.size ≤ 32
      · have b2 : ¬ (32 : Int) < (s.size : Int) := by omega
        cases k with
        | zero =>
          rw [Nat.add_zero] at hc
          have HK := Lib.hid (show keyAt l 0 = true by unfold keyAt; rw [HG.out]; simp [h0, h1])
          clear h0 h1
          go_wp2
          go_round
          case rel => exact ⟨1, by omega, by go_num, fun j hj => by obtain rfl : j = 0 := by omega
                                                                    exact HK.out⟩
          case measure => simp [intOf]; omega
        | succ m =>
          obtain ⟨b', o', e', hc'⟩ := HE.out m (by omega)
          simp only [Option.some.injEq, Addr.mk.injEq, and_true] at e'
          obtain ⟨rfl, rfl⟩ := e'
          obtain ⟨s', hs'⟩ : ∃ s', s' = l[m]'(by omega) := ⟨_, rfl⟩
          have hg' : l.getD m ⟨#[]⟩ = s' := by rw [hs', List.getD_eq_getElem?_getD, List.getElem?_eq_getElem (by omega)]; rfl
          rw [← hs'] at hc'
          have ew : wrap64 (m : Int) = (m : Int) := by unfold wrap64; omega
          cases hl : sLt s' s with
          | true =>
            have HK := Lib.hid (show keyAt l (m + 1) = true by unfold keyAt; rw [HG.out]; simp only [hg', hl]; simp [h0, h1])
            have b3 : Op.bytesLess s'.toList s.toList = true := hl
            clear h0 h1 hs' hg' hl
            go_wp2
            go_round
            case rel =>
              refine ⟨m + 1 + 1, by omega, by go_num, fun j hj => ?_⟩
              rcases Nat.lt_or_ge j (m + 1) with h | h
              · exact HZ.out j h
              · obtain rfl : j = m + 1 := by omega
                exact HK.out
            case measure => simp [intOf]; omega
          | false =>
            have HF := Lib.hid (keysB_false hlt (show keyAt l (m + 1) = false by unfold keyAt; rw [HG.out]; simp only [hg', hl]; simp))
            have b3 : Op.bytesLess s'.toList s.toList = false := hl
            clear h0 h1 hs' hg' hl
            go_wp2
            go_ret
            exact ⟨by rw [HF.out]; rfl, rfl⟩
      · have HF := Lib.hid (keysB_false hlt (show keyAt l k = false by unfold keyAt; rw [HG.out]; simp [h1]))
        have b2 : (32 : Int) < (s.size : Int) := by omega
        clear h0 h1
        go_wp2
        go_ret
        exact ⟨by rw [HF.out]; rfl, rfl⟩
    · obtain rfl : k = l.length := by omega
      have HF := Lib.hid (keysB_true HZ.out)
      go_wp2
      go_ret
      exact ⟨by rw [HF.out]; rfl, rfl⟩

end Go.Proofs.YtkbnkdokcmpcgaaGreatDoor
namespace Go.Proofs.YtkbnkdokcmpcgaaGreatDoor
open Go.RowKit

theorem bv_beq (x y : UInt8) : ((x.toNat : Int) == (y.toNat : Int)) = (x == y) := by
  rw [Bool.eq_iff_iff]; simp only [beq_iff_eq]
  exact ⟨fun h => UInt8.toNat_inj.1 (by omega), fun h => by rw [h]⟩

theorem run_eqItems_u8 (d : Nat) (xs ys : List UInt8) (w : World) : ∀ is : List Nat, (∀ i ∈ is, i < xs.length ∧ i < ys.length) →
    (Op.eqItems (d + 1) 5 1 (xs.map Bv).toArray (ys.map Bv).toArray is).run Tryz.prog w = .ok (is.all fun i => xs[i]? == ys[i]?) w
  | [], _ => by simp [Op.eqItems]
  | i :: is, h => by
    obtain ⟨h1, h2⟩ := h i (by simp)
    have hp : Tryz.prog.plainKey 5 = true := by kernel_rfl
    have p1 := run_part_plain (P := Tryz.prog) w hp (xs := (xs.map Bv).toArray) (off := i * 1) (v := Bv xs[i]) (by simp [h1])
    have p2 := run_part_plain (P := Tryz.prog) w hp (xs := (ys.map Bv).toArray) (off := i * 1) (v := Bv ys[i]) (by simp [h2])
    have ih := run_eqItems_u8 d xs ys w is (fun j hj => h j (by simp [hj]))
    have p3 : (Op.equalIn (d + 1) 5 (Bv xs[i]) (Bv ys[i])).run Tryz.prog w = .ok (xs[i] == ys[i]) w := by
      rw [← bv_beq]; exact run_equalIn_int w d _ .u8 .u8 _ _ Tryz.underlying5
    simp only [Op.eqItems, Sem.run_bind, p1, p2, p3, Result.andThen_ok, List.all_cons, List.getElem?_eq_getElem h1, List.getElem?_eq_getElem h2, Option.some_beq_some]
    cases hx : (xs[i] == ys[i])
    · simp
    · simpa using ih

theorem all_same (xs ys : List UInt8) (n : Nat) (h1 : xs.length = n) (h2 : ys.length = n) : ((List.range n).all fun i => xs[i]? == ys[i]?) = decide (xs = ys) := by
  rw [Bool.eq_iff_iff, List.all_eq_true, decide_eq_true_iff]
  constructor
  · intro h
    apply List.ext_getElem?
    intro i
    rcases Nat.lt_or_ge i n with hi | hi
    · simpa using h i (by simpa using hi)
    · rw [List.getElem?_eq_none (by omega), List.getElem?_eq_none (by omega)]
  · rintro rfl i _
    simp

theorem run_eql_hash (xs ys : List UInt8) (h1 : xs.length = 32) (h2 : ys.length = 32) (w : World) :
    (binOp .eql 33 (.agg (xs.map Bv).toArray) (.agg (ys.map Bv).toArray)).run Tryz.prog w = .ok (.bool (decide (xs = ys))) w := by
  obtain ⟨i0, hi, hz0, hz1, hz2⟩ := info_parts info_u8
  rw [run_eql_struct, run_equalIn_array w 9999 _ _ Tryz.underlying33 hi]
  have hc : Tryz.prog.cellsOf 5 = 1 := by kernel_rfl
  rw [hc, run_eqItems_u8 9998 xs ys w _ (fun i hi => by have := List.mem_range.1 hi; omega)]
  simp [Result.andThen, all_same xs ys 32 h1 h2]
theorem run_neq_hash (xs ys : List UInt8) (h1 : xs.length = 32) (h2 : ys.length = 32) (w : World) :
    (binOp .neq 33 (.agg (xs.map Bv).toArray) (.agg (ys.map Bv).toArray)).run Tryz.prog w = .ok (.bool (!decide (xs = ys))) w := by
  obtain ⟨i0, hi, hz0, hz1, hz2⟩ := info_parts info_u8
  rw [run_neq_struct, run_equalIn_array w 9999 _ _ Tryz.underlying33 hi]
  have hc : Tryz.prog.cellsOf 5 = 1 := by kernel_rfl
  rw [hc, run_eqItems_u8 9998 xs ys w _ (fun i hi => by have := List.mem_range.1 hi; omega)]
  simp [Result.andThen, all_same xs ys 32 h1 h2]

theorem guard_hash : Tryz.prog.eqGuardType Tryz.prog.depth 33 = false := by kernel_rfl

end Go.Proofs.YtkbnkdokcmpcgaaGreatDoor
namespace Go.Proofs.YtkbnkdokcmpcgaaGreatDoor
open Go.RowKit

structure Pt where
  addr : Nat
  birth : Nat
  sum : List UInt8
  deriving DecidableEq
def Pt.cells (p : Pt) : List Value := .int .u32 (p.addr : Int) :: .int .u64 (p.birth : Int) :: p.sum.map Bv
def Pt.arr (p : Pt) : Array Value := p.cells.toArray
def Pt.zero : Pt := ⟨0, 0, List.replicate 32 0⟩
structure Pt.Wf (p : Pt) : Prop where
  addr : p.addr < 4294967296
  birth : p.birth < 18446744073709551616
  sum : p.sum.length = 32
theorem Pt.zero_wf : Pt.zero.Wf := ⟨by decide, by decide, by decide⟩
theorem Pt.Wf.len {p : Pt} (h : p.Wf) : p.cells.length = 34 := by simp [Pt.cells, h.sum]
theorem Pt.Wf.size {p : Pt} (h : p.Wf) : p.arr.size = 34 := by simp [Pt.arr, h.len]
theorem Pt.arr_toList (p : Pt) : p.arr.toList = p.cells := by simp [Pt.arr]
theorem Pt.get0 (p : Pt) : p.arr[0]? = some (.int .u32 (p.addr : Int)) := by simp [Pt.arr, Pt.cells]
theorem Pt.get1 (p : Pt) : p.arr[1]? = some (.int .u64 (p.birth : Int)) := by simp [Pt.arr, Pt.cells]
theorem Pt.one (p : Pt) : ∀ u ∈ p.arr.toList, u.oneCell' = true := by
  rw [Pt.arr_toList]
  intro u hu
  simp only [Pt.cells, List.mem_cons] at hu
  rcases hu with rfl | rfl | hu
  · rfl
  · rfl
  · exact Bv_oneCell _ u hu
theorem Pt.sumAt {w : World} {b o : Nat} {p : Pt} (h : At w b o p.cells) : At w b (o + 2) (p.sum.map Bv) := by
  have : At w b o ([.int .u32 (p.addr : Int), .int .u64 (p.birth : Int)] ++ p.sum.map Bv ++ []) := by simpa [Pt.cells] using h
  exact this.part

theorem info_ptr : (Tryz.prog.info? 43).map (·.size) = some 34 := by kernel_rfl
theorem guard_ptr : Tryz.prog.eqGuardType Tryz.prog.depth 43 = false := by kernel_rfl
theorem stood_ptr : Tryz.prog.stoodInHeld 43 = false := by kernel_rfl
theorem fields_ptr : ((Tryz.prog.fieldsOf 43).toList.map fun f => (f.name != "_", f.type, f.offset)) = [(true, 41, 0), (true, 40, 1), (true, 33, 2)] := by kernel_rfl
theorem und_ptr : Tryz.prog.underlying 43 = some (.struct (Tryz.prog.fieldsOf 43)) := by
  unfold Program.fieldsOf; rw [Tryz.underlying43]

theorem extract_sum (p : Pt) (h : p.Wf) : p.arr.extract 2 (2 + 32) = (p.sum.map Bv).toArray := by
  apply Array.toList_inj.1
  simp only [Pt.arr, Pt.cells, List.extract_toArray, List.extract_eq_take_drop]
  rw [List.drop_succ_cons, List.drop_succ_cons, List.drop_zero, List.take_of_length_le (by simp [h.sum])]

theorem run_part_hash (p : Pt) (h : p.Wf) (w : World) : (part 33 p.arr 2).run Tryz.prog w = .ok (.agg (p.sum.map Bv).toArray) w := by
  have hagg : (isAgg 33).run Tryz.prog w = .ok true w := by
    unfold isAgg
    rw [Sem.run_bind, run_underlying Tryz.underlying33 w]
    rfl
  have hsz : (sizeOf 33).run Tryz.prog w = .ok 32 w := by
    have : ∃ i, Tryz.prog.info? 33 = some i ∧ i.size = 32 := by
      cases hq : Tryz.prog.info? 33 with
      | none =>
        have h1 : (Tryz.prog.info? 33).map (·.size) = some 32 := by kernel_rfl
        simp [hq] at h1
      | some i =>
        have h1 : (Tryz.prog.info? 33).map (·.size) = some 32 := by kernel_rfl
        exact ⟨i, rfl, by simpa [hq] using h1⟩
    obtain ⟨i, hi, hs⟩ := this
    simp [sizeOf, typeInfo, hi, hs]
  unfold part
  simp only [Sem.run_bind, hagg, Result.andThen_ok, if_true, hsz, Sem.run_pure, extract_sum p h]

theorem run_equalIn_hash (d : Nat) (xs ys : List UInt8) (h1 : xs.length = 32) (h2 : ys.length = 32) (w : World) :
    (Op.equalIn (d + 2) 33 (.agg (xs.map Bv).toArray) (.agg (ys.map Bv).toArray)).run Tryz.prog w = .ok (decide (xs = ys)) w := by
  obtain ⟨i0, hi, hz0, hz1, hz2⟩ := info_parts info_u8
  rw [run_equalIn_array w (d + 1) _ _ Tryz.underlying33 hi]
  have hc : Tryz.prog.cellsOf 5 = 1 := by kernel_rfl
  rw [hc, run_eqItems_u8 d xs ys w _ (fun i hi => by have := List.mem_range.1 hi; omega)]
  rw [all_same xs ys 32 h1 h2]

theorem eqFields_step {P : Program} {w : World} {d : Nat} {xs ys : Array Value} {f : Field} {fs : List Field} {a b : Value} {r r' : Bool} (hn : (f.name != "_") = true) (t : TypeId) (o : Nat) (ht : f.type = t) (ho : f.offset = o)
    (h1 : (part t xs o).run P w = .ok a w) (h2 : (part t ys o).run P w = .ok b w) (h3 : (Op.equalIn d t a b).run P w = .ok r w) (h4 : (Op.eqFields d xs ys fs).run P w = .ok r' w) :
    (Op.eqFields d xs ys (f :: fs)).run P w = .ok (r && r') w := by
  subst ht ho
  have hn' : f.name ≠ "_" := by simpa using hn
  simp only [Op.eqFields, hn', ne_eq, not_false_eq_true, if_true, Sem.run_bind, h1, h2, h3, Result.andThen_ok]
  cases r
  · simp
  · simpa using h4

set_option maxRecDepth 100000 in
theorem eqFields_ptr (p q : Pt) (hp : p.Wf) (hq : q.Wf) (w : World) (fs : List Field) (hf : (fs.map fun f => (f.name != "_", f.type, f.offset)) = [(true, 41, 0), (true, 40, 1), (true, 33, 2)]) :
    (Op.eqFields 9999 p.arr q.arr fs).run Tryz.prog w = .ok (decide (p = q)) w := by
  obtain ⟨f0, fs, rfl, h0, hf⟩ := List.map_eq_cons_iff.1 hf
  obtain ⟨f1, fs, rfl, h1, hf⟩ := List.map_eq_cons_iff.1 hf
  obtain ⟨f2, fs, rfl, h2, hf⟩ := List.map_eq_cons_iff.1 hf
  obtain rfl := List.map_eq_nil_iff.1 hf
  simp only [Prod.mk.injEq] at h0 h1 h2
  obtain ⟨n0, t0, o0⟩ := h0
  obtain ⟨n1, t1, o1⟩ := h1
  obtain ⟨n2, t2, o2⟩ := h2
  have q0 : Tryz.prog.plainKey 41 = true := by kernel_rfl
  have q1 : Tryz.prog.plainKey 40 = true := by kernel_rfl
  have e3 : (Op.eqFields 9999 p.arr q.arr []).run Tryz.prog w = .ok true w := by simp [Op.eqFields]
  have e2 := eqFields_step n2 _ _ t2 o2 (run_part_hash p hp w) (run_part_hash q hq w) (run_equalIn_hash 9997 p.sum q.sum hp.sum hq.sum w) e3
  have e1 := eqFields_step n1 _ _ t1 o1 (run_part_plain (P := Tryz.prog) w q1 p.get1) (run_part_plain (P := Tryz.prog) w q1 q.get1) (run_equalIn_int (P := Tryz.prog) w 9998 40 .u64 .u64 (p.birth : Int) (q.birth : Int) Tryz.underlying40) e2
  have e0 := eqFields_step n0 _ _ t0 o0 (run_part_plain (P := Tryz.prog) w q0 p.get0) (run_part_plain (P := Tryz.prog) w q0 q.get0) (run_equalIn_int (P := Tryz.prog) w 9998 41 .u32 .u32 (p.addr : Int) (q.addr : Int) Tryz.underlying41) e1
  rw [e0]
  congr 1
  obtain ⟨pa, pb, ps⟩ := p
  obtain ⟨qa, qb, qs⟩ := q
  rw [Bool.eq_iff_iff]
  simp only [Pt.mk.injEq, Bool.and_eq_true, beq_iff_eq, decide_eq_true_iff, Int.natCast_inj, and_true]

theorem run_equalIn_ptr (p q : Pt) (hp : p.Wf) (hq : q.Wf) (w : World) : (Op.equalIn 10000 43 (.agg p.arr) (.agg q.arr)).run Tryz.prog w = .ok (decide (p = q)) w := by
  rw [run_equalIn_struct w 9999 43 p.arr q.arr und_ptr stood_ptr]
  exact eqFields_ptr p q hp hq w _ fields_ptr

theorem eql_ptr {ops : Array Oper} {rest : List Oper} {o : Oper} {a : Act} {w : World} {Q : Exit → Act → World → Prop} (hgd : o.guard = none) (x y : Operand) (yt : TypeId) (ho : o.op = .binOp .eql 43 x y yt)
    {p q : Pt} (hx : a.eval x = .agg p.arr) (hy : a.eval y = .agg q.arr) (h1 : p.Wf) (h2 : q.Wf)
    (hK : wpList Tryz.prog ops Q rest (a.put o.dst (.bool (decide (p = q)))) w) : wpList Tryz.prog ops Q (o :: rest) a w := by
  refine wpList_plain hgd fun K hKK => ?_
  unfold Oper.wp execOp
  simp only [ho, hx, hy, Sem.run_bind, run_eqGuard_agg w _ _ _ _ _ _ guard_ptr, Result.andThen_ok, run_eql_struct, run_equalIn_ptr p q h1 h2 w]
  exact hKK _ _ hK

theorem load_ptr {ops : Array Oper} {rest : List Oper} {o : Oper} {a : Act} {w : World} {Q : Exit → Act → World → Prop} (hgd : o.guard = none) (x : Operand) (ho : o.op = .load 43 x)
    {b off : Nat} (hx : a.eval x = .pointer (some ⟨b, off, none⟩)) {p : Pt} (hc : At w b off p.cells) (hl : p.Wf)
    (hK : wpList Tryz.prog ops Q rest (a.put o.dst (.agg p.arr)) w) : wpList Tryz.prog ops Q (o :: rest) a w :=
  wpList_load_at hgd _ x ho b off hx p.cells _ hc Tryz.underlying43 rfl (by rw [info_ptr, hl.len]) hK
theorem store_ptr {ops : Array Oper} {rest : List Oper} {o : Oper} {a : Act} {w : World} {Q : Exit → Act → World → Prop} (hgd : o.guard = none) (x y : Operand) (ho : o.op = .store 43 x y)
    {b : Nat} (hx : a.eval x = .pointer (some ⟨b, 0, none⟩)) {p : Pt} (hy : a.eval y = .agg p.arr) {old : Array Value} {t : TypeId} (hb : w.heap[b]? = some (.cells old t (0, 0))) (ho2 : old.size = 34) (hl : p.Wf)
    (hK : ∀ w', w'.heap[b]? = some (.cells p.arr t (0, 0)) → Fr (fun k => k = b) w w' → w'.heap.size = w.heap.size → wpList Tryz.prog ops Q rest (a.put o.dst undef) w') : wpList Tryz.prog ops Q (o :: rest) a w :=
  wpList_store_row hgd _ x y ho b hx p.cells (by simpa [Pt.arr] using hy) old _ hb (by rw [ho2, hl.len]) (by have := p.one; rwa [Pt.arr_toList] at this) (by rw [info_ptr, hl.len]) (fun w' h1 h2 h3 => hK w' h1 h2 h3)

theorem At_box (w : World) (p : Pt) (t : TypeId) : At (w.alloc (.cells p.arr t)) w.heap.size 0 p.cells := At.of_row (heap_alloc_new _ _)

theorem ptrNull_any (p : Pt) (w : World) : Calls Tryz.prog 53 #[.agg p.arr] w fun e w' => e = .returned (.bool (decide (p.addr = 0))) ∧ Below w.heap.size w w' := by
  have g0 := p.get0
  have e : ((p.addr : Int) == 0) = decide (p.addr = 0) := by rw [Bool.eq_iff_iff]; simp
  obtain ⟨arr, ha⟩ : ∃ arr, arr = p.arr := ⟨_, rfl⟩
  rw [← ha] at g0 ⊢
  clear ha
  go_enter Tryz.func53, Tryz.ntmps53
  go_wp2
  go_ret
  exact ⟨by rw [← e]; rfl, (Below.refl _ _).alloc (Nat.le_refl _) _⟩

def ptrOk (p : Pt) (n : Int) : Bool := if p.addr = 0 then decide (p = Pt.zero) else decide (2 ≤ p.addr) && decide ((p.addr : Int) < n) && decide (0 < p.birth)

def ptrE (p : Pt) (n : Int) : Int := if ptrOk p n then 0 else 4
theorem ptrE_ok {p : Pt} {n : Int} (h : ptrOk p n = true) : ptrE p n = 0 := by unfold ptrE; rw [if_pos h]
theorem ptrE_bad {p : Pt} {n : Int} (h : ptrOk p n = false) : ptrE p n = 4 := by unfold ptrE; rw [if_neg (by rw [h]; simp)]

set_option maxHeartbeats 1000000 in
theorem ptrCheck_any (p : Pt) (n : Int) (w : World) (h : p.Wf) (_hn : -9223372036854775808 ≤ n ∧ n ≤ 9223372036854775807) :
    Calls Tryz.prog 68 #[.agg p.arr, .int .i64 n] w fun e w' => e = .returned (.int .i64 (ptrE p n)) ∧ Below w.heap.size w w' := by
  have g0 := p.get0
  have g1 := p.get1
  have HAT := Lib.hid (At_box w p 43)
  have HW := Lib.hid h
  have HB := Lib.hid ((Below.refl _ w).alloc (Nat.le_refl _) (.cells p.arr 43))
  have ha := h.addr
  clear h
  by_cases h0 : p.addr = 0
  · have HN := Lib.hid (fun w => ptrNull_any p w)
    rw [decide_eq_true h0] at HN
    have HQ := Lib.hid (show ptrOk p n = decide (p = Pt.zero) by unfold ptrOk; rw [if_pos h0])
    clear h0
    go_enter Tryz.func68, Tryz.ntmps68
    go_wp2_with (first | (refine load_ptr rfl (.tmp 2) rfl rfl HAT.out HW.out ?_) | (refine eql_ptr (q := Pt.zero) rfl (.tmp 6) (.tmp 7) _ rfl rfl rfl HW.out Pt.zero_wf ?_))
    refine (HN.out _).mono ?_
    rintro e w1 ⟨rfl, hb⟩
    have HB1 := Lib.hid (HB.out.trans (hb.mono HB.out.size))
    clear hb
    by_cases hz : p = Pt.zero
    · rw [decide_eq_true hz] at HQ ⊢
      replace HQ := Lib.hid (ptrE_ok HQ.out)
      clear hz
      go_wp2
      go_ret
      exact ⟨by rw [HQ.out]; rfl, HB1.out⟩
    · rw [decide_eq_false hz] at HQ ⊢
      replace HQ := Lib.hid (ptrE_bad HQ.out)
      clear hz
      go_wp2
      go_ret
      exact ⟨by rw [HQ.out]; rfl, HB1.out⟩
  · have HN := Lib.hid (fun w => ptrNull_any p w)
    rw [decide_eq_false h0] at HN
    have hq : ptrOk p n = (decide (2 ≤ p.addr) && decide ((p.addr : Int) < n) && decide (0 < p.birth)) := by unfold ptrOk; rw [if_neg h0]
    clear h0
    have c0 : ∀ w1 : World, Below (w.alloc (.cells p.arr 43)).heap.size (w.alloc (.cells p.arr 43)) w1 → w1.cell? ⟨w.heap.size, 0, none⟩ = some (.int .u32 (p.addr : Int)) ∧ w1.cell? ⟨w.heap.size, 1, none⟩ = some (.int .u64 (p.birth : Int)) := by
      intro w1 hb
      have hg := (hb.block w.heap.size (by simp)).trans (heap_alloc_new w (.cells p.arr 43))
      exact ⟨(cell_of_row _ _ 0 _ _ _ hg).trans g0, (cell_of_row _ _ 1 _ _ _ hg).trans g1⟩
    have HC := Lib.hid c0
    clear c0
    by_cases h1 : 2 ≤ p.addr
    · by_cases h2 : (p.addr : Int) < n
      · by_cases h3 : 0 < p.birth
        · rw [decide_eq_true h1, decide_eq_true h2, decide_eq_true h3] at hq
          have HQ := Lib.hid (ptrE_ok hq)
          clear hq
          go_enter Tryz.func68, Tryz.ntmps68
          go_wp2_with (first | (refine load_ptr rfl (.tmp 2) rfl rfl HAT.out HW.out ?_) | (refine eql_ptr (q := Pt.zero) rfl (.tmp 6) (.tmp 7) _ rfl rfl rfl HW.out Pt.zero_wf ?_))
          refine (HN.out _).mono ?_
          rintro e w1 ⟨rfl, hb⟩
          obtain ⟨e0, e1⟩ := HC.out _ hb
          have HB1 := Lib.hid (HB.out.trans (hb.mono HB.out.size))
          clear hb
          go_wp2
          go_ret
          exact ⟨by rw [HQ.out]; rfl, HB1.out⟩
        · rw [decide_eq_true h1, decide_eq_true h2, decide_eq_false h3] at hq
          have HQ := Lib.hid (ptrE_bad hq)
          obtain h3 : p.birth = 0 := by omega
          rw [h3] at HC
          clear hq
          go_enter Tryz.func68, Tryz.ntmps68
          go_wp2_with (first | (refine load_ptr rfl (.tmp 2) rfl rfl HAT.out HW.out ?_) | (refine eql_ptr (q := Pt.zero) rfl (.tmp 6) (.tmp 7) _ rfl rfl rfl HW.out Pt.zero_wf ?_))
          refine (HN.out _).mono ?_
          rintro e w1 ⟨rfl, hb⟩
          obtain ⟨e0, e1⟩ := HC.out _ hb
          have HB1 := Lib.hid (HB.out.trans (hb.mono HB.out.size))
          clear hb
          go_wp2
          go_ret
          exact ⟨by rw [HQ.out]; rfl, HB1.out⟩
      · rw [decide_eq_true h1, decide_eq_false h2] at hq
        have HQ := Lib.hid (ptrE_bad hq)
        clear hq
        go_enter Tryz.func68, Tryz.ntmps68
        go_wp2_with (first | (refine load_ptr rfl (.tmp 2) rfl rfl HAT.out HW.out ?_) | (refine eql_ptr (q := Pt.zero) rfl (.tmp 6) (.tmp 7) _ rfl rfl rfl HW.out Pt.zero_wf ?_))
        refine (HN.out _).mono ?_
        rintro e w1 ⟨rfl, hb⟩
        obtain ⟨e0, e1⟩ := HC.out _ hb
        have HB1 := Lib.hid (HB.out.trans (hb.mono HB.out.size))
        clear hb
        go_wp2
        go_ret
        exact ⟨by rw [HQ.out]; rfl, HB1.out⟩
    · rw [decide_eq_false h1] at hq
      have HQ := Lib.hid (ptrE_bad hq)
      have h1' : ¬ (2 : Int) ≤ (p.addr : Int) := by omega
      clear hq
      go_enter Tryz.func68, Tryz.ntmps68
      go_wp2_with (first | (refine load_ptr rfl (.tmp 2) rfl rfl HAT.out HW.out ?_) | (refine eql_ptr (q := Pt.zero) rfl (.tmp 6) (.tmp 7) _ rfl rfl rfl HW.out Pt.zero_wf ?_))
      refine (HN.out _).mono ?_
      rintro e w1 ⟨rfl, hb⟩
      obtain ⟨e0, e1⟩ := HC.out _ hb
      have HB1 := Lib.hid (HB.out.trans (hb.mono HB.out.size))
      clear hb
      go_wp2
      go_ret
      exact ⟨by rw [HQ.out]; rfl, HB1.out⟩

end Go.Proofs.YtkbnkdokcmpcgaaGreatDoor
