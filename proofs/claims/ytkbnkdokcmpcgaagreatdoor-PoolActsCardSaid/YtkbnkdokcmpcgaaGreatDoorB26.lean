/- Walk: banyanlaw13's reads: another pointer, answered 5. Walk: banyanlaw13's reads: all. Walk: banyanlaw13.PoolActs: Read of what was written. Walk: banyanlaw13.PoolActs: Limit, Crash. Walk: banyanlaw13.PoolActs: Read. -/
import Derived.Test.YtkbnkdokcmpcgaaGreatDoorB24
import Derived.Test.YtkbnkdokcmpcgaaGreatDoorB25
namespace Go.Proofs.YtkbnkdokcmpcgaaGreatDoor
open Go.RowKit

set_option maxRecDepth 100000 in
set_option maxHeartbeats 8000000 in
theorem reads_5 (P D S W birth lo : Nat) (ks : List UInt8) (t : Nat → Bool) (Fd : Nat → Prop) (d : Dv) (R S2 V2 M rb : Nat) (t2 : Nat → Bool) (lies : Lies) (p : Pt) (w : World) (h : PlAt w P D S W d.size ks t birth) (hd : DvIn w lo D Fd d)
    (hr : RpAt w R S2 V2 M d.size t2 rb lies) (hl : LieOk w ks d lies) (hp : p.Wf) (hn : d.waits.length ≤ 1000000) (h0 : p.addr ≠ 0) (h1 : ptrE p d.size = 0) (hdn : d.down = false) (hq : (lieOf lies p.addr).1 ≠ p) (hh : hashN (d.cur p.addr) ≠ p.sum) :
    Calls Tryz.prog 36 #[.pointer (some ⟨P, 0, none⟩), .pointer (some ⟨D, 0, none⟩), .pointer (some ⟨R, 0, none⟩), .int .i64 (d.size : Int), .agg p.arr] w fun e w' => e = .returned (.bool true) ∧ Below w.heap.size w w' := by
  have hb0 : Below w.heap.size w (w.alloc (.cells p.arr 43)) := (Below.refl _ w).alloc (Nat.le_refl _) _
  have hle : d.size ≤ 4096 := h.sp.2.2.1
  have HB0 := Lib.hid hb0
  have HH0 := Lib.hid (h.below hb0)
  have HD0 := Lib.hid (hd.below hb0)
  have HR0 := Lib.hid (hr.below hb0)
  have HA0 := Lib.hid (heap_alloc_new w (.cells p.arr 43))
  have HPw := Lib.hid hp
  have HWn := Lib.hid hn
  have HLi := Lib.hid hl
  have HKl := Lib.hid h.ks
  clear h hd hr hp hn hl hb0
  obtain ⟨er, her⟩ : ∃ er, er = (readE ks d p).1 := ⟨_, rfl⟩
  obtain ⟨nd, hnd⟩ : ∃ nd, nd = (readE ks d p).2 := ⟨_, rfl⟩
  have HE := Lib.hid (show er = (readE ks d p).1 ∧ nd = (readE ks d p).2 from ⟨her, hnd⟩)
  have HNz := Lib.hid (show er ≠ 0 → nd = Nd.zero from fun h => by rw [hnd]; exact readE_zero (by rw [← her]; exact h))
  have HFit := Lib.hid (show nd.Fits from by rw [hnd]; exact readE_fits _ _ _)
  clear her hnd
  go_enter Tryz.func36, Tryz.ntmps36
  go_wp2_with (refine load_ptr rfl (.tmp 9) rfl rfl (At.of_row HA0.out) HPw.out ?_)
  refine (poRead_all P D S W birth lo ks t Fd d p _ HH0.out HD0.out HPw.out HWn.out).mono ?_
  rintro e w1 ⟨arr, rfl, hn1, hb1⟩
  rw [← HE.out.1]
  rw [← HE.out.2] at hn1
  have HN1 := Lib.hid hn1
  have HSz := Lib.hid hn1.size
  have HOne := Lib.hid hn1.one
  have HB1 := Lib.hid (HB0.out.trans (hb1.mono HB0.out.size))
  have HH1 := Lib.hid (HH0.out.below hb1)
  have HD1 := Lib.hid (HD0.out.below hb1)
  have HR1 := Lib.hid (HR0.out.below hb1)
  have HA1 := Lib.hid ((hb1.block _ (lt_of_block HA0.out)).trans HA0.out)
  clear hn1 hb1 HB0 HH0 HD0 HR0 HA0
  obtain ⟨bp, hbp⟩ : ∃ bp, bp = (lieOf lies p.addr).1 := ⟨_, rfl⟩
  obtain ⟨barr, hba⟩ : ∃ barr, barr = (lieOf lies p.addr).2.1 := ⟨_, rfl⟩
  obtain ⟨bn, hbn⟩ : ∃ bn, bn = (lieOf lies p.addr).2.2 := ⟨_, rfl⟩
  rw [← hbp] at hq
  have hget := HLi.out.get hle p.addr
  rw [← hbp, ← hba, ← hbn] at hget
  have HZ := Lib.hid (show bp = (lieOf lies p.addr).1 ∧ barr = (lieOf lies p.addr).2.1 ∧ bp.Wf ∧ NdIs w barr bn ∧ bn.Fits ∧ (bp.addr = 0 ∨ bp.addr = p.addr) from ⟨hbp, hba, hget⟩)
  have HBl := Lib.hid (show (BlkL bp barr).length = 38 ∧ ∀ u ∈ BlkL bp barr, u.oneCell' = true from ⟨by unfold BlkL; rw [List.length_append, hget.1.len, Array.length_toList, hget.2.1.size], fun u hu => by
    rcases List.mem_append.1 hu with hu | hu
    · exact bp.one u (by simpa [Pt.arr] using hu)
    · exact hget.2.1.one u hu⟩)
  have HBs := Lib.hid hget.2.1.size
  have HNq := Lib.hid (show hashN (d.cur p.addr) ≠ p.sum → bp.addr = p.addr → bp.sum ≠ p.sum from fun hh ha e => by
    have hb := hbp
    unfold lieOf at hb
    cases hl : lies p.addr with
    | none => rw [hl] at hb; simp at hb; rw [hb] at ha; exact h0 ha.symm
    | some z =>
      rw [hl] at hb
      simp only [Option.getD_some] at hb
      obtain ⟨b, _, _, h3, h4, _⟩ := HLi.out.ok _ z hl
      apply hh
      rw [← e, hb, h3, h4]; rfl)
  have HRE := Lib.hid (show readE ks d p = if hashN (d.cur p.addr) = p.sum then (getE (openB ks d p), getN (openB ks d p)) else (5, Nd.zero) from by unfold readE; rw [if_neg (by rintro (e | e); exact h0 e; exact e h1), if_neg (by rw [hdn]; simp)])
  have HAl := Lib.hid (ptrE_lt h0 h1)
  have HCk := Lib.hid (show ptrE p (d.size : Int) = 0 from h1)
  have HDn := Lib.hid hdn
  have hnull : decide (p.addr = 0) = false := by simpa using h0
  have HEq := Lib.hid (show decide (bp = p) = false by simpa using hq)
  have hre := HRE.out
  rw [if_neg hh] at hre
  obtain rfl : er = 5 := by rw [HE.out.1, hre]
  have HNs := Lib.hid (show bp.addr = p.addr → bp.sum ≠ p.sum from HNq.out hh)
  have HHq := Lib.hid (show decide (hashN (d.cur p.addr) = p.sum) = false by simpa using hh)
  have HNz := Lib.hid (show nd = Nd.zero from HNz.out (by decide))
  clear hre hq hh hbp hba hbn hget h1 hdn
  go_wp2_with (first | (refine store_nd rfl (.tmp 11) (.tmp 20) rfl rfl (arr := arr) rfl (heap_alloc_new w1 (.cells zeroArr 25)) rfl HSz.out HOne.out ?_; intro w2 hg hf hs; have HGw2 := Lib.hid hg; have HBww2 := Lib.hid (show Below w1.heap.size w1 w2 from ((Below.refl _ w1).alloc (Nat.le_refl _) _).trans (hf.below (by simp) (fun j hj => by omega))); clear hg hf hs; have HA2 := Lib.hid ((HBww2.out.block _ (lt_of_block HA1.out)).trans HA1.out)) | (refine gload_nd rfl (.tmp 11) rfl rfl (At_nd HGw2.out) HSz.out ?_))
  have HNs2 := Lib.hid (HN1.out.below HBww2.out)
  refine (nodeSame_any arr zeroArr nd Nd.zero w2 HNs2.out (zero_is _) HFit.out zero_fits).mono ?_
  rintro e w3 ⟨rfl, hb3⟩
  rw [HNz.out, sameN_refl]
  have HA3 := Lib.hid ((hb3.block _ (lt_of_block HA2.out)).trans HA2.out)
  have HB3 := Lib.hid ((HB1.out.trans (HBww2.out.mono HB1.out.size)).trans (hb3.mono (Nat.le_trans HB1.out.size HBww2.out.size)))
  have HG3 := Lib.hid ((hb3.block _ (lt_of_block HGw2.out)).trans HGw2.out)
  have HN3 := Lib.hid (HNs2.out.below hb3)
  have HD3 := Lib.hid ((HD1.out.below HBww2.out).below hb3)
  have HR3 := Lib.hid ((HR1.out.below HBww2.out).below hb3)
  clear hb3 HNs2 HN1 HD1 HR1 HH1 HA1 HA2 HGw2 HBww2
  go_wp2_with (refine load_ptr rfl (.tmp 9) rfl rfl (At.of_row HA3.out) HPw.out ?_)
  refine (ptrNull_any p _).mono ?_
  rintro e w4 ⟨rfl, hb4⟩
  rw [hnull]
  have HA4 := Lib.hid ((hb4.block _ (lt_of_block HA3.out)).trans HA3.out)
  have HB4 := Lib.hid (HB3.out.trans (hb4.mono HB3.out.size))
  have HG4 := Lib.hid ((hb4.block _ (lt_of_block HG3.out)).trans HG3.out)
  have HN4 := Lib.hid (HN3.out.below hb4)
  have HD4 := Lib.hid (HD3.out.below hb4)
  have HR4 := Lib.hid (HR3.out.below hb4)
  clear hb4 HA3 HB3 HG3 HN3 HD3 HR3
  go_wp2_with (refine gload_ptr rfl (.tmp 9) rfl rfl (At.of_row HA4.out) HPw.out ?_)
  refine (ptrCheck_any p (d.size : Int) w4 HPw.out (by omega)).mono ?_
  rintro e w5 ⟨rfl, hb5⟩
  have HA5 := Lib.hid ((hb5.block _ (lt_of_block HA4.out)).trans HA4.out)
  have HB5 := Lib.hid (HB4.out.trans (hb5.mono HB4.out.size))
  have HG5 := Lib.hid ((hb5.block _ (lt_of_block HG4.out)).trans HG4.out)
  have HN5 := Lib.hid (HN4.out.below hb5)
  have HD5 := Lib.hid (HD4.out.below hb5)
  have HR5 := Lib.hid (HR4.out.below hb5)
  clear hb5 HA4 HB4 HG4 HN4 HD4 HR4
  rw [HCk.out]
  go_wp2_with fail
  have hc5 : w5.cell? ⟨D, 5, none⟩ = some (.bool d.down) := by
    obtain ⟨L, T, wv, hv, _⟩ := HD5.out
    exact cell_of_row _ D 5 _ _ _ hv.row
  refine (dvDown_any D d.down w5 hc5).mono ?_
  rintro e w6 ⟨rfl, rfl⟩
  rw [HDn.out]
  clear hc5
  go_wp2_with fail
  have HC3 := Lib.hid (show ∀ u, Below w5.heap.size w5 u → u.cell? ⟨R, 3, none⟩ = some (.map (some M)) from fun u hu => (hu.cell (p := ⟨R, 3, none⟩) (lt_of_block HR5.out.row)).trans HR5.out.cells.2.2.1)
  have HC0 := Lib.hid (show ∀ u, Below w5.heap.size w5 u → u.cell? ⟨w.heap.size, 0, none⟩ = some (.int .u32 (p.addr : Int)) from fun u hu => (hu.cell (p := ⟨w.heap.size, 0, none⟩) (lt_of_block HA5.out)).trans (cell_of_row _ _ 0 _ _ _ HA5.out))
  obtain ⟨ml, hum, hlm⟩ := HR5.out.lm
  have HUm := Lib.hid (show ∀ u, Below w5.heap.size w5 u → UM u M ml from fun u hu => hum.of_block (hu.block _ hum.lt))
  have HLm := Lib.hid hlm
  clear hum hlm
  refine wp_region_anyC (fun u => Below w5.heap.size w5 u) (by kernel_rfl) ?_
  obtain ⟨wd, hwd⟩ : ∃ wd, wd = { w5 with drawn := w5.drawn + 1 } := ⟨_, rfl⟩
  have HBd := Lib.hid (show Below w5.heap.size w5 wd by rw [hwd]; exact (Below.refl _ w5).drew)
  rw [← hwd]
  clear hwd
  refine wpAnyCL_take (i := 0) (v := .pointer (some ⟨R, 0, none⟩)) rfl (by kernel_rfl) (fun _ _ _ h => h) (.inl ⟨by rfl, fun w' _ => by go_simp⟩) ?_
  simp only [Act.put, sA, sB, sC]
  refine wpAnyCL_take (i := 1) (v := .pointer (some ⟨R, 0, none⟩)) rfl (by kernel_rfl) (fun _ _ _ h => h) (.inl ⟨by rfl, fun w' _ => by go_simp⟩) ?_
  simp only [Act.put, sA, sB, sC]
  refine wpAnyCL_take (i := 2) (v := .pointer (some ⟨R, 3, none⟩)) rfl (by kernel_rfl) (fun _ _ _ h => h) (.inl ⟨by rfl, fun w' _ => by go_simp⟩) ?_
  simp only [Act.put, sA, sB, sC]
  refine wpAnyCL_take (i := 3) (v := .map (some M)) rfl (by kernel_rfl) (fun _ _ _ h => h) (.inl ⟨by rfl, fun w' hw => by (have h := HC3.out w' hw; go_simp)⟩) ?_
  simp only [Act.put, sA, sB, sC]
  refine wpAnyCL_take (i := 4) (v := .pointer (some ⟨w.heap.size, 0, none⟩)) rfl (by kernel_rfl) (fun _ _ _ h => h) (.inl ⟨by rfl, fun w' _ => by go_simp⟩) ?_
  simp only [Act.put, sA, sB, sC]
  refine wpAnyCL_take (i := 5) (v := .int .u32 (p.addr : Int)) rfl (by kernel_rfl) (fun _ _ _ h => h) (.inl ⟨by rfl, fun w' hw => by (have h := HC0.out w' hw; go_simp)⟩) ?_
  simp only [Act.put, sA, sB, sC]
  refine wpAnyCL_take (i := 6) (v := .agg (BlkL (lieOf lies p.addr).1 (lieOf lies p.addr).2.1).toArray) rfl (by kernel_rfl) (fun _ _ _ h => h) (yields_lookup_blk (by rfl) (.tmp 49) (.tmp 51) (by rfl) (by rfl) (by rfl) HUm.out HLm.out) ?_
  simp only [Act.put, sA, sB, sC]
  rw [← HZ.out.1, ← HZ.out.2.1]
  refine wpAnyCL_forced 7 HBd.out (by kernel_rfl) rfl (by rfl) (fun K' hK' => ?_)
  refine step_alloc_blk rfl ?_
  refine hK' _ _ ?_
  simp only [Act.put, sA, sB, sC]
  have HB7 := Lib.hid (HBd.out.alloc HBd.out.size (.cells zeroBlk.toArray 88))
  have HG7 := Lib.hid (heap_alloc_new wd (.cells zeroBlk.toArray 88))
  generalize hW : World.alloc _ _ = w7
  rw [hW] at HB7 HG7
  have HGd := Lib.hid (show w5.heap.size ≤ wd.heap.size from HBd.out.size)
  clear hW
  refine wpAnyCL_forced 8 HB7.out (by kernel_rfl) rfl (by rfl) (fun K' hK' => ?_)
  refine wp_store_row 88 (.tmp 13) (.tmp 52) rfl wd.heap.size rfl (BlkL bp barr) rfl zeroBlk.toArray _ HG7.out (by rw [HBl.out.1]; rfl) HBl.out.2 (by rw [info_blk13, HBl.out.1]) ?_
  intro w8 hg8 hf8 hs8
  refine hK' _ _ ?_
  simp only [Act.put]
  have HB8 := Lib.hid (HB7.out.trans (hf8.below (by have := lt_of_block HG7.out; have := HGd.out; omega) (fun k e => by rw [e]; exact HGd.out)))
  have HG8 := Lib.hid hg8
  clear hf8 hs8 hg8
  refine wpAnyC_done (by kernel_rfl) HB8.out ?_
  have HA8 := Lib.hid ((HB8.out.block _ (lt_of_block HA5.out)).trans HA5.out)
  have HN8 := Lib.hid (HN5.out.below HB8.out)
  have HGn8 := Lib.hid ((HB8.out.block _ (lt_of_block HG5.out)).trans HG5.out)
  have HD8 := Lib.hid (HD5.out.below HB8.out)
  have HBn8 := Lib.hid ((HZ.out.2.2.2.1.below HB5.out).below HB8.out)
  have HBw8 := Lib.hid (HB5.out.trans (HB8.out.mono HB5.out.size))
  have HAp := Lib.hid (show At w8 wd.heap.size 0 bp.cells from by have := At.of_row HG8.out; unfold BlkL at this; exact (At.part (xs := []) (by simpa using this)))
  have HAb := Lib.hid (show At w8 wd.heap.size 34 barr.toList from by have := At.of_row HG8.out; unfold BlkL at this; have h2 := At.part (xs := bp.cells) (cs := barr.toList) (ys := []) (by simpa using this); rw [HZ.out.2.2.1.len] at h2; simpa using h2)
  have HAs := Lib.hid (show At w8 wd.heap.size 2 (bp.sum.map Bv) from by
    have h2 := At.part (xs := [.int .u32 (bp.addr : Int), .int .u64 (bp.birth : Int)]) (cs := bp.sum.map Bv) (ys := []) (by simpa [Pt.cells] using HAp.out)
    simpa using h2)
  have HPs := Lib.hid (show At w8 w.heap.size 2 (p.sum.map Bv) from by
    have h2 := At.part (xs := [.int .u32 (p.addr : Int), .int .u64 (p.birth : Int)]) (cs := p.sum.map Bv) (ys := []) (by have := At.of_row HA8.out; simpa [Pt.cells] using this)
    simpa using h2)
  have cb : w8.cell? ⟨wd.heap.size, 0, none⟩ = some (.int .u32 (bp.addr : Int)) := by have := HAp.out 0 (.int .u32 (bp.addr : Int)) rfl; simpa using this
  have cp : w8.cell? ⟨w.heap.size, 0, none⟩ = some (.int .u32 (p.addr : Int)) := cell_of_row _ _ 0 _ _ _ HA8.out
  clear HB8 HB7 HG7 HBd HGd HUm HLm HC3 HC0 HA5 HB5 HG5 HN5 HD5 HR5 HG8
  by_cases ha : bp.addr = p.addr
  · have hab : ((bp.addr : Int) == (p.addr : Int)) = true := by simp [ha]
    by_cases hsm : bp.sum = p.sum
    · have HSq := Lib.hid (show decide (bp.sum = p.sum) = true by simpa using hsm)
      exact absurd hsm (HNs.out ha)
    · have HSq := Lib.hid (show decide (bp.sum = p.sum) = false by simpa using hsm)
      clear ha hsm
      go_wp2_with (first | (refine load_ptr rfl (.tmp 53) rfl rfl HAp.out HZ.out.2.2.1 ?_) | (refine load_ptr rfl (.tmp 9) rfl rfl (At.of_row HA8.out) HPw.out ?_) | (refine eql_ptr rfl (.tmp 54) (.tmp 55) _ rfl rfl rfl HZ.out.2.2.1 HPw.out ?_; rw [HEq.out]) | (refine gload_nd rfl (.tmp 11) rfl rfl (At_nd HGn8.out) HSz.out ?_) | (refine gload_nd rfl (.tmp 61) rfl rfl HAb.out HBs.out ?_) | (refine gload_at rfl 33 (.tmp 73) rfl wd.heap.size 2 rfl (bp.sum.map Bv) _ HAs.out Tryz.underlying33 rfl (by rw [info_hash, List.length_map, HZ.out.2.2.1.sum]) ?_) | (refine gload_at rfl 33 (.tmp 75) rfl w.heap.size 2 rfl (p.sum.map Bv) _ HPs.out Tryz.underlying33 rfl (by rw [info_hash, List.length_map, HPw.out.sum]) ?_) | (refine geql_hash rfl (.tmp 74) (.tmp 76) _ rfl rfl rfl HZ.out.2.2.1.sum HPw.out.sum ?_; rw [HSq.out]))
      refine (dvRead_ok D p.addr lo Fd d w8 HD8.out HAl.out HDn.out HWn.out).mono ?_
      rintro e w9 ⟨rfl, hs9, hb9⟩
      have HBw9 := Lib.hid (HBw8.out.trans (hb9.mono HBw8.out.size))
      have hc512 : (d.cur p.addr).length = 512 := by
        obtain ⟨L, T, wv, hv, _⟩ := HD8.out
        exact hv.wf.cur _
      have HSl := Lib.hid (show Sl w9 1 (.slice (some ⟨w8.heap.size, 0, none⟩) 512 512) (d.cur p.addr).length ((d.cur p.addr).map Bv) from by
        rw [hc512]
        refine ⟨by simp [hc512], some ⟨w8.heap.size, 0, none⟩, 512, rfl, Nat.le_refl _, fun h => (by cases h), fun i u hu => ⟨w8.heap.size, 0, rfl, ?_⟩⟩
        rw [Nat.zero_add, cell_of_row _ _ i _ _ _ hs9, List.getElem?_toArray]; exact hu)
      have HPs9 := Lib.hid (HPs.out.fr (Fr.of_below (S := fun _ => False) hb9) id)
      have HCl := Lib.hid hc512
      clear hs9 hb9 hc512
      go_wp2_with fail
      have HUs := Lib.hid (fun u : Wd w9.heap.size w9 => u.at HPs9.out)
      have HSm := Lib.hid (fun u : Wd w9.heap.size w9 => Calls.wd (B := w9.heap.size) u (Nat.le_refl _) (shaSum_any _ _ u.to (HSl.out.below u.hb) (by rw [HCl.out]; decide)))
      refine wp_region_wd w9.heap.size (by kernel_rfl) (by kernel_rfl) ?_
      repeat (first
        | (refine wpQuiet_load_at rfl 33 (.tmp 97) rfl w.heap.size 2 rfl _ _ (fun _ hw' => by obtain ⟨u, rfl⟩ := hw'; exact HUs.out u) Tryz.underlying33 rfl (by rw [info_hash, List.length_map, HPw.out.sum]) ?_; simp only [Act.put, sA, sB, sC])
        | (refine quiet_eql_hash rfl (.tmp 96) (.tmp 98) _ rfl rfl rfl (hashN_length _) HPw.out.sum ?_; rw [HHq.out]; simp only [Act.put, sA, sB, sC])
        | go_big_quiet_step (with_reducible exact HSm.out _))
      refine wpQuiet_nil ?_
      rintro _ ⟨⟨w10, hb10⟩, rfl⟩
      have HBw10 := Lib.hid (HBw9.out.trans (hb10.mono HBw9.out.size))
      clear hb10
      go_wp2_with fail
      go_ret
      exact ⟨rfl, HBw10.out⟩
  · have hab : ((bp.addr : Int) == (p.addr : Int)) = false := by simp; omega
    clear ha
    go_wp2_with (first | (refine load_ptr rfl (.tmp 53) rfl rfl HAp.out HZ.out.2.2.1 ?_) | (refine load_ptr rfl (.tmp 9) rfl rfl (At.of_row HA8.out) HPw.out ?_) | (refine eql_ptr rfl (.tmp 54) (.tmp 55) _ rfl rfl rfl HZ.out.2.2.1 HPw.out ?_; rw [HEq.out]) | (refine gload_nd rfl (.tmp 11) rfl rfl (At_nd HGn8.out) HSz.out ?_) | (refine gload_nd rfl (.tmp 61) rfl rfl HAb.out HBs.out ?_) | (refine gload_at rfl 33 (.tmp 73) rfl wd.heap.size 2 rfl (bp.sum.map Bv) _ HAs.out Tryz.underlying33 rfl (by rw [info_hash, List.length_map, HZ.out.2.2.1.sum]) ?_) | (refine gload_at rfl 33 (.tmp 75) rfl w.heap.size 2 rfl (p.sum.map Bv) _ HPs.out Tryz.underlying33 rfl (by rw [info_hash, List.length_map, HPw.out.sum]) ?_))
    refine (dvRead_ok D p.addr lo Fd d w8 HD8.out HAl.out HDn.out HWn.out).mono ?_
    rintro e w9 ⟨rfl, hs9, hb9⟩
    have HBw9 := Lib.hid (HBw8.out.trans (hb9.mono HBw8.out.size))
    have hc512 : (d.cur p.addr).length = 512 := by
      obtain ⟨L, T, wv, hv, _⟩ := HD8.out
      exact hv.wf.cur _
    have HSl := Lib.hid (show Sl w9 1 (.slice (some ⟨w8.heap.size, 0, none⟩) 512 512) (d.cur p.addr).length ((d.cur p.addr).map Bv) from by
      rw [hc512]
      refine ⟨by simp [hc512], some ⟨w8.heap.size, 0, none⟩, 512, rfl, Nat.le_refl _, fun h => (by cases h), fun i u hu => ⟨w8.heap.size, 0, rfl, ?_⟩⟩
      rw [Nat.zero_add, cell_of_row _ _ i _ _ _ hs9, List.getElem?_toArray]; exact hu)
    have HPs9 := Lib.hid (HPs.out.fr (Fr.of_below (S := fun _ => False) hb9) id)
    have HCl := Lib.hid hc512
    clear hs9 hb9 hc512
    go_wp2_with fail
    have HUs := Lib.hid (fun u : Wd w9.heap.size w9 => u.at HPs9.out)
    have HSm := Lib.hid (fun u : Wd w9.heap.size w9 => Calls.wd (B := w9.heap.size) u (Nat.le_refl _) (shaSum_any _ _ u.to (HSl.out.below u.hb) (by rw [HCl.out]; decide)))
    refine wp_region_wd w9.heap.size (by kernel_rfl) (by kernel_rfl) ?_
    repeat (first
      | (refine wpQuiet_load_at rfl 33 (.tmp 97) rfl w.heap.size 2 rfl _ _ (fun _ hw' => by obtain ⟨u, rfl⟩ := hw'; exact HUs.out u) Tryz.underlying33 rfl (by rw [info_hash, List.length_map, HPw.out.sum]) ?_; simp only [Act.put, sA, sB, sC])
      | (refine quiet_eql_hash rfl (.tmp 96) (.tmp 98) _ rfl rfl rfl (hashN_length _) HPw.out.sum ?_; rw [HHq.out]; simp only [Act.put, sA, sB, sC])
      | go_big_quiet_step (with_reducible exact HSm.out _))
    refine wpQuiet_nil ?_
    rintro _ ⟨⟨w10, hb10⟩, rfl⟩
    have HBw10 := Lib.hid (HBw9.out.trans (hb10.mono HBw9.out.size))
    clear hb10
    go_wp2_with fail
    go_ret
    exact ⟨rfl, HBw10.out⟩

end Go.Proofs.YtkbnkdokcmpcgaaGreatDoor
namespace Go.Proofs.YtkbnkdokcmpcgaaGreatDoor
open Go.RowKit

theorem reads_any (P D S W birth lo : Nat) (ks : List UInt8) (t : Nat → Bool) (Fd : Nat → Prop) (d : Dv) (R S2 V2 M rb : Nat) (t2 : Nat → Bool) (lies : Lies) (p : Pt) (w : World) (h : PlAt w P D S W d.size ks t birth) (hd : DvIn w lo D Fd d)
    (hr : RpAt w R S2 V2 M d.size t2 rb lies) (hl : LieOk w ks d lies) (hp : p.Wf) (hn : d.waits.length ≤ 1000000) :
    Calls Tryz.prog 36 #[.pointer (some ⟨P, 0, none⟩), .pointer (some ⟨D, 0, none⟩), .pointer (some ⟨R, 0, none⟩), .int .i64 (d.size : Int), .agg p.arr] w fun e w' => e = .returned (.bool true) ∧ Below w.heap.size w w' := by
  by_cases h0 : p.addr = 0
  · exact reads_null P D S W birth lo ks t Fd d R S2 V2 M rb t2 lies p w h hd hr hl hp hn h0
  by_cases h1 : ptrE p d.size = 0
  case neg => exact reads_form P D S W birth lo ks t Fd d R S2 V2 M rb t2 lies p w h hd hr hl hp hn h0 h1
  cases hdn : d.down with
  | true => exact reads_down P D S W birth lo ks t Fd d R S2 V2 M rb t2 lies p w h hd hr hl hp hn h0 h1 hdn
  | false =>
    by_cases hq : (lieOf lies p.addr).1 = p
    · exact reads_own P D S W birth lo ks t Fd d R S2 V2 M rb t2 lies p w h hd hr hl hp hn h0 h1 hdn hq
    by_cases hh : hashN (d.cur p.addr) = p.sum
    · have hol : (openB ks d p).length = 512 := by
        obtain ⟨L, T, wv, hv, _⟩ := hd
        unfold openB
        rw [cryptB_length _ _ _ (by rw [List.length_take, h.ks]; rfl) (nonceB_length _ _)]; exact hv.wf.cur _
      rcases getE_cases hol with hge | hge
      · exact reads_0 P D S W birth lo ks t Fd d R S2 V2 M rb t2 lies p w h hd hr hl hp hn h0 h1 hdn hq hh hge
      · exact reads_4 P D S W birth lo ks t Fd d R S2 V2 M rb t2 lies p w h hd hr hl hp hn h0 h1 hdn hq hh hge
    · exact reads_5 P D S W birth lo ks t Fd d R S2 V2 M rb t2 lies p w h hd hr hl hp hn h0 h1 hdn hq hh

end Go.Proofs.YtkbnkdokcmpcgaaGreatDoor
namespace Go.Proofs.YtkbnkdokcmpcgaaGreatDoor
open Go.RowKit

set_option maxRecDepth 100000 in
set_option maxHeartbeats 16000000 in
theorem act_which {w2 w8 : World} {P D S W lo : Nat} {ks : List UInt8} {R S2 V2 M n k g1 : Nat} {d : Dv} {t : Nat → Bool} {birth : Nat} {lies : Lies} {ps : List Pt} {bs : List Nat} {vA : Value} {a : Ac13} {aL : Option Addr} {cL : Nat} (h : AcSt w2 w8 P D S W lo ks R S2 V2 M n k g1 d t birth lies ps bs vA a aL cL) (kd : Int) (hkd : kd = a.kind) (hk1 : ¬ kd = 1) (hk2 : ¬ kd = 2) (hk3 : kd = 3) {Q : Exit → Act → World → Prop} {u0 u1 u2 u3 u4 u8 u9 u11 u12 u14 u15 u16 u17 u18 u19 u20 u21 u22 u23 u24 u25 u26 u27 u28 u29 u30 u31 u32 u33 u34 u35 u36 u37 u38 u39 u40 u41 u42 u43 u44 u45 u46 u47 u48 u49 u50 u51 u52 u53 u54 u55 u56 u57 u59 u60 u61 u62 u63 u64 u65 u66 u67 u68 u69 u70 u71 u72 u73 u74 u75 u76 u77 u78 u79 u80 u81 u82 u83 u84 u85 u86 u87 u88 u89 u90 u91 u92 u93 u94 u95 u96 u97 u98 u99 u100 u101 u102 u103 u104 u105 u106 u107 u108 u109 u110 u111 u112 u113 u114 u115 u116 u117 u118 u119 u120 u121 u122 u123 u124 u125 u126 u127 u128 u129 u130 u131 u132 u133 u134 u135 u136 u137 u138 u139 u140 u141 u142 u143 u144 u145 u146 u147 u148 u149 u150 u151 u152 u153 u154 u155 u156 u157 u158 u159 u160 u161 u162 u163 u164 u165 u166 u167 u168 u169 u170 u171 u172 u173 u174 u175 u176 u177 u178 u179 u180 u181 u182 u183 u184 u185 u186 u187 u188 u189 u190 u191 u192 u193 u194 u195 u196 u197 u198 u199 u200 u201 u202 u203 u204 u205 u206 u207 u208 u209 u210 u211 u212 u213 u214 u215 u216 u217 u218 u219 u220 u221 u222 u223 u224 u225 u226 u227 u228 u229 u230 u231 u232 u233 u234 u235 u236 u237 u238 u239 u240 u241 u242 u243 : Value} (hu : u11 = vA)
    (hn : ∀ (x : Exit) {v4 v11 v14 v15 v16 v17 v18 v19 v20 v21 v59 v60 v61 v62 v63 v64 v65 v66 v67 v68 v69 v70 v71 v72 v73 v74 v75 v76 v77 v78 v79 v80 v81 v82 v83 v84 v85 v86 v87 v88 v89 v90 v91 v92 v93 v94 v95 v96 v97 v98 v99 v100 v101 v102 v103 v104 v105 v106 v107 v108 v109 v110 v111 v112 v113 v114 v115 v116 v117 v118 v119 v120 v121 v122 v123 v124 v125 v126 v127 v128 v129 v130 v131 v132 v133 v134 v135 v136 v137 v138 v139 v140 v141 v142 v143 v144 v145 v146 v147 v148 v149 v150 v151 v152 v153 v154 v155 v156 v157 v158 v159 v160 v161 v162 v163 v164 v165 v166 v167 v168 v169 v170 v171 v172 v173 v174 v175 v176 v177 v178 v179 v180 v181 v182 v183 v184 v185 v186 v187 v188 v189 v190 v191 v192 v193 v194 v195 v196 v197 v198 v199 v200 v201 v202 v203 v204 v205 v206 v207 v208 v209 v210 v211 v212 v213 v214 v215 v216 v217 v218 v219 : Value} {wx : World}, (x = .normal ∨ x = .exit 1) → AcRel w2.heap.size w2 P D S W lo ks R S2 M n (k + 1) v11 wx → Q x ⟨#[u0, u1, u2, u3, v4, .int .i64 (n : Int), .pointer (some ⟨P, 0, none⟩), .pointer (some ⟨D, 0, none⟩), u8, u9, .pointer (some ⟨R, 0, none⟩), v11, u12, .pointer (some ⟨g1, 0, none⟩), v14, v15, v16, v17, v18, v19, v20, v21, u22, u23, u24, u25, u26, u27, u28, u29, u30, u31, u32, u33, u34, u35, u36, u37, u38, u39, u40, u41, u42, u43, u44, u45, u46, u47, u48, u49, u50, u51, u52, u53, u54, u55, u56, u57, .int .i64 kd, v59, v60, v61, v62, v63, v64, v65, v66, v67, v68, v69, v70, v71, v72, v73, v74, v75, v76, v77, v78, v79, v80, v81, v82, v83, v84, v85, v86, v87, v88, v89, v90, v91, v92, v93, v94, v95, v96, v97, v98, v99, v100, v101, v102, v103, v104, v105, v106, v107, v108, v109, v110, v111, v112, v113, v114, v115, v116, v117, v118, v119, v120, v121, v122, v123, v124, v125, v126, v127, v128, v129, v130, v131, v132, v133, v134, v135, v136, v137, v138, v139, v140, v141, v142, v143, v144, v145, v146, v147, v148, v149, v150, v151, v152, v153, v154, v155, v156, v157, v158, v159, v160, v161, v162, v163, v164, v165, v166, v167, v168, v169, v170, v171, v172, v173, v174, v175, v176, v177, v178, v179, v180, v181, v182, v183, v184, v185, v186, v187, v188, v189, v190, v191, v192, v193, v194, v195, v196, v197, v198, v199, v200, v201, v202, v203, v204, v205, v206, v207, v208, v209, v210, v211, v212, v213, v214, v215, v216, v217, v218, v219, u220, u221, u222, u223, u224, u225, u226, u227, u228, u229, u230, u231, u232, u233, u234, u235, u236, u237, u238, u239, u240, u241, u242, u243], []⟩ wx)
    (hp : ∀ c b b' wx, Act.defers b = Act.defers b' → Q (.panic c) b wx → Q (.panic c) b' wx) :
    (Code.block 2 (blkIn Tryz.f9 2)).wp Tryz.prog Q ⟨#[u0, u1, u2, u3, u4, .int .i64 (n : Int), .pointer (some ⟨P, 0, none⟩), .pointer (some ⟨D, 0, none⟩), u8, u9, .pointer (some ⟨R, 0, none⟩), u11, u12, .pointer (some ⟨g1, 0, none⟩), u14, u15, u16, u17, u18, u19, u20, u21, u22, u23, u24, u25, u26, u27, u28, u29, u30, u31, u32, u33, u34, u35, u36, u37, u38, u39, u40, u41, u42, u43, u44, u45, u46, u47, u48, u49, u50, u51, u52, u53, u54, u55, u56, u57, .int .i64 kd, u59, u60, u61, u62, u63, u64, u65, u66, u67, u68, u69, u70, u71, u72, u73, u74, u75, u76, u77, u78, u79, u80, u81, u82, u83, u84, u85, u86, u87, u88, u89, u90, u91, u92, u93, u94, u95, u96, u97, u98, u99, u100, u101, u102, u103, u104, u105, u106, u107, u108, u109, u110, u111, u112, u113, u114, u115, u116, u117, u118, u119, u120, u121, u122, u123, u124, u125, u126, u127, u128, u129, u130, u131, u132, u133, u134, u135, u136, u137, u138, u139, u140, u141, u142, u143, u144, u145, u146, u147, u148, u149, u150, u151, u152, u153, u154, u155, u156, u157, u158, u159, u160, u161, u162, u163, u164, u165, u166, u167, u168, u169, u170, u171, u172, u173, u174, u175, u176, u177, u178, u179, u180, u181, u182, u183, u184, u185, u186, u187, u188, u189, u190, u191, u192, u193, u194, u195, u196, u197, u198, u199, u200, u201, u202, u203, u204, u205, u206, u207, u208, u209, u210, u211, u212, u213, u214, u215, u216, u217, u218, u219, u220, u221, u222, u223, u224, u225, u226, u227, u228, u229, u230, u231, u232, u233, u234, u235, u236, u237, u238, u239, u240, u241, u242, u243], []⟩ w8 := by
  obtain ⟨HP8', HX8', HRp8', HOw8', HG8', HI', HVL', HLo', HPw', HBs', HD', HT', HK', hn35, hu100, hk40, hhv⟩ := h
  have HP8 := Lib.hid HP8'
  have HX8 := Lib.hid HX8'
  have HRp8 := Lib.hid HRp8'
  have HG8 := Lib.hid HG8'
  have HI := Lib.hid HI'
  have HVL := Lib.hid HVL'
  have HLo := Lib.hid HLo'
  have HPw := Lib.hid HPw'
  have HD := Lib.hid HD'
  have HT2 := Lib.hid HT'
  have HKl := Lib.hid HK'
  have HHv := Lib.hid hhv
  obtain ⟨aA, cA, rfl, _⟩ := (Sl.own HOw8').len
  subst hu
  have HOw8 := Lib.hid HOw8'
  have HBs := Lib.hid HBs'
  have HR9 := Lib.hid (show AcRel w2.heap.size w2 P D S W lo ks R S2 M n (k + 1) (.slice aA ps.length cA) w8 from AcRel.next ⟨d, t, birth, lies, V2, ps, bs, HP8'.sub (fun q hq => List.mem_cons_of_mem _ hq), HX8', HD'.1, HD'.2.1, HD'.2.2.1, HRp8', HLo', HOw8', HPw', HD'.2.2.2, HBs'.1, HBs'.2.1, HBs'.2.2⟩)
  have hpp := Ac13.parts HI' (At.of_row HG8')
  rw [HVL', ← hkd] at hpp
  simp only [Nat.zero_add] at hpp
  obtain ⟨p0, p1, p2, p3, p7, p8, p9⟩ := hpp
  have HP3 := Lib.hid p3
  have HP9 := Lib.hid p9
  have HN := Lib.hid hn
  have HPn := Lib.hid hp
  clear p3 p9 hkd hn hp HP8' HX8' HRp8' HOw8' HG8' HI' HVL' HLo' HPw' HBs' HD' HT' HK' hhv
  conv => arg 2; arg 2; whnf
  have hkb1 : (kd == 1) = false := by simpa using hk1
  have hkb2 : (kd == 2) = false := by simpa using hk2
  have hkb3 : (kd == 3) = true := by simpa using hk3
  clear hk1 hk2 hk3
  by_cases hm0 : ps.length = 0
  · have hmb : ((ps.length : Int) == 0) = true := by simp [hm0]
    clear hm0
    go_wp2_with (first | (refine store_ptr rfl (.tmp 15) (.tmp 187) rfl rfl (p := a.p) rfl (heap_alloc_new w8 (.cells Pt.zero.arr 43)) Pt.zero_wf.size HI.out.p ?_; intro w9 hg hf hs; have HGw9 := Lib.hid hg; have HBww9 := Lib.hid (show Below w8.heap.size w8 w9 from ((Below.refl _ w8).alloc (Nat.le_refl _) _).trans (hf.below (by simp) (fun j hj => by omega))); have z0 := (HBww9.out.cell (p := ⟨g1, 0, none⟩) (lt_of_block HG8.out)).trans p0; have z1 := (HBww9.out.cell (p := ⟨g1, 1, none⟩) (lt_of_block HG8.out)).trans p1; clear hg hf hs) | (refine load_ptr rfl (.tmp 186) rfl rfl HP9.out HI.out.p ?_))
    exact HN.out (.exit 1) (Or.inr rfl) (HR9.out.below HBww9.out)
  · have hmb : ((ps.length : Int) == 0) = false := by rw [beq_eq_false_iff_ne]; omega
    have hmn : ¬ ((ps.length : Int) = 0) := by omega
    have hmp : 0 < ps.length := by omega
    have hm41 : ps.length ≤ 41 := by have := HD.out.2.2.2; omega
    obtain ⟨j, hjv, hjl⟩ : ∃ j : Nat, max 0 (a.which.tmod (ps.length : Int)) = (j : Int) ∧ j < ps.length := by
      have h1 := Int.tmod_lt_of_pos a.which (show (0 : Int) < (ps.length : Int) by omega)
      generalize a.which.tmod (ps.length : Int) = z at h1 ⊢
      refine ⟨(max 0 z).toNat, ?_, ?_⟩ <;> omega
    have hwh := HI.out.which
    have hlen : (ps.map Pt.cells).length = ps.length := List.length_map _
    have hown := HOw8.out
    rw [← hlen] at hown
    obtain ⟨g, cap, eA, hat, _⟩ := own_at hown (fun l hl => by obtain ⟨q, hq, rfl⟩ := List.mem_map.1 hl; exact (HPw.out q hq).len) j (by rw [hlen]; exact hjl)
    rw [hlen] at eA
    simp only [Value.slice.injEq, true_and] at eA
    obtain ⟨rfl, rfl⟩ := eA
    obtain ⟨q, hq⟩ : ∃ q, q = ps[j] := ⟨_, rfl⟩
    rw [List.getElem_map, ← hq] at hat
    have HAq := Lib.hid hat
    have HQw := Lib.hid (show q.Wf from by rw [hq]; exact HPw.out _ (List.getElem_mem hjl))
    clear hm0 hown hlen hat hq
    go_wp2_with (first | (refine store_ptr rfl (.tmp 15) (.tmp 187) rfl rfl (p := a.p) rfl (heap_alloc_new w8 (.cells Pt.zero.arr 43)) Pt.zero_wf.size HI.out.p ?_; intro w9 hg hf hs; have HGw9 := Lib.hid hg; have HBww9 := Lib.hid (show Below w8.heap.size w8 w9 from ((Below.refl _ w8).alloc (Nat.le_refl _) _).trans (hf.below (by simp) (fun j hj => by omega))); have z0 := (HBww9.out.cell (p := ⟨g1, 0, none⟩) (lt_of_block HG8.out)).trans p0; have z1 := (HBww9.out.cell (p := ⟨g1, 1, none⟩) (lt_of_block HG8.out)).trans p1; have HAq9 := Lib.hid (HAq.out.fr (Fr.of_below (S := fun _ => False) HBww9.out) id); clear hg hf hs) | (refine load_ptr rfl (.tmp 186) rfl rfl HP9.out HI.out.p ?_) | (refine load_ptr rfl (.tmp 201) rfl rfl HAq9.out HQw.out ?_) | (refine store_ptr rfl (.tmp 15) (.tmp 202) rfl rfl (p := q) rfl HGw9.out HI.out.p.size HQw.out ?_; intro w10 hg hf hs; have HGw10 := Lib.hid hg; have HBw10 := Lib.hid (HBww9.out.trans (hf.below HBww9.out.size (fun j hj => by omega))); clear hg hf hs) | (refine load_ptr rfl (.tmp 15) rfl rfl (At.of_row HGw10.out) HQw.out ?_))
    obtain ⟨Fd, hdv⟩ := (HP8.out.below HBw10.out).2.dv
    have hrd := reads_any P D S W birth lo ks t Fd d R S2 V2 M birth t lies q _ ((HP8.out.below HBw10.out).pl) hdv (by rw [HD.out.1]; exact HRp8.out.below HBw10.out) ⟨fun q z hz => by obtain ⟨b, h1, h2, h3, h4, h5, h6, h7, h8⟩ := HLo.out.ok q z hz; exact ⟨b, h1, h2, h3, h4, h5, h6, h7.below (HX8.out.trans ((HBw10.out).mono HX8.out.size)), h8⟩⟩ HQw.out (by have := HD.out.2.1; omega)
    rw [HD.out.1] at hrd
    refine hrd.mono ?_
    clear hrd hdv
    rintro e wA ⟨rfl, hbA⟩
    have HBx := Lib.hid ((HBw10.out).trans (hbA.mono (HBw10.out).size))
    clear hbA
    go_wp2_with fail
    exact HN.out .normal (Or.inl rfl) (HR9.out.below HBx.out)

end Go.Proofs.YtkbnkdokcmpcgaaGreatDoor
namespace Go.Proofs.YtkbnkdokcmpcgaaGreatDoor
open Go.RowKit

set_option maxRecDepth 100000 in
set_option maxHeartbeats 16000000 in
theorem act_limit {w2 w8 : World} {P D S W lo : Nat} {ks : List UInt8} {R S2 V2 M n k g1 : Nat} {d : Dv} {t : Nat → Bool} {birth : Nat} {lies : Lies} {ps : List Pt} {bs : List Nat} {vA : Value} {a : Ac13} {aL : Option Addr} {cL : Nat} (h : AcSt w2 w8 P D S W lo ks R S2 V2 M n k g1 d t birth lies ps bs vA a aL cL) (kd : Int) (hkd : kd = a.kind) (hk1 : ¬ kd = 1) (hk2 : ¬ kd = 2) (hk3 : ¬ kd = 3) (hk6 : ¬ kd = 6) (hk45 : kd = 4 ∨ (¬ kd = 4 ∧ kd = 5)) {Q : Exit → Act → World → Prop} {u0 u1 u2 u3 u4 u8 u9 u11 u12 u14 u15 u16 u17 u18 u19 u20 u21 u22 u23 u24 u25 u26 u27 u28 u29 u30 u31 u32 u33 u34 u35 u36 u37 u38 u39 u40 u41 u42 u43 u44 u45 u46 u47 u48 u49 u50 u51 u52 u53 u54 u55 u56 u57 u59 u60 u61 u62 u63 u64 u65 u66 u67 u68 u69 u70 u71 u72 u73 u74 u75 u76 u77 u78 u79 u80 u81 u82 u83 u84 u85 u86 u87 u88 u89 u90 u91 u92 u93 u94 u95 u96 u97 u98 u99 u100 u101 u102 u103 u104 u105 u106 u107 u108 u109 u110 u111 u112 u113 u114 u115 u116 u117 u118 u119 u120 u121 u122 u123 u124 u125 u126 u127 u128 u129 u130 u131 u132 u133 u134 u135 u136 u137 u138 u139 u140 u141 u142 u143 u144 u145 u146 u147 u148 u149 u150 u151 u152 u153 u154 u155 u156 u157 u158 u159 u160 u161 u162 u163 u164 u165 u166 u167 u168 u169 u170 u171 u172 u173 u174 u175 u176 u177 u178 u179 u180 u181 u182 u183 u184 u185 u186 u187 u188 u189 u190 u191 u192 u193 u194 u195 u196 u197 u198 u199 u200 u201 u202 u203 u204 u205 u206 u207 u208 u209 u210 u211 u212 u213 u214 u215 u216 u217 u218 u219 u220 u221 u222 u223 u224 u225 u226 u227 u228 u229 u230 u231 u232 u233 u234 u235 u236 u237 u238 u239 u240 u241 u242 u243 : Value} (hu : u11 = vA)
    (hn : ∀ (x : Exit) {v4 v11 v14 v15 v16 v17 v18 v19 v20 v21 v59 v60 v61 v62 v63 v64 v65 v66 v67 v68 v69 v70 v71 v72 v73 v74 v75 v76 v77 v78 v79 v80 v81 v82 v83 v84 v85 v86 v87 v88 v89 v90 v91 v92 v93 v94 v95 v96 v97 v98 v99 v100 v101 v102 v103 v104 v105 v106 v107 v108 v109 v110 v111 v112 v113 v114 v115 v116 v117 v118 v119 v120 v121 v122 v123 v124 v125 v126 v127 v128 v129 v130 v131 v132 v133 v134 v135 v136 v137 v138 v139 v140 v141 v142 v143 v144 v145 v146 v147 v148 v149 v150 v151 v152 v153 v154 v155 v156 v157 v158 v159 v160 v161 v162 v163 v164 v165 v166 v167 v168 v169 v170 v171 v172 v173 v174 v175 v176 v177 v178 v179 v180 v181 v182 v183 v184 v185 v186 v187 v188 v189 v190 v191 v192 v193 v194 v195 v196 v197 v198 v199 v200 v201 v202 v203 v204 v205 v206 v207 v208 v209 v210 v211 v212 v213 v214 v215 v216 v217 v218 v219 : Value} {wx : World}, (x = .normal ∨ x = .exit 1) → AcRel w2.heap.size w2 P D S W lo ks R S2 M n (k + 1) v11 wx → Q x ⟨#[u0, u1, u2, u3, v4, .int .i64 (n : Int), .pointer (some ⟨P, 0, none⟩), .pointer (some ⟨D, 0, none⟩), u8, u9, .pointer (some ⟨R, 0, none⟩), v11, u12, .pointer (some ⟨g1, 0, none⟩), v14, v15, v16, v17, v18, v19, v20, v21, u22, u23, u24, u25, u26, u27, u28, u29, u30, u31, u32, u33, u34, u35, u36, u37, u38, u39, u40, u41, u42, u43, u44, u45, u46, u47, u48, u49, u50, u51, u52, u53, u54, u55, u56, u57, .int .i64 kd, v59, v60, v61, v62, v63, v64, v65, v66, v67, v68, v69, v70, v71, v72, v73, v74, v75, v76, v77, v78, v79, v80, v81, v82, v83, v84, v85, v86, v87, v88, v89, v90, v91, v92, v93, v94, v95, v96, v97, v98, v99, v100, v101, v102, v103, v104, v105, v106, v107, v108, v109, v110, v111, v112, v113, v114, v115, v116, v117, v118, v119, v120, v121, v122, v123, v124, v125, v126, v127, v128, v129, v130, v131, v132, v133, v134, v135, v136, v137, v138, v139, v140, v141, v142, v143, v144, v145, v146, v147, v148, v149, v150, v151, v152, v153, v154, v155, v156, v157, v158, v159, v160, v161, v162, v163, v164, v165, v166, v167, v168, v169, v170, v171, v172, v173, v174, v175, v176, v177, v178, v179, v180, v181, v182, v183, v184, v185, v186, v187, v188, v189, v190, v191, v192, v193, v194, v195, v196, v197, v198, v199, v200, v201, v202, v203, v204, v205, v206, v207, v208, v209, v210, v211, v212, v213, v214, v215, v216, v217, v218, v219, u220, u221, u222, u223, u224, u225, u226, u227, u228, u229, u230, u231, u232, u233, u234, u235, u236, u237, u238, u239, u240, u241, u242, u243], []⟩ wx)
    (hp : ∀ c b b' wx, Act.defers b = Act.defers b' → Q (.panic c) b wx → Q (.panic c) b' wx) :
    (Code.block 2 (blkIn Tryz.f9 2)).wp Tryz.prog Q ⟨#[u0, u1, u2, u3, u4, .int .i64 (n : Int), .pointer (some ⟨P, 0, none⟩), .pointer (some ⟨D, 0, none⟩), u8, u9, .pointer (some ⟨R, 0, none⟩), u11, u12, .pointer (some ⟨g1, 0, none⟩), u14, u15, u16, u17, u18, u19, u20, u21, u22, u23, u24, u25, u26, u27, u28, u29, u30, u31, u32, u33, u34, u35, u36, u37, u38, u39, u40, u41, u42, u43, u44, u45, u46, u47, u48, u49, u50, u51, u52, u53, u54, u55, u56, u57, .int .i64 kd, u59, u60, u61, u62, u63, u64, u65, u66, u67, u68, u69, u70, u71, u72, u73, u74, u75, u76, u77, u78, u79, u80, u81, u82, u83, u84, u85, u86, u87, u88, u89, u90, u91, u92, u93, u94, u95, u96, u97, u98, u99, u100, u101, u102, u103, u104, u105, u106, u107, u108, u109, u110, u111, u112, u113, u114, u115, u116, u117, u118, u119, u120, u121, u122, u123, u124, u125, u126, u127, u128, u129, u130, u131, u132, u133, u134, u135, u136, u137, u138, u139, u140, u141, u142, u143, u144, u145, u146, u147, u148, u149, u150, u151, u152, u153, u154, u155, u156, u157, u158, u159, u160, u161, u162, u163, u164, u165, u166, u167, u168, u169, u170, u171, u172, u173, u174, u175, u176, u177, u178, u179, u180, u181, u182, u183, u184, u185, u186, u187, u188, u189, u190, u191, u192, u193, u194, u195, u196, u197, u198, u199, u200, u201, u202, u203, u204, u205, u206, u207, u208, u209, u210, u211, u212, u213, u214, u215, u216, u217, u218, u219, u220, u221, u222, u223, u224, u225, u226, u227, u228, u229, u230, u231, u232, u233, u234, u235, u236, u237, u238, u239, u240, u241, u242, u243], []⟩ w8 := by
  obtain ⟨HP8', HX8', HRp8', HOw8', HG8', HI', HVL', HLo', HPw', HBs', HD', HT', HK', hn35, hu100, hk40, hhv⟩ := h
  have HP8 := Lib.hid HP8'
  have HX8 := Lib.hid HX8'
  have HRp8 := Lib.hid HRp8'
  have HG8 := Lib.hid HG8'
  have HI := Lib.hid HI'
  have HVL := Lib.hid HVL'
  have HLo := Lib.hid HLo'
  have HPw := Lib.hid HPw'
  have HD := Lib.hid HD'
  have HT2 := Lib.hid HT'
  have HKl := Lib.hid HK'
  have HHv := Lib.hid hhv
  obtain ⟨aA, cA, rfl, _⟩ := (Sl.own HOw8').len
  subst hu
  have HOw8 := Lib.hid HOw8'
  have HBs := Lib.hid HBs'
  have HR9 := Lib.hid (show AcRel w2.heap.size w2 P D S W lo ks R S2 M n (k + 1) (.slice aA ps.length cA) w8 from AcRel.next ⟨d, t, birth, lies, V2, ps, bs, HP8'.sub (fun q hq => List.mem_cons_of_mem _ hq), HX8', HD'.1, HD'.2.1, HD'.2.2.1, HRp8', HLo', HOw8', HPw', HD'.2.2.2, HBs'.1, HBs'.2.1, HBs'.2.2⟩)
  have hpp := Ac13.parts HI' (At.of_row HG8')
  rw [HVL', ← hkd] at hpp
  simp only [Nat.zero_add] at hpp
  obtain ⟨p0, p1, p2, p3, p7, p8, p9⟩ := hpp
  have HP3 := Lib.hid p3
  have HP9 := Lib.hid p9
  have HN := Lib.hid hn
  have HPn := Lib.hid hp
  clear p3 p9 hkd hn hp HP8' HX8' HRp8' HOw8' HG8' HI' HVL' HLo' HPw' HBs' HD' HT' HK' hhv
  conv => arg 2; arg 2; whnf
  have hkb1 : (kd == 1) = false := by simpa using hk1
  have hkb2 : (kd == 2) = false := by simpa using hk2
  have hkb3 : (kd == 3) = false := by simpa using hk3
  have hkb6 : (kd == 6) = false := by simpa using hk6
  clear hk1 hk2 hk3 hk6
  rcases hk45 with hk4 | ⟨hk4, hk5⟩
  · have hkb4 : (kd == 4) = true := by simpa using hk4
    clear hk4
    go_wp2_with fail
    refine (limit_ps w2.heap.size P D S W lo birth ks t d _ w8 a.count HP8.out.2 HX8.out.size HI.out.count).mono ?_
    rintro e w9 ⟨rfl, hp9, hx9⟩
    have hsm := HP8.out.same hp9 hx9.size
    have HA9 := Lib.hid (show AcRel w2.heap.size w2 P D S W lo ks R S2 M n (k + 1) (.slice aA ps.length cA) w9 from ⟨d.limit a.count, t, birth, lies, V2, ps, bs, hsm.1.sub (fun q hq => List.mem_cons_of_mem _ hq), HX8.out.trans hx9, HD.out.1, by have := HD.out.2.1; show d.waits.length ≤ _; omega, HD.out.2.2.1, HRp8.out.blocks fun q hq => hsm.2 q (List.mem_cons_of_mem _ (HBs.out.1 q hq)), HLo.out.cur rfl (fun _ => rfl), HOw8.out.blocks fun q hq => hsm.2 q (List.mem_cons_of_mem _ (HBs.out.2.1 q hq)), HPw.out, by have := HD.out.2.2.2; omega, HBs.out.1, HBs.out.2.1, HBs.out.2.2⟩)
    clear hp9 hx9 hsm
    go_wp2_with fail
    exact HN.out .normal (Or.inl rfl) (HA9.out)
  · have hkb4 : (kd == 4) = false := by simpa using hk4
    have hkb5 : (kd == 5) = true := by simpa using hk5
    clear hk4 hk5
    go_wp2_with fail
    refine (crash_ps w2.heap.size P D S W lo birth ks t d _ w8 18446744073709551615 (-1) HP8.out.2 HX8.out.size (by decide) (by have := HD.out.2.1; omega) (by decide)).mono ?_
    rintro e w9 ⟨rfl, hp9, hx9⟩
    have hsm := HP8.out.same hp9 hx9.size
    have HA9 := Lib.hid (show AcRel w2.heap.size w2 P D S W lo ks R S2 M n (k + 1) (.slice aA ps.length cA) w9 from ⟨_, t, birth, lies, V2, ps, bs, hsm.1.sub (fun q hq => List.mem_cons_of_mem _ hq), HX8.out.trans hx9, HD.out.1, Nat.zero_le _, HD.out.2.2.1, HRp8.out.blocks fun q hq => hsm.2 q (List.mem_cons_of_mem _ (HBs.out.1 q hq)), HLo.out.cur rfl (fun q => crashed_all d q), HOw8.out.blocks fun q hq => hsm.2 q (List.mem_cons_of_mem _ (HBs.out.2.1 q hq)), HPw.out, by have := HD.out.2.2.2; omega, HBs.out.1, HBs.out.2.1, HBs.out.2.2⟩)
    clear hp9 hx9 hsm
    go_wp2_with fail
    exact HN.out .normal (Or.inl rfl) (HA9.out)

end Go.Proofs.YtkbnkdokcmpcgaaGreatDoor
namespace Go.Proofs.YtkbnkdokcmpcgaaGreatDoor
open Go.RowKit

set_option maxRecDepth 100000 in
set_option maxHeartbeats 16000000 in
theorem act_read {w2 w8 : World} {P D S W lo : Nat} {ks : List UInt8} {R S2 V2 M n k g1 : Nat} {d : Dv} {t : Nat → Bool} {birth : Nat} {lies : Lies} {ps : List Pt} {bs : List Nat} {vA : Value} {a : Ac13} {aL : Option Addr} {cL : Nat} (h : AcSt w2 w8 P D S W lo ks R S2 V2 M n k g1 d t birth lies ps bs vA a aL cL) (kd : Int) (hkd : kd = a.kind) (hk1 : ¬ kd = 1) (hk2 : ¬ kd = 2) (hk3 : ¬ kd = 3) (hk6 : kd = 6) {Q : Exit → Act → World → Prop} {u0 u1 u2 u3 u4 u8 u9 u11 u12 u14 u15 u16 u17 u18 u19 u20 u21 u22 u23 u24 u25 u26 u27 u28 u29 u30 u31 u32 u33 u34 u35 u36 u37 u38 u39 u40 u41 u42 u43 u44 u45 u46 u47 u48 u49 u50 u51 u52 u53 u54 u55 u56 u57 u59 u60 u61 u62 u63 u64 u65 u66 u67 u68 u69 u70 u71 u72 u73 u74 u75 u76 u77 u78 u79 u80 u81 u82 u83 u84 u85 u86 u87 u88 u89 u90 u91 u92 u93 u94 u95 u96 u97 u98 u99 u100 u101 u102 u103 u104 u105 u106 u107 u108 u109 u110 u111 u112 u113 u114 u115 u116 u117 u118 u119 u120 u121 u122 u123 u124 u125 u126 u127 u128 u129 u130 u131 u132 u133 u134 u135 u136 u137 u138 u139 u140 u141 u142 u143 u144 u145 u146 u147 u148 u149 u150 u151 u152 u153 u154 u155 u156 u157 u158 u159 u160 u161 u162 u163 u164 u165 u166 u167 u168 u169 u170 u171 u172 u173 u174 u175 u176 u177 u178 u179 u180 u181 u182 u183 u184 u185 u186 u187 u188 u189 u190 u191 u192 u193 u194 u195 u196 u197 u198 u199 u200 u201 u202 u203 u204 u205 u206 u207 u208 u209 u210 u211 u212 u213 u214 u215 u216 u217 u218 u219 u220 u221 u222 u223 u224 u225 u226 u227 u228 u229 u230 u231 u232 u233 u234 u235 u236 u237 u238 u239 u240 u241 u242 u243 : Value} (hu : u11 = vA)
    (hn : ∀ (x : Exit) {v4 v11 v14 v15 v16 v17 v18 v19 v20 v21 v59 v60 v61 v62 v63 v64 v65 v66 v67 v68 v69 v70 v71 v72 v73 v74 v75 v76 v77 v78 v79 v80 v81 v82 v83 v84 v85 v86 v87 v88 v89 v90 v91 v92 v93 v94 v95 v96 v97 v98 v99 v100 v101 v102 v103 v104 v105 v106 v107 v108 v109 v110 v111 v112 v113 v114 v115 v116 v117 v118 v119 v120 v121 v122 v123 v124 v125 v126 v127 v128 v129 v130 v131 v132 v133 v134 v135 v136 v137 v138 v139 v140 v141 v142 v143 v144 v145 v146 v147 v148 v149 v150 v151 v152 v153 v154 v155 v156 v157 v158 v159 v160 v161 v162 v163 v164 v165 v166 v167 v168 v169 v170 v171 v172 v173 v174 v175 v176 v177 v178 v179 v180 v181 v182 v183 v184 v185 v186 v187 v188 v189 v190 v191 v192 v193 v194 v195 v196 v197 v198 v199 v200 v201 v202 v203 v204 v205 v206 v207 v208 v209 v210 v211 v212 v213 v214 v215 v216 v217 v218 v219 : Value} {wx : World}, (x = .normal ∨ x = .exit 1) → AcRel w2.heap.size w2 P D S W lo ks R S2 M n (k + 1) v11 wx → Q x ⟨#[u0, u1, u2, u3, v4, .int .i64 (n : Int), .pointer (some ⟨P, 0, none⟩), .pointer (some ⟨D, 0, none⟩), u8, u9, .pointer (some ⟨R, 0, none⟩), v11, u12, .pointer (some ⟨g1, 0, none⟩), v14, v15, v16, v17, v18, v19, v20, v21, u22, u23, u24, u25, u26, u27, u28, u29, u30, u31, u32, u33, u34, u35, u36, u37, u38, u39, u40, u41, u42, u43, u44, u45, u46, u47, u48, u49, u50, u51, u52, u53, u54, u55, u56, u57, .int .i64 kd, v59, v60, v61, v62, v63, v64, v65, v66, v67, v68, v69, v70, v71, v72, v73, v74, v75, v76, v77, v78, v79, v80, v81, v82, v83, v84, v85, v86, v87, v88, v89, v90, v91, v92, v93, v94, v95, v96, v97, v98, v99, v100, v101, v102, v103, v104, v105, v106, v107, v108, v109, v110, v111, v112, v113, v114, v115, v116, v117, v118, v119, v120, v121, v122, v123, v124, v125, v126, v127, v128, v129, v130, v131, v132, v133, v134, v135, v136, v137, v138, v139, v140, v141, v142, v143, v144, v145, v146, v147, v148, v149, v150, v151, v152, v153, v154, v155, v156, v157, v158, v159, v160, v161, v162, v163, v164, v165, v166, v167, v168, v169, v170, v171, v172, v173, v174, v175, v176, v177, v178, v179, v180, v181, v182, v183, v184, v185, v186, v187, v188, v189, v190, v191, v192, v193, v194, v195, v196, v197, v198, v199, v200, v201, v202, v203, v204, v205, v206, v207, v208, v209, v210, v211, v212, v213, v214, v215, v216, v217, v218, v219, u220, u221, u222, u223, u224, u225, u226, u227, u228, u229, u230, u231, u232, u233, u234, u235, u236, u237, u238, u239, u240, u241, u242, u243], []⟩ wx)
    (hp : ∀ c b b' wx, Act.defers b = Act.defers b' → Q (.panic c) b wx → Q (.panic c) b' wx) :
    (Code.block 2 (blkIn Tryz.f9 2)).wp Tryz.prog Q ⟨#[u0, u1, u2, u3, u4, .int .i64 (n : Int), .pointer (some ⟨P, 0, none⟩), .pointer (some ⟨D, 0, none⟩), u8, u9, .pointer (some ⟨R, 0, none⟩), u11, u12, .pointer (some ⟨g1, 0, none⟩), u14, u15, u16, u17, u18, u19, u20, u21, u22, u23, u24, u25, u26, u27, u28, u29, u30, u31, u32, u33, u34, u35, u36, u37, u38, u39, u40, u41, u42, u43, u44, u45, u46, u47, u48, u49, u50, u51, u52, u53, u54, u55, u56, u57, .int .i64 kd, u59, u60, u61, u62, u63, u64, u65, u66, u67, u68, u69, u70, u71, u72, u73, u74, u75, u76, u77, u78, u79, u80, u81, u82, u83, u84, u85, u86, u87, u88, u89, u90, u91, u92, u93, u94, u95, u96, u97, u98, u99, u100, u101, u102, u103, u104, u105, u106, u107, u108, u109, u110, u111, u112, u113, u114, u115, u116, u117, u118, u119, u120, u121, u122, u123, u124, u125, u126, u127, u128, u129, u130, u131, u132, u133, u134, u135, u136, u137, u138, u139, u140, u141, u142, u143, u144, u145, u146, u147, u148, u149, u150, u151, u152, u153, u154, u155, u156, u157, u158, u159, u160, u161, u162, u163, u164, u165, u166, u167, u168, u169, u170, u171, u172, u173, u174, u175, u176, u177, u178, u179, u180, u181, u182, u183, u184, u185, u186, u187, u188, u189, u190, u191, u192, u193, u194, u195, u196, u197, u198, u199, u200, u201, u202, u203, u204, u205, u206, u207, u208, u209, u210, u211, u212, u213, u214, u215, u216, u217, u218, u219, u220, u221, u222, u223, u224, u225, u226, u227, u228, u229, u230, u231, u232, u233, u234, u235, u236, u237, u238, u239, u240, u241, u242, u243], []⟩ w8 := by
  obtain ⟨HP8', HX8', HRp8', HOw8', HG8', HI', HVL', HLo', HPw', HBs', HD', HT', HK', hn35, hu100, hk40, hhv⟩ := h
  have HP8 := Lib.hid HP8'
  have HX8 := Lib.hid HX8'
  have HRp8 := Lib.hid HRp8'
  have HG8 := Lib.hid HG8'
  have HI := Lib.hid HI'
  have HVL := Lib.hid HVL'
  have HLo := Lib.hid HLo'
  have HPw := Lib.hid HPw'
  have HD := Lib.hid HD'
  have HT2 := Lib.hid HT'
  have HKl := Lib.hid HK'
  have HHv := Lib.hid hhv
  obtain ⟨aA, cA, rfl, _⟩ := (Sl.own HOw8').len
  subst hu
  have HOw8 := Lib.hid HOw8'
  have HBs := Lib.hid HBs'
  have HR9 := Lib.hid (show AcRel w2.heap.size w2 P D S W lo ks R S2 M n (k + 1) (.slice aA ps.length cA) w8 from AcRel.next ⟨d, t, birth, lies, V2, ps, bs, HP8'.sub (fun q hq => List.mem_cons_of_mem _ hq), HX8', HD'.1, HD'.2.1, HD'.2.2.1, HRp8', HLo', HOw8', HPw', HD'.2.2.2, HBs'.1, HBs'.2.1, HBs'.2.2⟩)
  have hpp := Ac13.parts HI' (At.of_row HG8')
  rw [HVL', ← hkd] at hpp
  simp only [Nat.zero_add] at hpp
  obtain ⟨p0, p1, p2, p3, p7, p8, p9⟩ := hpp
  have HP3 := Lib.hid p3
  have HP9 := Lib.hid p9
  have HN := Lib.hid hn
  have HPn := Lib.hid hp
  clear p3 p9 hkd hn hp HP8' HX8' HRp8' HOw8' HG8' HI' HVL' HLo' HPw' HBs' HD' HT' HK' hhv
  conv => arg 2; arg 2; whnf
  have hkb1 : (kd == 1) = false := by simpa using hk1
  have hkb2 : (kd == 2) = false := by simpa using hk2
  have hkb3 : (kd == 3) = false := by simpa using hk3
  have hkb6 : (kd == 6) = true := by simpa using hk6
  clear hk1 hk2 hk3 hk6
  go_wp2_with (first | (refine store_ptr rfl (.tmp 15) (.tmp 187) rfl rfl (p := a.p) rfl (heap_alloc_new w8 (.cells Pt.zero.arr 43)) Pt.zero_wf.size HI.out.p ?_; intro w9 hg hf hs; have HGw9 := Lib.hid hg; have HBww9 := Lib.hid (show Below w8.heap.size w8 w9 from ((Below.refl _ w8).alloc (Nat.le_refl _) _).trans (hf.below (by simp) (fun j hj => by omega))); have z0 := (HBww9.out.cell (p := ⟨g1, 0, none⟩) (lt_of_block HG8.out)).trans p0; have z1 := (HBww9.out.cell (p := ⟨g1, 1, none⟩) (lt_of_block HG8.out)).trans p1; clear hg hf hs) | (refine load_ptr rfl (.tmp 186) rfl rfl HP9.out HI.out.p ?_) | (refine load_ptr rfl (.tmp 15) rfl rfl (At.of_row HGw9.out) HI.out.p ?_))
  obtain ⟨Fd, hdv⟩ := (HP8.out.below HBww9.out).2.dv
  have hrd := reads_any P D S W birth lo ks t Fd d R S2 V2 M birth t lies a.p _ ((HP8.out.below HBww9.out).pl) hdv (by rw [HD.out.1]; exact HRp8.out.below HBww9.out) ⟨fun q z hz => by obtain ⟨b, h1, h2, h3, h4, h5, h6, h7, h8⟩ := HLo.out.ok q z hz; exact ⟨b, h1, h2, h3, h4, h5, h6, h7.below (HX8.out.trans ((HBww9.out).mono HX8.out.size)), h8⟩⟩ HI.out.p (by have := HD.out.2.1; omega)
  rw [HD.out.1] at hrd
  refine hrd.mono ?_
  clear hrd hdv
  rintro e wA ⟨rfl, hbA⟩
  have HBx := Lib.hid ((HBww9.out).trans (hbA.mono (HBww9.out).size))
  clear hbA
  go_wp2_with fail
  exact HN.out .normal (Or.inl rfl) (HR9.out.below HBx.out)

end Go.Proofs.YtkbnkdokcmpcgaaGreatDoor
