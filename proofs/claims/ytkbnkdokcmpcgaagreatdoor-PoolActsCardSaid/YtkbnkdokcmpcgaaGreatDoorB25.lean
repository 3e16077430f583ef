/- Walk: banyanlaw13's reads: what was written. Walk: banyanlaw13's reads: another pointer, answered 0. Walk: banyanlaw13's reads: another pointer, answered 4. -/
import Derived.Test.YtkbnkdokcmpcgaaGreatDoorB24
namespace Go.Proofs.YtkbnkdokcmpcgaaGreatDoor
open Go.RowKit

set_option maxRecDepth 100000 in
set_option maxHeartbeats 8000000 in
theorem reads_own (P D S W birth lo : Nat) (ks : List UInt8) (t : Nat → Bool) (Fd : Nat → Prop) (d : Dv) (R S2 V2 M rb : Nat) (t2 : Nat → Bool) (lies : Lies) (p : Pt) (w : World) (h : PlAt w P D S W d.size ks t birth) (hd : DvIn w lo D Fd d)
    (hr : RpAt w R S2 V2 M d.size t2 rb lies) (hl : LieOk w ks d lies) (hp : p.Wf) (hn : d.waits.length ≤ 1000000) (h0 : p.addr ≠ 0) (h1 : ptrE p d.size = 0) (hdn : d.down = false) (hq : (lieOf lies p.addr).1 = p) :
    Calls Tryz.prog 36 #[.pointer (some ⟨P, 0, none⟩), .pointer (some ⟨D, 0, none⟩), .pointer (some ⟨R, 0, none⟩), .int .i64 (d.size : Int), .agg p.arr] w fun e w' => e = .returned (.bool true) ∧ Below w.heap.size w w' := by
  have hb0 : Below w.heap.size w (w.alloc (.cells p.arr 43)) := (Below.refl _ w).alloc (Nat.le_refl _) _
  have hle : d.size ≤ 4096 := h.sp.2.2.1
  have HB0 := Lib.hid hb0
  have HH0 := Lib.hid (h.below hb0)
  have HD0 := Lib.hid (hd.below hb0)
  have HR0 := Lib.hid (hr.below hb0)
  have HA0 := Lib.hid (heap_alloc_new w (.cells p.arr 43))
  have HPw := Lib.hid hp
  have HWn := Lib.hid hn
  have HLi := Lib.hid hl
  have HKl := Lib.hid h.ks
  clear h hd hr hp hn hl hb0
  obtain ⟨er, her⟩ : ∃ er, er = (readE ks d p).1 := ⟨_, rfl⟩
  obtain ⟨nd, hnd⟩ : ∃ nd, nd = (readE ks d p).2 := ⟨_, rfl⟩
  have HE := Lib.hid (show er = (readE ks d p).1 ∧ nd = (readE ks d p).2 from ⟨her, hnd⟩)
  have HNz := Lib.hid (show er ≠ 0 → nd = Nd.zero from fun h => by rw [hnd]; exact readE_zero (by rw [← her]; exact h))
  have HFit := Lib.hid (show nd.Fits from by rw [hnd]; exact readE_fits _ _ _)
  clear her hnd
  go_enter Tryz.func36, Tryz.ntmps36
  go_wp2_with (refine load_ptr rfl (.tmp 9) rfl rfl (At.of_row HA0.out) HPw.out ?_)
  refine (poRead_all P D S W birth lo ks t Fd d p _ HH0.out HD0.out HPw.out HWn.out).mono ?_
  rintro e w1 ⟨arr, rfl, hn1, hb1⟩
  rw [← HE.out.1]
  rw [← HE.out.2] at hn1
  have HN1 := Lib.hid hn1
  have HSz := Lib.hid hn1.size
  have HOne := Lib.hid hn1.one
  have HB1 := Lib.hid (HB0.out.trans (hb1.mono HB0.out.size))
  have HH1 := Lib.hid (HH0.out.below hb1)
  have HD1 := Lib.hid (HD0.out.below hb1)
  have HR1 := Lib.hid (HR0.out.below hb1)
  have HA1 := Lib.hid ((hb1.block _ (lt_of_block HA0.out)).trans HA0.out)
  clear hn1 hb1 HB0 HH0 HD0 HR0 HA0
  obtain ⟨bp, hbp⟩ : ∃ bp, bp = (lieOf lies p.addr).1 := ⟨_, rfl⟩
  obtain ⟨barr, hba⟩ : ∃ barr, barr = (lieOf lies p.addr).2.1 := ⟨_, rfl⟩
  obtain ⟨bn, hbn⟩ : ∃ bn, bn = (lieOf lies p.addr).2.2 := ⟨_, rfl⟩
  rw [← hbp] at hq
  have hget := HLi.out.get hle p.addr
  rw [← hbp, ← hba, ← hbn] at hget
  have HZ := Lib.hid (show bp = (lieOf lies p.addr).1 ∧ barr = (lieOf lies p.addr).2.1 ∧ bp.Wf ∧ NdIs w barr bn ∧ bn.Fits ∧ (bp.addr = 0 ∨ bp.addr = p.addr) from ⟨hbp, hba, hget⟩)
  have HBl := Lib.hid (show (BlkL bp barr).length = 38 ∧ ∀ u ∈ BlkL bp barr, u.oneCell' = true from ⟨by unfold BlkL; rw [List.length_append, hget.1.len, Array.length_toList, hget.2.1.size], fun u hu => by
    rcases List.mem_append.1 hu with hu | hu
    · exact bp.one u (by simpa [Pt.arr] using hu)
    · exact hget.2.1.one u hu⟩)
  have HBs := Lib.hid hget.2.1.size
  have HNq := Lib.hid (show hashN (d.cur p.addr) ≠ p.sum → bp.addr = p.addr → bp.sum ≠ p.sum from fun hh ha e => by
    have hb := hbp
    unfold lieOf at hb
    cases hl : lies p.addr with
    | none => rw [hl] at hb; simp at hb; rw [hb] at ha; exact h0 ha.symm
    | some z =>
      rw [hl] at hb
      simp only [Option.getD_some] at hb
      obtain ⟨b, _, _, h3, h4, _⟩ := HLi.out.ok _ z hl
      apply hh
      rw [← e, hb, h3, h4]; rfl)
  have HRE := Lib.hid (show readE ks d p = if hashN (d.cur p.addr) = p.sum then (getE (openB ks d p), getN (openB ks d p)) else (5, Nd.zero) from by unfold readE; rw [if_neg (by rintro (e | e); exact h0 e; exact e h1), if_neg (by rw [hdn]; simp)])
  have HAl := Lib.hid (ptrE_lt h0 h1)
  have HCk := Lib.hid (show ptrE p (d.size : Int) = 0 from h1)
  have HDn := Lib.hid hdn
  have hnull : decide (p.addr = 0) = false := by simpa using h0
  have hre : readE ks d p = (0, bn) := by rw [hbn]; exact HLi.out.back HKl.out h0 h1 hdn (by rw [← hbp]; exact hq)
  obtain rfl : er = 0 := by rw [HE.out.1, hre]
  obtain rfl : nd = bn := by rw [HE.out.2, hre]
  have HEq := Lib.hid (show decide (bp = p) = true by simpa using hq)
  clear hre hq hbp hba hbn hget h1 hdn
  go_wp2_with (first | (refine store_nd rfl (.tmp 11) (.tmp 20) rfl rfl (arr := arr) rfl (heap_alloc_new w1 (.cells zeroArr 25)) rfl HSz.out HOne.out ?_; intro w2 hg hf hs; have HGw2 := Lib.hid hg; have HBww2 := Lib.hid (show Below w1.heap.size w1 w2 from ((Below.refl _ w1).alloc (Nat.le_refl _) _).trans (hf.below (by simp) (fun j hj => by omega))); clear hg hf hs; have HA2 := Lib.hid ((HBww2.out.block _ (lt_of_block HA1.out)).trans HA1.out)) | (refine load_ptr rfl (.tmp 9) rfl rfl (At.of_row HA2.out) HPw.out ?_))
  have HA3 := HA2
  have HB3 := Lib.hid (HB1.out.trans (HBww2.out.mono HB1.out.size))
  have HG3 := HGw2
  have HN3 := Lib.hid (HN1.out.below HBww2.out)
  have HD3 := Lib.hid (HD1.out.below HBww2.out)
  have HR3 := Lib.hid (HR1.out.below HBww2.out)
  clear HN1 HD1 HR1 HH1 HA1 HA2 HGw2 HBww2
  refine (ptrNull_any p _).mono ?_
  rintro e w4 ⟨rfl, hb4⟩
  rw [hnull]
  have HA4 := Lib.hid ((hb4.block _ (lt_of_block HA3.out)).trans HA3.out)
  have HB4 := Lib.hid (HB3.out.trans (hb4.mono HB3.out.size))
  have HG4 := Lib.hid ((hb4.block _ (lt_of_block HG3.out)).trans HG3.out)
  have HN4 := Lib.hid (HN3.out.below hb4)
  have HD4 := Lib.hid (HD3.out.below hb4)
  have HR4 := Lib.hid (HR3.out.below hb4)
  clear hb4 HA3 HB3 HG3 HN3 HD3 HR3
  go_wp2_with (refine gload_ptr rfl (.tmp 9) rfl rfl (At.of_row HA4.out) HPw.out ?_)
  refine (ptrCheck_any p (d.size : Int) w4 HPw.out (by omega)).mono ?_
  rintro e w5 ⟨rfl, hb5⟩
  have HA5 := Lib.hid ((hb5.block _ (lt_of_block HA4.out)).trans HA4.out)
  have HB5 := Lib.hid (HB4.out.trans (hb5.mono HB4.out.size))
  have HG5 := Lib.hid ((hb5.block _ (lt_of_block HG4.out)).trans HG4.out)
  have HN5 := Lib.hid (HN4.out.below hb5)
  have HD5 := Lib.hid (HD4.out.below hb5)
  have HR5 := Lib.hid (HR4.out.below hb5)
  clear hb5 HA4 HB4 HG4 HN4 HD4 HR4
  rw [HCk.out]
  go_wp2_with fail
  have hc5 : w5.cell? ⟨D, 5, none⟩ = some (.bool d.down) := by
    obtain ⟨L, T, wv, hv, _⟩ := HD5.out
    exact cell_of_row _ D 5 _ _ _ hv.row
  refine (dvDown_any D d.down w5 hc5).mono ?_
  rintro e w6 ⟨rfl, rfl⟩
  rw [HDn.out]
  clear hc5
  go_wp2_with fail
  have HC3 := Lib.hid (show ∀ u, Below w5.heap.size w5 u → u.cell? ⟨R, 3, none⟩ = some (.map (some M)) from fun u hu => (hu.cell (p := ⟨R, 3, none⟩) (lt_of_block HR5.out.row)).trans HR5.out.cells.2.2.1)
  have HC0 := Lib.hid (show ∀ u, Below w5.heap.size w5 u → u.cell? ⟨w.heap.size, 0, none⟩ = some (.int .u32 (p.addr : Int)) from fun u hu => (hu.cell (p := ⟨w.heap.size, 0, none⟩) (lt_of_block HA5.out)).trans (cell_of_row _ _ 0 _ _ _ HA5.out))
  obtain ⟨ml, hum, hlm⟩ := HR5.out.lm
  have HUm := Lib.hid (show ∀ u, Below w5.heap.size w5 u → UM u M ml from fun u hu => hum.of_block (hu.block _ hum.lt))
  have HLm := Lib.hid hlm
  clear hum hlm
  refine wp_region_anyC (fun u => Below w5.heap.size w5 u) (by kernel_rfl) ?_
  obtain ⟨wd, hwd⟩ : ∃ wd, wd = { w5 with drawn := w5.drawn + 1 } := ⟨_, rfl⟩
  have HBd := Lib.hid (show Below w5.heap.size w5 wd by rw [hwd]; exact (Below.refl _ w5).drew)
  rw [← hwd]
  clear hwd
  refine wpAnyCL_take (i := 0) (v := .pointer (some ⟨R, 0, none⟩)) rfl (by kernel_rfl) (fun _ _ _ h => h) (.inl ⟨by rfl, fun w' _ => by go_simp⟩) ?_
  simp only [Act.put, sA, sB, sC]
  refine wpAnyCL_take (i := 1) (v := .pointer (some ⟨R, 0, none⟩)) rfl (by kernel_rfl) (fun _ _ _ h => h) (.inl ⟨by rfl, fun w' _ => by go_simp⟩) ?_
  simp only [Act.put, sA, sB, sC]
  refine wpAnyCL_take (i := 2) (v := .pointer (some ⟨R, 3, none⟩)) rfl (by kernel_rfl) (fun _ _ _ h => h) (.inl ⟨by rfl, fun w' _ => by go_simp⟩) ?_
  simp only [Act.put, sA, sB, sC]
  refine wpAnyCL_take (i := 3) (v := .map (some M)) rfl (by kernel_rfl) (fun _ _ _ h => h) (.inl ⟨by rfl, fun w' hw => by (have h := HC3.out w' hw; go_simp)⟩) ?_
  simp only [Act.put, sA, sB, sC]
  refine wpAnyCL_take (i := 4) (v := .pointer (some ⟨w.heap.size, 0, none⟩)) rfl (by kernel_rfl) (fun _ _ _ h => h) (.inl ⟨by rfl, fun w' _ => by go_simp⟩) ?_
  simp only [Act.put, sA, sB, sC]
  refine wpAnyCL_take (i := 5) (v := .int .u32 (p.addr : Int)) rfl (by kernel_rfl) (fun _ _ _ h => h) (.inl ⟨by rfl, fun w' hw => by (have h := HC0.out w' hw; go_simp)⟩) ?_
  simp only [Act.put, sA, sB, sC]
  refine wpAnyCL_take (i := 6) (v := .agg (BlkL (lieOf lies p.addr).1 (lieOf lies p.addr).2.1).toArray) rfl (by kernel_rfl) (fun _ _ _ h => h) (yields_lookup_blk (by rfl) (.tmp 49) (.tmp 51) (by rfl) (by rfl) (by rfl) HUm.out HLm.out) ?_
  simp only [Act.put, sA, sB, sC]
  rw [← HZ.out.1, ← HZ.out.2.1]
  refine wpAnyCL_forced 7 HBd.out (by kernel_rfl) rfl (by rfl) (fun K' hK' => ?_)
  refine step_alloc_blk rfl ?_
  refine hK' _ _ ?_
  simp only [Act.put, sA, sB, sC]
  have HB7 := Lib.hid (HBd.out.alloc HBd.out.size (.cells zeroBlk.toArray 88))
  have HG7 := Lib.hid (heap_alloc_new wd (.cells zeroBlk.toArray 88))
  generalize hW : World.alloc _ _ = w7
  rw [hW] at HB7 HG7
  have HGd := Lib.hid (show w5.heap.size ≤ wd.heap.size from HBd.out.size)
  clear hW
  refine wpAnyCL_forced 8 HB7.out (by kernel_rfl) rfl (by rfl) (fun K' hK' => ?_)
  refine wp_store_row 88 (.tmp 13) (.tmp 52) rfl wd.heap.size rfl (BlkL bp barr) rfl zeroBlk.toArray _ HG7.out (by rw [HBl.out.1]; rfl) HBl.out.2 (by rw [info_blk13, HBl.out.1]) ?_
  intro w8 hg8 hf8 hs8
  refine hK' _ _ ?_
  simp only [Act.put]
  have HB8 := Lib.hid (HB7.out.trans (hf8.below (by have := lt_of_block HG7.out; have := HGd.out; omega) (fun k e => by rw [e]; exact HGd.out)))
  have HG8 := Lib.hid hg8
  clear hf8 hs8 hg8
  refine wpAnyC_done (by kernel_rfl) HB8.out ?_
  have HA8 := Lib.hid ((HB8.out.block _ (lt_of_block HA5.out)).trans HA5.out)
  have HN8 := Lib.hid (HN5.out.below HB8.out)
  have HGn8 := Lib.hid ((HB8.out.block _ (lt_of_block HG5.out)).trans HG5.out)
  have HD8 := Lib.hid (HD5.out.below HB8.out)
  have HBn8 := Lib.hid ((HZ.out.2.2.2.1.below HB5.out).below HB8.out)
  have HBw8 := Lib.hid (HB5.out.trans (HB8.out.mono HB5.out.size))
  have HAp := Lib.hid (show At w8 wd.heap.size 0 bp.cells from by have := At.of_row HG8.out; unfold BlkL at this; exact (At.part (xs := []) (by simpa using this)))
  have HAb := Lib.hid (show At w8 wd.heap.size 34 barr.toList from by have := At.of_row HG8.out; unfold BlkL at this; have h2 := At.part (xs := bp.cells) (cs := barr.toList) (ys := []) (by simpa using this); rw [HZ.out.2.2.1.len] at h2; simpa using h2)
  have HAs := Lib.hid (show At w8 wd.heap.size 2 (bp.sum.map Bv) from by
    have h2 := At.part (xs := [.int .u32 (bp.addr : Int), .int .u64 (bp.birth : Int)]) (cs := bp.sum.map Bv) (ys := []) (by simpa [Pt.cells] using HAp.out)
    simpa using h2)
  have HPs := Lib.hid (show At w8 w.heap.size 2 (p.sum.map Bv) from by
    have h2 := At.part (xs := [.int .u32 (p.addr : Int), .int .u64 (p.birth : Int)]) (cs := p.sum.map Bv) (ys := []) (by have := At.of_row HA8.out; simpa [Pt.cells] using this)
    simpa using h2)
  have cb : w8.cell? ⟨wd.heap.size, 0, none⟩ = some (.int .u32 (bp.addr : Int)) := by have := HAp.out 0 (.int .u32 (bp.addr : Int)) rfl; simpa using this
  have cp : w8.cell? ⟨w.heap.size, 0, none⟩ = some (.int .u32 (p.addr : Int)) := cell_of_row _ _ 0 _ _ _ HA8.out
  clear HB8 HB7 HG7 HBd HGd HUm HLm HC3 HC0 HA5 HB5 HG5 HN5 HD5 HR5 HG8
  go_wp2_with (first | (refine load_ptr rfl (.tmp 53) rfl rfl HAp.out HZ.out.2.2.1 ?_) | (refine load_ptr rfl (.tmp 9) rfl rfl (At.of_row HA8.out) HPw.out ?_) | (refine eql_ptr rfl (.tmp 54) (.tmp 55) _ rfl rfl rfl HZ.out.2.2.1 HPw.out ?_; rw [HEq.out]) | (refine gload_nd rfl (.tmp 11) rfl rfl (At_nd HGn8.out) HSz.out ?_) | (refine gload_nd rfl (.tmp 61) rfl rfl HAb.out HBs.out ?_) | (refine gload_at rfl 33 (.tmp 73) rfl wd.heap.size 2 rfl (bp.sum.map Bv) _ HAs.out Tryz.underlying33 rfl (by rw [info_hash, List.length_map, HZ.out.2.2.1.sum]) ?_) | (refine gload_at rfl 33 (.tmp 75) rfl w.heap.size 2 rfl (p.sum.map Bv) _ HPs.out Tryz.underlying33 rfl (by rw [info_hash, List.length_map, HPw.out.sum]) ?_) | (refine geql_hash rfl (.tmp 74) (.tmp 76) _ rfl rfl rfl HZ.out.2.2.1.sum HPw.out.sum ?_; rw [HSq.out]))
  refine (nodeSame_any arr barr nd nd w8 HN8.out HBn8.out HFit.out HFit.out).mono ?_
  rintro e w9 ⟨rfl, hb9⟩
  rw [sameN_refl]
  go_wp2_with fail
  go_ret
  exact ⟨rfl, HBw8.out.trans (hb9.mono HBw8.out.size)⟩

end Go.Proofs.YtkbnkdokcmpcgaaGreatDoor
namespace Go.Proofs.YtkbnkdokcmpcgaaGreatDoor
open Go.RowKit

set_option maxRecDepth 100000 in
set_option maxHeartbeats 8000000 in
theorem reads_0 (P D S W birth lo : Nat) (ks : List UInt8) (t : Nat → Bool) (Fd : Nat → Prop) (d : Dv) (R S2 V2 M rb : Nat) (t2 : Nat → Bool) (lies : Lies) (p : Pt) (w : World) (h : PlAt w P D S W d.size ks t birth) (hd : DvIn w lo D Fd d)
    (hr : RpAt w R S2 V2 M d.size t2 rb lies) (hl : LieOk w ks d lies) (hp : p.Wf) (hn : d.waits.length ≤ 1000000) (h0 : p.addr ≠ 0) (h1 : ptrE p d.size = 0) (hdn : d.down = false) (hq : (lieOf lies p.addr).1 ≠ p) (hh : hashN (d.cur p.addr) = p.sum) (hge : getE (openB ks d p) = 0) :
    Calls Tryz.prog 36 #[.pointer (some ⟨P, 0, none⟩), .pointer (some ⟨D, 0, none⟩), .pointer (some ⟨R, 0, none⟩), .int .i64 (d.size : Int), .agg p.arr] w fun e w' => e = .returned (.bool true) ∧ Below w.heap.size w w' := by
  have hb0 : Below w.heap.size w (w.alloc (.cells p.arr 43)) := (Below.refl _ w).alloc (Nat.le_refl _) _
  have hle : d.size ≤ 4096 := h.sp.2.2.1
  have HB0 := Lib.hid hb0
  have HH0 := Lib.hid (h.below hb0)
  have HD0 := Lib.hid (hd.below hb0)
  have HR0 := Lib.hid (hr.below hb0)
  have HA0 := Lib.hid (heap_alloc_new w (.cells p.arr 43))
  have HPw := Lib.hid hp
  have HWn := Lib.hid hn
  have HLi := Lib.hid hl
  have HKl := Lib.hid h.ks
  clear h hd hr hp hn hl hb0
  obtain ⟨er, her⟩ : ∃ er, er = (readE ks d p).1 := ⟨_, rfl⟩
  obtain ⟨nd, hnd⟩ : ∃ nd, nd = (readE ks d p).2 := ⟨_, rfl⟩
  have HE := Lib.hid (show er = (readE ks d p).1 ∧ nd = (readE ks d p).2 from ⟨her, hnd⟩)
  have HNz := Lib.hid (show er ≠ 0 → nd = Nd.zero from fun h => by rw [hnd]; exact readE_zero (by rw [← her]; exact h))
  have HFit := Lib.hid (show nd.Fits from by rw [hnd]; exact readE_fits _ _ _)
  clear her hnd
  go_enter Tryz.func36, Tryz.ntmps36
  go_wp2_with (refine load_ptr rfl (.tmp 9) rfl rfl (At.of_row HA0.out) HPw.out ?_)
  refine (poRead_all P D S W birth lo ks t Fd d p _ HH0.out HD0.out HPw.out HWn.out).mono ?_
  rintro e w1 ⟨arr, rfl, hn1, hb1⟩
  rw [← HE.out.1]
  rw [← HE.out.2] at hn1
  have HN1 := Lib.hid hn1
  have HSz := Lib.hid hn1.size
  have HOne := Lib.hid hn1.one
  have HB1 := Lib.hid (HB0.out.trans (hb1.mono HB0.out.size))
  have HH1 := Lib.hid (HH0.out.below hb1)
  have HD1 := Lib.hid (HD0.out.below hb1)
  have HR1 := Lib.hid (HR0.out.below hb1)
  have HA1 := Lib.hid ((hb1.block _ (lt_of_block HA0.out)).trans HA0.out)
  clear hn1 hb1 HB0 HH0 HD0 HR0 HA0
  obtain ⟨bp, hbp⟩ : ∃ bp, bp = (lieOf lies p.addr).1 := ⟨_, rfl⟩
  obtain ⟨barr, hba⟩ : ∃ barr, barr = (lieOf lies p.addr).2.1 := ⟨_, rfl⟩
  obtain ⟨bn, hbn⟩ : ∃ bn, bn = (lieOf lies p.addr).2.2 := ⟨_, rfl⟩
  rw [← hbp] at hq
  have hget := HLi.out.get hle p.addr
  rw [← hbp, ← hba, ← hbn] at hget
  have HZ := Lib.hid (show bp = (lieOf lies p.addr).1 ∧ barr = (lieOf lies p.addr).2.1 ∧ bp.Wf ∧ NdIs w barr bn ∧ bn.Fits ∧ (bp.addr = 0 ∨ bp.addr = p.addr) from ⟨hbp, hba, hget⟩)
  have HBl := Lib.hid (show (BlkL bp barr).length = 38 ∧ ∀ u ∈ BlkL bp barr, u.oneCell' = true from ⟨by unfold BlkL; rw [List.length_append, hget.1.len, Array.length_toList, hget.2.1.size], fun u hu => by
    rcases List.mem_append.1 hu with hu | hu
    · exact bp.one u (by simpa [Pt.arr] using hu)
    · exact hget.2.1.one u hu⟩)
  have HBs := Lib.hid hget.2.1.size
  have HNq := Lib.hid (show hashN (d.cur p.addr) ≠ p.sum → bp.addr = p.addr → bp.sum ≠ p.sum from fun hh ha e => by
    have hb := hbp
    unfold lieOf at hb
    cases hl : lies p.addr with
    | none => rw [hl] at hb; simp at hb; rw [hb] at ha; exact h0 ha.symm
    | some z =>
      rw [hl] at hb
      simp only [Option.getD_some] at hb
      obtain ⟨b, _, _, h3, h4, _⟩ := HLi.out.ok _ z hl
      apply hh
      rw [← e, hb, h3, h4]; rfl)
  have HRE := Lib.hid (show readE ks d p = if hashN (d.cur p.addr) = p.sum then (getE (openB ks d p), getN (openB ks d p)) else (5, Nd.zero) from by unfold readE; rw [if_neg (by rintro (e | e); exact h0 e; exact e h1), if_neg (by rw [hdn]; simp)])
  have HAl := Lib.hid (ptrE_lt h0 h1)
  have HCk := Lib.hid (show ptrE p (d.size : Int) = 0 from h1)
  have HDn := Lib.hid hdn
  have hnull : decide (p.addr = 0) = false := by simpa using h0
  have HEq := Lib.hid (show decide (bp = p) = false by simpa using hq)
  have hre := HRE.out
  rw [if_pos hh] at hre
  obtain rfl : er = 0 := by rw [HE.out.1, hre]; exact hge
  have HHq := Lib.hid (show decide (hashN (d.cur p.addr) = p.sum) = true by simpa using hh)
  clear hge
  clear hre hq hh hbp hba hbn hget h1 hdn
  go_wp2_with (first | (refine store_nd rfl (.tmp 11) (.tmp 20) rfl rfl (arr := arr) rfl (heap_alloc_new w1 (.cells zeroArr 25)) rfl HSz.out HOne.out ?_; intro w2 hg hf hs; have HGw2 := Lib.hid hg; have HBww2 := Lib.hid (show Below w1.heap.size w1 w2 from ((Below.refl _ w1).alloc (Nat.le_refl _) _).trans (hf.below (by simp) (fun j hj => by omega))); clear hg hf hs; have HA2 := Lib.hid ((HBww2.out.block _ (lt_of_block HA1.out)).trans HA1.out)) | (refine load_ptr rfl (.tmp 9) rfl rfl (At.of_row HA2.out) HPw.out ?_))
  have HA3 := HA2
  have HB3 := Lib.hid (HB1.out.trans (HBww2.out.mono HB1.out.size))
  have HG3 := HGw2
  have HN3 := Lib.hid (HN1.out.below HBww2.out)
  have HD3 := Lib.hid (HD1.out.below HBww2.out)
  have HR3 := Lib.hid (HR1.out.below HBww2.out)
  clear HN1 HD1 HR1 HH1 HA1 HA2 HGw2 HBww2
  refine (ptrNull_any p _).mono ?_
  rintro e w4 ⟨rfl, hb4⟩
  rw [hnull]
  have HA4 := Lib.hid ((hb4.block _ (lt_of_block HA3.out)).trans HA3.out)
  have HB4 := Lib.hid (HB3.out.trans (hb4.mono HB3.out.size))
  have HG4 := Lib.hid ((hb4.block _ (lt_of_block HG3.out)).trans HG3.out)
  have HN4 := Lib.hid (HN3.out.below hb4)
  have HD4 := Lib.hid (HD3.out.below hb4)
  have HR4 := Lib.hid (HR3.out.below hb4)
  clear hb4 HA3 HB3 HG3 HN3 HD3 HR3
  go_wp2_with (refine gload_ptr rfl (.tmp 9) rfl rfl (At.of_row HA4.out) HPw.out ?_)
  refine (ptrCheck_any p (d.size : Int) w4 HPw.out (by omega)).mono ?_
  rintro e w5 ⟨rfl, hb5⟩
  have HA5 := Lib.hid ((hb5.block _ (lt_of_block HA4.out)).trans HA4.out)
  have HB5 := Lib.hid (HB4.out.trans (hb5.mono HB4.out.size))
  have HG5 := Lib.hid ((hb5.block _ (lt_of_block HG4.out)).trans HG4.out)
  have HN5 := Lib.hid (HN4.out.below hb5)
  have HD5 := Lib.hid (HD4.out.below hb5)
  have HR5 := Lib.hid (HR4.out.below hb5)
  clear hb5 HA4 HB4 HG4 HN4 HD4 HR4
  rw [HCk.out]
  go_wp2_with fail
  have hc5 : w5.cell? ⟨D, 5, none⟩ = some (.bool d.down) := by
    obtain ⟨L, T, wv, hv, _⟩ := HD5.out
    exact cell_of_row _ D 5 _ _ _ hv.row
  refine (dvDown_any D d.down w5 hc5).mono ?_
  rintro e w6 ⟨rfl, rfl⟩
  rw [HDn.out]
  clear hc5
  go_wp2_with fail
  have HC3 := Lib.hid (show ∀ u, Below w5.heap.size w5 u → u.cell? ⟨R, 3, none⟩ = some (.map (some M)) from fun u hu => (hu.cell (p := ⟨R, 3, none⟩) (lt_of_block HR5.out.row)).trans HR5.out.cells.2.2.1)
  have HC0 := Lib.hid (show ∀ u, Below w5.heap.size w5 u → u.cell? ⟨w.heap.size, 0, none⟩ = some (.int .u32 (p.addr : Int)) from fun u hu => (hu.cell (p := ⟨w.heap.size, 0, none⟩) (lt_of_block HA5.out)).trans (cell_of_row _ _ 0 _ _ _ HA5.out))
  obtain ⟨ml, hum, hlm⟩ := HR5.out.lm
  have HUm := Lib.hid (show ∀ u, Below w5.heap.size w5 u → UM u M ml from fun u hu => hum.of_block (hu.block _ hum.lt))
  have HLm := Lib.hid hlm
  clear hum hlm
  refine wp_region_anyC (fun u => Below w5.heap.size w5 u) (by kernel_rfl) ?_
  obtain ⟨wd, hwd⟩ : ∃ wd, wd = { w5 with drawn := w5.drawn + 1 } := ⟨_, rfl⟩
  have HBd := Lib.hid (show Below w5.heap.size w5 wd by rw [hwd]; exact (Below.refl _ w5).drew)
  rw [← hwd]
  clear hwd
  refine wpAnyCL_take (i := 0) (v := .pointer (some ⟨R, 0, none⟩)) rfl (by kernel_rfl) (fun _ _ _ h => h) (.inl ⟨by rfl, fun w' _ => by go_simp⟩) ?_
  simp only [Act.put, sA, sB, sC]
  refine wpAnyCL_take (i := 1) (v := .pointer (some ⟨R, 0, none⟩)) rfl (by kernel_rfl) (fun _ _ _ h => h) (.inl ⟨by rfl, fun w' _ => by go_simp⟩) ?_
  simp only [Act.put, sA, sB, sC]
  refine wpAnyCL_take (i := 2) (v := .pointer (some ⟨R, 3, none⟩)) rfl (by kernel_rfl) (fun _ _ _ h => h) (.inl ⟨by rfl, fun w' _ => by go_simp⟩) ?_
  simp only [Act.put, sA, sB, sC]
  refine wpAnyCL_take (i := 3) (v := .map (some M)) rfl (by kernel_rfl) (fun _ _ _ h => h) (.inl ⟨by rfl, fun w' hw => by (have h := HC3.out w' hw; go_simp)⟩) ?_
  simp only [Act.put, sA, sB, sC]
  refine wpAnyCL_take (i := 4) (v := .pointer (some ⟨w.heap.size, 0, none⟩)) rfl (by kernel_rfl) (fun _ _ _ h => h) (.inl ⟨by rfl, fun w' _ => by go_simp⟩) ?_
  simp only [Act.put, sA, sB, sC]
  refine wpAnyCL_take (i := 5) (v := .int .u32 (p.addr : Int)) rfl (by kernel_rfl) (fun _ _ _ h => h) (.inl ⟨by rfl, fun w' hw => by (have h := HC0.out w' hw; go_simp)⟩) ?_
  simp only [Act.put, sA, sB, sC]
  refine wpAnyCL_take (i := 6) (v := .agg (BlkL (lieOf lies p.addr).1 (lieOf lies p.addr).2.1).toArray) rfl (by kernel_rfl) (fun _ _ _ h => h) (yields_lookup_blk (by rfl) (.tmp 49) (.tmp 51) (by rfl) (by rfl) (by rfl) HUm.out HLm.out) ?_
  simp only [Act.put, sA, sB, sC]
  rw [← HZ.out.1, ← HZ.out.2.1]
  refine wpAnyCL_forced 7 HBd.out (by kernel_rfl) rfl (by rfl) (fun K' hK' => ?_)
  refine step_alloc_blk rfl ?_
  refine hK' _ _ ?_
  simp only [Act.put, sA, sB, sC]
  have HB7 := Lib.hid (HBd.out.alloc HBd.out.size (.cells zeroBlk.toArray 88))
  have HG7 := Lib.hid (heap_alloc_new wd (.cells zeroBlk.toArray 88))
  generalize hW : World.alloc _ _ = w7
  rw [hW] at HB7 HG7
  have HGd := Lib.hid (show w5.heap.size ≤ wd.heap.size from HBd.out.size)
  clear hW
  refine wpAnyCL_forced 8 HB7.out (by kernel_rfl) rfl (by rfl) (fun K' hK' => ?_)
  refine wp_store_row 88 (.tmp 13) (.tmp 52) rfl wd.heap.size rfl (BlkL bp barr) rfl zeroBlk.toArray _ HG7.out (by rw [HBl.out.1]; rfl) HBl.out.2 (by rw [info_blk13, HBl.out.1]) ?_
  intro w8 hg8 hf8 hs8
  refine hK' _ _ ?_
  simp only [Act.put]
  have HB8 := Lib.hid (HB7.out.trans (hf8.below (by have := lt_of_block HG7.out; have := HGd.out; omega) (fun k e => by rw [e]; exact HGd.out)))
  have HG8 := Lib.hid hg8
  clear hf8 hs8 hg8
  refine wpAnyC_done (by kernel_rfl) HB8.out ?_
  have HA8 := Lib.hid ((HB8.out.block _ (lt_of_block HA5.out)).trans HA5.out)
  have HN8 := Lib.hid (HN5.out.below HB8.out)
  have HGn8 := Lib.hid ((HB8.out.block _ (lt_of_block HG5.out)).trans HG5.out)
  have HD8 := Lib.hid (HD5.out.below HB8.out)
  have HBn8 := Lib.hid ((HZ.out.2.2.2.1.below HB5.out).below HB8.out)
  have HBw8 := Lib.hid (HB5.out.trans (HB8.out.mono HB5.out.size))
  have HAp := Lib.hid (show At w8 wd.heap.size 0 bp.cells from by have := At.of_row HG8.out; unfold BlkL at this; exact (At.part (xs := []) (by simpa using this)))
  have HAb := Lib.hid (show At w8 wd.heap.size 34 barr.toList from by have := At.of_row HG8.out; unfold BlkL at this; have h2 := At.part (xs := bp.cells) (cs := barr.toList) (ys := []) (by simpa using this); rw [HZ.out.2.2.1.len] at h2; simpa using h2)
  have HAs := Lib.hid (show At w8 wd.heap.size 2 (bp.sum.map Bv) from by
    have h2 := At.part (xs := [.int .u32 (bp.addr : Int), .int .u64 (bp.birth : Int)]) (cs := bp.sum.map Bv) (ys := []) (by simpa [Pt.cells] using HAp.out)
    simpa using h2)
  have HPs := Lib.hid (show At w8 w.heap.size 2 (p.sum.map Bv) from by
    have h2 := At.part (xs := [.int .u32 (p.addr : Int), .int .u64 (p.birth : Int)]) (cs := p.sum.map Bv) (ys := []) (by have := At.of_row HA8.out; simpa [Pt.cells] using this)
    simpa using h2)
  have cb : w8.cell? ⟨wd.heap.size, 0, none⟩ = some (.int .u32 (bp.addr : Int)) := by have := HAp.out 0 (.int .u32 (bp.addr : Int)) rfl; simpa using this
  have cp : w8.cell? ⟨w.heap.size, 0, none⟩ = some (.int .u32 (p.addr : Int)) := cell_of_row _ _ 0 _ _ _ HA8.out
  clear HB8 HB7 HG7 HBd HGd HUm HLm HC3 HC0 HA5 HB5 HG5 HN5 HD5 HR5 HG8
  by_cases ha : bp.addr = p.addr
  · have hab : ((bp.addr : Int) == (p.addr : Int)) = true := by simp [ha]
    by_cases hsm : bp.sum = p.sum
    · have HSq := Lib.hid (show decide (bp.sum = p.sum) = true by simpa using hsm)
      clear ha hsm
      go_wp2_with (first | (refine load_ptr rfl (.tmp 53) rfl rfl HAp.out HZ.out.2.2.1 ?_) | (refine load_ptr rfl (.tmp 9) rfl rfl (At.of_row HA8.out) HPw.out ?_) | (refine eql_ptr rfl (.tmp 54) (.tmp 55) _ rfl rfl rfl HZ.out.2.2.1 HPw.out ?_; rw [HEq.out]) | (refine gload_nd rfl (.tmp 11) rfl rfl (At_nd HGn8.out) HSz.out ?_) | (refine gload_nd rfl (.tmp 61) rfl rfl HAb.out HBs.out ?_) | (refine gload_at rfl 33 (.tmp 73) rfl wd.heap.size 2 rfl (bp.sum.map Bv) _ HAs.out Tryz.underlying33 rfl (by rw [info_hash, List.length_map, HZ.out.2.2.1.sum]) ?_) | (refine gload_at rfl 33 (.tmp 75) rfl w.heap.size 2 rfl (p.sum.map Bv) _ HPs.out Tryz.underlying33 rfl (by rw [info_hash, List.length_map, HPw.out.sum]) ?_) | (refine geql_hash rfl (.tmp 74) (.tmp 76) _ rfl rfl rfl HZ.out.2.2.1.sum HPw.out.sum ?_; rw [HSq.out]))
      go_ret
      exact ⟨rfl, HBw8.out⟩
    · have HSq := Lib.hid (show decide (bp.sum = p.sum) = false by simpa using hsm)
      clear ha hsm
      go_wp2_with (first | (refine load_ptr rfl (.tmp 53) rfl rfl HAp.out HZ.out.2.2.1 ?_) | (refine load_ptr rfl (.tmp 9) rfl rfl (At.of_row HA8.out) HPw.out ?_) | (refine eql_ptr rfl (.tmp 54) (.tmp 55) _ rfl rfl rfl HZ.out.2.2.1 HPw.out ?_; rw [HEq.out]) | (refine gload_nd rfl (.tmp 11) rfl rfl (At_nd HGn8.out) HSz.out ?_) | (refine gload_nd rfl (.tmp 61) rfl rfl HAb.out HBs.out ?_) | (refine gload_at rfl 33 (.tmp 73) rfl wd.heap.size 2 rfl (bp.sum.map Bv) _ HAs.out Tryz.underlying33 rfl (by rw [info_hash, List.length_map, HZ.out.2.2.1.sum]) ?_) | (refine gload_at rfl 33 (.tmp 75) rfl w.heap.size 2 rfl (p.sum.map Bv) _ HPs.out Tryz.underlying33 rfl (by rw [info_hash, List.length_map, HPw.out.sum]) ?_) | (refine geql_hash rfl (.tmp 74) (.tmp 76) _ rfl rfl rfl HZ.out.2.2.1.sum HPw.out.sum ?_; rw [HSq.out]))
      refine (dvRead_ok D p.addr lo Fd d w8 HD8.out HAl.out HDn.out HWn.out).mono ?_
      rintro e w9 ⟨rfl, hs9, hb9⟩
      have HBw9 := Lib.hid (HBw8.out.trans (hb9.mono HBw8.out.size))
      have hc512 : (d.cur p.addr).length = 512 := by
        obtain ⟨L, T, wv, hv, _⟩ := HD8.out
        exact hv.wf.cur _
      have HSl := Lib.hid (show Sl w9 1 (.slice (some ⟨w8.heap.size, 0, none⟩) 512 512) (d.cur p.addr).length ((d.cur p.addr).map Bv) from by
        rw [hc512]
        refine ⟨by simp [hc512], some ⟨w8.heap.size, 0, none⟩, 512, rfl, Nat.le_refl _, fun h => (by cases h), fun i u hu => ⟨w8.heap.size, 0, rfl, ?_⟩⟩
        rw [Nat.zero_add, cell_of_row _ _ i _ _ _ hs9, List.getElem?_toArray]; exact hu)
      have HPs9 := Lib.hid (HPs.out.fr (Fr.of_below (S := fun _ => False) hb9) id)
      have HCl := Lib.hid hc512
      clear hs9 hb9 hc512
      go_wp2_with fail
      have HUs := Lib.hid (fun u : Wd w9.heap.size w9 => u.at HPs9.out)
      have HSm := Lib.hid (fun u : Wd w9.heap.size w9 => Calls.wd (B := w9.heap.size) u (Nat.le_refl _) (shaSum_any _ _ u.to (HSl.out.below u.hb) (by rw [HCl.out]; decide)))
      refine wp_region_wd w9.heap.size (by kernel_rfl) (by kernel_rfl) ?_
      repeat (first
        | (refine wpQuiet_load_at rfl 33 (.tmp 97) rfl w.heap.size 2 rfl _ _ (fun _ hw' => by obtain ⟨u, rfl⟩ := hw'; exact HUs.out u) Tryz.underlying33 rfl (by rw [info_hash, List.length_map, HPw.out.sum]) ?_; simp only [Act.put, sA, sB, sC])
        | (refine quiet_eql_hash rfl (.tmp 96) (.tmp 98) _ rfl rfl rfl (hashN_length _) HPw.out.sum ?_; rw [HHq.out]; simp only [Act.put, sA, sB, sC])
        | go_big_quiet_step (with_reducible exact HSm.out _))
      refine wpQuiet_nil ?_
      rintro _ ⟨⟨w10, hb10⟩, rfl⟩
      have HBw10 := Lib.hid (HBw9.out.trans (hb10.mono HBw9.out.size))
      clear hb10
      go_wp2_with fail
      go_ret
      exact ⟨rfl, HBw10.out⟩
  · have hab : ((bp.addr : Int) == (p.addr : Int)) = false := by simp; omega
    clear ha
    go_wp2_with (first | (refine load_ptr rfl (.tmp 53) rfl rfl HAp.out HZ.out.2.2.1 ?_) | (refine load_ptr rfl (.tmp 9) rfl rfl (At.of_row HA8.out) HPw.out ?_) | (refine eql_ptr rfl (.tmp 54) (.tmp 55) _ rfl rfl rfl HZ.out.2.2.1 HPw.out ?_; rw [HEq.out]) | (refine gload_nd rfl (.tmp 11) rfl rfl (At_nd HGn8.out) HSz.out ?_) | (refine gload_nd rfl (.tmp 61) rfl rfl HAb.out HBs.out ?_) | (refine gload_at rfl 33 (.tmp 73) rfl wd.heap.size 2 rfl (bp.sum.map Bv) _ HAs.out Tryz.underlying33 rfl (by rw [info_hash, List.length_map, HZ.out.2.2.1.sum]) ?_) | (refine gload_at rfl 33 (.tmp 75) rfl w.heap.size 2 rfl (p.sum.map Bv) _ HPs.out Tryz.underlying33 rfl (by rw [info_hash, List.length_map, HPw.out.sum]) ?_))
    refine (dvRead_ok D p.addr lo Fd d w8 HD8.out HAl.out HDn.out HWn.out).mono ?_
    rintro e w9 ⟨rfl, hs9, hb9⟩
    have HBw9 := Lib.hid (HBw8.out.trans (hb9.mono HBw8.out.size))
    have hc512 : (d.cur p.addr).length = 512 := by
      obtain ⟨L, T, wv, hv, _⟩ := HD8.out
      exact hv.wf.cur _
    have HSl := Lib.hid (show Sl w9 1 (.slice (some ⟨w8.heap.size, 0, none⟩) 512 512) (d.cur p.addr).length ((d.cur p.addr).map Bv) from by
      rw [hc512]
      refine ⟨by simp [hc512], some ⟨w8.heap.size, 0, none⟩, 512, rfl, Nat.le_refl _, fun h => (by cases h), fun i u hu => ⟨w8.heap.size, 0, rfl, ?_⟩⟩
      rw [Nat.zero_add, cell_of_row _ _ i _ _ _ hs9, List.getElem?_toArray]; exact hu)
    have HPs9 := Lib.hid (HPs.out.fr (Fr.of_below (S := fun _ => False) hb9) id)
    have HCl := Lib.hid hc512
    clear hs9 hb9 hc512
    go_wp2_with fail
    have HUs := Lib.hid (fun u : Wd w9.heap.size w9 => u.at HPs9.out)
    have HSm := Lib.hid (fun u : Wd w9.heap.size w9 => Calls.wd (B := w9.heap.size) u (Nat.le_refl _) (shaSum_any _ _ u.to (HSl.out.below u.hb) (by rw [HCl.out]; decide)))
    refine wp_region_wd w9.heap.size (by kernel_rfl) (by kernel_rfl) ?_
    repeat (first
      | (refine wpQuiet_load_at rfl 33 (.tmp 97) rfl w.heap.size 2 rfl _ _ (fun _ hw' => by obtain ⟨u, rfl⟩ := hw'; exact HUs.out u) Tryz.underlying33 rfl (by rw [info_hash, List.length_map, HPw.out.sum]) ?_; simp only [Act.put, sA, sB, sC])
      | (refine quiet_eql_hash rfl (.tmp 96) (.tmp 98) _ rfl rfl rfl (hashN_length _) HPw.out.sum ?_; rw [HHq.out]; simp only [Act.put, sA, sB, sC])
      | go_big_quiet_step (with_reducible exact HSm.out _))
    refine wpQuiet_nil ?_
    rintro _ ⟨⟨w10, hb10⟩, rfl⟩
    have HBw10 := Lib.hid (HBw9.out.trans (hb10.mono HBw9.out.size))
    clear hb10
    go_wp2_with fail
    go_ret
    exact ⟨rfl, HBw10.out⟩

end Go.Proofs.YtkbnkdokcmpcgaaGreatDoor
namespace Go.Proofs.YtkbnkdokcmpcgaaGreatDoor
open Go.RowKit

set_option maxRecDepth 100000 in
set_option maxHeartbeats 8000000 in
theorem reads_4 (P D S W birth lo : Nat) (ks : List UInt8) (t : Nat → Bool) (Fd : Nat → Prop) (d : Dv) (R S2 V2 M rb : Nat) (t2 : Nat → Bool) (lies : Lies) (p : Pt) (w : World) (h : PlAt w P D S W d.size ks t birth) (hd : DvIn w lo D Fd d)
    (hr : RpAt w R S2 V2 M d.size t2 rb lies) (hl : LieOk w ks d lies) (hp : p.Wf) (hn : d.waits.length ≤ 1000000) (h0 : p.addr ≠ 0) (h1 : ptrE p d.size = 0) (hdn : d.down = false) (hq : (lieOf lies p.addr).1 ≠ p) (hh : hashN (d.cur p.addr) = p.sum) (hge : getE (openB ks d p) = 4) :
    Calls Tryz.prog 36 #[.pointer (some ⟨P, 0, none⟩), .pointer (some ⟨D, 0, none⟩), .pointer (some ⟨R, 0, none⟩), .int .i64 (d.size : Int), .agg p.arr] w fun e w' => e = .returned (.bool true) ∧ Below w.heap.size w w' := by
  have hb0 : Below w.heap.size w (w.alloc (.cells p.arr 43)) := (Below.refl _ w).alloc (Nat.le_refl _) _
  have hle : d.size ≤ 4096 := h.sp.2.2.1
  have HB0 := Lib.hid hb0
  have HH0 := Lib.hid (h.below hb0)
  have HD0 := Lib.hid (hd.below hb0)
  have HR0 := Lib.hid (hr.below hb0)
  have HA0 := Lib.hid (heap_alloc_new w (.cells p.arr 43))
  have HPw := Lib.hid hp
  have HWn := Lib.hid hn
  have HLi := Lib.hid hl
  have HKl := Lib.hid h.ks
  clear h hd hr hp hn hl hb0
  obtain ⟨er, her⟩ : ∃ er, er = (readE ks d p).1 := ⟨_, rfl⟩
  obtain ⟨nd, hnd⟩ : ∃ nd, nd = (readE ks d p).2 := ⟨_, rfl⟩
  have HE := Lib.hid (show er = (readE ks d p).1 ∧ nd = (readE ks d p).2 from ⟨her, hnd⟩)
  have HNz := Lib.hid (show er ≠ 0 → nd = Nd.zero from fun h => by rw [hnd]; exact readE_zero (by rw [← her]; exact h))
  have HFit := Lib.hid (show nd.Fits from by rw [hnd]; exact readE_fits _ _ _)
  clear her hnd
  go_enter Tryz.func36, Tryz.ntmps36
  go_wp2_with (refine load_ptr rfl (.tmp 9) rfl rfl (At.of_row HA0.out) HPw.out ?_)
  refine (poRead_all P D S W birth lo ks t Fd d p _ HH0.out HD0.out HPw.out HWn.out).mono ?_
  rintro e w1 ⟨arr, rfl, hn1, hb1⟩
  rw [← HE.out.1]
  rw [← HE.out.2] at hn1
  have HN1 := Lib.hid hn1
  have HSz := Lib.hid hn1.size
  have HOne := Lib.hid hn1.one
  have HB1 := Lib.hid (HB0.out.trans (hb1.mono HB0.out.size))
  have HH1 := Lib.hid (HH0.out.below hb1)
  have HD1 := Lib.hid (HD0.out.below hb1)
  have HR1 := Lib.hid (HR0.out.below hb1)
  have HA1 := Lib.hid ((hb1.block _ (lt_of_block HA0.out)).trans HA0.out)
  clear hn1 hb1 HB0 HH0 HD0 HR0 HA0
  obtain ⟨bp, hbp⟩ : ∃ bp, bp = (lieOf lies p.addr).1 := ⟨_, rfl⟩
  obtain ⟨barr, hba⟩ : ∃ barr, barr = (lieOf lies p.addr).2.1 := ⟨_, rfl⟩
  obtain ⟨bn, hbn⟩ : ∃ bn, bn = (lieOf lies p.addr).2.2 := ⟨_, rfl⟩
  rw [← hbp] at hq
  have hget := HLi.out.get hle p.addr
  rw [← hbp, ← hba, ← hbn] at hget
  have HZ := Lib.hid (show bp = (lieOf lies p.addr).1 ∧ barr = (lieOf lies p.addr).2.1 ∧ bp.Wf ∧ NdIs w barr bn ∧ bn.Fits ∧ (bp.addr = 0 ∨ bp.addr = p.addr) from ⟨hbp, hba, hget⟩)
  have HBl := Lib.hid (show (BlkL bp barr).length = 38 ∧ ∀ u ∈ BlkL bp barr, u.oneCell' = true from ⟨by unfold BlkL; rw [List.length_append, hget.1.len, Array.length_toList, hget.2.1.size], fun u hu => by
    rcases List.mem_append.1 hu with hu | hu
    · exact bp.one u (by simpa [Pt.arr] using hu)
    · exact hget.2.1.one u hu⟩)
  have HBs := Lib.hid hget.2.1.size
  have HNq := Lib.hid (show hashN (d.cur p.addr) ≠ p.sum → bp.addr = p.addr → bp.sum ≠ p.sum from fun hh ha e => by
    have hb := hbp
    unfold lieOf at hb
    cases hl : lies p.addr with
    | none => rw [hl] at hb; simp at hb; rw [hb] at ha; exact h0 ha.symm
    | some z =>
      rw [hl] at hb
      simp only [Option.getD_some] at hb
      obtain ⟨b, _, _, h3, h4, _⟩ := HLi.out.ok _ z hl
      apply hh
      rw [← e, hb, h3, h4]; rfl)
  have HRE := Lib.hid (show readE ks d p = if hashN (d.cur p.addr) = p.sum then (getE (openB ks d p), getN (openB ks d p)) else (5, Nd.zero) from by unfold readE; rw [if_neg (by rintro (e | e); exact h0 e; exact e h1), if_neg (by rw [hdn]; simp)])
  have HAl := Lib.hid (ptrE_lt h0 h1)
  have HCk := Lib.hid (show ptrE p (d.size : Int) = 0 from h1)
  have HDn := Lib.hid hdn
  have hnull : decide (p.addr = 0) = false := by simpa using h0
  have HEq := Lib.hid (show decide (bp = p) = false by simpa using hq)
  have hre := HRE.out
  rw [if_pos hh] at hre
  obtain rfl : er = 4 := by rw [HE.out.1, hre]; exact hge
  have HHq := Lib.hid (show decide (hashN (d.cur p.addr) = p.sum) = true by simpa using hh)
  clear hge
  have HNz := Lib.hid (show nd = Nd.zero from HNz.out (by decide))
  clear hre hq hh hbp hba hbn hget h1 hdn
  go_wp2_with (first | (refine store_nd rfl (.tmp 11) (.tmp 20) rfl rfl (arr := arr) rfl (heap_alloc_new w1 (.cells zeroArr 25)) rfl HSz.out HOne.out ?_; intro w2 hg hf hs; have HGw2 := Lib.hid hg; have HBww2 := Lib.hid (show Below w1.heap.size w1 w2 from ((Below.refl _ w1).alloc (Nat.le_refl _) _).trans (hf.below (by simp) (fun j hj => by omega))); clear hg hf hs; have HA2 := Lib.hid ((HBww2.out.block _ (lt_of_block HA1.out)).trans HA1.out)) | (refine gload_nd rfl (.tmp 11) rfl rfl (At_nd HGw2.out) HSz.out ?_))
  have HNs2 := Lib.hid (HN1.out.below HBww2.out)
  refine (nodeSame_any arr zeroArr nd Nd.zero w2 HNs2.out (zero_is _) HFit.out zero_fits).mono ?_
  rintro e w3 ⟨rfl, hb3⟩
  rw [HNz.out, sameN_refl]
  have HA3 := Lib.hid ((hb3.block _ (lt_of_block HA2.out)).trans HA2.out)
  have HB3 := Lib.hid ((HB1.out.trans (HBww2.out.mono HB1.out.size)).trans (hb3.mono (Nat.le_trans HB1.out.size HBww2.out.size)))
  have HG3 := Lib.hid ((hb3.block _ (lt_of_block HGw2.out)).trans HGw2.out)
  have HN3 := Lib.hid (HNs2.out.below hb3)
  have HD3 := Lib.hid ((HD1.out.below HBww2.out).below hb3)
  have HR3 := Lib.hid ((HR1.out.below HBww2.out).below hb3)
  clear hb3 HNs2 HN1 HD1 HR1 HH1 HA1 HA2 HGw2 HBww2
  go_wp2_with (refine load_ptr rfl (.tmp 9) rfl rfl (At.of_row HA3.out) HPw.out ?_)
  refine (ptrNull_any p _).mono ?_
  rintro e w4 ⟨rfl, hb4⟩
  rw [hnull]
  have HA4 := Lib.hid ((hb4.block _ (lt_of_block HA3.out)).trans HA3.out)
  have HB4 := Lib.hid (HB3.out.trans (hb4.mono HB3.out.size))
  have HG4 := Lib.hid ((hb4.block _ (lt_of_block HG3.out)).trans HG3.out)
  have HN4 := Lib.hid (HN3.out.below hb4)
  have HD4 := Lib.hid (HD3.out.below hb4)
  have HR4 := Lib.hid (HR3.out.below hb4)
  clear hb4 HA3 HB3 HG3 HN3 HD3 HR3
  go_wp2_with (refine gload_ptr rfl (.tmp 9) rfl rfl (At.of_row HA4.out) HPw.out ?_)
  refine (ptrCheck_any p (d.size : Int) w4 HPw.out (by omega)).mono ?_
  rintro e w5 ⟨rfl, hb5⟩
  have HA5 := Lib.hid ((hb5.block _ (lt_of_block HA4.out)).trans HA4.out)
  have HB5 := Lib.hid (HB4.out.trans (hb5.mono HB4.out.size))
  have HG5 := Lib.hid ((hb5.block _ (lt_of_block HG4.out)).trans HG4.out)
  have HN5 := Lib.hid (HN4.out.below hb5)
  have HD5 := Lib.hid (HD4.out.below hb5)
  have HR5 := Lib.hid (HR4.out.below hb5)
  clear hb5 HA4 HB4 HG4 HN4 HD4 HR4
  rw [HCk.out]
  go_wp2_with fail
  have hc5 : w5.cell? ⟨D, 5, none⟩ = some (.bool d.down) := by
    obtain ⟨L, T, wv, hv, _⟩ := HD5.out
    exact cell_of_row _ D 5 _ _ _ hv.row
  refine (dvDown_any D d.down w5 hc5).mono ?_
  rintro e w6 ⟨rfl, rfl⟩
  rw [HDn.out]
  clear hc5
  go_wp2_with fail
  have HC3 := Lib.hid (show ∀ u, Below w5.heap.size w5 u → u.cell? ⟨R, 3, none⟩ = some (.map (some M)) from fun u hu => (hu.cell (p := ⟨R, 3, none⟩) (lt_of_block HR5.out.row)).trans HR5.out.cells.2.2.1)
  have HC0 := Lib.hid (show ∀ u, Below w5.heap.size w5 u → u.cell? ⟨w.heap.size, 0, none⟩ = some (.int .u32 (p.addr : Int)) from fun u hu => (hu.cell (p := ⟨w.heap.size, 0, none⟩) (lt_of_block HA5.out)).trans (cell_of_row _ _ 0 _ _ _ HA5.out))
  obtain ⟨ml, hum, hlm⟩ := HR5.out.lm
  have HUm := Lib.hid (show ∀ u, Below w5.heap.size w5 u → UM u M ml from fun u hu => hum.of_block (hu.block _ hum.lt))
  have HLm := Lib.hid hlm
  clear hum hlm
  refine wp_region_anyC (fun u => Below w5.heap.size w5 u) (by kernel_rfl) ?_
  obtain ⟨wd, hwd⟩ : ∃ wd, wd = { w5 with drawn := w5.drawn + 1 } := ⟨_, rfl⟩
  have HBd := Lib.hid (show Below w5.heap.size w5 wd by rw [hwd]; exact (Below.refl _ w5).drew)
  rw [← hwd]
  clear hwd
  refine wpAnyCL_take (i := 0) (v := .pointer (some ⟨R, 0, none⟩)) rfl (by kernel_rfl) (fun _ _ _ h => h) (.inl ⟨by rfl, fun w' _ => by go_simp⟩) ?_
  simp only [Act.put, sA, sB, sC]
  refine wpAnyCL_take (i := 1) (v := .pointer (some ⟨R, 0, none⟩)) rfl (by kernel_rfl) (fun _ _ _ h => h) (.inl ⟨by rfl, fun w' _ => by go_simp⟩) ?_
  simp only [Act.put, sA, sB, sC]
  refine wpAnyCL_take (i := 2) (v := .pointer (some ⟨R, 3, none⟩)) rfl (by kernel_rfl) (fun _ _ _ h => h) (.inl ⟨by rfl, fun w' _ => by go_simp⟩) ?_
  simp only [Act.put, sA, sB, sC]
  refine wpAnyCL_take (i := 3) (v := .map (some M)) rfl (by kernel_rfl) (fun _ _ _ h => h) (.inl ⟨by rfl, fun w' hw => by (have h := HC3.out w' hw; go_simp)⟩) ?_
  simp only [Act.put, sA, sB, sC]
  refine wpAnyCL_take (i := 4) (v := .pointer (some ⟨w.heap.size, 0, none⟩)) rfl (by kernel_rfl) (fun _ _ _ h => h) (.inl ⟨by rfl, fun w' _ => by go_simp⟩) ?_
  simp only [Act.put, sA, sB, sC]
  refine wpAnyCL_take (i := 5) (v := .int .u32 (p.addr : Int)) rfl (by kernel_rfl) (fun _ _ _ h => h) (.inl ⟨by rfl, fun w' hw => by (have h := HC0.out w' hw; go_simp)⟩) ?_
  simp only [Act.put, sA, sB, sC]
  refine wpAnyCL_take (i := 6) (v := .agg (BlkL (lieOf lies p.addr).1 (lieOf lies p.addr).2.1).toArray) rfl (by kernel_rfl) (fun _ _ _ h => h) (yields_lookup_blk (by rfl) (.tmp 49) (.tmp 51) (by rfl) (by rfl) (by rfl) HUm.out HLm.out) ?_
  simp only [Act.put, sA, sB, sC]
  rw [← HZ.out.1, ← HZ.out.2.1]
  refine wpAnyCL_forced 7 HBd.out (by kernel_rfl) rfl (by rfl) (fun K' hK' => ?_)
  refine step_alloc_blk rfl ?_
  refine hK' _ _ ?_
  simp only [Act.put, sA, sB, sC]
  have HB7 := Lib.hid (HBd.out.alloc HBd.out.size (.cells zeroBlk.toArray 88))
  have HG7 := Lib.hid (heap_alloc_new wd (.cells zeroBlk.toArray 88))
  generalize hW : World.alloc _ _ = w7
  rw [hW] at HB7 HG7
  have HGd := Lib.hid (show w5.heap.size ≤ wd.heap.size from HBd.out.size)
  clear hW
  refine wpAnyCL_forced 8 HB7.out (by kernel_rfl) rfl (by rfl) (fun K' hK' => ?_)
  refine wp_store_row 88 (.tmp 13) (.tmp 52) rfl wd.heap.size rfl (BlkL bp barr) rfl zeroBlk.toArray _ HG7.out (by rw [HBl.out.1]; rfl) HBl.out.2 (by rw [info_blk13, HBl.out.1]) ?_
  intro w8 hg8 hf8 hs8
  refine hK' _ _ ?_
  simp only [Act.put]
  have HB8 := Lib.hid (HB7.out.trans (hf8.below (by have := lt_of_block HG7.out; have := HGd.out; omega) (fun k e => by rw [e]; exact HGd.out)))
  have HG8 := Lib.hid hg8
  clear hf8 hs8 hg8
  refine wpAnyC_done (by kernel_rfl) HB8.out ?_
  have HA8 := Lib.hid ((HB8.out.block _ (lt_of_block HA5.out)).trans HA5.out)
  have HN8 := Lib.hid (HN5.out.below HB8.out)
  have HGn8 := Lib.hid ((HB8.out.block _ (lt_of_block HG5.out)).trans HG5.out)
  have HD8 := Lib.hid (HD5.out.below HB8.out)
  have HBn8 := Lib.hid ((HZ.out.2.2.2.1.below HB5.out).below HB8.out)
  have HBw8 := Lib.hid (HB5.out.trans (HB8.out.mono HB5.out.size))
  have HAp := Lib.hid (show At w8 wd.heap.size 0 bp.cells from by have := At.of_row HG8.out; unfold BlkL at this; exact (At.part (xs := []) (by simpa using this)))
  have HAb := Lib.hid (show At w8 wd.heap.size 34 barr.toList from by have := At.of_row HG8.out; unfold BlkL at this; have h2 := At.part (xs := bp.cells) (cs := barr.toList) (ys := []) (by simpa using this); rw [HZ.out.2.2.1.len] at h2; simpa using h2)
  have HAs := Lib.hid (show At w8 wd.heap.size 2 (bp.sum.map Bv) from by
    have h2 := At.part (xs := [.int .u32 (bp.addr : Int), .int .u64 (bp.birth : Int)]) (cs := bp.sum.map Bv) (ys := []) (by simpa [Pt.cells] using HAp.out)
    simpa using h2)
  have HPs := Lib.hid (show At w8 w.heap.size 2 (p.sum.map Bv) from by
    have h2 := At.part (xs := [.int .u32 (p.addr : Int), .int .u64 (p.birth : Int)]) (cs := p.sum.map Bv) (ys := []) (by have := At.of_row HA8.out; simpa [Pt.cells] using this)
    simpa using h2)
  have cb : w8.cell? ⟨wd.heap.size, 0, none⟩ = some (.int .u32 (bp.addr : Int)) := by have := HAp.out 0 (.int .u32 (bp.addr : Int)) rfl; simpa using this
  have cp : w8.cell? ⟨w.heap.size, 0, none⟩ = some (.int .u32 (p.addr : Int)) := cell_of_row _ _ 0 _ _ _ HA8.out
  clear HB8 HB7 HG7 HBd HGd HUm HLm HC3 HC0 HA5 HB5 HG5 HN5 HD5 HR5 HG8
  by_cases ha : bp.addr = p.addr
  · have hab : ((bp.addr : Int) == (p.addr : Int)) = true := by simp [ha]
    by_cases hsm : bp.sum = p.sum
    · have HSq := Lib.hid (show decide (bp.sum = p.sum) = true by simpa using hsm)
      clear ha hsm
      go_wp2_with (first | (refine load_ptr rfl (.tmp 53) rfl rfl HAp.out HZ.out.2.2.1 ?_) | (refine load_ptr rfl (.tmp 9) rfl rfl (At.of_row HA8.out) HPw.out ?_) | (refine eql_ptr rfl (.tmp 54) (.tmp 55) _ rfl rfl rfl HZ.out.2.2.1 HPw.out ?_; rw [HEq.out]) | (refine gload_nd rfl (.tmp 11) rfl rfl (At_nd HGn8.out) HSz.out ?_) | (refine gload_nd rfl (.tmp 61) rfl rfl HAb.out HBs.out ?_) | (refine gload_at rfl 33 (.tmp 73) rfl wd.heap.size 2 rfl (bp.sum.map Bv) _ HAs.out Tryz.underlying33 rfl (by rw [info_hash, List.length_map, HZ.out.2.2.1.sum]) ?_) | (refine gload_at rfl 33 (.tmp 75) rfl w.heap.size 2 rfl (p.sum.map Bv) _ HPs.out Tryz.underlying33 rfl (by rw [info_hash, List.length_map, HPw.out.sum]) ?_) | (refine geql_hash rfl (.tmp 74) (.tmp 76) _ rfl rfl rfl HZ.out.2.2.1.sum HPw.out.sum ?_; rw [HSq.out]))
      go_ret
      exact ⟨rfl, HBw8.out⟩
    · have HSq := Lib.hid (show decide (bp.sum = p.sum) = false by simpa using hsm)
      clear ha hsm
      go_wp2_with (first | (refine load_ptr rfl (.tmp 53) rfl rfl HAp.out HZ.out.2.2.1 ?_) | (refine load_ptr rfl (.tmp 9) rfl rfl (At.of_row HA8.out) HPw.out ?_) | (refine eql_ptr rfl (.tmp 54) (.tmp 55) _ rfl rfl rfl HZ.out.2.2.1 HPw.out ?_; rw [HEq.out]) | (refine gload_nd rfl (.tmp 11) rfl rfl (At_nd HGn8.out) HSz.out ?_) | (refine gload_nd rfl (.tmp 61) rfl rfl HAb.out HBs.out ?_) | (refine gload_at rfl 33 (.tmp 73) rfl wd.heap.size 2 rfl (bp.sum.map Bv) _ HAs.out Tryz.underlying33 rfl (by rw [info_hash, List.length_map, HZ.out.2.2.1.sum]) ?_) | (refine gload_at rfl 33 (.tmp 75) rfl w.heap.size 2 rfl (p.sum.map Bv) _ HPs.out Tryz.underlying33 rfl (by rw [info_hash, List.length_map, HPw.out.sum]) ?_) | (refine geql_hash rfl (.tmp 74) (.tmp 76) _ rfl rfl rfl HZ.out.2.2.1.sum HPw.out.sum ?_; rw [HSq.out]))
      refine (dvRead_ok D p.addr lo Fd d w8 HD8.out HAl.out HDn.out HWn.out).mono ?_
      rintro e w9 ⟨rfl, hs9, hb9⟩
      have HBw9 := Lib.hid (HBw8.out.trans (hb9.mono HBw8.out.size))
      have hc512 : (d.cur p.addr).length = 512 := by
        obtain ⟨L, T, wv, hv, _⟩ := HD8.out
        exact hv.wf.cur _
      have HSl := Lib.hid (show Sl w9 1 (.slice (some ⟨w8.heap.size, 0, none⟩) 512 512) (d.cur p.addr).length ((d.cur p.addr).map Bv) from by
        rw [hc512]
        refine ⟨by simp [hc512], some ⟨w8.heap.size, 0, none⟩, 512, rfl, Nat.le_refl _, fun h => (by cases h), fun i u hu => ⟨w8.heap.size, 0, rfl, ?_⟩⟩
        rw [Nat.zero_add, cell_of_row _ _ i _ _ _ hs9, List.getElem?_toArray]; exact hu)
      have HPs9 := Lib.hid (HPs.out.fr (Fr.of_below (S := fun _ => False) hb9) id)
      have HCl := Lib.hid hc512
      clear hs9 hb9 hc512
      go_wp2_with fail
      have HUs := Lib.hid (fun u : Wd w9.heap.size w9 => u.at HPs9.out)
      have HSm := Lib.hid (fun u : Wd w9.heap.size w9 => Calls.wd (B := w9.heap.size) u (Nat.le_refl _) (shaSum_any _ _ u.to (HSl.out.below u.hb) (by rw [HCl.out]; decide)))
      refine wp_region_wd w9.heap.size (by kernel_rfl) (by kernel_rfl) ?_
      repeat (first
        | (refine wpQuiet_load_at rfl 33 (.tmp 97) rfl w.heap.size 2 rfl _ _ (fun _ hw' => by obtain ⟨u, rfl⟩ := hw'; exact HUs.out u) Tryz.underlying33 rfl (by rw [info_hash, List.length_map, HPw.out.sum]) ?_; simp only [Act.put, sA, sB, sC])
        | (refine quiet_eql_hash rfl (.tmp 96) (.tmp 98) _ rfl rfl rfl (hashN_length _) HPw.out.sum ?_; rw [HHq.out]; simp only [Act.put, sA, sB, sC])
        | go_big_quiet_step (with_reducible exact HSm.out _))
      refine wpQuiet_nil ?_
      rintro _ ⟨⟨w10, hb10⟩, rfl⟩
      have HBw10 := Lib.hid (HBw9.out.trans (hb10.mono HBw9.out.size))
      clear hb10
      go_wp2_with fail
      go_ret
      exact ⟨rfl, HBw10.out⟩
  · have hab : ((bp.addr : Int) == (p.addr : Int)) = false := by simp; omega
    clear ha
    go_wp2_with (first | (refine load_ptr rfl (.tmp 53) rfl rfl HAp.out HZ.out.2.2.1 ?_) | (refine load_ptr rfl (.tmp 9) rfl rfl (At.of_row HA8.out) HPw.out ?_) | (refine eql_ptr rfl (.tmp 54) (.tmp 55) _ rfl rfl rfl HZ.out.2.2.1 HPw.out ?_; rw [HEq.out]) | (refine gload_nd rfl (.tmp 11) rfl rfl (At_nd HGn8.out) HSz.out ?_) | (refine gload_nd rfl (.tmp 61) rfl rfl HAb.out HBs.out ?_) | (refine gload_at rfl 33 (.tmp 73) rfl wd.heap.size 2 rfl (bp.sum.map Bv) _ HAs.out Tryz.underlying33 rfl (by rw [info_hash, List.length_map, HZ.out.2.2.1.sum]) ?_) | (refine gload_at rfl 33 (.tmp 75) rfl w.heap.size 2 rfl (p.sum.map Bv) _ HPs.out Tryz.underlying33 rfl (by rw [info_hash, List.length_map, HPw.out.sum]) ?_))
    refine (dvRead_ok D p.addr lo Fd d w8 HD8.out HAl.out HDn.out HWn.out).mono ?_
    rintro e w9 ⟨rfl, hs9, hb9⟩
    have HBw9 := Lib.hid (HBw8.out.trans (hb9.mono HBw8.out.size))
    have hc512 : (d.cur p.addr).length = 512 := by
      obtain ⟨L, T, wv, hv, _⟩ := HD8.out
      exact hv.wf.cur _
    have HSl := Lib.hid (show Sl w9 1 (.slice (some ⟨w8.heap.size, 0, none⟩) 512 512) (d.cur p.addr).length ((d.cur p.addr).map Bv) from by
      rw [hc512]
      refine ⟨by simp [hc512], some ⟨w8.heap.size, 0, none⟩, 512, rfl, Nat.le_refl _, fun h => (by cases h), fun i u hu => ⟨w8.heap.size, 0, rfl, ?_⟩⟩
      rw [Nat.zero_add, cell_of_row _ _ i _ _ _ hs9, List.getElem?_toArray]; exact hu)
    have HPs9 := Lib.hid (HPs.out.fr (Fr.of_below (S := fun _ => False) hb9) id)
    have HCl := Lib.hid hc512
    clear hs9 hb9 hc512
    go_wp2_with fail
    have HUs := Lib.hid (fun u : Wd w9.heap.size w9 => u.at HPs9.out)
    have HSm := Lib.hid (fun u : Wd w9.heap.size w9 => Calls.wd (B := w9.heap.size) u (Nat.le_refl _) (shaSum_any _ _ u.to (HSl.out.below u.hb) (by rw [HCl.out]; decide)))
    refine wp_region_wd w9.heap.size (by kernel_rfl) (by kernel_rfl) ?_
    repeat (first
      | (refine wpQuiet_load_at rfl 33 (.tmp 97) rfl w.heap.size 2 rfl _ _ (fun _ hw' => by obtain ⟨u, rfl⟩ := hw'; exact HUs.out u) Tryz.underlying33 rfl (by rw [info_hash, List.length_map, HPw.out.sum]) ?_; simp only [Act.put, sA, sB, sC])
      | (refine quiet_eql_hash rfl (.tmp 96) (.tmp 98) _ rfl rfl rfl (hashN_length _) HPw.out.sum ?_; rw [HHq.out]; simp only [Act.put, sA, sB, sC])
      | go_big_quiet_step (with_reducible exact HSm.out _))
    refine wpQuiet_nil ?_
    rintro _ ⟨⟨w10, hb10⟩, rfl⟩
    have HBw10 := Lib.hid (HBw9.out.trans (hb10.mono HBw9.out.size))
    clear hb10
    go_wp2_with fail
    go_ret
    exact ⟨rfl, HBw10.out⟩

end Go.Proofs.YtkbnkdokcmpcgaaGreatDoor
