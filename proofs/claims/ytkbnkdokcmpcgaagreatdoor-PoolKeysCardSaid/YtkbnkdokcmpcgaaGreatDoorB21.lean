/- Walk: pool.Read, of a pointer that may be. Walk: banyanlaw13.made: a pool, its device, its keys. Plain laws: what is laid is told; what is told, and well, was laid. -/
import Derived.Test.YtkbnkdokcmpcgaaGreatDoorB19
import Derived.Test.YtkbnkdokcmpcgaaGreatDoorB20
import Derived.Lib.SmallJoins
namespace Go.Proofs.YtkbnkdokcmpcgaaGreatDoor
open Go.RowKit

theorem ptrE_lt {p : Pt} {n : Nat} (h0 : p.addr ≠ 0) (h : ptrE p n = 0) : p.addr < n := by
  unfold ptrE at h
  split at h
  · rename_i h1
    unfold ptrOk at h1
    simp [h0] at h1
    omega
  · cases h
theorem Sl.keep {w w' : World} {g n size : Nat} {v : Value} {xs : List Value} {cs : Array Value} {t : TypeId} (h : Sl w size v n xs) (hg : w.heap[g]? = some (.cells cs t (0, 0))) (hne : ∀ u ∈ xs, u ∉ cs.toList) (hf : Fr (fun k => k = g) w w') : Sl w' size v n xs := by
  obtain ⟨hl, a, cap, rfl, h2, h3, h4⟩ := h
  refine ⟨hl, a, cap, rfl, h2, h3, fun i u hu => ?_⟩
  obtain ⟨b, o, rfl, hc⟩ := h4 i u hu
  refine ⟨b, o, rfl, hf.cell hc ?_⟩
  intro e
  dsimp only at e
  subst e
  rw [cell_of_row w b (o + i) _ _ _ hg] at hc
  exact hne u (List.mem_of_getElem? hu) (by rw [← Array.getElem?_toList] at hc; exact List.mem_of_getElem? hc)
theorem NdIs.keep {w w' : World} {g : Nat} {arr : Array Value} {n : Nd} {t : TypeId} (h : NdIs w arr n) (hg : w.heap[g]? = some (.cells zeroArr t (0, 0))) (hf : Fr (fun k => k = g) w w') : NdIs w' arr n := by
  obtain ⟨vk, vv, vp, h0, h1, h2, h3⟩ := h
  refine ⟨vk, vv, vp, h0, Sl.keep h1 hg ?_ hf, Sl.keep h2 hg ?_ hf, Sl.keep h3.sl hg ?_ hf, h3.wf⟩
  · intro u hu hc
    obtain ⟨s, _, rfl⟩ := List.mem_map.1 hu
    simp [zeroArr] at hc
  · intro u hu hc
    obtain ⟨s, _, rfl⟩ := List.mem_map.1 hu
    simp [zeroArr] at hc
  · intro u hu hc
    obtain ⟨l, hl, hu⟩ := List.mem_flatten.1 hu
    obtain ⟨q, _, rfl⟩ := List.mem_map.1 hl
    unfold Pt.cells at hu
    rcases List.mem_cons.1 hu with rfl | hu
    · simp [zeroArr] at hc
    rcases List.mem_cons.1 hu with rfl | hu
    · simp [zeroArr] at hc
    obtain ⟨s, _, rfl⟩ := List.mem_map.1 hu
    simp [zeroArr, Bv] at hc
/-- What lies sealed where p points to. -/
def openB (ks : List UInt8) (d : Dv) (p : Pt) : List UInt8 := cryptB (ks.take 32) (nonceB p.birth p.addr) (d.cur p.addr)
/-- What Read answers. -/
def RdPost (w : World) (ks : List UInt8) (d : Dv) (p : Pt) (e : Ending) (w' : World) : Prop :=
  if d.down = true then e = .returned (.tuple #[.agg zeroArr, .int .i64 7]) ∧ Below w.heap.size w w'
  else if hashN (d.cur p.addr) = p.sum then GetPost (openB ks d p) w e w'
  else e = .returned (.tuple #[.agg zeroArr, .int .i64 5]) ∧ Below w.heap.size w w'
theorem RdPost.down {w w' : World} {ks : List UInt8} {d : Dv} {p : Pt} (h : d.down = true) (hb : Below w.heap.size w w') : RdPost w ks d p (.returned (.tuple #[.agg zeroArr, .int .i64 7])) w' := by
  unfold RdPost; rw [if_pos h]; exact ⟨rfl, hb⟩
theorem RdPost.no {w w' : World} {ks : List UInt8} {d : Dv} {p : Pt} (h : d.down = false) (h2 : hashN (d.cur p.addr) ≠ p.sum) (hb : Below w.heap.size w w') : RdPost w ks d p (.returned (.tuple #[.agg zeroArr, .int .i64 5])) w' := by
  unfold RdPost; rw [if_neg (by rw [h]; simp), if_neg h2]; exact ⟨rfl, hb⟩
theorem RdPost.yes {w w' : World} {ks : List UInt8} {d : Dv} {p : Pt} {arr : Array Value} (h : d.down = false) (h2 : hashN (d.cur p.addr) = p.sum) (hn : NdIs w' arr (getN (openB ks d p))) (hb : Below w.heap.size w w') :
    RdPost w ks d p (.returned (.tuple #[.agg arr, .int .i64 (getE (openB ks d p))])) w' := by
  unfold RdPost; rw [if_neg (by rw [h]; simp), if_pos h2]; exact ⟨arr, rfl, hn, hb⟩

set_option maxRecDepth 100000 in
set_option maxHeartbeats 4000000 in
/-- A pointer that may be. -/
theorem poRead_any (P D S W birth lo : Nat) (ks : List UInt8) (t : Nat → Bool) (Fd : Nat → Prop) (d : Dv) (p : Pt) (w : World) (h : PlAt w P D S W d.size ks t birth) (hd : DvIn w lo D Fd d) (hp : p.Wf) (h0 : p.addr ≠ 0) (h1 : ptrE p d.size = 0) (hn : d.waits.length ≤ 1000000) :
    Calls Tryz.prog 22 #[.pointer (some ⟨P, 0, none⟩), .agg p.arr] w fun e w' => RdPost w ks d p e w' := by
  have HAl := Lib.hid (ptrE_lt h0 h1)
  have HWn := Lib.hid hn
  have h0 : decide (p.addr = 0) = false := by simp [h0]
  clear hn
  have HPw := Lib.hid hp
  have HA := Lib.hid (al2_0 w (.cells p.arr 43) (.cells zeroArr 25))
  have HN := Lib.hid (al2_1 w (.cells p.arr 43) (.cells zeroArr 25))
  have HB := Lib.hid (show Below w.heap.size w ((w.alloc (.cells p.arr 43)).alloc (.cells zeroArr 25)) from ((Below.refl _ w).alloc (Nat.le_refl _) _).alloc (by simp) _)
  have HH := Lib.hid (h.below HB.out)
  have HD := Lib.hid (hd.below HB.out)
  have HPl := Lib.hid (h.lt P (Or.inl rfl))
  clear h hd hp
  go_enter Tryz.func22, Tryz.ntmps22
  go_wp2_with fail
  generalize hW : World.alloc _ _ = W1
  have HA1 := Lib.hid (show W1.heap[w.heap.size]? = some (.cells p.arr 43 (0, 0)) by rw [← hW]; exact HA.out)
  have HN1 := Lib.hid (show W1.heap[w.heap.size + 1]? = some (.cells zeroArr 25 (0, 0)) by rw [← hW]; exact HN.out)
  have HB1 := Lib.hid (show Below w.heap.size w W1 by rw [← hW]; exact HB.out)
  have HH1 := Lib.hid (show PlAt W1 P D S W d.size ks t birth by rw [← hW]; exact HH.out)
  have HD1 := Lib.hid (show DvIn W1 lo D Fd d by rw [← hW]; exact HD.out)
  clear hW HA HN HB HH HD
  have c0 := HH1.out.cells.1
  have u0 := fun (u : Wd W1.heap.size W1) => u.cell' c0
  have HPat := Lib.hid (fun w' (hw : ∃ u : Wd W1.heap.size W1, w' = u.to) => (by obtain ⟨u, rfl⟩ := hw; exact u.at (At.of_row HA1.out) : At w' w.heap.size 0 p.cells))
  have hD0 : W1.cell? ⟨D, 0, none⟩ = some (.int .i64 (d.size : Int)) := by
    obtain ⟨L, T, wv, h1, _⟩ := HD1.out
    exact h1.cells.1
  have HSz := Lib.hid (fun (u : Wd W1.heap.size W1) => Calls.wd_same u (dvSize_any D d.size u.to (u.cell' hD0)))
  have hle : d.size ≤ 4096 := HH1.out.sp.2.2.1
  have HNull := Lib.hid (fun (u : Wd W1.heap.size W1) => (Calls.wd u (Nat.le_refl _) (ptrNull_any p u.to) : Calls Tryz.prog 53 #[.agg p.cells.toArray] u.to fun e w'' => e = .returned (.bool (decide (p.addr = 0))) ∧ ∃ u' : Wd W1.heap.size W1, w'' = u'.to))
  have HChk := Lib.hid (fun (u : Wd W1.heap.size W1) => (Calls.wd u (Nat.le_refl _) (ptrCheck_any p (d.size : Int) u.to HPw.out (by omega)) : Calls Tryz.prog 68 #[.agg p.cells.toArray, .int .i64 (d.size : Int)] u.to fun e w'' => e = .returned (.int .i64 (ptrE p d.size)) ∧ ∃ u' : Wd W1.heap.size W1, w'' = u'.to))
  clear c0 hD0 hle
  rw [h0] at HNull
  rw [h1] at HChk
  refine wp_region_wd W1.heap.size (by kernel_rfl) (by kernel_rfl) ?_
  repeat (first
    | (refine wpQuiet_load_at rfl 43 (.tmp 3) rfl w.heap.size 0 rfl _ _ HPat.out Tryz.underlying43 rfl (by rw [info_ptr, HPw.out.len]) ?_; simp only [Act.put, List.setIfInBounds_toArray, List.set_cons_succ, List.set_cons_zero])
    | go_big_quiet_step (first | with_reducible exact HSz.out _ | with_reducible exact HNull.out _ | with_reducible exact HChk.out _))
  refine wpQuiet_nil ?_
  rintro w3 ⟨⟨_, hb3⟩, rfl⟩
  rename_i w3
  have HB3 := Lib.hid (HB1.out.trans (hb3.mono HB1.out.size))
  have HA3 := Lib.hid ((hb3.block _ (lt_of_block HA1.out)).trans HA1.out)
  have HN3 := Lib.hid ((hb3.block _ (lt_of_block HN1.out)).trans HN1.out)
  have HH3 := Lib.hid (HH1.out.below hb3)
  have HD3 := Lib.hid (HD1.out.below hb3)
  clear hb3 u0 HSz HNull HChk HPat HA1 HN1 HH1 HD1
  have cP0 := HH3.out.cells.1
  have cB0 : w3.cell? ⟨w.heap.size, 0, none⟩ = some (.int .u32 (p.addr : Int)) := by simpa using (At.of_row HA3.out : At w3 w.heap.size 0 p.cells) 0 _ rfl
  cases hdn : d.down with
  | true =>
    have HDn := Lib.hid hdn
    have HRd := Lib.hid (dvRead_down D p.addr lo Fd d w3.drew (HD3.out.fr ((Fr.refl (fun _ => False) w3).drew) (fun _ _ => id)) HAl.out hdn)
    clear hdn
    go_wp2_with fail
    refine wp_region_class_one 6 (C := fun w' => w' = w3.drew) (by kernel_rfl) (by kernel_rfl) rfl rfl ?_
    simp only [List.take_succ_cons, List.take_zero, List.drop_succ_cons, List.drop_zero]
    repeat (go_big_quiet_step (fail))
    refine wpQuiet_nil ?_
    refine ⟨rfl, ?_⟩
    rintro _ rfl KK hKK
    have HKK := Lib.hid hKK
    clear hKK
    unfold Oper.wp execOp
    go_simp
    refine HRd.out.mono ?_
    rintro e w4 ⟨rfl, rfl⟩
    refine HKK.out _ _ ?_
    clear HKK
    repeat (go_big_quiet_step (fail))
    refine wpQuiet_nil ?_
    rintro _ ⟨nq, rfl⟩
    obtain ⟨wq, hwq⟩ : ∃ wq, wq = w3.drew.drewN nq := ⟨_, rfl⟩
    rw [← hwq]
    have HBq := Lib.hid (show Below w.heap.size w wq by rw [hwq]; exact belowDrewN HB3.out.drew _)
    have HNq := Lib.hid (show wq.heap[w.heap.size + 1]? = some (.cells zeroArr 25 (0, 0)) by rw [hwq]; exact HN3.out)
    clear hwq
    go_wp2_with (refine store_nd rfl (.tmp 4) (.tmp 39) rfl rfl (arr := zeroArr) rfl HNq.out rfl rfl (zero_is w).one ?_; intro we hge hfe hse; have HGe := Lib.hid hge; have HFe := Lib.hid hfe; clear hge hfe hse)
    refine bodyPost_ret (ret_nd rfl rfl HGe.out rfl) rfl ?_
    exact RdPost.down HDn.out (HBq.out.trans (HFe.out.below HBq.out.size (fun k hk => by omega)))
  | false =>
    have HDn := Lib.hid hdn
    have HRd := Lib.hid (dvRead_ok D p.addr lo Fd d w3.drew (HD3.out.fr ((Fr.refl (fun _ => False) w3).drew) (fun _ _ => id)) HAl.out hdn HWn.out)
    clear hdn
    go_wp2_with fail
    refine wp_region_class_one 6 (C := fun w' => w' = w3.drew) (by kernel_rfl) (by kernel_rfl) rfl rfl ?_
    simp only [List.take_succ_cons, List.take_zero, List.drop_succ_cons, List.drop_zero]
    repeat (go_big_quiet_step (fail))
    refine wpQuiet_nil ?_
    refine ⟨rfl, ?_⟩
    rintro _ rfl KK hKK
    have HKK := Lib.hid hKK
    clear hKK
    unfold Oper.wp execOp
    go_simp
    refine HRd.out.mono ?_
    rintro e w4 ⟨rfl, hr4, hb4⟩
    have hb3q : Below w3.heap.size w3 w4 := (Below.refl _ w3).drew.trans hb4
    refine HKK.out _ _ ?_
    clear HKK
    repeat (go_big_quiet_step (fail))
    refine wpQuiet_nil ?_
    rintro _ ⟨nq, rfl⟩
    obtain ⟨wq, hwq⟩ : ∃ wq, wq = w4.drewN nq := ⟨_, rfl⟩
    obtain ⟨g4, hg4⟩ : ∃ g, g = w3.heap.size := ⟨_, rfl⟩
    rw [show w3.drew.heap.size = w3.heap.size from rfl] at hr4
    have hb4q : Below w3.heap.size w3 wq := by rw [hwq]; exact belowDrewN hb3q _
    have HBq := Lib.hid (HB3.out.trans (hb4q.mono HB3.out.size))
    have HNq := Lib.hid ((hb4q.block _ (lt_of_block HN3.out)).trans HN3.out)
    have HAq := Lib.hid ((hb4q.block _ (lt_of_block HA3.out)).trans HA3.out)
    have HHq := Lib.hid (HH3.out.below hb4q)
    have HCq := Lib.hid (show Sl wq 1 (.slice (some ⟨g4, 0, none⟩) 512 512) 512 ((d.cur p.addr).map Bv) from by
      have hcl : ((d.cur p.addr).map Bv).length = 512 := by
        obtain ⟨L, T, wv, h1, _⟩ := HD3.out
        rw [List.length_map, h1.wf.cur]
      refine ⟨by rw [hcl], some ⟨g4, 0, none⟩, 512, rfl, Nat.le_refl _, (fun h => by cases h), ?_⟩
      intro i u hi
      have hil : i < 512 := by rw [← hcl]; exact (List.getElem?_eq_some_iff.1 hi).1
      refine ⟨g4, 0, rfl, ?_⟩
      rw [hwq, hg4, Nat.zero_add]
      exact (cell_of_row w4 _ _ _ _ _ hr4).trans (by simpa using hi))
    rw [show w3.drew.heap.size = w3.heap.size from rfl, ← hwq, ← hg4]
    clear hr4 hg4 hb4 hb3q hb4q hwq HH3 HD3 HA3 HN3 HB3 cP0 cB0 HRd
    obtain ⟨cs, hcs⟩ : ∃ cs, cs = d.cur p.addr := ⟨_, rfl⟩
    rw [← hcs] at HCq
    have HCs := Lib.hid hcs
    have HCl := Lib.hid (show cs.length = 512 by have := HCq.out.1; simpa using this)
    have hKat := HHq.out.cells.2.1
    have HKl := Lib.hid HHq.out.ks
    have HKat := Lib.hid (fun w' (hw : w' = wq.drew) => (by rw [hw]; exact hKat : At w' P 1 (ks.map Bv)))
    have HPat := Lib.hid (fun w' (hw : w' = wq.drew) => (by rw [hw]; exact At.of_row HAq.out : At w' w.heap.size 0 p.cells))
    clear hcs hKat
    by_cases hsum : hashN cs = p.sum
    · have HSm := Lib.hid hsum
      have HOp := Lib.hid (open_yes ks cs p (.slice (some ⟨g4, 0, none⟩) 512 512) wq.drew HKl.out HPw.out HCl.out (HCq.out.below (Below.refl _ wq).drew) hsum)
      clear hsum
      go_wp2_with fail
      refine wp_region_class_one 6 (C := fun w' => w' = wq.drew) (by kernel_rfl) (by kernel_rfl) rfl rfl ?_
      simp only [List.take_succ_cons, List.take_zero, List.drop_succ_cons, List.drop_zero]
      repeat (first | (refine wpQuiet_load_at rfl 35 (.tmp 44) rfl P 1 rfl _ _ HKat.out Tryz.underlying35 rfl (by rw [info_keys, List.length_map, HKl.out]) ?_; simp only [Act.put, List.setIfInBounds_toArray, List.set_cons_succ, List.set_cons_zero]) | (refine wpQuiet_load_at rfl 43 (.tmp 3) rfl w.heap.size 0 rfl _ _ HPat.out Tryz.underlying43 rfl (by rw [info_ptr, HPw.out.len]) ?_; simp only [Act.put, List.setIfInBounds_toArray, List.set_cons_succ, List.set_cons_zero]) | go_big_quiet_step (fail))
      refine wpQuiet_nil ?_
      refine ⟨rfl, ?_⟩
      rintro _ rfl KK hKK
      have HKK := Lib.hid hKK
      clear hKK
      unfold Oper.wp execOp
      go_simp
      refine HOp.out.mono ?_
      rintro e w5 ⟨aa, cc, rfl, hs5, hb5⟩
      have hb5q : Below wq.heap.size wq w5 := (Below.refl _ wq).drew.trans hb5
      refine HKK.out _ _ ?_
      clear HKK
      repeat (go_big_quiet_step (fail))
      refine wpQuiet_nil ?_
      rintro _ ⟨nq, rfl⟩
      obtain ⟨wr, hwr⟩ : ∃ wr, wr = w5.drewN nq := ⟨_, rfl⟩
      have hb5r : Below wq.heap.size wq wr := by rw [hwr]; exact belowDrewN hb5q _
      have HBr := Lib.hid (HBq.out.trans (hb5r.mono HBq.out.size))
      have HNr := Lib.hid ((hb5r.block _ (lt_of_block HNq.out)).trans HNq.out)
      have hob : openB ks d p = cryptB (ks.take 32) (nonceB p.birth p.addr) cs := by unfold openB; rw [HCs.out]
      have hol : (openB ks d p).length = 512 := by rw [hob, cryptB_length _ _ _ (by rw [List.length_take, HKl.out]; rfl) (nonceB_length _ _), HCl.out]
      rw [← hob] at hs5
      have hsr : Sl wr 1 (.slice aa 512 cc) (openB ks d p).length ((openB ks d p).map Bv) := by rw [hol, hwr]; exact hs5.below (belowDrewN (Below.refl _ _) _)
      have HGet := Lib.hid (nodeGet_any (.slice aa 512 cc) (openB ks d p) wr hsr)
      rw [← hwr]
      clear hs5 hb5 hb5q hb5r hwr hob hol hsr HOp HKat HPat
      go_wp2_with fail
      refine HGet.out.mono ?_
      rintro e w6 ⟨arr, rfl, hnd, hb6⟩
      have HNd := Lib.hid hnd
      have HB6 := Lib.hid (HBr.out.trans (hb6.mono HBr.out.size))
      have HN6 := Lib.hid ((hb6.block _ (lt_of_block HNr.out)).trans HNr.out)
      have hsz : arr.size = 4 := by obtain ⟨_, _, _, h, _⟩ := hnd; rw [h]; rfl
      have HSz := Lib.hid hsz
      clear hnd hb6 hsz HGet
      go_wp2_with (refine store_nd rfl (.tmp 4) (.tmp 57) rfl rfl (arr := arr) rfl HN6.out rfl HSz.out HNd.out.one ?_; intro we hge hfe hse; have HGe := Lib.hid hge; have HFe := Lib.hid hfe; clear hge hfe hse)
      refine bodyPost_ret (ret_nd rfl rfl HGe.out HSz.out) rfl ?_
      have hlt := lt_of_block HN6.out
      refine RdPost.yes HDn.out (by rw [← HCs.out]; exact HSm.out) ?_ (HB6.out.trans (HFe.out.below HB6.out.size (fun k hk => by omega)))
      exact HNd.out.keep HN6.out HFe.out
    · have HSm := Lib.hid hsum
      have HOp := Lib.hid (open_no ks cs p (.slice (some ⟨g4, 0, none⟩) 512 512) wq.drew HPw.out HCl.out (HCq.out.below (Below.refl _ wq).drew) hsum)
      clear hsum
      go_wp2_with fail
      refine wp_region_class_one 6 (C := fun w' => w' = wq.drew) (by kernel_rfl) (by kernel_rfl) rfl rfl ?_
      simp only [List.take_succ_cons, List.take_zero, List.drop_succ_cons, List.drop_zero]
      repeat (first | (refine wpQuiet_load_at rfl 35 (.tmp 44) rfl P 1 rfl _ _ HKat.out Tryz.underlying35 rfl (by rw [info_keys, List.length_map, HKl.out]) ?_; simp only [Act.put, List.setIfInBounds_toArray, List.set_cons_succ, List.set_cons_zero]) | (refine wpQuiet_load_at rfl 43 (.tmp 3) rfl w.heap.size 0 rfl _ _ HPat.out Tryz.underlying43 rfl (by rw [info_ptr, HPw.out.len]) ?_; simp only [Act.put, List.setIfInBounds_toArray, List.set_cons_succ, List.set_cons_zero]) | go_big_quiet_step (fail))
      refine wpQuiet_nil ?_
      refine ⟨rfl, ?_⟩
      rintro _ rfl KK hKK
      have HKK := Lib.hid hKK
      clear hKK
      unfold Oper.wp execOp
      go_simp
      refine HOp.out.mono ?_
      rintro e w5 ⟨rfl, hb5⟩
      have hb5q : Below wq.heap.size wq w5 := (Below.refl _ wq).drew.trans hb5
      refine HKK.out _ _ ?_
      clear HKK
      repeat (go_big_quiet_step (fail))
      refine wpQuiet_nil ?_
      rintro _ ⟨nq, rfl⟩
      obtain ⟨wr, hwr⟩ : ∃ wr, wr = w5.drewN nq := ⟨_, rfl⟩
      have hb5r : Below wq.heap.size wq wr := by rw [hwr]; exact belowDrewN hb5q _
      have HBr := Lib.hid (HBq.out.trans (hb5r.mono HBq.out.size))
      have HNr := Lib.hid ((hb5r.block _ (lt_of_block HNq.out)).trans HNq.out)
      rw [← hwr]
      clear hb5 hb5q hb5r hwr HOp HKat HPat
      go_wp2_with (refine store_nd rfl (.tmp 4) (.tmp 53) rfl rfl (arr := zeroArr) rfl HNr.out rfl rfl (zero_is w).one ?_; intro we hge hfe hse; have HGe := Lib.hid hge; have HFe := Lib.hid hfe; clear hge hfe hse)
      refine bodyPost_ret (ret_nd rfl rfl HGe.out rfl) rfl ?_
      exact RdPost.no HDn.out (by rw [← HCs.out]; exact HSm.out) (HBr.out.trans (HFe.out.below HBr.out.size (fun k hk => by omega)))

end Go.Proofs.YtkbnkdokcmpcgaaGreatDoor
namespace Go.Proofs.YtkbnkdokcmpcgaaGreatDoor
open Go.RowKit

theorem Sl_litk (w : World) (cs : Array Value) (xs : List UInt8) (fr : Nat × Nat) (n : Nat) {g : Nat} (hn : n = xs.length) (hg : g = w.heap.size) (hcs : cs.toList = xs.map Bv) : Sl (w.alloc (.cells cs 5 fr)) 1 (.slice (some ⟨g, 0, none⟩) n n) n (xs.map Bv) := by
  subst hg
  refine ⟨by simp [hn], some ⟨w.heap.size, 0, none⟩, n, rfl, Nat.le_refl _, fun h => (by cases h), fun i u hu => ⟨w.heap.size, 0, rfl, ?_⟩⟩
  rw [Nat.zero_add, cell_of_row _ w.heap.size i cs _ _ (heap_alloc_new _ _), ← hu, ← hcs, Array.getElem?_toList]
section
variable {P : Program} {md : Region.Mode} {C : World → Prop} {Q : Exit → Act → World → Prop}
theorem wp_region_anyC {id : Nat} {a : Act} {w : World} {l : List Oper} (C : World → Prop) (hm : P.follows .mixedOrders = true)
    (h : wpAnyC P .any l.toArray C Q l.length (Array.replicate l.length false) a { w with drawn := w.drawn + 1 }) : (Code.region id l.toArray true).wp P Q a w :=
  wp_region_any hm (by simpa using wpAny_of_C h)
theorem wpAnyCL_take {l : List Oper} {i : Nat} {oi : Oper} {v : Value} {fuel : Nat} {listed : Array Bool} {a : Act} {w : World} (hi : l[i]? = some oi)
    (hB : (Region.noSelect l.toArray && Region.free md l.toArray listed i && (Region.ready md l.toArray listed).contains i) = true)
    (hQ : ∀ c a w, Q (.panic c) (a.put oi.dst v) w → Q (.panic c) a w) (hy : YieldsC P l.toArray C oi v a)
    (h : wpAnyC P md l.toArray C Q fuel (listed.setIfInBounds i true) (a.put oi.dst v) w) : wpAnyC P md l.toArray C Q (fuel + 1) listed a w := by
  simp only [Bool.and_eq_true] at hB
  exact wpAnyC_take (by simpa using hi) hB.1.1 hB.1.2 hB.2 hQ hy h
theorem wpAnyCL_forced {l : List Oper} {fuel : Nat} {listed : Array Bool} {a : Act} {w : World} (i : Nat) {o : Oper} (hw0 : C w) (hr : Region.ready md l.toArray listed = [i]) (ho : l[i]? = some o) (hw : Region.wanted o (yielded l.toArray a.tmps) = true)
    (h : ∀ K' : Act → World → Prop, (∀ a w, wpAnyC P md l.toArray C Q fuel (listed.setIfInBounds i true) a w → K' a w) → Oper.wp P o a w K' Q) : wpAnyC P md l.toArray C Q (fuel + 1) listed a w :=
  wpAnyC_forced i hw0 hr (by simpa using ho) hw h
end

theorem ret_ttct {P : Program} {fn : Func} {u0 u p v : Tmp} {ty : TypeId} (h : fn.results = #[.tmp u0, .tmp u, .cell p ty, .tmp v]) {tmps : Array Value} {w : World} {g : Nat} {cs : List Value} {d : TypeDesc} (hp : tmps.getD p undef = .pointer (some ⟨g, 0, none⟩))
    (hc : At w g 0 cs) (hu : P.underlying ty = some d) (hd : (match d with | .struct _ | .array _ _ => true | _ => false) = true) (hi : (P.info? ty).map (·.size) = some cs.length) :
    (results fn tmps).run P w = .ok (.tuple #[tmps.getD u0 undef, tmps.getD u undef, .agg cs.toArray, tmps.getD v undef]) w := by
  have hl := run_loadVar_at w g 0 ty cs d hc hu hd hi
  simp only [Array.getD_eq_getD_getElem?] at hp
  simp only [results, h]
  simp [Result.andThen, hp, asAddr, hl]

def masterB : List UInt8 := [109, 97, 115, 116, 101, 114]
/-- The keys of what is looked at. -/
def MK : List UInt8 := keysOf masterB
theorem MK_length : MK.length = 64 := keysOf_length _
theorem conv_master (w : World) (g : Nat) (hg : g = w.heap.size) :
    (convert 26 26 (.slice (some ⟨g, 0, none⟩) 6 6)).run Tryz.prog (w.alloc (.cells #[.int .u8 109, .int .u8 97, .int .u8 115, .int .u8 116, .int .u8 101, .int .u8 114] 5)) = .ok (.slice (some ⟨g, 0, none⟩) 6 6) (w.alloc (.cells #[.int .u8 109, .int .u8 97, .int .u8 115, .int .u8 116, .int .u8 101, .int .u8 114] 5 (6, 7))) :=
  Go.Joins.run_convert_bytes_const_at (P := Tryz.prog) w 26 5 #[.int .u8 109, .int .u8 97, .int .u8 115, .int .u8 116, .int .u8 101, .int .u8 114] 6 6 g hg Tryz.underlying26 Tryz.underlying5

set_option maxRecDepth 100000 in
set_option maxHeartbeats 4000000 in
theorem made_ok (size : Nat) (w : World) (h1 : 16 ≤ size) (h2 : size ≤ 4096) :
    Calls Tryz.prog 17 #[.int .i64 (size : Int)] w fun e w' => ∃ P D S W lo F, e = .returned (.tuple #[.pointer (some ⟨P, 0, none⟩), .pointer (some ⟨D, 0, none⟩), .agg (MK.map Bv).toArray, .bool true]) ∧
      PlAt w' P D S W size MK noneT 0 ∧ DvIn w' lo D F (Dv.new size) ∧ (∀ k, F k → w.heap.size ≤ k) ∧ (∀ k, PlF P S W k → w.heap.size ≤ k ∧ ¬ F k) ∧ Below w.heap.size w w' := by
  have HZ := Lib.hid (heap_alloc_new w (.cells ((zB 64).map Bv).toArray 35))
  have HB := Lib.hid (show Below w.heap.size w (w.alloc (.cells ((zB 64).map Bv).toArray 35)) from (Below.refl _ w).alloc (Nat.le_refl _) _)
  have H12 := Lib.hid (show 16 ≤ size ∧ size ≤ 4096 from ⟨h1, h2⟩)
  clear h1 h2
  go_enter Tryz.func17, Tryz.ntmps17
  go_wp2_with fail
  generalize hW : World.alloc _ _ = W1
  have HZ1 := Lib.hid (show W1.heap[w.heap.size]? = some (.cells ((zB 64).map Bv).toArray 35 (0, 0)) by rw [← hW]; exact HZ.out)
  have HB1 := Lib.hid (show Below w.heap.size w W1 by rw [← hW]; exact HB.out)
  clear hW HZ HB
  refine (dvNew_ok size W1 H12.out.1 H12.out.2).mono ?_
  rintro e w2 ⟨D, F, rfl, hd2, hF2, hb2⟩
  obtain ⟨Fs, hds, hFs, hFD⟩ := hd2.small
  have HF2 := Lib.hid (show ∀ k, Fs k → w.heap.size < k ∧ k < w2.heap.size from fun k hk => ⟨Nat.lt_of_lt_of_le (lt_of_block HZ1.out) (hF2 k (hFs k hk).1), (hFs k hk).2⟩)
  have HFD := Lib.hid hFD
  have HZ2 := Lib.hid ((hb2.block _ (lt_of_block HZ1.out)).trans HZ1.out)
  have HB2 := Lib.hid (HB1.out.trans (hb2.mono HB1.out.size))
  have HD2 := Lib.hid hds
  clear hd2 hF2 hb2 hds hFs hFD HZ1 HB1
  have q1 := conv_master w2 w2.heap.size rfl
  obtain ⟨w3, hw3⟩ : ∃ w3, w3 = w2.alloc (.cells #[.int .u8 109, .int .u8 97, .int .u8 115, .int .u8 116, .int .u8 101, .int .u8 114] 5 (6, 7)) := ⟨_, rfl⟩
  have hb3 : Below w2.heap.size w2 w3 := by rw [hw3]; exact (Below.refl _ w2).alloc (Nat.le_refl _) _
  have hs3 : Sl w3 1 (.slice (some ⟨w2.heap.size, 0, none⟩) 6 6) masterB.length (masterB.map Bv) := by rw [hw3]; exact Sl_litk _ _ _ _ 6 rfl rfl rfl
  rw [← hw3] at q1
  have HDe := Lib.hid (derive_any _ masterB w3 hs3 (by decide))
  have HB3 := Lib.hid (HB2.out.trans (hb3.mono HB2.out.size))
  have HZ3 := Lib.hid ((hb3.block _ (lt_of_block HZ2.out)).trans HZ2.out)
  have HD3 := Lib.hid (HD2.out.below hb3)
  have HS3 := Lib.hid hb3.size
  clear hw3 hb3 hs3 HZ2 HB2 HD2
  go_wp2_with fail
  refine HDe.out.mono ?_
  rintro e w4 ⟨rfl, hb4⟩
  have HML := Lib.hid MK_length
  obtain ⟨ks, hks⟩ : ∃ ks, ks = MK := ⟨_, rfl⟩
  rw [show keysOf masterB = ks from hks.symm]
  have HKs := Lib.hid hks
  have HKl := Lib.hid (show ks.length = 64 by rw [hks]; exact MK_length)
  have HB4 := Lib.hid (HB3.out.trans (hb4.mono HB3.out.size))
  have HZ4 := Lib.hid ((hb4.block _ (lt_of_block HZ3.out)).trans HZ3.out)
  have HD4 := Lib.hid (HD3.out.below hb4)
  have HNe := Lib.hid (show w.heap.size < w4.heap.size from Nat.lt_of_lt_of_le (lt_of_block HZ3.out) hb4.size)
  have HS4 := Lib.hid (Nat.le_trans HS3.out hb4.size)
  have HN4 := Lib.hid (heap_alloc_new w4 (.cells ((zB 64).map Bv).toArray 35))
  clear hb4 HZ3 HB3 HD3 HDe hks q1
  go_wp2_with (first | (refine wpList_store_row rfl _ (.tmp 8) (.tmp 18) rfl w4.heap.size rfl (ks.map Bv) rfl _ _ HN4.out (by rw [List.length_map, HKl.out]; rfl) (Bv_oneCell _) (by rw [info_keys, List.length_map, HKl.out]) ?_; intro w5 hg5 hf5 hs5; have HG5 := Lib.hid hg5; have HF5 := Lib.hid (show Below w4.heap.size w4 w5 from ((Below.refl _ w4).alloc (Nat.le_refl _) _).trans (hf5.below (by simp) (fun j hj => by omega))); clear hg5 hf5 hs5) | (refine wpList_load_at rfl _ (.tmp 8) rfl w4.heap.size 0 rfl (ks.map Bv) _ (At.of_row HG5.out) Tryz.underlying35 rfl (by rw [info_keys, List.length_map, HKl.out]) ?_))
  have HD5 := Lib.hid (HD4.out.below HF5.out)
  have hD0 : w5.cell? ⟨D, 0, none⟩ = some (.int .i64 (size : Int)) := by
    obtain ⟨L, T, wv, h1, _⟩ := HD5.out
    exact h1.cells.1
  refine (poNew_ok D size ks w5 hD0 H12.out.1 H12.out.2 HKl.out).mono ?_
  rintro e w6 ⟨P, S, W, rfl, hp6, hge6, hb6⟩
  have HP6 := Lib.hid hp6
  have HGe6 := Lib.hid (show ∀ k, PlF P S W k → w.heap.size < k ∧ ¬ Fs k from fun k hk => by
    have h5 := HNe.out
    have h1 := hge6 k hk
    have h2 := HF5.out.size
    have h3 := HS4.out
    have h4 := HB4.out.size
    exact ⟨by omega, fun hF => by have := (HF2.out k hF).2; omega⟩)
  have HD6 := Lib.hid (HD5.out.below hb6)
  have HG6 := Lib.hid ((hb6.block _ (lt_of_block HG5.out)).trans HG5.out)
  have HB6 := Lib.hid ((HB4.out.trans (HF5.out.mono HB4.out.size)).trans (hb6.mono (Nat.le_trans HB4.out.size HF5.out.size)))
  have HZ6 := Lib.hid ((hb6.block _ (Nat.lt_of_lt_of_le (lt_of_block HZ4.out) HF5.out.size)).trans ((HF5.out.block _ (lt_of_block HZ4.out)).trans HZ4.out))
  have HAt6 := Lib.hid (show At w6 w4.heap.size 0 (ks.map Bv) from At.of_row HG6.out)
  clear hp6 hge6 hb6 hD0 HD5 HG5 HZ4 HB4 HF5 HD4
  go_wp2_with fail
  refine wp_region_anyC (fun u => At u w4.heap.size 0 (ks.map Bv)) (by kernel_rfl) ?_
  obtain ⟨wd, hwd⟩ : ∃ wd, wd = { w6 with drawn := w6.drawn + 1 } := ⟨_, rfl⟩
  have HFd := Lib.hid (show Fr (fun _ => False) w6 wd by rw [hwd]; exact ⟨rfl, rfl, rfl, Nat.le_refl _, fun _ _ _ => rfl⟩)
  have HAd := Lib.hid (show At wd w4.heap.size 0 (ks.map Bv) by rw [hwd]; exact HAt6.out)
  have HZd := Lib.hid (show wd.heap[w.heap.size]? = some (.cells ((zB 64).map Bv).toArray 35 (0, 0)) by rw [hwd]; exact HZ6.out)
  rw [← hwd]
  clear hwd
  refine wpAnyCL_take (i := 0) (v := .pointer (some ⟨P, 0, none⟩)) rfl (by kernel_rfl) (fun _ _ _ h => h) (.inl ⟨by rfl, fun w' _ => by go_simp⟩) ?_
  simp only [Act.put, List.setIfInBounds_toArray, List.set_cons_succ, List.set_cons_zero]
  refine wpAnyCL_take (i := 1) (v := .pointer (some ⟨D, 0, none⟩)) rfl (by kernel_rfl) (fun _ _ _ h => h) (.inl ⟨by rfl, fun w' _ => by go_simp⟩) ?_
  simp only [Act.put, List.setIfInBounds_toArray, List.set_cons_succ, List.set_cons_zero]
  refine wpAnyCL_take (i := 2) (v := .agg (ks.map Bv).toArray) rfl (by kernel_rfl) (fun _ _ _ h => h) (yields_load (by rfl) 35 (.tmp 8) (by rfl) w4.heap.size 0 (by rfl) (ks.map Bv) _ (fun _ h => h) Tryz.underlying35 rfl (by rw [info_keys, List.length_map, HKl.out])) ?_
  simp only [Act.put, List.setIfInBounds_toArray, List.set_cons_succ, List.set_cons_zero]
  refine wpAnyCL_take (i := 3) (v := .pointer (some ⟨P, 0, none⟩)) rfl (by kernel_rfl) (fun _ _ _ h => h) (.inl ⟨by rfl, fun w' _ => by go_simp⟩) ?_
  simp only [Act.put, List.setIfInBounds_toArray, List.set_cons_succ, List.set_cons_zero]
  refine wpAnyCL_take (i := 4) (v := .bool true) rfl (by kernel_rfl) (fun _ _ _ h => h) (.inl ⟨by rfl, fun w' _ => by go_simp⟩) ?_
  simp only [Act.put, List.setIfInBounds_toArray, List.set_cons_succ, List.set_cons_zero]
  refine wpAnyCL_take (i := 5) (v := .bool true) rfl (by kernel_rfl) (fun _ _ _ h => h) (.inl ⟨by rfl, fun w' _ => by go_simp⟩) ?_
  simp only [Act.put, List.setIfInBounds_toArray, List.set_cons_succ, List.set_cons_zero]
  refine wpAnyCL_take (i := 6) (v := .int .i64 0) rfl (by kernel_rfl) (fun _ _ _ h => h) (.inl ⟨by rfl, fun w' _ => by go_simp⟩) ?_
  simp only [Act.put, List.setIfInBounds_toArray, List.set_cons_succ, List.set_cons_zero]
  refine wpAnyCL_take (i := 7) (v := .bool true) rfl (by kernel_rfl) (fun _ _ _ h => h) (.inl ⟨by rfl, fun w' _ => by go_simp⟩) ?_
  simp only [Act.put, List.setIfInBounds_toArray, List.set_cons_succ, List.set_cons_zero]
  refine wpAnyCL_take (i := 8) (v := .bool true) rfl (by kernel_rfl) (fun _ _ _ h => h) (.inl ⟨by rfl, fun w' _ => by go_simp⟩) ?_
  simp only [Act.put, List.setIfInBounds_toArray, List.set_cons_succ, List.set_cons_zero]
  refine wpAnyCL_take (i := 9) (v := .bool true) rfl (by kernel_rfl) (fun _ _ _ h => h) (.inl ⟨by rfl, fun w' _ => by go_simp⟩) ?_
  simp only [Act.put, List.setIfInBounds_toArray, List.set_cons_succ, List.set_cons_zero]
  refine wpAnyCL_take (i := 10) (v := .int .i64 0) rfl (by kernel_rfl) (fun _ _ _ h => h) (.inl ⟨by rfl, fun w' _ => by go_simp⟩) ?_
  simp only [Act.put, List.setIfInBounds_toArray, List.set_cons_succ, List.set_cons_zero]
  refine wpAnyCL_take (i := 11) (v := .bool true) rfl (by kernel_rfl) (fun _ _ _ h => h) (.inl ⟨by rfl, fun w' _ => by go_simp⟩) ?_
  simp only [Act.put, List.setIfInBounds_toArray, List.set_cons_succ, List.set_cons_zero]
  refine wpAnyCL_take (i := 12) (v := .bool true) rfl (by kernel_rfl) (fun _ _ _ h => h) (.inl ⟨by rfl, fun w' _ => by go_simp⟩) ?_
  simp only [Act.put, List.setIfInBounds_toArray, List.set_cons_succ, List.set_cons_zero]
  refine wpAnyCL_take (i := 13) (v := .pointer (some ⟨P, 0, none⟩)) rfl (by kernel_rfl) (fun _ _ _ h => h) (.inl ⟨by rfl, fun w' _ => by go_simp⟩) ?_
  simp only [Act.put, List.setIfInBounds_toArray, List.set_cons_succ, List.set_cons_zero]
  refine wpAnyCL_take (i := 14) (v := .pointer (some ⟨D, 0, none⟩)) rfl (by kernel_rfl) (fun _ _ _ h => h) (.inl ⟨by rfl, fun w' _ => by go_simp⟩) ?_
  simp only [Act.put, List.setIfInBounds_toArray, List.set_cons_succ, List.set_cons_zero]
  refine wpAnyCL_forced 15 HAd.out (by kernel_rfl) rfl (by rfl) (fun K hK => ?_)
  refine wp_store_row _ (.tmp 4) (.tmp 27) rfl w.heap.size rfl (ks.map Bv) rfl _ _ HZd.out (by rw [List.length_map, HKl.out]; rfl) (Bv_oneCell _) (by rw [info_keys, List.length_map, HKl.out]) ?_
  intro w7 hg7 hf7 hs7
  have HG7 := Lib.hid hg7
  have HF7 := Lib.hid hf7
  have hne : w4.heap.size ≠ w.heap.size := by have := lt_of_block HZ6.out; have := HS4.out; have := HNe.out; omega
  have HA7 := Lib.hid (show At w7 w4.heap.size 0 (ks.map Bv) from fun i u hi => hf7.cell (HAd.out i u hi) hne)
  refine hK _ _ ?_
  clear hK hg7 hf7 hs7 hne
  try simp only [Act.put]
  refine wpAnyCL_take (i := 16) (v := .bool true) rfl (by kernel_rfl) (fun _ _ _ h => h) (.inl ⟨by rfl, fun w' _ => by go_simp⟩) ?_
  simp only [Act.put, List.setIfInBounds_toArray, List.set_cons_succ, List.set_cons_zero]
  refine wpAnyC_done (by kernel_rfl) HA7.out ?_
  go_wp2
  have hfw : Fr (fun k => k = w.heap.size) w6 w7 := (HFd.out.mono (fun _ _ h => h.elim)).trans HF7.out
  refine bodyPost_ret (ret_ttct rfl rfl (At.of_row HG7.out) Tryz.underlying35 rfl (by rw [info_keys, List.length_map, HKl.out])) rfl ⟨P, D, S, W, W1.heap.size, Fs, by rw [HKs.out]; rfl, ?_, ?_, ?_, ?_, ?_⟩
  · rw [← HKs.out]
    exact HP6.out.fr hfw (fun k hk e => by have := (HGe6.out k hk).1; omega)
  · exact HD6.out.fr hfw (fun k hk e => by have := (HF2.out k hk).1; omega)
  · exact fun k hk => Nat.le_of_lt (HF2.out k hk).1
  · exact fun k hk => ⟨Nat.le_of_lt (HGe6.out k hk).1, (HGe6.out k hk).2⟩
  · exact HB6.out.trans (hfw.below HB6.out.size (fun j hj => by omega))

end Go.Proofs.YtkbnkdokcmpcgaaGreatDoor
namespace Go.Proofs.YtkbnkdokcmpcgaaGreatDoor
open Go.RowKit

theorem putB_succ (x n : Nat) : putB x (n + 1) = putB (x / 256) n ++ [UInt8.ofNat x] := by
  apply List.ext_getElem?
  intro j
  simp only [putB, List.getElem?_map, List.getElem?_append, List.length_map, List.length_range]
  by_cases h : j < n
  · simp only [h, if_true, List.getElem?_range, show j < n + 1 by omega, Option.map_some]
    congr 2
    rw [show n + 1 - 1 - j = (n - 1 - j) + 1 by omega, Nat.pow_succ, Nat.mul_comm, Nat.div_div_eq_div_mul]
  · by_cases h2 : j = n
    · subst h2; simp
    · simp [h, show ¬ j < n + 1 by omega, show j - n ≠ 0 by omega]
theorem putB_getB : ∀ (n : Nat) (l : List UInt8), l.length = n → putB (getB l) n = l
  | 0, l, h => by
    have : l = [] := List.eq_nil_of_length_eq_zero h
    subst this; rfl
  | n + 1, l, h => by
    have hne : l ≠ [] := by intro e; subst e; simp at h
    have e := List.dropLast_concat_getLast hne
    have hl : l.dropLast.length = n := by rw [List.length_dropLast, h]; rfl
    have ih := putB_getB n l.dropLast hl
    have hg : getB l = getB l.dropLast * 256 + (l.getLast hne).toNat := by
      conv => lhs; rw [← e]
      rw [getB_append]
      simp [getB]
    have hc := (l.getLast hne).toNat_lt
    rw [putB_succ, hg, show (getB l.dropLast * 256 + (l.getLast hne).toNat) / 256 = getB l.dropLast by omega, ih]
    conv => rhs; rw [← e]
    congr 2
    apply UInt8.toNat_inj.1
    rw [UInt8.toNat_ofNat']
    have e3 : (2 : Nat) ^ 8 = 256 := rfl
    rw [e3]; omega

theorem strOf_strB (s : ByteArray) (r : List UInt8) (h : s.size ≤ 255) : strOf (strB s ++ r) = (s, 0, r) := by
  have hs : s.data.toList.length = s.size := by rw [Array.length_toList]; rfl
  unfold strB strOf
  simp only [List.cons_append]
  have hc : (UInt8.ofNat s.size).toNat = s.size := by rw [UInt8.toNat_ofNat']; exact Nat.mod_eq_of_lt (by omega)
  rw [if_neg (by rw [hc, List.length_append, hs]; omega), hc]
  rw [List.take_append_of_le_length (by omega), List.drop_append_of_le_length (by omega), List.take_of_length_le (by omega), List.drop_of_length_le (by omega)]
  simp
theorem strOf_ok (ys : List UInt8) (h : ((strOf ys).2.1 == 0) = true) : ys = strB (strOf ys).1 ++ (strOf ys).2.2 := by
  unfold strOf at h ⊢
  split
  · simp at h
  · rename_i c xs
    split
    · rename_i hc
      simp [hc] at h
    · rename_i hc
      have hl : (xs.take c.toNat).length = c.toNat := by rw [List.length_take]; omega
      simp only [strB, ByteArray.size, List.size_toArray, hl, List.cons_append, List.cons.injEq]
      refine ⟨?_, by simp⟩
      apply UInt8.toNat_inj.1
      rw [UInt8.toNat_ofNat', Nat.mod_eq_of_lt c.toNat_lt]
theorem ptrOf_ptrB (p : Pt) (r : List UInt8) (h : p.Wf) : ptrOf (ptrB p ++ r) = (p, 0, r) := by
  have h1 := ptrB_length p h
  have e4 : (putB p.addr 4).length = 4 := putB_length _ _
  have e8 : (putB p.birth 8).length = 8 := putB_length _ _
  have e32 := h.sum
  have ha := h.addr
  have hb := h.birth
  unfold ptrOf
  rw [if_neg (by rw [List.length_append, h1]; omega)]
  have t1 : (ptrB p ++ r).take 4 = putB p.addr 4 := by
    unfold ptrB; rw [List.append_assoc, List.append_assoc, List.take_append_of_le_length (by omega), List.take_of_length_le (by omega)]
  have t2 : (ptrB p ++ r).drop 4 = putB p.birth 8 ++ (p.sum ++ r) := by
    unfold ptrB; rw [List.append_assoc, List.append_assoc, List.drop_append_of_le_length (by omega), List.drop_of_length_le (by omega)]; rfl
  have t3 : (ptrB p ++ r).drop 12 = p.sum ++ r := by
    rw [show 12 = 4 + 8 from rfl, ← List.drop_drop, t2, List.drop_append_of_le_length (by omega), List.drop_of_length_le (by omega)]; rfl
  have t4 : (ptrB p ++ r).drop 44 = r := by
    rw [show 44 = 12 + 32 from rfl, ← List.drop_drop, t3, List.drop_append_of_le_length (by omega), List.drop_of_length_le (by omega)]; rfl
  rw [t1, t2, t3, t4, List.take_append_of_le_length (by omega), List.take_of_length_le (by omega), List.take_append_of_le_length (by omega), List.take_of_length_le (by omega), getB_putB, getB_putB, Nat.mod_eq_of_lt (by simpa using ha), Nat.mod_eq_of_lt (by simpa using hb)]
theorem ptrOf_ok (ys : List UInt8) (h : ((ptrOf ys).2.1 == 0) = true) : ys = ptrB (ptrOf ys).1 ++ (ptrOf ys).2.2 := by
  unfold ptrOf at h ⊢
  split
  · rename_i hc
    simp [hc] at h
  · rename_i hc
    have l4 : (ys.take 4).length = 4 := by rw [List.length_take]; omega
    have l8 : ((ys.drop 4).take 8).length = 8 := by rw [List.length_take, List.length_drop]; omega
    simp only [ptrB]
    rw [putB_getB 4 _ l4, putB_getB 8 _ l8]
    have e1 : (ys.drop 4) = (ys.drop 4).take 8 ++ ys.drop 12 := by
      conv => lhs; rw [← List.take_append_drop 8 (ys.drop 4)]
      rw [List.drop_drop]
    have e2 : (ys.drop 12) = (ys.drop 12).take 32 ++ ys.drop 44 := by
      conv => lhs; rw [← List.take_append_drop 32 (ys.drop 12)]
      rw [List.drop_drop]
    conv => lhs; rw [← List.take_append_drop 4 ys, e1, e2]
    simp only [List.append_assoc]

theorem kvTo_more (leaf : Bool) (ks vs ks' vs' : List ByteArray) (ps : List Pt) (k : Nat) (hk : k ≤ ks.length) (hv : leaf = true → k ≤ vs.length) : kvTo ⟨leaf, ks ++ ks', vs ++ vs', ps⟩ k = kvTo ⟨leaf, ks, vs, ps⟩ k := by
  unfold kvTo
  apply congrArg List.flatten
  apply List.map_congr_left
  intro i hi
  have hi' : i < k := by simpa using hi
  unfold kvAt
  simp only [List.getD_eq_getElem?_getD]
  rw [List.getElem?_append_left (by omega)]
  cases leaf with
  | false => rfl
  | true => rw [List.getElem?_append_left (by have := hv rfl; omega)]

/-- What was told well was laid. -/
theorem tellKV_laid (leaf : Bool) (zs : List UInt8) (ok0 : Bool) : ∀ k, (tellKV leaf k ⟨[], [], zs, ok0⟩).ok = true → ok0 = true ∧ zs = kvTo ⟨leaf, (tellKV leaf k ⟨[], [], zs, ok0⟩).keys, (tellKV leaf k ⟨[], [], zs, ok0⟩).vals, []⟩ k ++ (tellKV leaf k ⟨[], [], zs, ok0⟩).rest
  | 0, h => ⟨h, rfl⟩
  | k + 1, h => by
    have hk := tellKV_keys leaf ⟨[], [], zs, ok0⟩ k
    have hv : leaf = true → (tellKV leaf k ⟨[], [], zs, ok0⟩).vals.length = k := fun e => by subst e; rw [tellKV_vals]; simp
    have hvn : leaf = false → (tellKV leaf k ⟨[], [], zs, ok0⟩).vals = [] := fun e => by subst e; rw [tellKV_novals]
    have ih := tellKV_laid leaf zs ok0 k
    unfold tellKV at h ⊢
    obtain ⟨S, hS⟩ : ∃ S, S = tellKV leaf k ⟨[], [], zs, ok0⟩ := ⟨_, rfl⟩
    rw [← hS] at h hk hv hvn ih ⊢
    simp only [List.length_nil, Nat.zero_add] at hk
    cases leaf with
    | true =>
      unfold stepKV at h ⊢
      simp only [if_true, Bool.and_eq_true] at h ⊢
      obtain ⟨⟨h1, h2⟩, h3⟩ := h
      obtain ⟨g1, g2⟩ := ih h1
      refine ⟨g1, ?_⟩
      have e1 := strOf_ok S.rest h2
      have e2 := strOf_ok _ h3
      rw [kvTo_succ, kvTo_more true S.keys S.vals _ _ [] k (by omega) (fun _ => by have := hv rfl; omega)]
      have ekv : kvAt ⟨true, S.keys ++ [(strOf S.rest).1], S.vals ++ [(strOf (strOf S.rest).2.2).1], []⟩ k = strB (strOf S.rest).1 ++ strB (strOf (strOf S.rest).2.2).1 := by
        unfold kvAt
        simp only [List.getD_eq_getElem?_getD, if_true]
        rw [List.getElem?_append_right (by omega), List.getElem?_append_right (by have := hv rfl; omega), hk, hv rfl]
        simp
      rw [ekv, List.append_assoc, List.append_assoc, ← e2, ← e1]
      exact g2
    | false =>
      unfold stepKV at h ⊢
      simp only [Bool.false_eq_true, if_false, Bool.and_eq_true] at h ⊢
      obtain ⟨h1, h2⟩ := h
      obtain ⟨g1, g2⟩ := ih h1
      refine ⟨g1, ?_⟩
      have e1 := strOf_ok S.rest h2
      have em := kvTo_more false S.keys S.vals [(strOf S.rest).1] [] [] k (by omega) (fun e => by cases e)
      rw [List.append_nil] at em
      rw [kvTo_succ, em]
      have ekv : kvAt ⟨false, S.keys ++ [(strOf S.rest).1], S.vals, []⟩ k = strB (strOf S.rest).1 := by
        unfold kvAt
        simp only [List.getD_eq_getElem?_getD, Bool.false_eq_true, if_false, List.append_nil]
        rw [List.getElem?_append_right (by omega), hk]
        simp
      rw [ekv, List.append_assoc, ← e1]
      exact g2
theorem tellP_laid (zs : List UInt8) (ok0 : Bool) : ∀ k, (tellP k ⟨[], zs, ok0⟩).ok = true → ok0 = true ∧ zs = (tellP k ⟨[], zs, ok0⟩).kids.flatMap ptrB ++ (tellP k ⟨[], zs, ok0⟩).rest
  | 0, h => ⟨h, rfl⟩
  | k + 1, h => by
    have ih := tellP_laid zs ok0 k
    unfold tellP at h ⊢
    obtain ⟨S, hS⟩ : ∃ S, S = tellP k ⟨[], zs, ok0⟩ := ⟨_, rfl⟩
    rw [← hS] at h ih ⊢
    unfold stepP at h ⊢
    simp only [Bool.and_eq_true] at h ⊢
    obtain ⟨h1, h2⟩ := h
    obtain ⟨g1, g2⟩ := ih h1
    refine ⟨g1, ?_⟩
    rw [List.flatMap_append, List.append_assoc]
    conv => lhs; rw [g2]
    congr 1
    simpa using ptrOf_ok S.rest h2

/-- What is laid is told. -/
def kvFrom (n : Nd) (k : Nat) : List UInt8 := ((List.range n.keys.length).drop k).flatMap (kvAt n)
theorem kvFrom_zero (n : Nd) : kvFrom n 0 = kvTo n n.keys.length := rfl
theorem kvFrom_step (n : Nd) (k : Nat) (h : k < n.keys.length) : kvFrom n k = kvAt n k ++ kvFrom n (k + 1) := by
  unfold kvFrom
  rw [List.drop_eq_getElem_cons (by simpa using h)]
  simp
theorem kvFrom_end (n : Nd) : kvFrom n n.keys.length = [] := by unfold kvFrom; rw [List.drop_of_length_le (by simp)]; rfl
theorem tellKV_told (n : Nd) (tail : List UInt8) (hk : ∀ s ∈ n.keys, s.size ≤ 255) (hv : ∀ s ∈ n.vals, s.size ≤ 255) (hl : n.leaf = true → n.vals.length = n.keys.length) :
    ∀ k, k ≤ n.keys.length → tellKV n.leaf k ⟨[], [], kvFrom n 0 ++ tail, true⟩ = ⟨n.keys.take k, if n.leaf then n.vals.take k else [], kvFrom n k ++ tail, true⟩
  | 0, _ => by cases n.leaf <;> rfl
  | k + 1, h => by
    have ih := tellKV_told n tail hk hv hl k (by omega)
    unfold tellKV
    rw [ih, kvFrom_step n k (by omega)]
    have s1 := hk _ (List.getElem_mem (show k < n.keys.length by omega))
    cases hlf : n.leaf with
    | true =>
      have hvl := hl hlf
      have s2 := hv _ (List.getElem_mem (show k < n.vals.length by omega))
      have ekv : kvAt n k = strB (n.keys[k]'(by omega)) ++ strB (n.vals[k]'(by omega)) := by
        unfold kvAt
        rw [hlf, if_pos rfl, List.getD_eq_getElem?_getD, List.getD_eq_getElem?_getD, List.getElem?_eq_getElem (by omega), List.getElem?_eq_getElem (by omega)]
        rfl
      unfold stepKV
      simp only [if_true]
      rw [ekv, List.append_assoc, List.append_assoc, strOf_strB _ _ s1]
      simp only
      rw [strOf_strB _ _ s2]
      simp only [List.take_succ_eq_append_getElem (show k < n.keys.length by omega), List.take_succ_eq_append_getElem (show k < n.vals.length by omega)]
      rfl
    | false =>
      have ekv : kvAt n k = strB (n.keys[k]'(by omega)) := by
        unfold kvAt
        rw [hlf, List.getD_eq_getElem?_getD, List.getElem?_eq_getElem (by omega)]
        simp
      unfold stepKV
      simp only [Bool.false_eq_true, if_false]
      rw [ekv, List.append_assoc, strOf_strB _ _ s1]
      simp only [List.take_succ_eq_append_getElem (show k < n.keys.length by omega)]
      rfl
theorem tellP_told (ps : List Pt) (tail : List UInt8) (hw : ∀ p ∈ ps, p.Wf) : ∀ k, k ≤ ps.length → tellP k ⟨[], ps.flatMap ptrB ++ tail, true⟩ = ⟨ps.take k, (ps.drop k).flatMap ptrB ++ tail, true⟩
  | 0, _ => rfl
  | k + 1, h => by
    have ih := tellP_told ps tail hw k (by omega)
    have h1 := hw _ (List.getElem_mem (show k < ps.length by omega))
    unfold tellP
    rw [ih, List.drop_eq_getElem_cons (show k < ps.length by omega)]
    unfold stepP
    simp only [List.flatMap_cons, List.append_assoc]
    rw [ptrOf_ptrB _ _ h1]
    simp only [List.take_succ_eq_append_getElem (show k < ps.length by omega)]
    rfl

end Go.Proofs.YtkbnkdokcmpcgaaGreatDoor

namespace Go.Proofs.YtkbnkdokcmpcgaaGreatDoor
open Go.RowKit

theorem numOf_one (c : UInt8) (ys : List UInt8) : numOf 1 (c :: ys) = (c.toNat, 0, ys) := by
  unfold numOf
  rw [if_neg (by omega), if_neg (by simp; omega)]
  simp [getB]
theorem tellP_wf (s : Tp) (h : ∀ p ∈ s.kids, p.Wf) : ∀ k, ∀ p ∈ (tellP k s).kids, p.Wf
  | 0 => h
  | k + 1 => by
    have ih := tellP_wf s h k
    unfold tellP stepP
    intro p hp
    rcases List.mem_append.1 hp with g | g
    · exact ih p g
    · rw [List.mem_singleton] at g; subst g; exact ptrOf_wf _
theorem toldN_wf (xs : List UInt8) : ∀ p ∈ (toldN xs).kids, p.Wf := by
  unfold toldN tell2
  simp only
  split
  · simp
  · exact tellP_wf _ (by simp) _

theorem putB_one (c : UInt8) : putB c.toNat 1 = [c] := by
  have := putB_getB 1 [c] rfl
  simpa [getB] using this

/-- What was told well was laid, whole. -/
theorem told_laid (c0 c1 : UInt8) (zs : List UInt8) (h : (tell2 (c0 :: c1 :: zs)).ok = true) : c0 :: c1 :: zs = bytesN (toldN (c0 :: c1 :: zs)) ++ (tell2 (c0 :: c1 :: zs)).rest := by
  have hk : kind (c0 :: c1 :: zs) = c0.toNat := by unfold kind; rw [numOf_one]
  have hc : count (c0 :: c1 :: zs) = c1.toNat := by unfold count; rw [numOf_one, numOf_one]
  have ht1 : tell1 (c0 :: c1 :: zs) = tellKV (c0.toNat == 1) c1.toNat ⟨[], [], zs, c0.toNat == 1 || c0.toNat == 2⟩ := by unfold tell1; rw [hk, hc, numOf_one, numOf_one]
  obtain ⟨S, hS⟩ : ∃ S, S = tell1 (c0 :: c1 :: zs) := ⟨_, rfl⟩
  have hlaid := tellKV_laid (c0.toNat == 1) zs (c0.toNat == 1 || c0.toNat == 2) c1.toNat
  have hkl := tellKV_keys (c0.toNat == 1) ⟨[], [], zs, c0.toNat == 1 || c0.toNat == 2⟩ c1.toNat
  rw [← ht1, ← hS] at hlaid hkl
  simp only [List.length_nil, Nat.zero_add] at hkl
  cases hL : (c0.toNat == 1) with
  | true =>
    have e2 : tell2 (c0 :: c1 :: zs) = ⟨[], S.rest, S.ok⟩ := by unfold tell2; rw [hk, hL, if_pos rfl, hS]
    have e3 : toldN (c0 :: c1 :: zs) = ⟨true, S.keys, S.vals, []⟩ := by unfold toldN; rw [hk, hL, e2, hS]
    rw [e2] at h ⊢
    rw [e3]
    rw [hL] at hlaid
    obtain ⟨-, g⟩ := hlaid h
    have h1 : c0.toNat = 1 := by simpa using hL
    unfold bytesN headB kidsTo
    simp only [if_true, hkl, List.length_nil, List.take_nil, List.flatMap_nil, List.append_nil]
    rw [show putB 1 1 = [c0] by have := putB_one c0; rwa [h1] at this, putB_one]
    simp only [List.cons_append, List.nil_append]
    rw [← g]
  | false =>
    have e2 : tell2 (c0 :: c1 :: zs) = tellP (c1.toNat + 1) ⟨[], S.rest, S.ok⟩ := by unfold tell2; rw [hk, hL, hc, hS]; rfl
    have e3 : toldN (c0 :: c1 :: zs) = ⟨false, S.keys, S.vals, (tell2 (c0 :: c1 :: zs)).kids⟩ := by unfold toldN; rw [hk, hL, hS]
    have hp := tellP_laid S.rest S.ok (c1.toNat + 1)
    rw [← e2] at hp
    obtain ⟨g1, g2⟩ := hp h
    rw [hL] at hlaid
    obtain ⟨g3, g4⟩ := hlaid g1
    have h2 : c0.toNat = 2 := by simpa using g3
    rw [e3]
    unfold bytesN headB kidsTo
    simp only [Bool.false_eq_true, if_false, hkl]
    rw [show putB 2 1 = [c0] by have := putB_one c0; rwa [h2] at this, putB_one, List.take_length]
    have ekv : kvTo ⟨false, S.keys, S.vals, (tell2 (c0 :: c1 :: zs)).kids⟩ c1.toNat = kvTo ⟨false, S.keys, S.vals, []⟩ c1.toNat := rfl
    rw [ekv]
    simp only [List.cons_append, List.nil_append, List.append_assoc]
    rw [← g2, ← g4]

theorem formB_leaf' {n : Nd} (h : formB n = true) (hl : n.leaf = true) : n.kids = [] := by
  unfold formB at h
  rw [hl] at h
  simp only [if_true, Bool.and_eq_true, decide_eq_true_iff] at h
  exact List.eq_nil_of_length_eq_zero h.2.1.2
theorem formB_inner' {n : Nd} (h : formB n = true) (hl : n.leaf = false) : n.kids.length = n.keys.length + 1 ∧ n.vals = [] := by
  unfold formB at h
  rw [hl] at h
  simp only [Bool.false_eq_true, if_false, Bool.and_eq_true, decide_eq_true_iff] at h
  exact ⟨h.2.1.2, List.eq_nil_of_length_eq_zero h.2.1.1.1⟩

/-- What is laid is told, whole. -/
theorem told_of_bytes (n : Nd) (tail : List UInt8) (hf : formB n = true) (hk : n.keys.length ≤ 255) (hw : ∀ p ∈ n.kids, p.Wf) :
    toldN (bytesN n ++ tail) = n ∧ (tell2 (bytesN n ++ tail)).ok = true ∧ (tell2 (bytesN n ++ tail)).rest = tail := by
  have hok := formB_ok hf
  have hks : ∀ s ∈ n.keys, s.size ≤ 255 := fun s hs => by have := (hok.keyS s hs).2; omega
  have hvs : ∀ s ∈ n.vals, s.size ≤ 255 := fun s hs => by have := hok.valS s hs; omega
  have ebytes : bytesN n ++ tail = UInt8.ofNat (if n.leaf then 1 else 2) :: UInt8.ofNat n.keys.length :: (kvFrom n 0 ++ (n.kids.flatMap ptrB ++ tail)) := by
    unfold bytesN headB kidsTo
    rw [List.take_length, kvFrom_zero]
    simp [putB, List.range_succ]
  have hb : (UInt8.ofNat n.keys.length).toNat = n.keys.length := by rw [UInt8.toNat_ofNat']; exact Nat.mod_eq_of_lt (by omega)
  have hkind : kind (bytesN n ++ tail) = if n.leaf then 1 else 2 := by
    rw [ebytes]; unfold kind; rw [numOf_one]
    cases n.leaf <;> rfl
  have hcount : count (bytesN n ++ tail) = n.keys.length := by
    rw [ebytes]; unfold count; rw [numOf_one, numOf_one]; exact hb
  have hleaf : (kind (bytesN n ++ tail) == 1) = n.leaf := by rw [hkind]; cases n.leaf <;> rfl
  have hok0 : (kind (bytesN n ++ tail) == 1 || kind (bytesN n ++ tail) == 2) = true := by rw [hkind]; cases n.leaf <;> rfl
  have ht1 : tell1 (bytesN n ++ tail) = ⟨n.keys, if n.leaf then n.vals else [], n.kids.flatMap ptrB ++ tail, true⟩ := by
    have h0 : (numOf 1 (numOf 1 (bytesN n ++ tail)).2.2).2.2 = kvFrom n 0 ++ (n.kids.flatMap ptrB ++ tail) := by rw [ebytes, numOf_one, numOf_one]
    have h1 := tellKV_told n (n.kids.flatMap ptrB ++ tail) hks hvs hok.vals n.keys.length (Nat.le_refl _)
    unfold tell1
    rw [hok0, hleaf, hcount, h0, h1, kvFrom_end, List.take_length, List.nil_append]
    cases hl : n.leaf with
    | true => rw [if_pos rfl, if_pos rfl, ← hok.vals hl, List.take_length]
    | false => rfl
  cases hl : n.leaf with
  | true =>
    have hkid := formB_leaf' hf hl
    rw [hl] at ht1 hleaf
    have e2 : tell2 (bytesN n ++ tail) = ⟨[], tail, true⟩ := by
      unfold tell2; rw [hleaf, if_pos rfl, ht1, hkid]; rfl
    refine ⟨?_, by rw [e2], by rw [e2]⟩
    unfold toldN
    rw [hleaf, e2, ht1]
    obtain ⟨lf, ks, vs, ps⟩ := n
    simp only at hl hkid ⊢
    rw [hl, hkid]; rfl
  | false =>
    have hkid := formB_inner' hf hl
    rw [hl] at ht1 hleaf
    have e2 : tell2 (bytesN n ++ tail) = ⟨n.kids, tail, true⟩ := by
      have h1 := tellP_told n.kids tail hw n.kids.length (Nat.le_refl _)
      unfold tell2
      rw [hleaf, hcount, ht1, ← hkid.1]
      simp only [Bool.false_eq_true, if_false]
      rw [h1, List.take_length, List.drop_length]; rfl
    refine ⟨?_, by rw [e2], by rw [e2]⟩
    unfold toldN
    rw [hleaf, e2, ht1]
    have hv := hkid.2
    obtain ⟨lf, ks, vs, ps⟩ := n
    simp only at hl hv ⊢
    rw [hl, hv]; rfl

theorem endE_iff (ys : List UInt8) : (endE ys == 0) = true ↔ ys = List.replicate ys.length 0 := by
  constructor
  · intro h
    have h0 : ∀ y ∈ ys, y = 0 := by
      unfold endE at h
      split at h
      · rename_i ha; simpa using ha
      · simp at h
    exact List.eq_replicate_iff.2 ⟨rfl, h0⟩
  · intro h
    rw [endE_zero (fun y hy => by rw [h] at hy; exact (List.mem_replicate.1 hy).2)]; rfl

theorem checkE_split {n : Nd} : checkE n = 0 ↔ formB n = true ∧ sizeN n ≤ 512 := by
  unfold checkE
  cases formB n with
  | false => simp
  | true =>
    simp only [if_true, true_and]
    split
    · rename_i h; simp; omega
    · rename_i h; simp; omega

/-- Bytes are a node's just if they are its bytes. -/
theorem getOk_iff (xs : List UInt8) (hl : xs.length = 512) : getOk xs = true ↔ (checkE (toldN xs) = 0 ∧ bytesN (toldN xs) ++ List.replicate (512 - sizeN (toldN xs)) 0 = xs) := by
  constructor
  · intro h
    unfold getOk at h
    simp only [Bool.and_eq_true] at h
    obtain ⟨⟨h1, h2⟩, h3⟩ := h
    have hc : checkE (toldN xs) = 0 := by simpa using h3
    obtain ⟨c0, c1, zs, rfl⟩ : ∃ c0 c1 zs, xs = c0 :: c1 :: zs := by
      match xs, hl with
      | c0 :: c1 :: zs, _ => exact ⟨c0, c1, zs, rfl⟩
    have hlaid := told_laid c0 c1 zs h1
    have hlen := bytesN_length (checkE_split.1 hc).1 (toldN_wf (c0 :: c1 :: zs))
    have hr := (endE_iff _).1 h2
    refine ⟨hc, ?_⟩
    have e : (tell2 (c0 :: c1 :: zs)).rest.length = 512 - sizeN (toldN (c0 :: c1 :: zs)) := by
      have := congrArg List.length hlaid
      rw [List.length_append, hlen, hl] at this
      omega
    rw [← e, ← hr]
    exact hlaid.symm
  · rintro ⟨hc, hx⟩
    obtain ⟨hf, hs⟩ := checkE_split.1 hc
    have hk : (toldN xs).keys.length ≤ 255 := by
      have h1 := tell1_len xs
      have h2 := count_le xs
      unfold toldN; simp only; omega
    have h := told_of_bytes (toldN xs) (List.replicate (512 - sizeN (toldN xs)) 0) hf hk (toldN_wf xs)
    rw [hx] at h
    unfold getOk
    rw [h.2.1, h.2.2, (endE_iff _).2 (by simp), hc]
    rfl

end Go.Proofs.YtkbnkdokcmpcgaaGreatDoor
