/- Plain: Get of what was put. Walks: banyanlaw10's of and alive. -/
import Derived.Test.YtdmgmpagnmmehaaDoorUberH
namespace Go.Proofs.YtdmgmpagnmmehaaDoor
open Go.RowKit

theorem getB_putB_of {x n : Nat} (h : x < 256 ^ n) : getB (putB x n) = x := by rw [getB_putB, Nat.mod_eq_of_lt h]
theorem ptrOf_put (p : Pt) (r : List UInt8) (h : p.Wf) : (ptrOf (ptrB p ++ r)).1 = p := by
  have e : ptrB p ++ r = putB p.addr 4 ++ (putB p.birth 8 ++ (p.sum ++ r)) := by unfold ptrB; simp
  have h1 : (putB p.addr 4 ++ (putB p.birth 8 ++ (p.sum ++ r))).length ≥ 44 := by simp [putB_length, h.sum]; omega
  unfold ptrOf
  rw [e, if_neg (by omega)]
  have e1 : (putB p.addr 4 ++ (putB p.birth 8 ++ (p.sum ++ r))).take 4 = putB p.addr 4 := List.take_left' (putB_length _ _)
  have e2 : (putB p.addr 4 ++ (putB p.birth 8 ++ (p.sum ++ r))).drop 4 = putB p.birth 8 ++ (p.sum ++ r) := List.drop_left' (putB_length _ _)
  have e3 : (putB p.addr 4 ++ (putB p.birth 8 ++ (p.sum ++ r))).drop 12 = p.sum ++ r := by
    rw [show 12 = 4 + 8 from rfl, ← List.drop_drop, e2]; exact List.drop_left' (putB_length _ _)
  rw [e1, e2, e3, List.take_left' (putB_length _ _), List.take_left' h.sum, getB_putB_of (by have := h.addr; omega), getB_putB_of (by have := h.birth; omega)]

theorem ubB_eq (u : Ub) : ubB u = markB ++ (putB u.txg 8 ++ (putB u.size 4 ++ (ptrB u.root ++ List.replicate 420 0))) := by unfold ubB ubH; simp only [List.append_assoc]
theorem ubB_drop4 (u : Ub) : (ubB u).drop 4 = putB u.txg 8 ++ (putB u.size 4 ++ (ptrB u.root ++ List.replicate 420 0)) := by rw [ubB_eq]; exact List.drop_left' rfl
theorem ubB_drop12 (u : Ub) : (ubB u).drop 12 = putB u.size 4 ++ (ptrB u.root ++ List.replicate 420 0) := by
  rw [show 12 = 4 + 8 from rfl, ← List.drop_drop, ubB_drop4]; exact List.drop_left' (putB_length _ _)
theorem ubB_drop16 (u : Ub) : (ubB u).drop 16 = ptrB u.root ++ List.replicate 420 0 := by
  rw [show 16 = 12 + 4 from rfl, ← List.drop_drop, ubB_drop12]; exact List.drop_left' (putB_length _ _)
theorem ubB_drop60 {u : Ub} (h : u.Wf) : (ubB u).drop 60 = List.replicate 420 0 := by
  rw [show 60 = 16 + 44 from rfl, ← List.drop_drop, ubB_drop16]; exact List.drop_left' (ptrB_length _ h.root)
theorem toldU_ubB {u : Ub} (h : u.Wf) : toldU (ubB u) = u := by
  unfold toldU
  rw [ubB_drop4, ubB_drop12, ubB_drop16, List.take_left' (putB_length _ _), List.take_left' (putB_length _ _), ptrOf_put _ _ h.root, getB_putB_of (by have := h.txg; omega), getB_putB_of (by have := h.size; omega)]
theorem ubB_inj {u v : Ub} (hu : u.Wf) (hv : v.Wf) (h : ubB u = ubB v) : u = v := by rw [← toldU_ubB hu, h, toldU_ubB hv]
theorem okU_ubB {u : Ub} (h : u.Wf) (hc : ubE u = 0) : okU (ubB u) = true := by
  unfold okU
  rw [toldU_ubB h, ubE_split.1 hc, ubB_drop60 h, endE_zero (fun y hy => (List.mem_replicate.1 hy).2), ubB_eq, List.take_left' (show markB.length = 4 from rfl), decide_eq_true rfl, decide_eq_true rfl]
  rfl
theorem ubS_take (key : List UInt8) {u : Ub} (h : u.Wf) : (ubS key u).take 480 = ubB u := List.take_left' (ubB_length h)
theorem ubS_drop (key : List UInt8) {u : Ub} (h : u.Wf) : (ubS key u).drop 480 = macN key (ubB u) := List.drop_left' (ubB_length h)
/-- What is put is got. -/
theorem errU_put (key : List UInt8) {u : Ub} (h : u.Wf) (hc : ubE u = 0) : errU key (ubS key u) = 0 := by
  unfold errU
  rw [if_pos (ubS_length key h), ubS_take key h, ubS_drop key h, if_pos rfl, if_pos (okU_ubB h hc)]
theorem getU_put (key : List UInt8) {u : Ub} (h : u.Wf) (hc : ubE u = 0) : getU key (ubS key u) = u := by
  unfold getU
  rw [if_pos (errU_put key h hc), ubS_take key h, toldU_ubB h]
theorem ub16_E {t : Nat} (h : t ≠ 0) : ubE (ub16 t) = 0 := ubE_ok (ub16_ok h)
theorem ubS_inj {key : List UInt8} {u v : Ub} (hu : u.Wf) (hv : v.Wf) (h : ubS key u = ubS key v) : u = v :=
  ubB_inj hu hv (by rw [← ubS_take key hu, h, ubS_take key hv])

theorem ret_ub1 {fn : Func} {p : Tmp} (h : fn.results = #[.cell p 49]) {tmps : Array Value} {w : World} {g : Nat} {q : Ub} {t : TypeId} (hp : tmps.getD p undef = .pointer (some ⟨g, 0, none⟩))
    (hg : w.heap[g]? = some (.cells q.arr t (0, 0))) (hl : q.Wf) : (results fn tmps).run Tryd.prog w = .ok (.agg q.arr) w :=
  results_cell_row h tmps w g t _ _ _ hp hg Tryd.underlying49 rfl (by rw [info_ub]; simp [hl.asize])

set_option maxRecDepth 100000 in
set_option maxHeartbeats 1000000 in
theorem of_any (t : Nat) (w : World) (h : t < 18446744073709551616) :
    Calls Tryd.prog 25 #[.int .u64 (t : Int)] w fun e w' => e = .returned (.agg (ub16 t).arr) ∧ Below w.heap.size w w' := by
  have HZ := Lib.hid (heap_alloc_new w (.cells Ub.zero.arr 49))
  have HB := Lib.hid ((Below.refl _ w).alloc (Nat.le_refl _) (.cells Ub.zero.arr 49))
  have HW := Lib.hid (ub16_wf h)
  go_enter Tryd.func25, Tryd.ntmps25
  go_wp2_with (refine store_ub (u := ub16 t) rfl (.tmp 2) (.tmp 5) rfl rfl rfl HZ.out Ub.zero_wf.asize HW.out ?_)
  intro w1 hg1 hf1 hs1
  have HG1 := Lib.hid hg1
  have HB1 := Lib.hid (HB.out.trans (hf1.below HB.out.size (fun k hk => by omega)))
  clear hg1 hf1 hs1
  go_wp2
  refine bodyPost_ret (ret_ub1 rfl rfl HG1.out HW.out) rfl ?_
  exact ⟨rfl, HB1.out⟩

theorem conv_key (w : World) (g : Nat) (hg : g = w.heap.size) :
    (convert 28 28 (.slice (some ⟨g, 0, none⟩) 3 3)).run Tryd.prog (w.alloc (.cells #[.int .u8 107, .int .u8 101, .int .u8 121] 5)) = .ok (.slice (some ⟨g, 0, none⟩) 3 3) (w.alloc (.cells #[.int .u8 107, .int .u8 101, .int .u8 121] 5 (3, 4))) :=
  Go.Joins.run_convert_bytes_const_at (P := Tryd.prog) w 28 5 #[.int .u8 107, .int .u8 101, .int .u8 121] 3 3 g hg Tryd.underlying28 Tryd.underlying5
def keyK : List UInt8 := [107, 101, 121]
theorem ubPut_ok' (vk : Value) (key : List UInt8) (n : Nat) (hn : n = key.length) (u : Ub) (w : World) (hk : Sl w 1 vk n (key.map Bv)) (hr : n ≤ 140737488351232) (hu : u.Wf) (hc : ubE u = 0) :
    Calls Tryd.prog 18 #[vk, .agg u.arr] w fun e w' => ∃ aa cc, e = .returned (.tuple #[.slice aa 512 cc, .int .i64 0]) ∧ Sl w' 1 (.slice aa 512 cc) 512 ((ubS key u).map Bv) ∧ Below w.heap.size w w' := by
  subst hn; exact ubPut_ok vk key u w hk hr hu hc
theorem ubChoose' (vk va vb : Value) (n na nb : Nat) (key xa xb : List UInt8) (w : World) (hk : Sl w 1 vk n (key.map Bv)) (hr : n ≤ 140737488351232) (ha : Sl w 1 va na (xa.map Bv)) (hb : Sl w 1 vb nb (xb.map Bv)) :
    Calls Tryd.prog 26 #[vk, va, vb] w fun e w' => e = .returned (.tuple #[.agg (chN key xa xb 2).1.arr, .int .i64 (chN key xa xb 2).2]) ∧ Below w.heap.size w w' := by
  have e1 : key.length = n := by simpa using hk.1
  have e2 : xa.length = na := by simpa using ha.1
  have e3 : xb.length = nb := by simpa using hb.1
  subst e1 e2 e3
  exact ubChoose_any vk va vb key xa xb w hk hr ha hb
/-- Of two that lie in their slots the newer one is chosen. -/
theorem chN_two {key xa xb : List UInt8} {u v : Ub} (ha : errU key xa = 0) (hb : errU key xb = 0) (hu : getU key xa = u) (hv : getU key xb = v) (h0 : u.txg % 2 = 0) (h1 : v.txg % 2 = 1) (hp : 0 < u.txg) :
    chN key xa xb 2 = (if u.txg < v.txg then v else u, 0) := by
  have e1 : chS (Ub.zero, 8) 0 (u, 0) = (u, 0) := by unfold chS; rw [if_pos ⟨rfl, h0, hp⟩]
  unfold chN
  simp only [ha, hb, hu, hv, e1]
  unfold chS
  by_cases h : u.txg < v.txg
  · rw [if_pos ⟨rfl, h1, h⟩, if_pos h]
  · rw [if_neg (fun hh => h hh.2.2), if_neg h]

set_option maxRecDepth 100000 in
set_option maxHeartbeats 4000000 in
theorem alive10 (w : World) : Calls Tryd.prog 17 #[] w fun e w' => e = .returned (.bool true) ∧ Below w.heap.size w w' := by
  have q1 := conv_key w w.heap.size rfl
  obtain ⟨w1, hw1⟩ : ∃ w1, w1 = w.alloc (.cells #[.int .u8 107, .int .u8 101, .int .u8 121] 5 (3, 4)) := ⟨_, rfl⟩
  have HB1 := Lib.hid (show Below w.heap.size w w1 by rw [hw1]; exact (Below.refl _ w).alloc (Nat.le_refl _) _)
  have HK1 := Lib.hid (show Sl w1 1 (.slice (some ⟨w.heap.size, 0, none⟩) 3 3) 3 (keyK.map Bv) by rw [hw1]; exact Sl_litm _ _ _ _ 3 rfl rfl rfl)
  rw [← hw1] at q1
  clear hw1
  have H4 := Lib.hid (fun w => of_any 4 w (by decide))
  have H5 := Lib.hid (fun w => of_any 5 w (by decide))
  have hch : chN keyK (ubS keyK (ub16 4)) (ubS keyK (ub16 5)) 2 = (ub16 5, 0) := by
    rw [chN_two (errU_put keyK (ub16_wf (by decide)) (ub16_E (by decide))) (errU_put keyK (ub16_wf (by decide)) (ub16_E (by decide))) (getU_put keyK (ub16_wf (by decide)) (ub16_E (by decide))) (getU_put keyK (ub16_wf (by decide)) (ub16_E (by decide))) rfl rfl (by decide), if_pos (by decide)]
  have HCh := Lib.hid hch
  have HZE := Lib.hid (show ubE Ub.zero = 4 by decide)
  clear hch
  go_enter Tryd.func17, Tryd.ntmps17
  go_wp2_with fail
  refine (H4.out _).mono ?_
  rintro e w2 ⟨rfl, hb2⟩
  have HB2 := Lib.hid (HB1.out.trans (hb2.mono HB1.out.size))
  have HK2 := Lib.hid (HK1.out.below hb2)
  clear hb2 q1
  go_wp2_with fail
  refine (ubPut_ok' _ keyK 3 rfl (ub16 4) _ HK2.out (by decide) (ub16_wf (by decide)) (ub16_E (by decide))).mono ?_
  rintro e w3 ⟨a3, c3, rfl, hs3, hb3⟩
  have HB3 := Lib.hid (HB2.out.trans (hb3.mono HB2.out.size))
  have HK3 := Lib.hid (HK2.out.below hb3)
  have HS3 := Lib.hid hs3
  clear hs3 hb3
  go_wp2_with fail
  refine (H5.out _).mono ?_
  rintro e w4 ⟨rfl, hb4⟩
  have HB4 := Lib.hid (HB3.out.trans (hb4.mono HB3.out.size))
  have HK4 := Lib.hid (HK3.out.below hb4)
  have HS4 := Lib.hid (HS3.out.below hb4)
  clear hb4
  go_wp2_with fail
  refine (ubPut_ok' _ keyK 3 rfl (ub16 5) _ HK4.out (by decide) (ub16_wf (by decide)) (ub16_E (by decide))).mono ?_
  rintro e w5 ⟨a5, c5, rfl, hs5, hb5⟩
  have HB5 := Lib.hid (HB4.out.trans (hb5.mono HB4.out.size))
  have HK5 := Lib.hid (HK4.out.below hb5)
  have HA5 := Lib.hid (HS4.out.below hb5)
  have HS5 := Lib.hid hs5
  clear hs5 hb5
  go_wp2_with fail
  refine (ubChoose' _ _ _ 3 512 512 keyK (ubS keyK (ub16 4)) (ubS keyK (ub16 5)) _ HK5.out (by decide) HA5.out HS5.out).mono ?_
  rw [HCh.out]
  rintro e w6 ⟨rfl, hb6⟩
  have HB6 := Lib.hid (HB5.out.trans (hb6.mono HB5.out.size))
  have HW5 := Lib.hid (ub16_wf (t := 5) (by decide))
  clear hb6
  go_wp2_with (refine store_ub (u := ub16 5) rfl (.tmp 6) (.tmp 27) rfl rfl rfl (heap_alloc_new _ _) rfl HW5.out ?_)
  intro w7 hg7 hf7 hs7
  have HB7 := Lib.hid (HB6.out.trans (((Below.refl _ w6).alloc (Nat.le_refl _) _ |>.trans (hf7.below (by simp) (fun k hk => by omega))).mono HB6.out.size))
  have c7 : w7.cell? ⟨w6.heap.size, 0, none⟩ = some (.int .u64 5) := (cell_of_row _ _ 0 _ _ _ hg7).trans (ub16 5).get0
  clear hg7 hf7 hs7
  go_wp2_with fail
  refine (ubCheck_any Ub.zero _ Ub.zero_wf).mono ?_
  rw [HZE.out]
  rintro e w8 ⟨rfl, hb8⟩
  have HB8 := Lib.hid (HB7.out.trans (hb8.mono HB7.out.size))
  clear hb8
  go_wp2
  go_ret
  exact ⟨rfl, HB8.out⟩
end Go.Proofs.YtdmgmpagnmmehaaDoor
