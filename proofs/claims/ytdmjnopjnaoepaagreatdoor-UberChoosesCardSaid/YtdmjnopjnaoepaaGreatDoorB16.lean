/- How banyanlaw10's Two, as a parameter, reads; walk: UberChooses. -/
import Derived.Test.YtdmjnopjnaoepaaGreatDoorB15
namespace Go.Proofs.YtdmjnopjnaoepaaGreatDoor
open Go.RowKit Go.ChangeShapes Go.WideShapes

theorem cells_two : Tryz.prog.cellsOf 38 = 4 := by kernel_rfl
theorem cells_bool' : Tryz.prog.cellsOf 4 = 1 := by kernel_rfl
section
variable {H : Type} {enc : TypeId × Value → H} {W : World} {fuel : Nat} {cs : List Value} {x : DataW H × List MemPlace}
set_option maxRecDepth 100000 in
theorem open_two (h : DataW.trod enc Tryz.prog W 0 (fun _ => true) true fuel 38 cs = some x) (hl : Light 38 x.1) :
    ∃ (vk va vb : Value) (own : Bool) (key a b : List UInt8), cs = [vk, va, vb, .bool own] ∧ Sl W 1 vk key.length (key.map Bv) ∧ Sl W 1 va a.length (a.map Bv) ∧ Sl W 1 vb b.length (b.map Bv) ∧ key.length ≤ 140737488351232 ∧ a.length ≤ 140737488351232 ∧ b.length ≤ 140737488351232 := by
  obtain ⟨xs, n, rfl, hx, hlen, hxl, hf⟩ := DataW.trod_struct Tryz.underlying38 h
  rw [cells_two] at hlen
  have hxl' : xs.length = 4 := hxl
  have e0 : DataW.trod enc Tryz.prog W 0 (fun _ => true) true n 22 ((cs.drop 0).take (Tryz.prog.cellsOf 22)) = xs[0]? := hf 0 _ rfl
  have e1 : DataW.trod enc Tryz.prog W 0 (fun _ => true) true n 22 ((cs.drop 1).take (Tryz.prog.cellsOf 22)) = xs[1]? := hf 1 _ rfl
  have e2 : DataW.trod enc Tryz.prog W 0 (fun _ => true) true n 22 ((cs.drop 2).take (Tryz.prog.cellsOf 22)) = xs[2]? := hf 2 _ rfl
  have e3 : DataW.trod enc Tryz.prog W 0 (fun _ => true) true n 4 ((cs.drop 3).take (Tryz.prog.cellsOf 4)) = xs[3]? := hf 3 _ rfl
  rw [cells_bytes] at e0 e1 e2
  rw [cells_bool'] at e3
  match xs, hxl' with
  | [x0, x1, x2, x3], _ =>
  have hlw : ∀ n ∈ DataW.weightsEach Tryz.prog [22, 22, 22, 4] [x0.1, x1.1, x2.1, x3.1], n ≤ reachBytes := by
    intro n hn
    refine hl n ?_
    rw [hx]
    simpa [DataW.weights, Tryz.underlying38] using hn
  obtain ⟨v0, bs0, c0, s0, l0⟩ := open_bytes e0 (weights_part hlw (j := 0) rfl rfl)
  obtain ⟨v1, bs1, c1, s1, l1⟩ := open_bytes e1 (weights_part hlw (j := 1) rfl rfl)
  obtain ⟨v2, bs2, c2, s2, l2⟩ := open_bytes e2 (weights_part hlw (j := 2) rfl rfl)
  obtain ⟨own, c3, -⟩ := DataW.trod_bool Tryz.underlying4 e3
  have g0 := drop_take_one c0
  have g1 := drop_take_one c1
  have g2 := drop_take_one c2
  have g3 := drop_take_one c3
  refine ⟨v0, v1, v2, own, bs0, bs1, bs2, ?_, s0, s1, s2, l0, l1, l2⟩
  apply List.ext_getElem?
  intro i
  rcases i with _ | _ | _ | _ | i
  · simpa using g0
  · simpa using g1
  · simpa using g2
  · simpa using g3
  · rw [List.getElem?_eq_none (by omega), List.getElem?_eq_none (by simp)]
end

theorem chN_wf (key xa xb : List UInt8) : (chN key xa xb 2).1.Wf := by
  show (chS (chS (Ub.zero, 8) 0 (getU key xa, errU key xa)) 1 (getU key xb, errU key xb)).1.Wf
  exact chS_wf (chS_wf Ub.zero_wf (getU_wf _ _)) (getU_wf _ _)

set_option maxRecDepth 100000 in
set_option maxHeartbeats 8000000 in
theorem uberChooses_any (vk va vb : Value) (key xa xb : List UInt8) (own : Bool) (w : World) (hk : Sl w 1 vk key.length (key.map Bv)) (ha : Sl w 1 va xa.length (xa.map Bv)) (hb : Sl w 1 vb xb.length (xb.map Bv)) (hr : key.length ≤ 140737488351232) (hra : xa.length ≤ 140737488351232) (hrb : xb.length ≤ 140737488351232) :
    Calls Tryz.prog 4 #[.agg #[vk, va, vb, .bool own]] w fun e w' => e = .returned (.bool true) ∧ Below w.heap.size w w' := by
  obtain ⟨n, hn⟩ : ∃ n, n = key.length := ⟨_, rfl⟩
  obtain ⟨ma, hma⟩ : ∃ m, m = xa.length := ⟨_, rfl⟩
  obtain ⟨mb, hmb⟩ : ∃ m, m = xb.length := ⟨_, rfl⟩
  have HK := Lib.hid (fun w' (hh : Below w.heap.size w w') => hk.below hh)
  have HA := Lib.hid (fun w' (hh : Below w.heap.size w w') => ha.below hh)
  have HBb := Lib.hid (fun w' (hh : Below w.heap.size w w') => hb.below hh)
  obtain ⟨ak, ck, rfl⟩ := shape_of hk
  obtain ⟨aa, ca, rfl⟩ := shape_of ha
  obtain ⟨ab, cb, rfl⟩ := shape_of hb
  have HN := Lib.hid hn
  have HMa := Lib.hid hma
  have HMb := Lib.hid hmb
  rw [← hn] at hr HK ⊢
  rw [← hma] at hra HA ⊢
  rw [← hmb] at hrb HBb ⊢
  have hbel0 : Below w.heap.size w (w.alloc (.cells #[.slice ak n ck, .slice aa ma ca, .slice ab mb cb, .bool own] 38)) := (Below.refl _ w).alloc (Nat.le_refl _) _
  have HG0 := Lib.hid (heap_alloc_new w (.cells #[.slice ak n ck, .slice aa ma ca, .slice ab mb cb, .bool own] 38))
  have HB0 := Lib.hid hbel0
  clear hk ha hb hn hma hmb hbel0
  go_enter Tryz.func4, Tryz.ntmps4
  go_wp2_with fail
  refine (alive10 _).mono ?_
  rintro e w1 ⟨rfl, hb1⟩
  have HB1 := Lib.hid (HB0.out.trans (hb1.mono HB0.out.size))
  have hg1 := (hb1.block w.heap.size (by simp)).trans HG0.out
  have d0 : w1.cell? ⟨w.heap.size, 0, none⟩ = some (.slice ak n ck) := cell_of_row _ _ 0 _ _ _ hg1
  have d1 : w1.cell? ⟨w.heap.size, 1, none⟩ = some (.slice aa ma ca) := cell_of_row _ _ 1 _ _ _ hg1
  have d2 : w1.cell? ⟨w.heap.size, 2, none⟩ = some (.slice ab mb cb) := cell_of_row _ _ 2 _ _ _ hg1
  have d3 : w1.cell? ⟨w.heap.size, 3, none⟩ = some (.bool own) := cell_of_row _ _ 3 _ _ _ hg1
  clear hb1 hg1
  go_wp2_with fail
  go_quiet (fail)
  obtain ⟨wq, hwq⟩ : ∃ wq, wq = w1.drewN nq := ⟨_, rfl⟩
  have HBd := Lib.hid (show Below w.heap.size w wq by rw [hwq]; exact HB1.out.trans ((Fr_drewN (fun _ => False) w1 nq).below HB1.out.size (fun _ h => h.elim)))
  rw [← hwq]
  clear d0 d1 d2 d3 hwq
  by_cases h200 : 200 < n
  · have m1 : decide ((200 : Int) < (n : Int)) = true := by simp; omega
    clear h200
    go_wp2
    go_ret
    exact ⟨rfl, HBd.out⟩
  · have m1 : decide ((200 : Int) < (n : Int)) = false := by simp; omega
    by_cases h1200 : 1200 < ma + mb
    · have m2 : decide ((1200 : Int) < (ma : Int) + (mb : Int)) = true := by simp; omega
      clear h200 h1200
      go_wp2
      go_ret
      exact ⟨rfl, HBd.out⟩
    · have m2 : decide ((1200 : Int) < (ma : Int) + (mb : Int)) = false := by simp; omega
      have HCa := Lib.hid (fun v1 v2 ys zs w' (hb : Below w.heap.size w w') (h1 : Sl w' 1 v1 ys.length (ys.map Bv)) (h2 : Sl w' 1 v2 zs.length (zs.map Bv)) => ubChoose_any (.slice ak n ck) v1 v2 key ys zs w' (by have := HK.out w' hb; rwa [HN.out] at this ⊢) (by rw [← HN.out]; omega) h1 h2)
      have HCb := Lib.hid (fun v1 v2 ys zs w' (hb : Below w.heap.size w w') (h1 : Sl w' 1 v1 ys.length (ys.map Bv)) (h2 : Sl w' 1 v2 zs.length (zs.map Bv)) => refUbChoose_any (.slice ak n ck) v1 v2 key ys zs w' (by have := HK.out w' hb; rwa [HN.out] at this ⊢) (by rw [← HN.out]; omega) h1 h2)
      have HSa := Lib.hid (fun w' (hb : Below w.heap.size w w') => sealed_any (.slice ak n ck) (.slice aa ma ca) key xa ma HMa.out w' (by have := HK.out w' hb; rwa [HN.out] at this ⊢) (by rw [← HN.out]; omega) (HA.out w' hb))
      have HSb := Lib.hid (fun w' (hb : Below w.heap.size w w') => sealed_any (.slice ak n ck) (.slice ab mb cb) key xb mb HMb.out w' (by have := HK.out w' hb; rwa [HN.out] at this ⊢) (by rw [← HN.out]; omega) (HBb.out w' hb))
      clear h200 h1200
      cases own
      case false =>
        have HB2 := Lib.hid HBd.out
        have HYA := Lib.hid (show Sl wq 1 (.slice aa ma ca) xa.length (xa.map Bv) by rw [← HMa.out]; exact HA.out wq HBd.out)
        have HYB := Lib.hid (show Sl wq 1 (.slice ab mb cb) xb.length (xb.map Bv) by rw [← HMb.out]; exact HBb.out wq HBd.out)
        go_wp2_with fail
        obtain ⟨r, hr'⟩ : ∃ r, r = chN key xa xb 2 := ⟨_, rfl⟩
        have HCa2 := Lib.hid (HCa.out (.slice aa ma ca) (.slice ab mb cb) xa xb _ HB2.out HYA.out HYB.out)
        have HCb2 := Lib.hid (fun w' (hb : Below wq.heap.size wq w') => HCb.out (.slice aa ma ca) (.slice ab mb cb) xa xb w' (HB2.out.trans (hb.mono HB2.out.size)) (HYA.out.below hb) (HYB.out.below hb))
        rw [← hr'] at HCa2 HCb2
        have HU := Lib.hid (show r.1.Wf by rw [hr']; exact chN_wf key xa xb)
        obtain ⟨u, er, rfl⟩ : ∃ u er, r = (u, er) := ⟨r.1, r.2, rfl⟩
        clear hr' HCa HCb
        refine HCa2.out.mono ?_
        rintro e w3 ⟨rfl, hb3⟩
        have HB3 := Lib.hid hb3
        clear hb3
        go_wp2_with (refine store_ub rfl (.tmp 7) (.tmp 44) rfl rfl rfl (heap_alloc_new _ _) rfl HU.out ?_)
        intro w4 hg4 hf4 hs4
        have hbel4 : Below w3.heap.size w3 w4 := ((Below.refl _ w3).alloc (Nat.le_refl _) _).trans (hf4.below (by simp) (fun k hk => by omega))
        have HG4 := Lib.hid hg4
        have HB4 := Lib.hid (HB3.out.trans (hbel4.mono HB3.out.size))
        clear hg4 hf4 hs4 hbel4
        go_wp2_with fail
        refine (HCb2.out _ HB4.out).mono ?_
        rintro e w5 ⟨rfl, hb5⟩
        have HG5 := Lib.hid ((hb5.block _ (lt_of_block HG4.out)).trans HG4.out)
        have HB5 := Lib.hid (HB4.out.trans (hb5.mono HB4.out.size))
        clear hb5
        go_wp2_with (refine store_ub rfl (.tmp 9) (.tmp 51) rfl rfl rfl (heap_alloc_new _ _) rfl HU.out ?_)
        intro w6 hg6 hf6 hs6
        have hbel6 : Below w5.heap.size w5 w6 := ((Below.refl _ w5).alloc (Nat.le_refl _) _).trans (hf6.below (by simp) (fun k hk => by omega))
        have HA6 := Lib.hid (show At w6 w3.heap.size 0 u.cells from At.of_row ((hbel6.block _ (lt_of_block HG5.out)).trans HG5.out))
        have HC6 := Lib.hid (show At w6 w5.heap.size 0 u.cells from At.of_row hg6)
        have HB6 := Lib.hid (HB2.out.trans ((HB5.out.trans (hbel6.mono HB5.out.size)).mono HB2.out.size))
        clear hg6 hf6 hs6 hbel6
        go_wp2_with (first | (refine load_ub rfl (.tmp 7) rfl rfl HA6.out HU.out ?_) | (refine load_ub rfl (.tmp 9) rfl rfl HC6.out HU.out ?_) | (refine eql_ub (u := u) (v := u) rfl (.tmp 53) (.tmp 54) _ rfl rfl rfl HU.out HU.out ?_; rw [decide_eq_true rfl]))
        go_ret
        exact ⟨by simp, HB6.out⟩
      case true =>
        go_wp2_with fail
        refine (HSa.out _ HBd.out).mono ?_
        rintro e w0 ⟨aya, cya, rfl, hya, hb0⟩
        have HB0' := Lib.hid (HBd.out.trans (hb0.mono HBd.out.size))
        have HYa := Lib.hid hya
        clear hya hb0
        go_wp2_with fail
        refine (HSb.out _ HB0'.out).mono ?_
        rintro e w2 ⟨ayb, cyb, rfl, hyb, hb2⟩
        have HB2 := Lib.hid (HB0'.out.trans (hb2.mono HB0'.out.size))
        obtain ⟨ys, hys⟩ : ∃ ys, ys = sealB key xa := ⟨_, rfl⟩
        obtain ⟨zs, hzs⟩ : ∃ zs, zs = sealB key xb := ⟨_, rfl⟩
        have HYA := Lib.hid (show Sl w2 1 (.slice aya ma cya) ys.length (ys.map Bv) by rw [hys, sealB_length, ← HMa.out]; exact HYa.out.below hb2)
        have HYB := Lib.hid (show Sl w2 1 (.slice ayb mb cyb) zs.length (zs.map Bv) by rw [hzs, sealB_length, ← HMb.out]; exact hyb)
        clear hyb hb2 hys hzs
        go_wp2_with fail
        obtain ⟨r, hr'⟩ : ∃ r, r = chN key ys zs 2 := ⟨_, rfl⟩
        have HCa2 := Lib.hid (HCa.out (.slice aya ma cya) (.slice ayb mb cyb) ys zs _ HB2.out HYA.out HYB.out)
        have HCb2 := Lib.hid (fun w' (hb : Below w2.heap.size w2 w') => HCb.out (.slice aya ma cya) (.slice ayb mb cyb) ys zs w' (HB2.out.trans (hb.mono HB2.out.size)) (HYA.out.below hb) (HYB.out.below hb))
        rw [← hr'] at HCa2 HCb2
        have HU := Lib.hid (show r.1.Wf by rw [hr']; exact chN_wf key ys zs)
        obtain ⟨u, er, rfl⟩ : ∃ u er, r = (u, er) := ⟨r.1, r.2, rfl⟩
        clear hr' HCa HCb
        refine HCa2.out.mono ?_
        rintro e w3 ⟨rfl, hb3⟩
        have HB3 := Lib.hid hb3
        clear hb3
        go_wp2_with (refine store_ub rfl (.tmp 7) (.tmp 44) rfl rfl rfl (heap_alloc_new _ _) rfl HU.out ?_)
        intro w4 hg4 hf4 hs4
        have hbel4 : Below w3.heap.size w3 w4 := ((Below.refl _ w3).alloc (Nat.le_refl _) _).trans (hf4.below (by simp) (fun k hk => by omega))
        have HG4 := Lib.hid hg4
        have HB4 := Lib.hid (HB3.out.trans (hbel4.mono HB3.out.size))
        clear hg4 hf4 hs4 hbel4
        go_wp2_with fail
        refine (HCb2.out _ HB4.out).mono ?_
        rintro e w5 ⟨rfl, hb5⟩
        have HG5 := Lib.hid ((hb5.block _ (lt_of_block HG4.out)).trans HG4.out)
        have HB5 := Lib.hid (HB4.out.trans (hb5.mono HB4.out.size))
        clear hb5
        go_wp2_with (refine store_ub rfl (.tmp 9) (.tmp 51) rfl rfl rfl (heap_alloc_new _ _) rfl HU.out ?_)
        intro w6 hg6 hf6 hs6
        have hbel6 : Below w5.heap.size w5 w6 := ((Below.refl _ w5).alloc (Nat.le_refl _) _).trans (hf6.below (by simp) (fun k hk => by omega))
        have HA6 := Lib.hid (show At w6 w3.heap.size 0 u.cells from At.of_row ((hbel6.block _ (lt_of_block HG5.out)).trans HG5.out))
        have HC6 := Lib.hid (show At w6 w5.heap.size 0 u.cells from At.of_row hg6)
        have HB6 := Lib.hid (HB2.out.trans ((HB5.out.trans (hbel6.mono HB5.out.size)).mono HB2.out.size))
        clear hg6 hf6 hs6 hbel6
        go_wp2_with (first | (refine load_ub rfl (.tmp 7) rfl rfl HA6.out HU.out ?_) | (refine load_ub rfl (.tmp 9) rfl rfl HC6.out HU.out ?_) | (refine eql_ub (u := u) (v := u) rfl (.tmp 53) (.tmp 54) _ rfl rfl rfl HU.out HU.out ?_; rw [decide_eq_true rfl]))
        go_ret
        exact ⟨by simp, HB6.out⟩
end Go.Proofs.YtdmjnopjnaoepaaGreatDoor
