/- Walk: banyanlaw09's NodeSizes. -/
import Derived.Test.YtdhlcofjpkbgaaaLaw09A
import Derived.Test.YtdhlcofjpkbgaaaWd
namespace Go.Proofs.Ytdhlcofjpkbgaaa
open Go.RowKit

theorem checkE_zero' {n : Nd} (h : checkE n = 0) : formB n = true ∧ ¬ 512 < sizeN n := by
  cases hf : formB n with
  | false => rw [checkE_bad hf] at h; cases h
  | true =>
    refine ⟨rfl, fun h2 => ?_⟩
    rw [checkE_full hf h2] at h; cases h

theorem elem_strs : Try.prog.elem 52 = 9 := by kernel_rfl
theorem und_strs : Try.prog.underlying 52 = some (.slice (Try.prog.elem 52)) := by rw [elem_strs]; exact Try.underlying52
theorem sizeOf_str (w : World) : (sizeOf (Try.prog.elem 52)).run Try.prog w = .ok 1 w := by
  have h1 : (Try.prog.info? 9).map (·.size) = some 1 := by kernel_rfl
  rw [elem_strs]
  cases hq : Try.prog.info? 9 with
  | none => simp [hq] at h1
  | some i => simp [sizeOf, typeInfo, hq]; simpa [hq] using h1
theorem cut_strs_hi {w : World} {v : Value} {l : List ByteArray} (h : StrsIn w v l) {hi : Nat} (hhi : hi ≤ l.length) :
    ∃ A C, (∀ w', (Instr.slice 52 v none (some (.int .i64 (hi : Int))) none).run Try.prog w' = .ok (.slice A hi C) w') ∧ StrsIn w (.slice A hi C) (l.take hi) := by
  obtain ⟨a, cap, rfl, hc⟩ := h.len
  refine ⟨_, _, fun w' => ?_, by
    have := Sl.cut h rfl (Nat.zero_le hi) hhi
    simp only [Nat.mul_one, Nat.sub_zero, List.drop_zero] at this
    unfold StrsIn
    rw [List.map_take, List.length_take, Nat.min_eq_left hhi]
    exact this⟩
  rw [run_slice_h w' _ a l.length cap und_strs .i64 hi (by omega) (by omega), sizeOf_str]
  simp [Result.andThen, sliced]

/-- A leaf without its last key. -/
def cutN (n : Nd) (L : Nat) : Nd := ⟨true, n.keys.take L, n.vals.take L, []⟩

theorem keyAt_take (l : List ByteArray) (L i : Nat) (h : i < L) : keyAt (l.take L) i = keyAt l i := by
  unfold keyAt
  rw [List.getElem?_take_of_lt h]
  cases l[i]? with
  | none => rfl
  | some k =>
    cases i with
    | zero => rfl
    | succ j => simp only [List.getD_eq_getElem?_getD, List.getElem?_take_of_lt (show j < L by omega)]
theorem keysB_take {l : List ByteArray} (h : keysB l = true) (L : Nat) : keysB (l.take L) = true := by
  refine keysB_true fun i hi => ?_
  rw [List.length_take] at hi
  rw [keyAt_take l L i (by omega)]
  exact List.all_eq_true.1 h i (by simp; omega)
theorem longB_take {l : List ByteArray} (h : longB l = false) (L : Nat) : longB (l.take L) = false :=
  List.any_eq_false.2 fun x hx => List.any_eq_false.1 h x (List.mem_of_mem_take hx)
theorem strsN_last (l : List ByteArray) (L : Nat) (h : l.length = L + 1) : strsN l = strsN (l.take L) + (1 + (l[L]'(by omega)).size) := by
  have := strsN_step l L (by omega)
  rwa [List.take_of_length_le (by omega)] at this

theorem formB_leaf {n : Nd} (h : formB n = true) (hl : n.leaf = true) : n.vals.length = n.keys.length ∧ n.kids = [] ∧ longB n.vals = false := by
  unfold formB at h
  rw [hl] at h
  simp only [if_true, Bool.and_eq_true, decide_eq_true_iff, Bool.not_eq_true'] at h
  exact ⟨h.2.1.1, List.eq_nil_of_length_eq_zero h.2.1.2, h.2.2⟩
theorem formB_cut {n : Nd} (h : formB n = true) (hl : n.leaf = true) (L : Nat) : formB (cutN n L) = true := by
  obtain ⟨h1, h2, h3⟩ := formB_leaf h hl
  unfold formB cutN
  simp only [if_true, Bool.and_eq_true, decide_eq_true_iff, Bool.not_eq_true', List.length_take, List.length_nil]
  refine ⟨keysB_take (formB_keys h) L, ⟨by rw [h1], ?_⟩, longB_take h3 L⟩
  first | trivial | rfl
theorem sizeN_cut {n : Nd} (h : formB n = true) (hl : n.leaf = true) (L : Nat) (hL : n.keys.length = L + 1) (hV : n.vals.length = L + 1) :
    sizeN n = sizeN (cutN n L) + 2 + (n.keys[L]'(by omega)).size + (n.vals[L]'(by omega)).size := by
  obtain ⟨h1, h2, h3⟩ := formB_leaf h hl
  unfold sizeN
  rw [h2, strsN_last n.keys L hL, strsN_last n.vals L hV]
  simp only [cutN, List.length_nil]
  omega

set_option maxRecDepth 100000 in
set_option maxHeartbeats 4000000 in
theorem nodeSizes_any (arr : Array Value) (n : Nd) (w : World) (h : NdIs w arr n) (hf : n.Fits) :
    Calls Try.prog 8 #[.agg arr] w fun e w' => e = .returned (.bool true) ∧ Below w.heap.size w w' := by
  have hn := fun (w' : World) (hb : Below w.heap.size w w') => (h.below hb : NdIs w' arr n)
  obtain ⟨ak, ck, av, cv, ap, cp, rfl, hk, hv, hp⟩ := h.get
  have hb0 : Below w.heap.size w (w.alloc (.cells #[.bool n.leaf, .slice ak n.keys.length ck, .slice av n.vals.length cv, .slice ap n.kids.length cp] 55)) := (Below.refl _ w).alloc (Nat.le_refl _) _
  have HN := Lib.hid hn
  have HK := Lib.hid (fun (w' : World) (hb : Below w.heap.size w w') => (hk.below hb : StrsIn w' (.slice ak n.keys.length ck) n.keys))
  have HV := Lib.hid (fun (w' : World) (hb : Below w.heap.size w w') => (hv.below hb : StrsIn w' (.slice av n.vals.length cv) n.vals))
  have HB := Lib.hid hb0
  have HF := Lib.hid hf
  have HT := Lib.hid (At_nd (heap_alloc_new w (.cells #[.bool n.leaf, .slice ak n.keys.length ck, .slice av n.vals.length cv, .slice ap n.kids.length cp] 55)))
  have b1 := hf.keys
  have b2 := hf.vals
  clear h hk hv hp hb0 hf hn
  go_enter Try.func8, Try.ntmps8
  go_wp2_with fail
  refine (alive09 _).mono ?_
  rintro e w1 ⟨rfl, hb1⟩
  have HT1 := Lib.hid (HT.out.fr (Fr.of_below (S := fun _ => False) hb1) id)
  have HB1 := Lib.hid (HB.out.trans (hb1.mono HB.out.size))
  have HN1 := Lib.hid (HN.out _ HB1.out)
  clear hb1
  go_wp2_with (refine load_nd rfl (.tmp 1) rfl rfl HT1.out rfl ?_)
  refine (size_any _ n _ HN1.out HF.out).mono ?_
  rintro e w2 ⟨rfl, hb2⟩
  have HT2 := Lib.hid (HT1.out.fr (Fr.of_below (S := fun _ => False) hb2) id)
  have HB2 := Lib.hid (HB1.out.trans (hb2.mono HB1.out.size))
  have HN2 := Lib.hid (HN.out _ HB2.out)
  clear hb2
  go_wp2_with (refine load_nd rfl (.tmp 1) rfl rfl HT2.out rfl ?_)
  refine (great09_any _ n _ HN2.out HF.out).mono ?_
  rintro e w3 ⟨rfl, hb3⟩
  have HT3 := Lib.hid (HT2.out.fr (Fr.of_below (S := fun _ => False) hb3) id)
  have HB3 := Lib.hid (HB2.out.trans (hb3.mono HB2.out.size))
  have c0 : w3.cell? ⟨w.heap.size, 0, none⟩ = some (.bool n.leaf) := by simpa using HT3.out 0 _ rfl
  have c1 : w3.cell? ⟨w.heap.size, 1, none⟩ = some (.slice ak n.keys.length ck) := by simpa using HT3.out 1 _ rfl
  have c2 : w3.cell? ⟨w.heap.size, 2, none⟩ = some (.slice av n.vals.length cv) := by simpa using HT3.out 2 _ rfl
  clear hb3
  cases hg : great9 n with
  | true =>
    clear hg
    go_wp2
    go_ret
    exact ⟨rfl, HB3.out⟩
  | false =>
    cases hl : n.leaf with
    | false =>
      rw [hl] at c0
      clear hg hl
      go_wp2
      go_ret
      exact ⟨rfl, HB3.out⟩
    | true =>
      rw [hl] at c0
      cases hfb : formB n with
      | false =>
        rw [sizeV_bad hfb, sizeR_bad hfb]
        clear hg hl hfb
        go_wp2
        go_ret
        exact ⟨rfl, HB3.out⟩
      | true =>
        rw [sizeV_ok hfb, sizeR_ok hfb]
        rcases Nat.eq_zero_or_pos n.keys.length with h0 | hpos
        · rw [h0] at c1
          clear hg hl hfb
          go_wp2
          go_ret
          exact ⟨rfl, HB3.out⟩
        · obtain ⟨L, hL⟩ : ∃ L, n.keys.length = L + 1 := ⟨n.keys.length - 1, by omega⟩
          have hV : n.vals.length = L + 1 := (formB_leaf hfb hl).1.trans hL
          have hsz := sizeN_cut hfb hl L hL hV
          have hks := keysB_size (formB_keys hfb) (n.keys[L]'(by omega)) (List.getElem_mem _)
          have hvs := formB_vals hfb (n.vals[L]'(by omega)) (List.getElem_mem _)
          have hL200 : L ≤ 200 := by
            unfold great9 at hg
            simp only [Bool.or_eq_false_iff, decide_eq_false_iff_not] at hg
            have := hg.1.2
            omega
          obtain ⟨A, C, qk, hkc⟩ := cut_strs_hi (HK.out _ HB3.out) (hi := L) (by omega)
          obtain ⟨A', C', qv, hvc⟩ := cut_strs_hi (HV.out _ HB3.out) (hi := L) (by omega)
          obtain ⟨x1, x2, e', hel⟩ := (HK.out _ HB3.out).open
          simp only [Value.slice.injEq, true_and] at e'
          obtain ⟨rfl, rfl⟩ := e'
          obtain ⟨kb, ko, rfl, hck⟩ := hel L (by omega)
          obtain ⟨x1, x2, e', hel2⟩ := (HV.out _ HB3.out).open
          simp only [Value.slice.injEq, true_and] at e'
          obtain ⟨rfl, rfl⟩ := e'
          obtain ⟨vb, vo, rfl, hcv⟩ := hel2 L (by omega)
          obtain ⟨kl, hkl⟩ : ∃ kl, kl = n.keys[L]'(by omega) := ⟨_, rfl⟩
          obtain ⟨vl, hvl⟩ : ∃ vl, vl = n.vals[L]'(by omega) := ⟨_, rfl⟩
          have hbS : sizeN (cutN n L) ≤ 30000 := by
            have s1 := strsN_le 32 (n.keys.take L) (fun s hs => keysB_size (formB_keys hfb) s (List.mem_of_mem_take hs))
            have s2 := strsN_le 96 (n.vals.take L) (fun s hs => formB_vals hfb s (List.mem_of_mem_take hs))
            rw [List.length_take, Nat.min_eq_left (by omega)] at s1 s2
            unfold sizeN cutN
            simp only [List.length_nil]
            omega
          have hzS := sizeV_ok (formB_cut hfb hl L)
          have hzR := sizeR_ok (formB_cut hfb hl L)
          have hck0 : checkE n = 0 → checkE (cutN n L) = 0 := fun h0 => checkE_ok (formB_cut hfb hl L) (by have := (checkE_zero' h0).2; omega)
          obtain ⟨S, hS⟩ : ∃ S, S = sizeN (cutN n L) := ⟨_, rfl⟩
          rw [← hS] at hzS hsz hbS
          rw [← hkl] at hck hsz hks
          rw [← hvl] at hcv hsz hvs
          have hNs := HN.out _ HB3.out
          rw [hL, hV] at hNs HT3
          rw [hL] at c1 qk
          rw [hV] at c2 qv
          have eS : (sizeN n : Int) = (S : Int) + 2 + (kl.size : Int) + (vl.size : Int) := by omega
          rw [eS, hL, hV]
          have HNs := Lib.hid hNs
          have HCK0 := Lib.hid hck0
          have HZ := Lib.hid (show ∀ w' arr, NdIs w' arr (cutN n L) → Calls Try.prog 27 #[.agg arr] w' fun e w'' => e = .returned (.tuple #[.int .i64 (S : Int), .int .i64 0]) ∧ Below w'.heap.size w' w'' from fun w' arr h' => by
            have := size_any arr (cutN n L) w' h' ⟨by simp [cutN]; omega, by simp [cutN]; omega, by simp [cutN], fun s hs => HF.out.keyS s (List.mem_of_mem_take hs), fun s hs => HF.out.valS s (List.mem_of_mem_take hs)⟩
            rwa [hzS, hzR] at this)
          have HM := Lib.hid (show ∀ w' arr, NdIs w' arr (cutN n L) → Calls Try.prog 26 #[.agg arr] w' fun e w'' => e = .returned (.int .i64 (checkE (cutN n L))) ∧ Below w'.heap.size w' w'' from fun w' arr h' => 
            check_any arr (cutN n L) w' h' ⟨by simp [cutN]; omega, by simp [cutN]; omega, by simp [cutN], fun s hs => HF.out.keyS s (List.mem_of_mem_take hs), fun s hs => HF.out.valS s (List.mem_of_mem_take hs)⟩)
          have HKC := Lib.hid hkc
          have HVC := Lib.hid hvc
          have HCKc := Lib.hid hck
          have HCVc := Lib.hid hcv
          clear hzS hzR hck0 hNs hel hel2 hkc hvc hck hcv hkl hvl hS hsz eS b1 b2 hg hl hfb hL hV hpos
          have hbl : w.heap.size < w3.heap.size := World.block_lt_of_cell? w3 _ c0
          go_wp2_with fail
          go_region
          obtain ⟨w4, hw4⟩ : ∃ w4, w4 = (w3.alloc (.cells #[.bool true, .slice A L C, .slice A' L C', .slice none 0 0] 55)).drew := ⟨_, rfl⟩
          have hb4 : Below w3.heap.size w3 w4 := by rw [hw4]; exact ((Below.refl _ w3).alloc (Nat.le_refl _) _).drew
          have hm4 : w4.heap[w3.heap.size]? = some (.cells #[.bool true, .slice A L C, .slice A' L C', .slice none 0 0] 55 (0, 0)) := by rw [hw4]; exact heap_alloc_new _ _
          rw [← hw4]
          have HNm := Lib.hid (show NdIs w4 #[.bool true, .slice A L C, .slice A' L C', .slice none 0 0] (cutN n L) from ⟨_, _, _, rfl, HKC.out.below hb4, HVC.out.below hb4, ⟨Sl.nil _ _, by simp [cutN]⟩⟩)
          have HTm := Lib.hid (At_nd hm4)
          have HT4 := Lib.hid (HT3.out.fr (Fr.of_below (S := fun _ => False) hb4) id)
          have HN4 := Lib.hid (HNs.out.below hb4)
          have HB4 := Lib.hid (HB3.out.trans (hb4.mono HB3.out.size))
          have HCK4 := Lib.hid ((hb4.cell (p := ⟨kb, ko + L, none⟩) (World.block_lt_of_cell? w3 _ HCKc.out)).trans HCKc.out)
          have HCV4 := Lib.hid ((hb4.cell (p := ⟨vb, vo + L, none⟩) (World.block_lt_of_cell? w3 _ HCVc.out)).trans HCVc.out)
          clear hw4 hb4 hm4 c0 c1 c2 qk qv hbl HKC HVC HCKc HCVc HT3 HNs HB3
          go_wp2_with (refine load_nd rfl (.tmp 6) rfl rfl HTm.out rfl ?_)
          refine (HZ.out _ _ HNm.out).mono ?_
          rintro e w5 ⟨rfl, hb5⟩
          have HNm5 := Lib.hid (HNm.out.below hb5)
          have HTm5 := Lib.hid (HTm.out.fr (Fr.of_below (S := fun _ => False) hb5) id)
          have HT5 := Lib.hid (HT4.out.fr (Fr.of_below (S := fun _ => False) hb5) id)
          have HN5 := Lib.hid (HN4.out.below hb5)
          have HB5 := Lib.hid (HB4.out.trans (hb5.mono HB4.out.size))
          have hk5 := ((hb5.cell (p := ⟨kb, ko + L, none⟩) (World.block_lt_of_cell? w4 _ HCK4.out)).trans HCK4.out)
          have hv5 := ((hb5.cell (p := ⟨vb, vo + L, none⟩) (World.block_lt_of_cell? w4 _ HCV4.out)).trans HCV4.out)
          have c1 : w5.cell? ⟨w.heap.size, 1, none⟩ = some (.slice (some ⟨kb, ko, none⟩) (L + 1) ck) := by simpa using HT5.out 1 _ rfl
          have c2 : w5.cell? ⟨w.heap.size, 2, none⟩ = some (.slice (some ⟨vb, vo, none⟩) (L + 1) cv) := by simpa using HT5.out 2 _ rfl
          have uk := fun (u : Wd w5.heap.size w5) => u.cell' hk5
          have uv := fun (u : Wd w5.heap.size w5) => u.cell' hv5
          have u1 := fun (u : Wd w5.heap.size w5) => u.cell' c1
          have u2 := fun (u : Wd w5.heap.size w5) => u.cell' c2
          have HUT := Lib.hid (fun w' (hw : ∃ u : Wd w5.heap.size w5, w' = u.to) => (by obtain ⟨u, rfl⟩ := hw; exact u.at HT5.out : At w' w.heap.size 0 _))
          have HUTm := Lib.hid (fun w' (hw : ∃ u : Wd w5.heap.size w5, w' = u.to) => (by obtain ⟨u, rfl⟩ := hw; exact u.at HTm5.out : At w' w3.heap.size 0 _))
          have hqn := fun (u : Wd w5.heap.size w5) => Calls.wd u (Nat.le_refl _) (check_any _ n u.to (HN5.out.below u.hb) HF.out)
          have hqm := fun (u : Wd w5.heap.size w5) => Calls.wd u (Nat.le_refl _) (HM.out u.to _ (HNm5.out.below u.hb))
          clear hb5 hk5 hv5 c1 c2 HCK4 HCV4
          by_cases hc : checkE n = 0
          · rw [hc] at hqn
            rw [HCK0.out hc] at hqm
            have HQn := Lib.hid hqn
            have HQm := Lib.hid hqm
            clear hc hqn hqm
            go_wp2_with fail
            refine wp_region_wd w5.heap.size (by kernel_rfl) (by kernel_rfl) ?_
            repeat (first
              | (refine wpQuiet_load_at rfl 55 (.tmp 1) rfl w.heap.size 0 rfl _ _ HUT.out Try.underlying55 rfl (by rw [info_nd]; rfl) ?_; simp only [Act.put, List.setIfInBounds_toArray, List.set_cons_succ, List.set_cons_zero])
              | (refine wpQuiet_load_at rfl 55 (.tmp 6) rfl w3.heap.size 0 rfl _ _ HUTm.out Try.underlying55 rfl (by rw [info_nd]; rfl) ?_; simp only [Act.put, List.setIfInBounds_toArray, List.set_cons_succ, List.set_cons_zero])
              | go_big_quiet_step (first | with_reducible exact HQn.out _ | with_reducible exact HQm.out _))
            refine wpQuiet_nil ?_
            rintro _ ⟨⟨w6, hb6⟩, rfl⟩
            have HB6 := Lib.hid (HB5.out.trans (hb6.mono HB5.out.size))
            clear hb6 uk uv u1 u2
            go_wp2
            go_ret
            exact ⟨rfl, HB6.out⟩
          · have hbc : (checkE n != 0) = true := by simpa using hc
            have HQn := Lib.hid hqn
            clear hc hqn hqm
            go_wp2_with fail
            refine wp_region_wd w5.heap.size (by kernel_rfl) (by kernel_rfl) ?_
            repeat (first
              | (refine wpQuiet_load_at rfl 55 (.tmp 1) rfl w.heap.size 0 rfl _ _ HUT.out Try.underlying55 rfl (by rw [info_nd]; rfl) ?_; simp only [Act.put, List.setIfInBounds_toArray, List.set_cons_succ, List.set_cons_zero])
              | go_big_quiet_step (with_reducible exact HQn.out _))
            refine wpQuiet_nil ?_
            rintro _ ⟨⟨w6, hb6⟩, rfl⟩
            have HB6 := Lib.hid (HB5.out.trans (hb6.mono HB5.out.size))
            clear hb6 uk uv u1 u2
            go_wp2
            go_ret
            exact ⟨rfl, HB6.out⟩

end Go.Proofs.Ytdhlcofjpkbgaaa
