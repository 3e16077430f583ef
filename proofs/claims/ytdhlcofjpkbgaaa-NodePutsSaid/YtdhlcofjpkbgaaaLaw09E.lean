/- Walk: banyanlaw09's NodePuts. -/
import Derived.Test.YtdhlcofjpkbgaaaLaw09A
import Derived.Test.YtdhlcofjpkbgaaaRefNode
import Derived.Test.YtdhlcofjpkbgaaaSameRef
namespace Go.Proofs.Ytdhlcofjpkbgaaa
open Go.RowKit

theorem checkE_zero3 {n : Nd} (h : checkE n = 0) : formB n = true ∧ sizeN n ≤ 512 := by
  cases hf : formB n with
  | false => rw [checkE_bad hf] at h; cases h
  | true =>
    refine ⟨rfl, Nat.not_lt.1 fun h2 => ?_⟩
    rw [checkE_full hf h2] at h; cases h

/-- A Put that went as the reference's. -/
def PutPost (n : Nd) (w : World) (e : Ending) (w' : World) : Prop :=
  ∃ v xs L, e = .returned (.tuple #[v, .int .i64 (checkE n)]) ∧ Sl w' 1 v L (xs.map Bv) ∧ xs = (if checkE n = 0 then bytesN n ++ List.replicate (512 - sizeN n) 0 else []) ∧ Below w.heap.size w w'

theorem putAny (arr : Array Value) (n : Nd) (w : World) (h : NdIs w arr n) (hf : n.Fits) : Calls Try.prog 28 #[.agg arr] w (PutPost n w) := by
  by_cases hc : checkE n = 0
  · obtain ⟨h1, h2⟩ := checkE_zero3 hc
    refine (put_ok arr n w h hf h1 h2).mono ?_
    rintro e w' ⟨aa, cc, rfl, ho, hb⟩
    exact ⟨_, _, 512, by rw [hc], Sl.own ho, by rw [if_pos hc], hb⟩
  · refine (put_bad arr n w h hf hc).mono ?_
    rintro e w' ⟨rfl, hb⟩
    exact ⟨_, _, 0, rfl, Sl.nil _ _, by rw [if_neg hc], hb⟩
theorem refPutAny (arr : Array Value) (n : Nd) (w : World) (h : NdIs w arr n) (hf : n.Fits) (hk : n.keys.length ≤ 200) : Calls Try.prog 29 #[.agg arr] w (PutPost n w) := by
  by_cases hc : checkE n = 0
  · obtain ⟨h1, h2⟩ := checkE_zero3 hc
    refine (refNodePut_ok arr n w h hf hk h1 h2).mono ?_
    rintro e w' ⟨aa, cc, rfl, ho, hb⟩
    exact ⟨_, _, 512, by rw [hc], ho, by rw [if_pos hc], hb⟩
  · refine (refNodePut_bad arr n w h hf hk hc).mono ?_
    rintro e w' ⟨rfl, hb⟩
    exact ⟨_, _, 0, rfl, Sl.nil _ _, by rw [if_neg hc], hb⟩

set_option maxRecDepth 100000 in
set_option maxHeartbeats 8000000 in
theorem nodePuts_any (arr arr2 : Array Value) (n m : Nd) (w : World) (h : NdIs w arr n) (hf : n.Fits) (h2 : NdIs w arr2 m) (hf2 : m.Fits) :
    Calls Try.prog 9 #[.agg arr, .agg arr2] w fun e w' => e = .returned (.bool true) ∧ Below w.heap.size w w' := by
  have hsz := h.size
  have hsz2 := h2.size
  have hb0 : Below w.heap.size w ((w.alloc (.cells arr 55)).alloc (.cells arr2 55)) := ((Below.refl _ w).alloc (Nat.le_refl _) _).alloc (by simp) _
  have HN := Lib.hid (fun (w' : World) (hb : Below w.heap.size w w') => (h.below hb : NdIs w' arr n))
  have HM := Lib.hid (fun (w' : World) (hb : Below w.heap.size w w') => (h2.below hb : NdIs w' arr2 m))
  have HB := Lib.hid hb0
  have HF := Lib.hid hf
  have HF2 := Lib.hid hf2
  have HSZ := Lib.hid hsz
  have HSZ2 := Lib.hid hsz2
  have HT := Lib.hid (At_nd (heap_alloc2_old w (.cells arr 55) (.cells arr2 55)))
  have HT2 := Lib.hid (At_nd (heap_alloc2_new w (.cells arr 55) (.cells arr2 55)))
  clear h h2 hf hf2 hsz hsz2 hb0
  go_enter Try.func9, Try.ntmps9
  go_wp2_with fail
  refine (alive09 _).mono ?_
  rintro e w1 ⟨rfl, hb1⟩
  have HT1 := Lib.hid (HT.out.fr (Fr.of_below (S := fun _ => False) hb1) id)
  have HU1 := Lib.hid (HT2.out.fr (Fr.of_below (S := fun _ => False) hb1) id)
  have HB1 := Lib.hid (HB.out.trans (hb1.mono HB.out.size))
  clear hb1
  go_wp2_with (refine load_nd rfl (.tmp 2) rfl rfl HT1.out HSZ.out ?_)
  refine (great09_any _ n _ (HN.out _ HB1.out) HF.out).mono ?_
  rintro e w2 ⟨rfl, hb2⟩
  have HT2' := Lib.hid (HT1.out.fr (Fr.of_below (S := fun _ => False) hb2) id)
  have HU2 := Lib.hid (HU1.out.fr (Fr.of_below (S := fun _ => False) hb2) id)
  have HB2 := Lib.hid (HB1.out.trans (hb2.mono HB1.out.size))
  clear hb2
  cases hg : great9 n with
  | true =>
    clear hg
    go_wp2
    go_ret
    exact ⟨rfl, HB2.out⟩
  | false =>
    have hk200 : n.keys.length ≤ 200 := by
      unfold great9 at hg
      simp only [Bool.or_eq_false_iff, decide_eq_false_iff_not] at hg
      have := hg.1.2
      omega
    have HK200 := Lib.hid hk200
    clear hg hk200
    go_wp2_with (refine gload_nd rfl (.tmp 3) rfl rfl HU2.out HSZ2.out ?_)
    refine (great09_any _ m _ (HM.out _ HB2.out) HF2.out).mono ?_
    rintro e w3 ⟨rfl, hb3⟩
    have HT3 := Lib.hid (HT2'.out.fr (Fr.of_below (S := fun _ => False) hb3) id)
    have HU3 := Lib.hid (HU2.out.fr (Fr.of_below (S := fun _ => False) hb3) id)
    have HB3 := Lib.hid (HB2.out.trans (hb3.mono HB2.out.size))
    clear hb3
    cases hg : great9 m with
    | true =>
      clear hg
      go_wp2
      go_ret
      exact ⟨rfl, HB3.out⟩
    | false =>
      clear hg
      go_wp2_with (refine load_nd rfl (.tmp 2) rfl rfl HT3.out HSZ.out ?_)
      refine (putAny _ n _ (HN.out _ HB3.out) HF.out).mono ?_
      rintro e w4 ⟨v4, xs4, L4, rfl, hs4, hx4, hb4⟩
      have HT4 := Lib.hid (HT3.out.fr (Fr.of_below (S := fun _ => False) hb4) id)
      have HU4 := Lib.hid (HU3.out.fr (Fr.of_below (S := fun _ => False) hb4) id)
      have HB4 := Lib.hid (HB3.out.trans (hb4.mono HB3.out.size))
      have HS4 := Lib.hid hs4
      have HX4 := Lib.hid hx4
      clear hb4 hs4 hx4
      go_wp2_with (refine load_nd rfl (.tmp 2) rfl rfl HT4.out HSZ.out ?_)
      refine (refPutAny _ n _ (HN.out _ HB4.out) HF.out HK200.out).mono ?_
      rintro e w5 ⟨v5, xs5, L5, rfl, hs5, hx5, hb5⟩
      have HT5 := Lib.hid (HT4.out.fr (Fr.of_below (S := fun _ => False) hb5) id)
      have HU5 := Lib.hid (HU4.out.fr (Fr.of_below (S := fun _ => False) hb5) id)
      have HB5 := Lib.hid (HB4.out.trans (hb5.mono HB4.out.size))
      have HR4 := Lib.hid (HS4.out.below hb5)
      have HR5 := Lib.hid (show Sl w5 1 v5 L5 (xs4.map Bv) by rw [HX4.out, ← hx5]; exact hs5)
      clear hb5 hs5 hx5
      go_wp2_with (refine load_nd rfl (.tmp 2) rfl rfl HT5.out HSZ.out ?_)
      refine (size_any _ n _ (HN.out _ HB5.out) HF.out).mono ?_
      rintro e w6 ⟨rfl, hb6⟩
      have HT6 := Lib.hid (HT5.out.fr (Fr.of_below (S := fun _ => False) hb6) id)
      have HU6 := Lib.hid (HU5.out.fr (Fr.of_below (S := fun _ => False) hb6) id)
      have HB6 := Lib.hid (HB5.out.trans (hb6.mono HB5.out.size))
      have HQ4 := Lib.hid (HR4.out.below hb6)
      have HQ5 := Lib.hid (HR5.out.below hb6)
      clear hb6
      go_wp2_with (refine load_nd rfl (.tmp 2) rfl rfl HT6.out HSZ.out ?_)
      refine (refSize_any _ n _ (HN.out _ HB6.out) HF.out HK200.out).mono ?_
      rintro e w7 ⟨rfl, hb7⟩
      have HT7 := Lib.hid (HT6.out.fr (Fr.of_below (S := fun _ => False) hb7) id)
      have HU7 := Lib.hid (HU6.out.fr (Fr.of_below (S := fun _ => False) hb7) id)
      have HB7 := Lib.hid (HB6.out.trans (hb7.mono HB6.out.size))
      have HP4 := Lib.hid (HQ4.out.below hb7)
      have HP5 := Lib.hid (HQ5.out.below hb7)
      clear hb7
      have HUT := Lib.hid (fun w' (hw : ∃ u : Wd w7.heap.size w7, w' = u.to) => (by obtain ⟨u, rfl⟩ := hw; exact u.at HT7.out : At w' w.heap.size 0 arr.toList))
      have HUU := Lib.hid (fun w' (hw : ∃ u : Wd w7.heap.size w7, w' = u.to) => (by obtain ⟨u, rfl⟩ := hw; exact u.at HU7.out : At w' (w.heap.size + 1) 0 arr2.toList))
      have hwd : ∀ u : Wd w7.heap.size w7, Below w.heap.size w u.to := fun u => HB7.out.trans (u.hb.mono HB7.out.size)
      have h1 := fun (u : Wd w7.heap.size w7) => Calls.wd_same u (same_any v4 v5 L4 L5 xs4 xs4 u.to (HP4.out.below u.hb) (HP5.out.below u.hb))
      rw [decide_eq_true (rfl : xs4 = xs4)] at h1
      have HQ1 := Lib.hid h1
      have HQ2 := Lib.hid (fun (u : Wd w7.heap.size w7) => Calls.wd u (Nat.le_refl _) (check_any arr n u.to (HN.out _ (hwd u)) HF.out))
      have HQ3 := Lib.hid (fun (u : Wd w7.heap.size w7) => Calls.wd u (Nat.le_refl _) (refCheck_any arr n u.to (HN.out _ (hwd u)) HF.out HK200.out))
      have HQ6 := Lib.hid (fun (u : Wd w7.heap.size w7) => Calls.wd u (Nat.le_refl _) (nodeSame_any arr arr2 n m u.to (HN.out _ (hwd u)) (HM.out _ (hwd u)) HF.out HF2.out))
      have HQ7 := Lib.hid (fun (u : Wd w7.heap.size w7) => Calls.wd u (Nat.le_refl _) (refNodeSame_any arr arr2 n m u.to (HN.out _ (hwd u)) (HM.out _ (hwd u)) HF.out HF2.out))
      clear h1 hwd
      go_wp2_with fail
      refine wp_region_wd w7.heap.size (by kernel_rfl) (by kernel_rfl) ?_
      repeat (first
        | (refine wpQuiet_load_at rfl 55 (.tmp 2) rfl w.heap.size 0 rfl _ _ HUT.out Try.underlying55 rfl (by rw [info_nd, Array.length_toList, HSZ.out]) ?_; simp only [Act.put, List.setIfInBounds_toArray, List.set_cons_succ, List.set_cons_zero])
        | (refine wpQuiet_load_at rfl 55 (.tmp 3) rfl (w.heap.size + 1) 0 rfl _ _ HUU.out Try.underlying55 rfl (by rw [info_nd, Array.length_toList, HSZ2.out]) ?_; simp only [Act.put, List.setIfInBounds_toArray, List.set_cons_succ, List.set_cons_zero])
        | go_big_quiet_step (first | with_reducible exact HQ1.out _ | with_reducible exact HQ2.out _ | with_reducible exact HQ3.out _ | with_reducible exact HQ6.out _ | with_reducible exact HQ7.out _))
      refine wpQuiet_nil ?_
      rintro _ ⟨⟨w8, hb8⟩, rfl⟩
      have HB8 := Lib.hid (HB7.out.trans (hb8.mono HB7.out.size))
      clear hb8
      go_wp2
      go_ret
      exact ⟨by simp, HB8.out⟩

end Go.Proofs.Ytdhlcofjpkbgaaa
