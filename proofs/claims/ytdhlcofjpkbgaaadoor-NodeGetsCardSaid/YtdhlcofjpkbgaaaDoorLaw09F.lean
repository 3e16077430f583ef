/- Walk: banyanlaw09's NodeGets. -/
import Derived.Test.YtdhlcofjpkbgaaaDoorNodeGetB
import Derived.Test.YtdhlcofjpkbgaaaDoorRefGet
import Derived.Test.YtdhlcofjpkbgaaaDoorSameRef
namespace Go.Proofs.YtdhlcofjpkbgaaaDoor
open Go.RowKit

theorem getN_fits (xs : List UInt8) : (getN xs).Fits := by
  have hz : Nd.zero.Fits := ⟨by decide, by decide, by decide, by simp [Nd.zero], by simp [Nd.zero]⟩
  unfold getN
  split
  · split
    · exact toldN_fits xs
    · exact hz
  · exact hz

set_option maxRecDepth 100000 in
set_option maxHeartbeats 8000000 in
theorem nodeGets_any (v : Value) (xs : List UInt8) (pad : Bool) (w : World) (h : Sl w 1 v xs.length (xs.map Bv)) (hr : xs.length ≤ 140737488351232) :
    Calls Tryd.prog 7 #[v, .bool pad] w fun e w' => e = .returned (.bool true) ∧ Below w.heap.size w w' := by
  obtain ⟨a, cap, rfl, _⟩ := h.len
  have HS := Lib.hid (fun (w' : World) (hb : Below w.heap.size w w') => (h.below hb : Sl w' 1 (.slice a xs.length cap) xs.length (xs.map Bv)))
  clear h
  go_enter Tryd.func7, Tryd.ntmps7
  go_wp2_with fail
  refine (alive09 _).mono ?_
  rintro e w1 ⟨rfl, hb1⟩
  have HB1 := Lib.hid hb1
  have hs1 := hb1.size
  clear hb1
  by_cases hl : 2000 < xs.length
  · have m1 : (2000 : Int) < (xs.length : Int) := by omega
    clear hl
    go_wp2
    go_ret
    exact ⟨rfl, HB1.out⟩
  · have m1 : ¬ (2000 : Int) < (xs.length : Int) := by omega
    by_cases hp : pad = true ∧ xs.length < 512
    · obtain ⟨rfl, h5⟩ := hp
      have m2 : (xs.length : Int) < 512 := by omega
      have HOe := Lib.hid (own_empty w1)
      have HSe := Lib.hid (HS.out _ (HB1.out.trans (((Below.refl _ w1).alloc (Nat.le_refl _) (.cells #[] 5)).mono hs1)))
      clear hl
      go_wp2_with (at_builtin; refine append_u8 rfl (.tmp 20) (.tmp 21) rfl HOe.out HSe.out rfl rfl (by omega) (by simp) ?_)
      intro aa cc w2 hown hf h3
      have hb2 : Below w.heap.size w w2 := (HB1.out.trans (((Below.refl _ w1).alloc (Nat.le_refl _) (.cells #[] 5)).mono hs1)).trans (hf.below (by simp; omega) (fun k hk => by simp [Value.ownBlock] at hk; omega))
      have hs2 := hb2.size
      have HO2 := Lib.hid (show w2.ownsRow w.heap.size 5 1 (.slice aa (0 + xs.length) cc) (0 + xs.length) (xs.map Bv) from (show w2.ownsRow w1.heap.size 5 1 (.slice aa (0 + xs.length) cc) (0 + xs.length) (xs.map Bv) by simpa using hown).base hs1)
      have HB2 := Lib.hid hb2
      have ew : wrap64 (512 - (xs.length : Int)) = ((512 - xs.length : Nat) : Int) := by unfold wrap64; omega
      have ew2 : (512 : Int) - (xs.length : Int) = ((512 - xs.length : Nat) : Int) := by omega
      rw [Nat.zero_add] at HO2
      clear hown hf h3 hb2
      go_wp2_with (at_builtin; refine append_zeros_u8 (k := 512 - xs.length) rfl (.tmp 22) (.tmp 25) rfl HO2.out rfl rfl (by omega) hs2 ?_)
      intro v3 w3 hown hf h3
      obtain ⟨ys, hys⟩ : ∃ ys, ys = xs ++ List.replicate (512 - xs.length) 0 := ⟨_, rfl⟩
      have hyl : ys.length = xs.length + (512 - xs.length) := by rw [hys]; simp
      have HSY := Lib.hid (show Sl w3 1 v3 ys.length (ys.map Bv) by
        rw [hyl, hys]
        first | exact Sl.own hown | (have := Sl.own hown; simpa using this))
      have HBY := Lib.hid (HB2.out.trans (hf.below hs2 (fun k hk => (HO2.out.lt k hk).1)))
      clear hown hf h3 hys hyl ew ew2 hs2
      go_wp2_with fail
      refine (nodeGet_any _ ys _ HSY.out).mono ?_
      rintro e w5 ⟨arr5, rfl, hn5, hb5⟩
      have HSZ5 := Lib.hid hn5.size
      have HOne5 := Lib.hid hn5.one
      have HN5 := Lib.hid hn5
      have HB5 := Lib.hid (HBY.out.trans (hb5.mono HBY.out.size))
      have HSY5 := Lib.hid (HSY.out.below hb5)
      clear hn5 hb5
      go_wp2_with (refine store_nd rfl (.tmp 5) (.tmp 30) rfl rfl rfl (heap_alloc_new _ _) rfl HSZ5.out HOne5.out ?_)
      intro w6 hg6 hf6 hs6
      have hbel6 : Below w5.heap.size w5 w6 := ((Below.refl _ w5).alloc (Nat.le_refl _) _).trans (hf6.below (by simp) (fun k hk => by omega))
      have HN6 := Lib.hid (HN5.out.below hbel6)
      have HB6 := Lib.hid (HB5.out.trans (hbel6.mono HB5.out.size))
      have HSY6 := Lib.hid (HSY5.out.below hbel6)
      have HT6 := Lib.hid (At_nd hg6)
      clear hbel6 hg6 hf6 hs6
      go_wp2_with fail
      refine (refGet_any _ ys _ HSY6.out).mono ?_
      rintro e w7 ⟨arr7, rfl, hn7, hb7⟩
      have HSZ7 := Lib.hid hn7.size
      have HOne7 := Lib.hid hn7.one
      have HM7 := Lib.hid hn7
      have HN7 := Lib.hid (HN6.out.below hb7)
      have HB7 := Lib.hid (HB6.out.trans (hb7.mono HB6.out.size))
      have HT7 := Lib.hid (HT6.out.fr (Fr.of_below (S := fun _ => False) hb7) id)
      clear hn7 hb7
      go_wp2_with (refine store_nd rfl (.tmp 7) (.tmp 35) rfl rfl rfl (heap_alloc_new _ _) rfl HSZ7.out HOne7.out ?_)
      intro w8 hg8 hf8 hs8
      have hbel8 : Below w7.heap.size w7 w8 := ((Below.refl _ w7).alloc (Nat.le_refl _) _).trans (hf8.below (by simp) (fun k hk => by omega))
      have HN8 := Lib.hid (HN7.out.below hbel8)
      have HM8 := Lib.hid (HM7.out.below hbel8)
      have HB8 := Lib.hid (HB7.out.trans (hbel8.mono HB7.out.size))
      have HT8 := Lib.hid (HT7.out.fr (Fr.of_below (S := fun _ => False) hbel8) id)
      have HU8 := Lib.hid (At_nd hg8)
      clear hbel8 hg8 hf8 hs8
      go_wp2_with (first | (refine load_nd rfl (.tmp 5) rfl rfl HT8.out HSZ5.out ?_) | (refine load_nd rfl (.tmp 7) rfl rfl HU8.out HSZ7.out ?_))
      have hsame := refNodeSame_any arr5 arr7 (getN ys) (getN ys) w8 HN8.out HM8.out (getN_fits ys) (getN_fits ys)
      rw [sameN_refl] at hsame
      refine hsame.mono ?_
      rintro e w9 ⟨rfl, hb9⟩
      have HB9 := Lib.hid (HB8.out.trans (hb9.mono HB8.out.size))
      clear hb9
      go_wp2
      go_ret
      exact ⟨by simp, HB9.out⟩
    · have hq : (pad && decide ((xs.length : Int) < 512)) = false := by
        rw [Bool.eq_false_iff]
        intro h
        simp only [Bool.and_eq_true, decide_eq_true_iff] at h
        exact hp ⟨h.1, by omega⟩
      have HSY := Lib.hid (HS.out _ HB1.out)
      have HBY := HB1
      cases pad with
      | false =>
        clear hp hq hl
        go_wp2_with fail
        refine (nodeGet_any _ xs _ HSY.out).mono ?_
        rintro e w5 ⟨arr5, rfl, hn5, hb5⟩
        have HSZ5 := Lib.hid hn5.size
        have HOne5 := Lib.hid hn5.one
        have HN5 := Lib.hid hn5
        have HB5 := Lib.hid (HBY.out.trans (hb5.mono HBY.out.size))
        have HSY5 := Lib.hid (HSY.out.below hb5)
        clear hn5 hb5
        go_wp2_with (refine store_nd rfl (.tmp 5) (.tmp 30) rfl rfl rfl (heap_alloc_new _ _) rfl HSZ5.out HOne5.out ?_)
        intro w6 hg6 hf6 hs6
        have hbel6 : Below w5.heap.size w5 w6 := ((Below.refl _ w5).alloc (Nat.le_refl _) _).trans (hf6.below (by simp) (fun k hk => by omega))
        have HN6 := Lib.hid (HN5.out.below hbel6)
        have HB6 := Lib.hid (HB5.out.trans (hbel6.mono HB5.out.size))
        have HSY6 := Lib.hid (HSY5.out.below hbel6)
        have HT6 := Lib.hid (At_nd hg6)
        clear hbel6 hg6 hf6 hs6
        go_wp2_with fail
        refine (refGet_any _ xs _ HSY6.out).mono ?_
        rintro e w7 ⟨arr7, rfl, hn7, hb7⟩
        have HSZ7 := Lib.hid hn7.size
        have HOne7 := Lib.hid hn7.one
        have HM7 := Lib.hid hn7
        have HN7 := Lib.hid (HN6.out.below hb7)
        have HB7 := Lib.hid (HB6.out.trans (hb7.mono HB6.out.size))
        have HT7 := Lib.hid (HT6.out.fr (Fr.of_below (S := fun _ => False) hb7) id)
        clear hn7 hb7
        go_wp2_with (refine store_nd rfl (.tmp 7) (.tmp 35) rfl rfl rfl (heap_alloc_new _ _) rfl HSZ7.out HOne7.out ?_)
        intro w8 hg8 hf8 hs8
        have hbel8 : Below w7.heap.size w7 w8 := ((Below.refl _ w7).alloc (Nat.le_refl _) _).trans (hf8.below (by simp) (fun k hk => by omega))
        have HN8 := Lib.hid (HN7.out.below hbel8)
        have HM8 := Lib.hid (HM7.out.below hbel8)
        have HB8 := Lib.hid (HB7.out.trans (hbel8.mono HB7.out.size))
        have HT8 := Lib.hid (HT7.out.fr (Fr.of_below (S := fun _ => False) hbel8) id)
        have HU8 := Lib.hid (At_nd hg8)
        clear hbel8 hg8 hf8 hs8
        go_wp2_with (first | (refine load_nd rfl (.tmp 5) rfl rfl HT8.out HSZ5.out ?_) | (refine load_nd rfl (.tmp 7) rfl rfl HU8.out HSZ7.out ?_))
        have hsame := refNodeSame_any arr5 arr7 (getN xs) (getN xs) w8 HN8.out HM8.out (getN_fits xs) (getN_fits xs)
        rw [sameN_refl] at hsame
        refine hsame.mono ?_
        rintro e w9 ⟨rfl, hb9⟩
        have HB9 := Lib.hid (HB8.out.trans (hb9.mono HB8.out.size))
        clear hb9
        go_wp2
        go_ret
        exact ⟨by simp, HB9.out⟩
      | true =>
        have m2 : ¬ (xs.length : Int) < 512 := by intro h; exact hp ⟨rfl, by omega⟩
        clear hp hq hl
        go_wp2_with fail
        refine (nodeGet_any _ xs _ HSY.out).mono ?_
        rintro e w5 ⟨arr5, rfl, hn5, hb5⟩
        have HSZ5 := Lib.hid hn5.size
        have HOne5 := Lib.hid hn5.one
        have HN5 := Lib.hid hn5
        have HB5 := Lib.hid (HBY.out.trans (hb5.mono HBY.out.size))
        have HSY5 := Lib.hid (HSY.out.below hb5)
        clear hn5 hb5
        go_wp2_with (refine store_nd rfl (.tmp 5) (.tmp 30) rfl rfl rfl (heap_alloc_new _ _) rfl HSZ5.out HOne5.out ?_)
        intro w6 hg6 hf6 hs6
        have hbel6 : Below w5.heap.size w5 w6 := ((Below.refl _ w5).alloc (Nat.le_refl _) _).trans (hf6.below (by simp) (fun k hk => by omega))
        have HN6 := Lib.hid (HN5.out.below hbel6)
        have HB6 := Lib.hid (HB5.out.trans (hbel6.mono HB5.out.size))
        have HSY6 := Lib.hid (HSY5.out.below hbel6)
        have HT6 := Lib.hid (At_nd hg6)
        clear hbel6 hg6 hf6 hs6
        go_wp2_with fail
        refine (refGet_any _ xs _ HSY6.out).mono ?_
        rintro e w7 ⟨arr7, rfl, hn7, hb7⟩
        have HSZ7 := Lib.hid hn7.size
        have HOne7 := Lib.hid hn7.one
        have HM7 := Lib.hid hn7
        have HN7 := Lib.hid (HN6.out.below hb7)
        have HB7 := Lib.hid (HB6.out.trans (hb7.mono HB6.out.size))
        have HT7 := Lib.hid (HT6.out.fr (Fr.of_below (S := fun _ => False) hb7) id)
        clear hn7 hb7
        go_wp2_with (refine store_nd rfl (.tmp 7) (.tmp 35) rfl rfl rfl (heap_alloc_new _ _) rfl HSZ7.out HOne7.out ?_)
        intro w8 hg8 hf8 hs8
        have hbel8 : Below w7.heap.size w7 w8 := ((Below.refl _ w7).alloc (Nat.le_refl _) _).trans (hf8.below (by simp) (fun k hk => by omega))
        have HN8 := Lib.hid (HN7.out.below hbel8)
        have HM8 := Lib.hid (HM7.out.below hbel8)
        have HB8 := Lib.hid (HB7.out.trans (hbel8.mono HB7.out.size))
        have HT8 := Lib.hid (HT7.out.fr (Fr.of_below (S := fun _ => False) hbel8) id)
        have HU8 := Lib.hid (At_nd hg8)
        clear hbel8 hg8 hf8 hs8
        go_wp2_with (first | (refine load_nd rfl (.tmp 5) rfl rfl HT8.out HSZ5.out ?_) | (refine load_nd rfl (.tmp 7) rfl rfl HU8.out HSZ7.out ?_))
        have hsame := refNodeSame_any arr5 arr7 (getN xs) (getN xs) w8 HN8.out HM8.out (getN_fits xs) (getN_fits xs)
        rw [sameN_refl] at hsame
        refine hsame.mono ?_
        rintro e w9 ⟨rfl, hb9⟩
        have HB9 := Lib.hid (HB8.out.trans (hb9.mono HB8.out.size))
        clear hb9
        go_wp2
        go_ret
        exact ⟨by simp, HB9.out⟩

end Go.Proofs.YtdhlcofjpkbgaaaDoor
