/- Walk: banyanref10's Get. Walk: banyanref10's Choose. Walks: banyanlaw10's sealed, UberGets. How this program's arguments read: bytes, hashes, texts, acts. Helpers: how the cells of what came in read. How an api.Node reads that came in. How an uber, and banyanlaw10's structs, as parameters, read. -/
import Derived.Test.YtdmjnopjnaoepaaGreatDoorB0
import Derived.Test.YtdmjnopjnaoepaaGreatDoorB6
import Derived.Test.YtdmjnopjnaoepaaGreatDoorB7
import Derived.Test.YtdmjnopjnaoepaaGreatDoorB10
import Derived.Test.YtdmjnopjnaoepaaGreatDoorB14
import Derived.Deep.Slices
import Derived.SizedLaws
namespace Go.Proofs.YtdmjnopjnaoepaaGreatDoor
open Go.RowKit

set_option maxRecDepth 100000 in
set_option maxHeartbeats 4000000 in
theorem refUbGet_len (vk v : Value) (xs : List UInt8) (w : World) (h : Sl w 1 v xs.length (xs.map Bv)) (hl : ¬ xs.length = 512) :
    Calls Tryz.prog 8 #[vk, v] w fun e w' => e = .returned (.tuple #[.agg Ub.zero.arr, .int .i64 2]) ∧ Below w.heap.size w w' := by
  obtain ⟨a, c, rfl, hc⟩ := h.len
  obtain ⟨n, hn⟩ : ∃ n, n = xs.length := ⟨_, rfl⟩
  rw [← hn] at hl ⊢
  have m1 : ((n : Int) != 512) = true := by simp; omega
  have HZ := Lib.hid (heap_alloc_new w (.cells Ub.zero.arr 32))
  have HB := Lib.hid (show Below w.heap.size w (w.alloc (.cells Ub.zero.arr 32)) from (Below.refl _ w).alloc (Nat.le_refl _) _)
  clear h hn hl
  go_enter Tryz.func8, Tryz.ntmps8
  go_wp2_with (refine store_ub (u := Ub.zero) rfl (.tmp 4) (.tmp 16) rfl rfl rfl HZ.out rfl Ub.zero_wf ?_)
  intro w2 hg2 hf2 hs2
  have HG := Lib.hid hg2
  have HB2 := Lib.hid (HB.out.trans (hf2.below HB.out.size (fun k hk => by omega)))
  clear hg2 hf2 hs2
  go_wp2
  refine bodyPost_ret (ret_ub rfl rfl HG.out Ub.zero_wf) rfl ?_
  exact ⟨rfl, HB2.out⟩

theorem sl_block_lt {w : World} {v : Value} {n : Nat} {xs : List UInt8} (h : Sl w 1 v n (xs.map Bv)) (hx : xs ≠ []) : ∀ k, v.ownBlock = some k → k < w.heap.size := by
  obtain ⟨_, a, c, rfl, _, _, h4⟩ := h
  obtain ⟨x, l, rfl⟩ : ∃ x l, xs = x :: l := by cases xs with | nil => exact absurd rfl hx | cons x l => exact ⟨x, l, rfl⟩
  obtain ⟨b', o', rfl, hc⟩ := h4 0 (Bv x) rfl
  intro k hk
  simp only [Value.ownBlock, Option.some.injEq] at hk
  subst hk
  exact World.block_lt_of_cell? w _ hc
/-- What Get of banyanref10 answers. -/
def RefGetPost (r : Ub) (e : Int) (w : World) (en : Ending) (w' : World) : Prop := en = .returned (.tuple #[.agg r.arr, .int .i64 e]) ∧ Below w.heap.size w w'

set_option maxRecDepth 100000 in
set_option maxHeartbeats 4000000 in
theorem refUbGet_512 (vk v : Value) (key xs : List UInt8) (w : World) (hk : Sl w 1 vk key.length (key.map Bv)) (hr : key.length ≤ 1000000) (h : Sl w 1 v 512 (xs.map Bv)) :
    Calls Tryz.prog 8 #[vk, v] w (RefGetPost (getU key xs) (errU key xs) w) := by
  have hlen : xs.length = 512 := by simpa using h.1
  obtain ⟨n, hn⟩ : ∃ n, n = key.length := ⟨_, rfl⟩
  have hb0 : Below w.heap.size w (w.alloc (.cells Ub.zero.arr 32)) := (Below.refl _ w).alloc (Nat.le_refl _) _
  have HZ := Lib.hid (heap_alloc_new w (.cells Ub.zero.arr 32))
  have HB := Lib.hid hb0
  obtain ⟨a, c, rfl⟩ := shape_of h
  obtain ⟨A1, C1, q1, hs1⟩ := cut_u8_hi h (show 480 ≤ 512 by decide)
  obtain ⟨A2, C2, q2, hs2⟩ := cut_u8_lo h (show 480 ≤ 512 by decide)
  obtain ⟨A3, C3, q3, hs3⟩ := cut_u8_lo h (show 4 ≤ 512 by decide)
  rw [show (512 : Nat) - 480 = 32 from rfl] at q2 hs2
  rw [show (512 : Nat) - 4 = 508 from rfl] at q3 hs3
  rw [show ((480 : Nat) : Int) = 480 from rfl] at q1 q2
  rw [show ((4 : Nat) : Int) = 4 from rfl] at q3
  obtain ⟨hd, hhd⟩ : ∃ hd, hd = xs.take 480 := ⟨_, rfl⟩
  obtain ⟨tl, htl⟩ : ∃ tl, tl = xs.drop 480 := ⟨_, rfl⟩
  have hhl : hd.length = 480 := by rw [hhd, List.length_take, hlen]; rfl
  have htll : tl.length = 32 := by rw [htl, List.length_drop, hlen]
  have HMac := Lib.hid (fun w' (hb : Below w.heap.size w w') => mac03_any vk (.slice A1 480 C1) key hd w' (hk.below hb) (by rw [hhl, hhd]; exact hs1.below hb) hr (by rw [hhl]; decide))
  have HPut := Lib.hid (fun u w' (hu : u.Wf) (hb : Below w.heap.size w w') => refUbPut_any vk key u w' (hk.below hb) hr hu)
  obtain ⟨ak, ck, rfl⟩ := shape_of hk
  rw [← hn] at HMac HPut ⊢
  rw [← htl] at hs2
  have HS2 := Lib.hid (fun w' (hb : Below w.heap.size w w') => hs2.below hb)
  have HS3 := Lib.hid (fun w' (hb : Below w.heap.size w w') => hs3.below hb)
  have HS := Lib.hid (fun w' (hb : Below w.heap.size w w') => h.below hb)
  obtain ⟨res, hres⟩ : ∃ res, res = getU key xs := ⟨_, rfl⟩
  obtain ⟨er, her⟩ : ∃ er, er = errU key xs := ⟨_, rfl⟩
  obtain ⟨mv, hmv⟩ : ∃ mv, mv = macN key hd := ⟨_, rfl⟩
  have HMl := Lib.hid (show mv.length = 32 by rw [hmv]; exact macN_length _ _)
  have he : er = if mv = tl then (if okU hd then 0 else 4) else 5 := by rw [her, hmv, hhd, htl]; unfold errU; rw [if_pos hlen]
  have hg : res = if er = 0 then toldU hd else Ub.zero := by rw [hres, her, hhd]; rfl
  have hiff : mv = tl → (okU hd = true ↔ ubE (toldU hd) = 0 ∧ putU key (toldU hd) = xs) := by rw [hmv, hhd, htl]; exact okU_put key xs hlen
  have htd : toldU hd = ⟨getB ((xs.drop 4).take 8), getB ((xs.drop 12).take 4), (ptrOf (xs.drop 16)).1⟩ := by rw [hhd]; exact told_512 xs hlen
  have huw := toldU_wf hd
  obtain ⟨u, hu⟩ : ∃ u, u = toldU hd := ⟨_, rfl⟩
  rw [← hu] at hg hiff htd huw
  rw [← hres, ← her]
  rw [← hmv] at HMac
  have HE := Lib.hid he
  have HRes := Lib.hid hg
  have HIff := Lib.hid hiff
  have HTd := Lib.hid htd
  have HU := Lib.hid huw
  have HXl := Lib.hid hlen
  have HTl := Lib.hid htll
  clear h hk hb0 hs1 hs2 hs3 hhd htl hhl htll hres her he hg hiff htd huw hu hmv hn hr hlen
  go_enter Tryz.func8, Tryz.ntmps8
  go_wp2_with fail
  refine (HMac.out _ HB.out).mono ?_
  rintro e w1 ⟨rfl, hb1⟩
  have HB1 := Lib.hid (HB.out.trans (hb1.mono HB.out.size))
  have HZ1 := Lib.hid ((hb1.block w.heap.size (lt_of_block HZ.out)).trans HZ.out)
  clear hb1 q1
  go_wp2_with (refine store_hash rfl (.tmp 6) (.tmp 20) rfl rfl rfl (heap_alloc_new _ _) rfl HMl.out ?_)
  intro w2 hg2 hf2
  have hbel2 : Below w1.heap.size w1 w2 := ((Below.refl _ w1).alloc (Nat.le_refl _) _).trans (hf2.below (by simp) (fun j hj => by omega))
  have hb2 := HB1.out.trans (hbel2.mono HB1.out.size)
  have hsm : Sl w2 1 (.slice (some ⟨w1.heap.size, 0, none⟩) 32 32) 32 (mv.map Bv) := sl_row' hg2 rfl (by simp [HMl.out])
  have HZ2 := Lib.hid ((hbel2.block w.heap.size (lt_of_block HZ1.out)).trans HZ1.out)
  have HB2 := Lib.hid hb2
  have t1 := fun (x : Wd w2.heap.size w2) => toStr_u8 (hsm.below x.hb)
  have t2 := fun (x : Wd w2.heap.size w2) => toStr_u8 ((HS2.out w2 hb2).below x.hb)
  clear hg2 hf2 hbel2 hb2 hsm
  go_wp2_with fail
  refine wp_region_wd w2.heap.size (by kernel_rfl) (by kernel_rfl) ?_
  repeat (go_big_quiet_step (fail))
  refine wpQuiet_nil ?_
  rintro w3 ⟨⟨_, hb3⟩, rfl⟩
  have HB3 := Lib.hid (HB2.out.trans (hb3.mono HB2.out.size))
  have HZ3 := Lib.hid ((hb3.block w.heap.size (lt_of_block HZ2.out)).trans HZ2.out)
  clear hb3 t1 t2 q2
  by_cases hm : mv = tl
  case neg =>
    have m1 : (mv == tl) = false := by simpa using hm
    have HE5 := Lib.hid (show er = 5 by rw [HE.out, if_neg hm])
    have HR5 := Lib.hid (show res = Ub.zero by rw [HRes.out, HE5.out]; rfl)
    rw [m1]
    clear m1 hm
    go_wp2_with (refine store_ub (u := Ub.zero) rfl (.tmp 4) (.tmp 27) rfl rfl rfl HZ3.out rfl Ub.zero_wf ?_)
    intro w4 hg4 hf4 hs4
    have HG4 := Lib.hid hg4
    have HB4 := Lib.hid (HB3.out.trans (hf4.below HB3.out.size (fun k hk => by omega)))
    clear hg4 hf4 hs4
    go_wp2
    refine bodyPost_ret (ret_ub rfl rfl HG4.out Ub.zero_wf) rfl ?_
    exact ⟨by rw [HE5.out, HR5.out]; rfl, HB4.out⟩
  case pos =>
    have m1 : (mv == tl) = true := by simpa using hm
    rw [m1]
    have HIf := Lib.hid (HIff.out hm)
    have HE2 := Lib.hid (show er = if okU hd then 0 else 4 by rw [HE.out, if_pos hm])
    clear m1 hm HIff HE
    obtain ⟨r1, hr1⟩ : ∃ r, r = xs.drop 4 := ⟨_, rfl⟩
    obtain ⟨r2, hr2⟩ : ∃ r, r = xs.drop 12 := ⟨_, rfl⟩
    obtain ⟨r3, hr3⟩ : ∃ r, r = xs.drop 16 := ⟨_, rfl⟩
    obtain ⟨r4, hr4⟩ : ∃ r, r = xs.drop 60 := ⟨_, rfl⟩
    have hxl := HXl.out
    have htd := HTd.out
    have hN8 : numOf 8 r1 = (u.txg, 0, r2) := by
      unfold numOf; rw [if_neg (by omega), if_neg (by rw [hr1, List.length_drop, hxl]; omega), htd, hr1, hr2]
      simp only [List.drop_drop]; rfl
    have hN4 : numOf 4 r2 = (u.size, 0, r3) := by
      unfold numOf; rw [if_neg (by omega), if_neg (by rw [hr2, List.length_drop, hxl]; omega), htd, hr2, hr3]
      simp only [List.drop_drop]; rfl
    have hP : ptrOf r3 = (u.root, 0, r4) := by
      have e1 : (ptrOf r3).2 = (0, r4) := by
        unfold ptrOf; rw [if_neg (by rw [hr3, List.length_drop, hxl]; omega), hr3, hr4]; simp only [List.drop_drop]
      rw [← Prod.eta (ptrOf r3), e1, htd, hr3]
    have HN8 := Lib.hid hN8
    have HN4 := Lib.hid hN4
    have HP := Lib.hid hP
    have HL1 := Lib.hid (show r1.length = 508 by rw [hr1, List.length_drop, hxl])
    have HL2 := Lib.hid (show r2.length = 500 by rw [hr2, List.length_drop, hxl])
    have HL3 := Lib.hid (show r3.length = 496 by rw [hr3, List.length_drop, hxl])
    have hs3 := HS3.out w3 HB3.out
    rw [← hr1] at hs3
    have hwrap := wrap32 HU.out.size
    have m32 := HU.out.size
    have HT := Lib.hid HU.out.txg
    have hobl := sl_block_lt hs3 (by intro e; have := HL1.out; rw [e] at this; cases this)
    have halloc : Below w3.heap.size w3 ((w3.alloc (.cells #[.slice A3 508 C3] 51)).alloc (.cells Ub.zero.arr 32)) := ((Below.refl _ w3).alloc (Nat.le_refl _) _).alloc (by simp) _
    have hrb : ((w3.alloc (.cells #[.slice A3 508 C3] 51)).alloc (.cells Ub.zero.arr 32)).heap[w3.heap.size]? = some (.cells #[.slice A3 508 C3] 51 (0, 0)) := (Below.heap_alloc _ _ _ (by simp)).trans (heap_alloc_new _ _)
    have hub : ((w3.alloc (.cells #[.slice A3 508 C3] 51)).alloc (.cells Ub.zero.arr 32)).heap[w3.heap.size + 1]? = some (.cells Ub.zero.arr 32 (0, 0)) := by
      have h := heap_alloc_new (w3.alloc (.cells #[.slice A3 508 C3] 51)) (.cells Ub.zero.arr 32)
      rwa [show (w3.alloc (.cells #[.slice A3 508 C3] 51)).heap.size = w3.heap.size + 1 by simp] at h
    obtain ⟨wB, hwB⟩ : ∃ wB, wB = (w3.alloc (.cells #[.slice A3 508 C3] 51)).alloc (.cells Ub.zero.arr 32) := ⟨_, rfl⟩
    have hwl := lt_of_block HZ3.out
    obtain ⟨b, hb⟩ : ∃ b, b = w3.heap.size := ⟨_, rfl⟩
    rw [← hwB] at halloc hrb hub
    have hrf : RfO wB b (Value.slice A3 508 C3).ownBlock r1 := ⟨_, by rw [hb]; exact hrb, by rw [HL1.out]; exact hs3.below halloc, rfl⟩
    obtain ⟨ob, hob⟩ : ∃ ob, ob = (Value.slice A3 508 C3).ownBlock := ⟨_, rfl⟩
    rw [← hob] at hrf hobl
    rw [← hb] at hobl hub hwl
    have HOB := Lib.hid hobl
    have HRf := Lib.hid hrf
    have HZB := Lib.hid ((halloc.block w.heap.size (by omega)).trans HZ3.out)
    have HUB := Lib.hid hub
    have HBB := Lib.hid (HB3.out.trans (halloc.mono HB3.out.size))
    have HwB := Lib.hid hwB
    have Hb := Lib.hid hb
    clear hs3 hobl halloc hrb hub hrf hob hwB hb hxl htd hN8 hN4 hP hr1 hr2 hr3 hr4 HTd HS3 HB1 HZ1 HB2 HZ2
    go_wp2_with fail
    have hw := HwB.out
    rw [zero36] at hw
    rw [← hw, ← Hb.out]
    clear hw
    refine (fNumO_any b ob 8 r1 _ HRf.out (by rw [HL1.out]; omega)).mono ?_
    rw [HN8.out]
    rintro e w4 ⟨rfl, hr4, hf4⟩
    have hz4 := (hf4.block w.heap.size (lt_of_block HZB.out) (by omega)).trans HZB.out
    have hu4 := (hf4.block (b + 1) (lt_of_block HUB.out) (by omega)).trans HUB.out
    have HZ4 := Lib.hid hz4
    have HU4 := Lib.hid hu4
    have HR4 := Lib.hid hr4
    have HB4 := Lib.hid (HBB.out.trans (hf4.below HBB.out.size (fun k hk => by omega)))
    have c0 : w4.cell? ⟨b + 1, 0, none⟩ = some (.int .u64 0) := (cell_of_row _ _ 0 _ _ _ hu4).trans rfl
    have f0 : w4.frozen? ⟨b + 1, 0, none⟩ = false := by simp [World.frozen?, hu4]
    clear hr4 hf4 hz4 hu4
    go_wp2_with fail
    obtain ⟨w5, hw5⟩ : ∃ w5, w5 = w4.setCell ⟨b + 1, 0, none⟩ (.int .u64 (u.txg : Int)) := ⟨_, rfl⟩
    have hu5 : w5.heap[b + 1]? = some (.cells (Ub.zero.arr.setIfInBounds 0 (.int .u64 (u.txg : Int))) 32 (0, 0)) := by rw [hw5]; exact heap_setCell_same _ _ _ _ _ _ HU4.out
    have hF5 : Fr (fun k => k = b + 1) w4 w5 := by rw [hw5]; exact (Fr.refl (fun k => k = b + 1) _).set _ 0 rfl _
    rw [← hw5]
    have HR5 := Lib.hid (HR4.out.fr hF5 (by omega) (fun k hk e => by have := HOB.out k hk; omega))
    have HZ5 := Lib.hid ((hF5.block w.heap.size (lt_of_block HZ4.out) (by omega)).trans HZ4.out)
    have HU5 := Lib.hid hu5
    have HB5 := Lib.hid (HB4.out.trans (hF5.below HB4.out.size (fun k hk => by omega)))
    clear hw5 hF5 c0 f0 hu5
    refine (fNumO_any b ob 4 r2 _ HR5.out (by rw [HL2.out]; omega)).mono ?_
    rw [HN4.out]
    rintro e w6 ⟨rfl, hr6, hf6⟩
    have hz6 := (hf6.block w.heap.size (lt_of_block HZ5.out) (by omega)).trans HZ5.out
    have hu6 := (hf6.block (b + 1) (lt_of_block HU5.out) (by omega)).trans HU5.out
    have HZ6 := Lib.hid hz6
    have HU6 := Lib.hid hu6
    have HR6 := Lib.hid hr6
    have HB6 := Lib.hid (HB5.out.trans (hf6.below HB5.out.size (fun k hk => by omega)))
    have c1 : w6.cell? ⟨b + 1, 1, none⟩ = some (.int .u32 0) := (cell_of_row _ _ 1 _ _ _ hu6).trans rfl
    have f1 : w6.frozen? ⟨b + 1, 1, none⟩ = false := by simp [World.frozen?, hu6]
    clear hr6 hf6 hz6 hu6
    go_wp2_with fail
    obtain ⟨w7, hw7⟩ : ∃ w7, w7 = w6.setCell ⟨b + 1, 1, none⟩ (.int .u32 (u.size : Int)) := ⟨_, rfl⟩
    have hu7 : w7.heap[b + 1]? = some (.cells ((Ub.zero.arr.setIfInBounds 0 (.int .u64 (u.txg : Int))).setIfInBounds 1 (.int .u32 (u.size : Int))) 32 (0, 0)) := by rw [hw7]; exact heap_setCell_same _ _ _ _ _ _ HU6.out
    have hF7 : Fr (fun k => k = b + 1) w6 w7 := by rw [hw7]; exact (Fr.refl (fun k => k = b + 1) _).set _ 1 rfl _
    rw [← hw7]
    have HR7 := Lib.hid (HR6.out.fr hF7 (by omega) (fun k hk e => by have := HOB.out k hk; omega))
    have HZ7 := Lib.hid ((hF7.block w.heap.size (lt_of_block HZ6.out) (by omega)).trans HZ6.out)
    have HB7 := Lib.hid (HB6.out.trans (hF7.below HB6.out.size (fun k hk => by omega)))
    obtain ⟨l7, hl7, hl7'⟩ := zero_cellsU (.int .u64 (u.txg : Int)) (.int .u32 (u.size : Int))
    rw [hl7] at hu7
    have HU7 := Lib.hid hu7
    have HO7 := Lib.hid (show ∃ c0 c1 l, (Value.int IntKind.u64 (u.txg : Int) :: Value.int IntKind.u32 (u.size : Int) :: l7).toArray = (c0 :: c1 :: l).toArray ∧ l.length = 34 ∧ c0 = .int .u64 (u.txg : Int) ∧ c1 = .int .u32 (u.size : Int) from ⟨_, _, l7, rfl, hl7', rfl, rfl⟩)
    clear hw7 hF7 c1 f1 hu7 hl7 hl7'
    refine (refPtrGet_any b ob r3 _ HR7.out (fun k hk => by have := HOB.out k hk; have := lt_of_block HU7.out; omega) (by rw [HL3.out]; omega)).mono ?_
    rw [HP.out]
    rintro e w8 ⟨rfl, hr8, hf8⟩
    have HZ8 := Lib.hid ((hf8.block w.heap.size (lt_of_block HZ7.out) (by omega)).trans HZ7.out)
    have HU8 := Lib.hid ((hf8.block (b + 1) (lt_of_block HU7.out) (by omega)).trans HU7.out)
    have HB8 := Lib.hid (HB7.out.trans (hf8.below HB7.out.size (fun k hk => by omega)))
    clear hr8 hf8
    go_wp2_with (refine root_part rfl (.tmp 51) (.tmp 49) rfl rfl HU.out rfl HU8.out HO7.out ?_)
    intro w9 hg9 hf9 hs9
    have HA9 := Lib.hid (show At w9 (b + 1) 0 u.cells from At.of_row hg9)
    have HU9 := Lib.hid hg9
    have HZ9 := Lib.hid ((hf9.block w.heap.size (lt_of_block HZ8.out) (by omega)).trans HZ8.out)
    have HB9 := Lib.hid (HB8.out.trans (hf9.below HB8.out.size (fun k hk => by omega)))
    clear hg9 hf9 hs9
    go_wp2_with (refine load_ub rfl (.tmp 8) rfl rfl HA9.out HU.out ?_)
    refine (HPut.out u _ HU.out HB9.out).mono ?_
    rintro e w10 ⟨aP, nP, cP, rfl, hnP, hsP, hbP⟩
    have hz10 := (hbP.block w.heap.size (lt_of_block HZ9.out)).trans HZ9.out
    have HZ10 := Lib.hid hz10
    have HU10 := Lib.hid ((hbP.block (b + 1) (lt_of_block HU9.out)).trans HU9.out)
    have hb10 := HB9.out.trans (hbP.mono HB9.out.size)
    have HB10 := Lib.hid hb10
    have HSP := Lib.hid hsP
    have HSX := Lib.hid (HS.out w10 hb10)
    clear hnP hsP hbP hz10 hb10
    rcases ubE_or u with hc | hc
    · have t1 := toStr_u8 HSP.out
      have t2 := toStr_u8 HSX.out
      rw [hc]
      by_cases hx : putU key u = xs
      · have HOk := Lib.hid (HIf.out.2 ⟨hc, hx⟩)
        have m1 : (putU key u == xs) = true := by simpa using hx
        rw [hx] at t1
        clear hc hx m1
        have HA10 := Lib.hid (show At w10 (b + 1) 0 u.cells from At.of_row HU10.out)
        have HEr := Lib.hid (show er = 0 by rw [HE2.out, HOk.out]; rfl)
        have HRe := Lib.hid (show res = u by rw [HRes.out, HEr.out]; rfl)
        go_wp2_with (first | (refine load_ub rfl (.tmp 8) rfl rfl HA10.out HU.out ?_) | (refine store_ub rfl (.tmp 4) (.tmp 68) rfl rfl rfl HZ10.out rfl HU.out ?_))
        intro w11 hg11 hf11 hs11
        have HG11 := Lib.hid hg11
        have HB11 := Lib.hid (HB10.out.trans (hf11.below HB10.out.size (fun k hk => by omega)))
        clear hg11 hf11 hs11
        go_wp2
        refine bodyPost_ret (ret_ub rfl rfl HG11.out HU.out) rfl ?_
        exact ⟨by rw [HEr.out, HRe.out]; rfl, HB11.out⟩
      · have HOk := Lib.hid (show okU hd = false by
          cases ho : okU hd with
          | false => rfl
          | true => exact absurd (HIf.out.1 ho).2 hx)
        have m1 : (putU key u == xs) = false := by simpa using hx
        have HEr := Lib.hid (show er = 4 by rw [HE2.out, HOk.out]; rfl)
        have HRe := Lib.hid (show res = Ub.zero by rw [HRes.out, HEr.out]; rfl)
        obtain ⟨ps, hps⟩ : ∃ ps, ps = putU key u := ⟨_, rfl⟩
        rw [← hps] at t1 m1
        clear hc hx hps
        go_wp2_with (refine store_ub (u := Ub.zero) rfl (.tmp 4) (.tmp 67) rfl rfl rfl HZ10.out rfl Ub.zero_wf ?_)
        intro w11 hg11 hf11 hs11
        have HG11 := Lib.hid hg11
        have HB11 := Lib.hid (HB10.out.trans (hf11.below HB10.out.size (fun k hk => by omega)))
        clear hg11 hf11 hs11
        go_wp2
        refine bodyPost_ret (ret_ub rfl rfl HG11.out Ub.zero_wf) rfl ?_
        exact ⟨by rw [HEr.out, HRe.out]; rfl, HB11.out⟩
    · have HOk := Lib.hid (show okU hd = false by
        cases ho : okU hd with
        | false => rfl
        | true => have := (HIf.out.1 ho).1; rw [hc] at this; cases this)
      have HEr := Lib.hid (show er = 4 by rw [HE2.out, HOk.out]; rfl)
      have HRe := Lib.hid (show res = Ub.zero by rw [HRes.out, HEr.out]; rfl)
      rw [hc]
      clear hc
      go_wp2_with (refine store_ub (u := Ub.zero) rfl (.tmp 4) (.tmp 67) rfl rfl rfl HZ10.out rfl Ub.zero_wf ?_)
      intro w11 hg11 hf11 hs11
      have HG11 := Lib.hid hg11
      have HB11 := Lib.hid (HB10.out.trans (hf11.below HB10.out.size (fun k hk => by omega)))
      clear hg11 hf11 hs11
      go_wp2
      refine bodyPost_ret (ret_ub rfl rfl HG11.out Ub.zero_wf) rfl ?_
      exact ⟨by rw [HEr.out, HRe.out]; rfl, HB11.out⟩

theorem refUbGet_any (vk v : Value) (key xs : List UInt8) (w : World) (hk : Sl w 1 vk key.length (key.map Bv)) (hr : key.length ≤ 1000000) (h : Sl w 1 v xs.length (xs.map Bv)) :
    Calls Tryz.prog 8 #[vk, v] w fun e w' => e = .returned (.tuple #[.agg (getU key xs).arr, .int .i64 (errU key xs)]) ∧ Below w.heap.size w w' := by
  by_cases hl : xs.length = 512
  · rw [hl] at h
    exact refUbGet_512 vk v key xs w hk hr h
  · have h1 : errU key xs = 2 := by unfold errU; rw [if_neg hl]
    have h2 : getU key xs = Ub.zero := by unfold getU; rw [h1]; rfl
    rw [h1, h2]
    exact refUbGet_len vk v xs w h hl
end Go.Proofs.YtdmjnopjnaoepaaGreatDoor
namespace Go.Proofs.YtdmjnopjnaoepaaGreatDoor
open Go.RowKit

/-- The newer one, as the document says it. -/
def chR (x y : Ub) (e1 p1 e2 q1 g : Bool) : Ub × Int := if e1 && p1 && (!(e2 && q1) || g) then (x, 0) else if e2 && q1 then (y, 0) else (Ub.zero, 8)
theorem getU_txg {key xs : List UInt8} (h : errU key xs = 0) : 0 < (getU key xs).txg := by
  unfold getU
  rw [if_pos h]
  unfold errU at h
  split at h
  · split at h
    · split at h
      · rename_i h3
        unfold okU at h3
        simp only [Bool.and_eq_true, decide_eq_true_eq] at h3
        have := h3.2
        unfold ubOk at this
        simp only [Bool.and_eq_true, decide_eq_true_eq] at this
        omega
      · cases h
    · cases h
  · cases h
theorem chR_eq (key xa xb : List UInt8) : chN key xa xb 2 = chR (getU key xa) (getU key xb) (errU key xa == 0) (((getU key xa).txg : Int) % 2 == 0) (errU key xb == 0) (((getU key xb).txg : Int) % 2 == 1) (decide (((getU key xb).txg : Int) < ((getU key xa).txg : Int))) := by
  have h1 := @getU_txg key xa
  have h2 := @getU_txg key xb
  show chS (chS (Ub.zero, 8) 0 (getU key xa, errU key xa)) 1 (getU key xb, errU key xb) = _
  generalize getU key xa = x at *
  generalize getU key xb = y at *
  generalize errU key xa = E at *
  generalize errU key xb = F at *
  unfold chS chR
  have hz : Ub.zero.txg = 0 := rfl
  have p1 : (((x.txg : Int) % 2 == 0) = true) ↔ x.txg % 2 = 0 := by rw [beq_iff_eq]; omega
  have q1 : (((y.txg : Int) % 2 == 1) = true) ↔ y.txg % 2 = 1 := by rw [beq_iff_eq]; omega
  by_cases a1 : E = 0
  · have := h1 a1
    by_cases a2 : x.txg % 2 = 0
    · by_cases b1 : F = 0
      · have := h2 b1
        by_cases b2 : y.txg % 2 = 1
        · by_cases g : y.txg < x.txg
          · simp [a1, b1, hz, p1.2 a2, q1.2 b2, a2, b2, g, show 0 < x.txg by omega]; omega
          · simp [a1, b1, hz, p1.2 a2, q1.2 b2, a2, b2, g, show 0 < x.txg by omega]; omega
        · have : ((y.txg : Int) % 2 == 1) = false := by rw [Bool.eq_false_iff]; exact fun h => b2 (q1.1 h)
          simp [a1, b1, hz, p1.2 a2, this, a2, b2, show 0 < x.txg by omega]
      · have : (F == 0) = false := by simpa using b1
        simp [a1, b1, hz, p1.2 a2, this, a2, show 0 < x.txg by omega]
    · have hp : ((x.txg : Int) % 2 == 0) = false := by rw [Bool.eq_false_iff]; exact fun h => a2 (p1.1 h)
      by_cases b1 : F = 0
      · have := h2 b1
        by_cases b2 : y.txg % 2 = 1
        · simp [a1, b1, hz, hp, q1.2 b2, a2, b2, show 0 < y.txg by omega]
        · have : ((y.txg : Int) % 2 == 1) = false := by rw [Bool.eq_false_iff]; exact fun h => b2 (q1.1 h)
          simp [a1, b1, hz, hp, this, a2, b2]
      · have : (F == 0) = false := by simpa using b1
        simp [a1, b1, hz, hp, this, a2]
  · have he : (E == 0) = false := by simpa using a1
    by_cases b1 : F = 0
    · have := h2 b1
      by_cases b2 : y.txg % 2 = 1
      · simp [a1, b1, hz, he, q1.2 b2, b2, show 0 < y.txg by omega]
      · have : ((y.txg : Int) % 2 == 1) = false := by rw [Bool.eq_false_iff]; exact fun h => b2 (q1.1 h)
        simp [a1, b1, hz, he, this, b2]
    · have : (F == 0) = false := by simpa using b1
      simp [a1, b1, hz, he, this]

set_option maxRecDepth 100000 in
set_option maxHeartbeats 8000000 in
theorem refUbChoose_any (vk va vb : Value) (key xa xb : List UInt8) (w : World) (hk : Sl w 1 vk key.length (key.map Bv)) (hr : key.length ≤ 1000000) (ha : Sl w 1 va xa.length (xa.map Bv)) (hb : Sl w 1 vb xb.length (xb.map Bv)) :
    Calls Tryz.prog 10 #[vk, va, vb] w fun e w' => e = .returned (.tuple #[.agg (chN key xa xb 2).1.arr, .int .i64 (chN key xa xb 2).2]) ∧ Below w.heap.size w w' := by
  have hb0 : Below w.heap.size w (w.alloc (.cells Ub.zero.arr 32)) := (Below.refl _ w).alloc (Nat.le_refl _) _
  have HZ := Lib.hid (heap_alloc_new w (.cells Ub.zero.arr 32))
  have HB := Lib.hid hb0
  have HGa := Lib.hid (fun w' (hh : Below w.heap.size w w') => refUbGet_any vk va key xa w' (hk.below hh) hr (ha.below hh))
  have HGb := Lib.hid (fun w' (hh : Below w.heap.size w w') => refUbGet_any vk vb key xb w' (hk.below hh) hr (hb.below hh))
  have hX := getU_wf key xa
  have hY := getU_wf key xb
  obtain ⟨fin, hfin⟩ : ∃ fin, fin = chN key xa xb 2 := ⟨_, rfl⟩
  rw [← hfin]
  rw [chR_eq] at hfin
  generalize getU key xa = x at *
  generalize getU key xb = y at *
  generalize errU key xa = E at *
  generalize errU key xb = F at *
  have HX := Lib.hid hX
  have HY := Lib.hid hY
  have hxt := hX.txg
  have hyt := hY.txg
  obtain ⟨ak, ck, rfl⟩ := shape_of hk
  obtain ⟨aa, ca, rfl⟩ := shape_of ha
  obtain ⟨ab, cb, rfl⟩ := shape_of hb
  obtain ⟨n, hn⟩ : ∃ n, n = key.length := ⟨_, rfl⟩
  obtain ⟨na, hna⟩ : ∃ n, n = xa.length := ⟨_, rfl⟩
  obtain ⟨nb, hnb⟩ : ∃ n, n = xb.length := ⟨_, rfl⟩
  rw [← hn, ← hna] at HGa
  rw [← hn, ← hnb] at HGb
  rw [← hn, ← hna, ← hnb]
  have HFin := Lib.hid hfin
  clear hk ha hb hr hn hna hnb hb0 hX hY hfin
  go_enter Tryz.func10, Tryz.ntmps10
  go_wp2_with fail
  refine (HGa.out _ HB.out).mono ?_
  rintro e w1 ⟨rfl, hb1⟩
  have HB1 := Lib.hid (HB.out.trans (hb1.mono HB.out.size))
  have HZ1 := Lib.hid ((hb1.block w.heap.size (lt_of_block HZ.out)).trans HZ.out)
  clear hb1
  go_wp2_with (refine store_ub rfl (.tmp 8) (.tmp 18) rfl rfl rfl (heap_alloc_new _ _) rfl HX.out ?_)
  intro w2 hg2 hf2 hs2
  have hbel2 : Below w1.heap.size w1 w2 := ((Below.refl _ w1).alloc (Nat.le_refl _) _).trans (hf2.below (by simp) (fun k hk => by omega))
  have HZ2 := Lib.hid ((hbel2.block w.heap.size (lt_of_block HZ1.out)).trans HZ1.out)
  have HX2 := Lib.hid hg2
  have HB2 := Lib.hid (HB1.out.trans (hbel2.mono HB1.out.size))
  obtain ⟨bx, hbx⟩ : ∃ bx, bx = w1.heap.size := ⟨_, rfl⟩
  rw [← hbx] at HX2 ⊢
  clear hg2 hf2 hs2 hbel2 hbx
  go_wp2_with fail
  refine (HGb.out _ HB2.out).mono ?_
  rintro e w3 ⟨rfl, hb3⟩
  have HB3 := Lib.hid (HB2.out.trans (hb3.mono HB2.out.size))
  have HZ3 := Lib.hid ((hb3.block w.heap.size (lt_of_block HZ2.out)).trans HZ2.out)
  have HX3 := Lib.hid ((hb3.block bx (lt_of_block HX2.out)).trans HX2.out)
  clear hb3
  go_wp2_with (refine store_ub rfl (.tmp 10) (.tmp 24) rfl rfl rfl (heap_alloc_new _ _) rfl HY.out ?_)
  intro w4 hg4 hf4 hs4
  have hbel4 : Below w3.heap.size w3 w4 := ((Below.refl _ w3).alloc (Nat.le_refl _) _).trans (hf4.below (by simp) (fun k hk => by omega))
  have hx4 := (hbel4.block bx (lt_of_block HX3.out)).trans HX3.out
  have HZ4 := Lib.hid ((hbel4.block w.heap.size (lt_of_block HZ3.out)).trans HZ3.out)
  have HX4 := Lib.hid (show At w4 bx 0 x.cells from At.of_row hx4)
  have HY4 := Lib.hid (show At w4 w3.heap.size 0 y.cells from At.of_row hg4)
  have HB4 := Lib.hid (HB3.out.trans (hbel4.mono HB3.out.size))
  have cx : w4.cell? ⟨bx, 0, none⟩ = some (.int .u64 (x.txg : Int)) := (cell_of_row _ _ 0 _ _ _ hx4).trans x.get0
  have cy : w4.cell? ⟨w3.heap.size, 0, none⟩ = some (.int .u64 (y.txg : Int)) := (cell_of_row _ _ 0 _ _ _ hg4).trans y.get0
  clear hg4 hf4 hs4 hbel4 hx4
  have HFX := Lib.hid (fun (e1 p1 e2 q1 g : Bool) (h1 : (E == 0) = e1) (h2 : ((x.txg : Int) % 2 == 0) = p1) (h3 : (F == 0) = e2) (h4 : ((y.txg : Int) % 2 == 1) = q1) (h5 : decide ((y.txg : Int) < (x.txg : Int)) = g) => (show fin = chR x y e1 p1 e2 q1 g by rw [HFin.out, h1, h2, h3, h4, h5]))
  have hA : (E == 0) = false ∨ ((E == 0) = true ∧ ((x.txg : Int) % 2 == 0) = false) ∨ ((E == 0) = true ∧ ((x.txg : Int) % 2 == 0) = true) := by
    cases (E == 0) <;> cases ((x.txg : Int) % 2 == 0) <;> simp
  have hB : (F == 0) = false ∨ ((F == 0) = true ∧ ((y.txg : Int) % 2 == 1) = false) ∨ ((F == 0) = true ∧ ((y.txg : Int) % 2 == 1) = true) := by
    cases (F == 0) <;> cases ((y.txg : Int) % 2 == 1) <;> simp
  clear HFin
  rcases hA with a | ⟨a, a2⟩ | ⟨a, a2⟩ <;> rcases hB with b | ⟨b, b2⟩ | ⟨b, b2⟩
  · have HF2 := Lib.hid (show fin = (Ub.zero, 8) by rw [HFX.out false _ false _ _ a rfl b rfl rfl]; unfold chR; simp)
    clear HFX
    go_wp2_with (refine store_ub (u := Ub.zero) rfl (.tmp 6) (.tmp 57) rfl rfl rfl HZ4.out rfl Ub.zero_wf ?_)
    intro w5 hg5 hf5 hs5
    have HG5 := Lib.hid hg5
    have HB5 := Lib.hid (HB4.out.trans (hf5.below HB4.out.size (fun k hk => by omega)))
    clear hg5 hf5 hs5
    go_wp2
    refine bodyPost_ret (ret_ub rfl rfl HG5.out Ub.zero_wf) rfl ?_
    exact ⟨by rw [HF2.out]; rfl, HB5.out⟩
  · have HF2 := Lib.hid (show fin = (Ub.zero, 8) by rw [HFX.out false _ true false _ a rfl b b2 rfl]; unfold chR; simp)
    clear HFX
    go_wp2_with (refine store_ub (u := Ub.zero) rfl (.tmp 6) (.tmp 57) rfl rfl rfl HZ4.out rfl Ub.zero_wf ?_)
    intro w5 hg5 hf5 hs5
    have HG5 := Lib.hid hg5
    have HB5 := Lib.hid (HB4.out.trans (hf5.below HB4.out.size (fun k hk => by omega)))
    clear hg5 hf5 hs5
    go_wp2
    refine bodyPost_ret (ret_ub rfl rfl HG5.out Ub.zero_wf) rfl ?_
    exact ⟨by rw [HF2.out]; rfl, HB5.out⟩
  · have HF2 := Lib.hid (show fin = (y, 0) by rw [HFX.out false _ true true _ a rfl b b2 rfl]; unfold chR; simp)
    clear HFX
    go_wp2_with (first | (refine load_ub rfl (.tmp 10) rfl rfl HY4.out HY.out ?_) | (refine store_ub (u := y) rfl (.tmp 6) (.tmp 56) rfl rfl rfl HZ4.out rfl HY.out ?_))
    intro w5 hg5 hf5 hs5
    have HG5 := Lib.hid hg5
    have HB5 := Lib.hid (HB4.out.trans (hf5.below HB4.out.size (fun k hk => by omega)))
    clear hg5 hf5 hs5
    go_wp2
    refine bodyPost_ret (ret_ub rfl rfl HG5.out HY.out) rfl ?_
    exact ⟨by rw [HF2.out]; rfl, HB5.out⟩
  · have HF2 := Lib.hid (show fin = (Ub.zero, 8) by rw [HFX.out true false false _ _ a a2 b rfl rfl]; unfold chR; simp)
    clear HFX
    go_wp2_with (refine store_ub (u := Ub.zero) rfl (.tmp 6) (.tmp 57) rfl rfl rfl HZ4.out rfl Ub.zero_wf ?_)
    intro w5 hg5 hf5 hs5
    have HG5 := Lib.hid hg5
    have HB5 := Lib.hid (HB4.out.trans (hf5.below HB4.out.size (fun k hk => by omega)))
    clear hg5 hf5 hs5
    go_wp2
    refine bodyPost_ret (ret_ub rfl rfl HG5.out Ub.zero_wf) rfl ?_
    exact ⟨by rw [HF2.out]; rfl, HB5.out⟩
  · have HF2 := Lib.hid (show fin = (Ub.zero, 8) by rw [HFX.out true false true false _ a a2 b b2 rfl]; unfold chR; simp)
    clear HFX
    go_wp2_with (refine store_ub (u := Ub.zero) rfl (.tmp 6) (.tmp 57) rfl rfl rfl HZ4.out rfl Ub.zero_wf ?_)
    intro w5 hg5 hf5 hs5
    have HG5 := Lib.hid hg5
    have HB5 := Lib.hid (HB4.out.trans (hf5.below HB4.out.size (fun k hk => by omega)))
    clear hg5 hf5 hs5
    go_wp2
    refine bodyPost_ret (ret_ub rfl rfl HG5.out Ub.zero_wf) rfl ?_
    exact ⟨by rw [HF2.out]; rfl, HB5.out⟩
  · have HF2 := Lib.hid (show fin = (y, 0) by rw [HFX.out true false true true _ a a2 b b2 rfl]; unfold chR; simp)
    clear HFX
    go_wp2_with (first | (refine load_ub rfl (.tmp 10) rfl rfl HY4.out HY.out ?_) | (refine store_ub (u := y) rfl (.tmp 6) (.tmp 56) rfl rfl rfl HZ4.out rfl HY.out ?_))
    intro w5 hg5 hf5 hs5
    have HG5 := Lib.hid hg5
    have HB5 := Lib.hid (HB4.out.trans (hf5.below HB4.out.size (fun k hk => by omega)))
    clear hg5 hf5 hs5
    go_wp2
    refine bodyPost_ret (ret_ub rfl rfl HG5.out HY.out) rfl ?_
    exact ⟨by rw [HF2.out]; rfl, HB5.out⟩
  · have HF2 := Lib.hid (show fin = (x, 0) by rw [HFX.out true true false _ _ a a2 b rfl rfl]; unfold chR; simp)
    clear HFX
    go_wp2_with (first | (refine load_ub rfl (.tmp 8) rfl rfl HX4.out HX.out ?_) | (refine store_ub (u := x) rfl (.tmp 6) (.tmp 54) rfl rfl rfl HZ4.out rfl HX.out ?_))
    intro w5 hg5 hf5 hs5
    have HG5 := Lib.hid hg5
    have HB5 := Lib.hid (HB4.out.trans (hf5.below HB4.out.size (fun k hk => by omega)))
    clear hg5 hf5 hs5
    go_wp2
    refine bodyPost_ret (ret_ub rfl rfl HG5.out HX.out) rfl ?_
    exact ⟨by rw [HF2.out]; rfl, HB5.out⟩
  · have HF2 := Lib.hid (show fin = (x, 0) by rw [HFX.out true true true false _ a a2 b b2 rfl]; unfold chR; simp)
    clear HFX
    go_wp2_with (first | (refine load_ub rfl (.tmp 8) rfl rfl HX4.out HX.out ?_) | (refine store_ub (u := x) rfl (.tmp 6) (.tmp 54) rfl rfl rfl HZ4.out rfl HX.out ?_))
    intro w5 hg5 hf5 hs5
    have HG5 := Lib.hid hg5
    have HB5 := Lib.hid (HB4.out.trans (hf5.below HB4.out.size (fun k hk => by omega)))
    clear hg5 hf5 hs5
    go_wp2
    refine bodyPost_ret (ret_ub rfl rfl HG5.out HX.out) rfl ?_
    exact ⟨by rw [HF2.out]; rfl, HB5.out⟩
  · cases g : decide ((y.txg : Int) < (x.txg : Int)) with
    | true =>
      have HF2 := Lib.hid (show fin = (x, 0) by rw [HFX.out true true true true true a a2 b b2 g]; unfold chR; simp)
      clear HFX
      have g2 : y.txg < x.txg := by have := of_decide_eq_true g; omega
      clear g
      go_wp2_with (first | (refine load_ub rfl (.tmp 8) rfl rfl HX4.out HX.out ?_) | (refine store_ub (u := x) rfl (.tmp 6) (.tmp 54) rfl rfl rfl HZ4.out rfl HX.out ?_))
      intro w5 hg5 hf5 hs5
      have HG5 := Lib.hid hg5
      have HB5 := Lib.hid (HB4.out.trans (hf5.below HB4.out.size (fun k hk => by omega)))
      clear hg5 hf5 hs5
      go_wp2
      refine bodyPost_ret (ret_ub rfl rfl HG5.out HX.out) rfl ?_
      exact ⟨by rw [HF2.out]; rfl, HB5.out⟩
    | false =>
      have HF2 := Lib.hid (show fin = (y, 0) by rw [HFX.out true true true true false a a2 b b2 g]; unfold chR; simp)
      clear HFX
      have g2 : ¬ y.txg < x.txg := by have := of_decide_eq_false g; omega
      clear g
      go_wp2_with (first | (refine load_ub rfl (.tmp 10) rfl rfl HY4.out HY.out ?_) | (refine store_ub (u := y) rfl (.tmp 6) (.tmp 56) rfl rfl rfl HZ4.out rfl HY.out ?_))
      intro w5 hg5 hf5 hs5
      have HG5 := Lib.hid hg5
      have HB5 := Lib.hid (HB4.out.trans (hf5.below HB4.out.size (fun k hk => by omega)))
      clear hg5 hf5 hs5
      go_wp2
      refine bodyPost_ret (ret_ub rfl rfl HG5.out HY.out) rfl ?_
      exact ⟨by rw [HF2.out]; rfl, HB5.out⟩
end Go.Proofs.YtdmjnopjnaoepaaGreatDoor
namespace Go.Proofs.YtdmjnopjnaoepaaGreatDoor
open Go.RowKit

/-- Bytes with their own code. -/
def sealB (key b : List UInt8) : List UInt8 := if b.length = 512 then b.take 480 ++ macN key (b.take 480) else b
theorem sealB_length (key b : List UInt8) : (sealB key b).length = b.length := by
  unfold sealB
  split
  · rename_i h; rw [List.length_append, List.length_take, macN_length, h]; rfl
  · rfl

set_option maxRecDepth 100000 in
set_option maxHeartbeats 4000000 in
theorem sealed_any (vk v : Value) (key xs : List UInt8) (n : Nat) (hn : n = xs.length) (w : World) (hk : Sl w 1 vk key.length (key.map Bv)) (hr : key.length ≤ 1000000) (h : Sl w 1 v n (xs.map Bv)) :
    Calls Tryz.prog 6 #[vk, v] w fun e w' => ∃ a c, e = .returned (.slice a n c) ∧ Sl w' 1 (.slice a n c) n ((sealB key xs).map Bv) ∧ Below w.heap.size w w' := by
  by_cases hl : n = 512
  · have hs : sealB key xs = xs.take 480 ++ macN key (xs.take 480) := by unfold sealB; rw [if_pos (by omega)]
    rw [hs]
    subst hl
    obtain ⟨a, c, rfl⟩ := shape_of h
    obtain ⟨A1, C1, q1, hs1⟩ := cut_u8_hi h (show 480 ≤ 512 by decide)
    rw [show ((480 : Nat) : Int) = 480 from rfl] at q1
    have h480 : (xs.take 480).length = 480 := by rw [List.length_take, ← hn]; rfl
    have HMac := Lib.hid (fun w' (hb : Below w.heap.size w w') => mac_any vk (.slice A1 480 C1) key (xs.take 480) w' (hk.below hb) (by rw [h480]; exact hs1.below hb) (by omega) (by rw [h480]; decide))
    obtain ⟨ak, ck, rfl⟩ := shape_of hk
    obtain ⟨nk, hnk⟩ : ∃ nk, nk = key.length := ⟨_, rfl⟩
    rw [← hnk] at HMac ⊢
    obtain ⟨hd, hhd⟩ : ∃ hd, hd = xs.take 480 := ⟨_, rfl⟩
    rw [← hhd] at HMac hs1 h480 ⊢
    obtain ⟨mv, hmv⟩ : ∃ mv, mv = macN key hd := ⟨_, rfl⟩
    have HMl := Lib.hid (show mv.length = 32 by rw [hmv]; exact macN_length _ _)
    rw [← hmv] at HMac ⊢
    have HS := Lib.hid (fun w' (hb : Below w.heap.size w w') => hs1.below hb)
    clear h hk hs hhd hmv hs1 hn hr hnk h480
    go_enter Tryz.func6, Tryz.ntmps6
    go_wp2_with fail
    refine (HMac.out _ (Below.refl _ _)).mono ?_
    rintro e w1 ⟨rfl, hb1⟩
    have HB1 := Lib.hid hb1
    clear hb1
    go_wp2_with (refine store_hash rfl (.tmp 5) (.tmp 13) rfl rfl rfl (heap_alloc_new _ _) rfl HMl.out ?_)
    intro w2 hg2 hf2
    have hbel2 : Below w1.heap.size w1 w2 := ((Below.refl _ w1).alloc (Nat.le_refl _) _).trans (hf2.below (by simp) (fun j hj => by omega))
    have hB2 := HB1.out.trans (hbel2.mono HB1.out.size)
    have hH2 : Sl w2 1 (.slice (some ⟨w1.heap.size, 0, none⟩) 32 32) 32 (mv.map Bv) := sl_row' hg2 rfl (by simp [HMl.out])
    clear hg2 hf2 hbel2
    go_wp2_with fail
    refine wp_region_any (by kernel_rfl) ?_
    refine wpAny_take (i := 1) (v := .slice a 512 c) rfl (by kernel_rfl) (by kernel_rfl) (by kernel_rfl) (fun _ _ _ h => h) (Or.inl ⟨by rfl, fun w => by go_simp⟩) ?_
    refine wpAny_take (i := 2) (v := .slice A1 480 C1) rfl (by kernel_rfl) (by kernel_rfl) (by kernel_rfl) (fun _ _ _ h => h) (Or.inl ⟨by rfl, fun w => by go_simp⟩) ?_
    refine wpAny_take (i := 4) (v := .slice (some ⟨w1.heap.size, 0, none⟩) 32 32) rfl (by kernel_rfl) (by kernel_rfl) (by kernel_rfl) (fun _ _ _ h => h) (Or.inl ⟨by rfl, fun w => by go_simp⟩) ?_
    obtain ⟨wd, hwd⟩ : ∃ wd : World, wd = { w2 with drawn := w2.drawn + 1 } := ⟨_, rfl⟩
    have hd2 : Below w2.heap.size w2 wd := by rw [hwd]; exact (Below.refl _ w2).drew
    have hBd := hB2.trans (hd2.mono hB2.size)
    have hHd := hH2.below hd2
    rw [← hwd]
    clear hwd hd2 hB2 hH2
    refine wpAny_forced 0 (by kernel_rfl) rfl rfl (fun K hK => ?_)
    unfold Oper.wp execOp
    go_simp
    refine hK _ _ ?_
    clear hK K
    have hal : Below wd.heap.size wd (wd.alloc (.cells #[] 5)) := (Below.refl _ wd).alloc (Nat.le_refl _) _
    have ho := own_empty wd
    have hBa := hBd.trans (hal.mono hBd.size)
    have hHa := hHd.below hal
    refine wpAny_forced 3 (by kernel_rfl) rfl rfl (fun K hK => ?_)
    refine step_append_u8 (.tmp 14) (.tmp 16) rfl ho (HS.out _ hBa) rfl rfl (by decide) (by simp) ?_
    intro aC cC w3 hoC hfC _
    have hbC : Below wd.heap.size wd w3 := hal.trans (hfC.below hal.size (fun k hk => (ho.lt k hk).1))
    have hB3 := hBd.trans (hbC.mono hBd.size)
    have hH3 := hHd.below hbC
    have hs3 := hbC.size
    refine hK _ _ ?_
    clear hK K
    rw [List.nil_append] at hoC
    refine wpAny_forced 5 (by kernel_rfl) rfl rfl (fun K hK => ?_)
    refine step_append_u8 (.tmp 17) (.tmp 18) rfl hoC hH3 rfl rfl (by decide) hs3 ?_
    intro aD cD w4 hoD hfD _
    have hB4 := hB3.trans (hfD.below hB3.size (fun k hk => by have := (hoC.lt k hk).1; have := hBd.size; omega))
    refine hK _ _ ?_
    clear hK K
    refine wpAny_forced 6 (by kernel_rfl) rfl rfl (fun K hK => ?_)
    unfold Oper.wp execOp
    go_simp
    refine hK _ _ ?_
    clear hK K
    refine ⟨by kernel_rfl, ?_⟩
    have HOut := Lib.hid (show Sl w4 1 (.slice aD 512 cD) 512 ((hd ++ mv).map Bv) from Sl.own hoD)
    have HB := Lib.hid hB4
    clear hoD hfD hB4 hoC hfC hbC hB3 hH3 hs3 hBa hHa hal ho hBd hHd q1
    go_wp2_with fail
    go_ret
    exact ⟨_, _, rfl, HOut.out, HB.out⟩
  · have hs : sealB key xs = xs := by unfold sealB; rw [if_neg (by omega)]
    rw [hs]
    obtain ⟨a, c, rfl⟩ := shape_of h
    have m1 : ((n : Int) != 512) = true := by simp; omega
    have HS := Lib.hid h
    clear h hk hs hn hl hr
    go_enter Tryz.func6, Tryz.ntmps6
    go_wp2
    go_ret
    exact ⟨_, _, rfl, HS.out, Below.refl _ _⟩
set_option maxRecDepth 100000 in
set_option maxHeartbeats 8000000 in
theorem uberGets_any (vk v : Value) (key xs : List UInt8) (own : Bool) (w : World) (hk : Sl w 1 vk key.length (key.map Bv)) (h : Sl w 1 v xs.length (xs.map Bv)) (hr : key.length ≤ 140737488351232) (hr2 : xs.length ≤ 140737488351232) :
    Calls Tryz.prog 3 #[vk, v, .bool own] w fun e w' => e = .returned (.bool true) ∧ Below w.heap.size w w' := by
  obtain ⟨n, hn⟩ : ∃ n, n = key.length := ⟨_, rfl⟩
  obtain ⟨m, hm⟩ : ∃ m, m = xs.length := ⟨_, rfl⟩
  have HK := Lib.hid (fun w' (hb : Below w.heap.size w w') => hk.below hb)
  have HX := Lib.hid (fun w' (hb : Below w.heap.size w w') => h.below hb)
  obtain ⟨ak, ck, rfl⟩ := shape_of hk
  obtain ⟨ax, cx, rfl⟩ := shape_of h
  have HN := Lib.hid hn
  have HMm := Lib.hid hm
  rw [← hn] at hr HK ⊢
  rw [← hm] at hr2 HX ⊢
  clear hk h hn hm
  go_enter Tryz.func3, Tryz.ntmps3
  go_wp2_with fail
  refine (alive10 _).mono ?_
  rintro e w1 ⟨rfl, hb1⟩
  have HB1 := Lib.hid hb1
  clear hb1
  by_cases h200 : 200 < n
  · have m1 : decide ((200 : Int) < (n : Int)) = true := by simp; omega
    clear h200
    go_wp2
    go_ret
    exact ⟨rfl, HB1.out⟩
  · have m1 : decide ((200 : Int) < (n : Int)) = false := by simp; omega
    by_cases h600 : 600 < m
    · have m2 : decide ((600 : Int) < (m : Int)) = true := by simp; omega
      clear h200 h600
      go_wp2
      go_ret
      exact ⟨rfl, HB1.out⟩
    · have m2 : decide ((600 : Int) < (m : Int)) = false := by simp; omega
      have HGa := Lib.hid (fun v ys w' (hb : Below w.heap.size w w') (h : Sl w' 1 v ys.length (ys.map Bv)) => ubGet_any (.slice ak n ck) v key ys w' (by have := HK.out w' hb; rwa [HN.out] at this ⊢) (by rw [← HN.out]; omega) h)
      have HGb := Lib.hid (fun v ys w' (hb : Below w.heap.size w w') (h : Sl w' 1 v ys.length (ys.map Bv)) => refUbGet_any (.slice ak n ck) v key ys w' (by have := HK.out w' hb; rwa [HN.out] at this ⊢) (by rw [← HN.out]; omega) h)
      have HSe := Lib.hid (fun w' (hb : Below w.heap.size w w') => sealed_any (.slice ak n ck) (.slice ax m cx) key xs m HMm.out w' (by have := HK.out w' hb; rwa [HN.out] at this ⊢) (by rw [← HN.out]; omega) (HX.out w' hb))
      clear h200 h600
      cases own
      case false =>
        have HB2 := Lib.hid HB1.out
        have HY2 := Lib.hid (show Sl w1 1 (.slice ax m cx) xs.length (xs.map Bv) by rw [← HMm.out]; exact HX.out w1 HB1.out)
        go_wp2_with fail
        have hU : (getU key xs).Wf := getU_wf key xs
        obtain ⟨r, hr'⟩ : ∃ r, r = getU key xs := ⟨_, rfl⟩
        obtain ⟨er, her⟩ : ∃ er, er = errU key xs := ⟨_, rfl⟩
        have HGa2 := Lib.hid (HGa.out (.slice ax m cx) xs _ HB2.out HY2.out)
        have HGb2 := Lib.hid (fun w' (hb : Below w1.heap.size w1 w') => HGb.out (.slice ax m cx) xs w' (HB2.out.trans (hb.mono HB2.out.size)) (HY2.out.below hb))
        rw [← hr', ← her] at HGa2 HGb2
        rw [← hr'] at hU
        have HU := Lib.hid hU
        clear hU hr' her HGa HGb
        refine HGa2.out.mono ?_
        rintro e w3 ⟨rfl, hb3⟩
        have HB3 := Lib.hid hb3
        clear hb3
        go_wp2_with (refine store_ub rfl (.tmp 7) (.tmp 29) rfl rfl rfl (heap_alloc_new _ _) rfl HU.out ?_)
        intro w4 hg4 hf4 hs4
        have hbel4 : Below w3.heap.size w3 w4 := ((Below.refl _ w3).alloc (Nat.le_refl _) _).trans (hf4.below (by simp) (fun k hk => by omega))
        have HG4 := Lib.hid hg4
        have HB4 := Lib.hid (HB3.out.trans (hbel4.mono HB3.out.size))
        clear hg4 hf4 hs4 hbel4
        go_wp2_with fail
        refine (HGb2.out _ HB4.out).mono ?_
        rintro e w5 ⟨rfl, hb5⟩
        have HG5 := Lib.hid ((hb5.block _ (lt_of_block HG4.out)).trans HG4.out)
        have HB5 := Lib.hid (HB4.out.trans (hb5.mono HB4.out.size))
        clear hb5
        go_wp2_with (refine store_ub rfl (.tmp 9) (.tmp 35) rfl rfl rfl (heap_alloc_new _ _) rfl HU.out ?_)
        intro w6 hg6 hf6 hs6
        have hbel6 : Below w5.heap.size w5 w6 := ((Below.refl _ w5).alloc (Nat.le_refl _) _).trans (hf6.below (by simp) (fun k hk => by omega))
        have HA6 := Lib.hid (show At w6 w3.heap.size 0 r.cells from At.of_row ((hbel6.block _ (lt_of_block HG5.out)).trans HG5.out))
        have HC6 := Lib.hid (show At w6 w5.heap.size 0 r.cells from At.of_row hg6)
        have HB6 := Lib.hid (HB2.out.trans ((HB5.out.trans (hbel6.mono HB5.out.size)).mono HB2.out.size))
        clear hg6 hf6 hs6 hbel6
        go_wp2_with (first | (refine load_ub rfl (.tmp 7) rfl rfl HA6.out HU.out ?_) | (refine load_ub rfl (.tmp 9) rfl rfl HC6.out HU.out ?_) | (refine eql_ub (u := r) (v := r) rfl (.tmp 37) (.tmp 38) _ rfl rfl rfl HU.out HU.out ?_; rw [decide_eq_true rfl]))
        go_ret
        exact ⟨by simp, HB6.out⟩
      case true =>
        go_wp2_with fail
        refine (HSe.out _ HB1.out).mono ?_
        rintro e w2 ⟨ay, cy, rfl, hy2, hb2⟩
        have HB2 := Lib.hid (HB1.out.trans (hb2.mono HB1.out.size))
        obtain ⟨ys, hys⟩ : ∃ ys, ys = sealB key xs := ⟨_, rfl⟩
        have HY2 := Lib.hid (show Sl w2 1 (.slice ay m cy) ys.length (ys.map Bv) by rw [hys, sealB_length, ← HMm.out]; exact hy2)
        clear hy2 hb2 hys
        go_wp2_with fail
        have hU : (getU key ys).Wf := getU_wf key ys
        obtain ⟨r, hr'⟩ : ∃ r, r = getU key ys := ⟨_, rfl⟩
        obtain ⟨er, her⟩ : ∃ er, er = errU key ys := ⟨_, rfl⟩
        have HGa2 := Lib.hid (HGa.out (.slice ay m cy) ys _ HB2.out HY2.out)
        have HGb2 := Lib.hid (fun w' (hb : Below w2.heap.size w2 w') => HGb.out (.slice ay m cy) ys w' (HB2.out.trans (hb.mono HB2.out.size)) (HY2.out.below hb))
        rw [← hr', ← her] at HGa2 HGb2
        rw [← hr'] at hU
        have HU := Lib.hid hU
        clear hU hr' her HGa HGb
        refine HGa2.out.mono ?_
        rintro e w3 ⟨rfl, hb3⟩
        have HB3 := Lib.hid hb3
        clear hb3
        go_wp2_with (refine store_ub rfl (.tmp 7) (.tmp 29) rfl rfl rfl (heap_alloc_new _ _) rfl HU.out ?_)
        intro w4 hg4 hf4 hs4
        have hbel4 : Below w3.heap.size w3 w4 := ((Below.refl _ w3).alloc (Nat.le_refl _) _).trans (hf4.below (by simp) (fun k hk => by omega))
        have HG4 := Lib.hid hg4
        have HB4 := Lib.hid (HB3.out.trans (hbel4.mono HB3.out.size))
        clear hg4 hf4 hs4 hbel4
        go_wp2_with fail
        refine (HGb2.out _ HB4.out).mono ?_
        rintro e w5 ⟨rfl, hb5⟩
        have HG5 := Lib.hid ((hb5.block _ (lt_of_block HG4.out)).trans HG4.out)
        have HB5 := Lib.hid (HB4.out.trans (hb5.mono HB4.out.size))
        clear hb5
        go_wp2_with (refine store_ub rfl (.tmp 9) (.tmp 35) rfl rfl rfl (heap_alloc_new _ _) rfl HU.out ?_)
        intro w6 hg6 hf6 hs6
        have hbel6 : Below w5.heap.size w5 w6 := ((Below.refl _ w5).alloc (Nat.le_refl _) _).trans (hf6.below (by simp) (fun k hk => by omega))
        have HA6 := Lib.hid (show At w6 w3.heap.size 0 r.cells from At.of_row ((hbel6.block _ (lt_of_block HG5.out)).trans HG5.out))
        have HC6 := Lib.hid (show At w6 w5.heap.size 0 r.cells from At.of_row hg6)
        have HB6 := Lib.hid (HB2.out.trans ((HB5.out.trans (hbel6.mono HB5.out.size)).mono HB2.out.size))
        clear hg6 hf6 hs6 hbel6
        go_wp2_with (first | (refine load_ub rfl (.tmp 7) rfl rfl HA6.out HU.out ?_) | (refine load_ub rfl (.tmp 9) rfl rfl HC6.out HU.out ?_) | (refine eql_ub (u := r) (v := r) rfl (.tmp 37) (.tmp 38) _ rfl rfl rfl HU.out HU.out ?_; rw [decide_eq_true rfl]))
        go_ret
        exact ⟨by simp, HB6.out⟩
end Go.Proofs.YtdmjnopjnaoepaaGreatDoor
namespace Go.Proofs.YtdmjnopjnaoepaaGreatDoor
open Go.ChangeShapes Go.WideShapes Go.ChangeAt Go.RowKit Go.Deep

theorem cells_u8 : Tryz.prog.cellsOf 5 = 1 := by kernel_rfl
theorem cells_bytes : Tryz.prog.cellsOf 22 = 1 := by kernel_rfl
theorem cells_string : Tryz.prog.cellsOf 9 = 1 := by kernel_rfl
theorem cells_int : Tryz.prog.cellsOf 3 = 1 := by kernel_rfl
theorem cells_u64 : Tryz.prog.cellsOf 25 = 1 := by kernel_rfl
theorem cells_hash : Tryz.prog.cellsOf 28 = 32 := by kernel_rfl
theorem bytes_u8 : Tryz.prog.bytesOf 5 = 1 := by kernel_rfl

/-- Every weight of what is read is within the reach. -/
def Light {H : Type} (t : TypeId) (d : DataW H) : Prop := ∀ n ∈ d.weights Tryz.prog t, n ≤ reachBytes

section
variable {H : Type} {enc : TypeId × Value → H} {W : World} {fuel : Nat} {cs : List Value} {x : DataW H × List MemPlace}

theorem open_u8 (h : DataW.trod enc Tryz.prog W 0 (fun _ => true) true fuel 5 cs = some x) : ∃ c : UInt8, cs = [Bv c] := by
  obtain ⟨n, rfl, _, hn⟩ := DataW.trod_int Tryz.underlying5 h
  have b := bounds_u8 hn
  refine ⟨UInt8.ofNat n.toNat, ?_⟩
  rw [Bv, UInt8.toNat_ofNat', Nat.mod_eq_of_lt (by omega), Int.toNat_of_nonneg b.1]

theorem open_bytes (h : DataW.trod enc Tryz.prog W 0 (fun _ => true) true fuel 22 cs = some x) (hl : Light 22 x.1) :
    ∃ (v : Value) (bs : List UInt8), cs = [v] ∧ Sl W 1 v bs.length (bs.map Bv) ∧ bs.length ≤ 140737488351232 := by
  rcases open_ints Tryz.underlying22 Tryz.underlying5 cells_u8 h with ⟨rfl, _⟩ | ⟨a, len, cap, zs, rfl, _, hlc, hm, hz, hx, hcell, hwf⟩
  · exact ⟨_, [], rfl, Sl.nil W 1, by simp⟩
  · simp only [if_true] at hz
    have hreach : len ≤ 140737488351232 := by
      have := hl ((zs.take len).length + (zs.drop len).length) (by
        rw [hx]; simp [DataW.weights, Tryz.underlying22, bytes_u8, lits])
      simp only [List.length_take, List.length_drop, reachBytes] at this
      omega
    refine ⟨_, (zs.take len).map (fun n => UInt8.ofNat n.toNat), rfl, ?_, by simp; omega⟩
    have hll : ((zs.take len).map (fun n => UInt8.ofNat n.toNat)).length = len := by simp; omega
    rw [hll]
    refine ⟨by simp [hz]; omega, some a, cap, rfl, hlc, fun h => (by cases h), fun i u hu => ?_⟩
    have hi : i < len := by have := (List.getElem?_eq_some_iff.1 hu).1; simp at this; omega
    have hzi : i < zs.length := by omega
    have hc := hcell i hzi
    have hsp : a.spot = none := by
      have h0 := hcell 0 (by omega)
      have e0 : a.add 0 = a := by simp [Addr.add]
      rw [e0] at h0
      unfold World.cell? at h0
      split at h0
      · split at h0
        · cases h0
        · rename_i hs; simpa using hs
      · cases h0
    obtain ⟨b, o, sp⟩ := a
    simp only at hsp
    subst hsp
    refine ⟨b, o, rfl, ?_⟩
    rw [Addr.add_lit] at hc
    rw [hc]
    have e : (((zs.take len).map (fun n => UInt8.ofNat n.toNat)).map Bv)[i]? = some (Bv (UInt8.ofNat zs[i].toNat)) := by simp [hi, hzi]
    rw [e] at hu
    rw [← hu]
    have hw := bounds_u8 (hwf zs[i] (List.getElem_mem hzi))
    congr 1
    simp only [List.getD, List.getElem?_eq_getElem hzi, Option.getD_some]
    rw [Bv, UInt8.toNat_ofNat', Nat.mod_eq_of_lt (by omega), Int.toNat_of_nonneg hw.1]

theorem open_hash (h : DataW.trod enc Tryz.prog W 0 (fun _ => true) true fuel 28 cs = some x) : ∃ hs : List UInt8, hs.length = 32 ∧ cs = hs.map Bv := by
  obtain ⟨xs, m, rfl, _, hl, hxl, hi⟩ := DataW.trod_array Tryz.underlying28 h
  rw [cells_hash] at hl
  have each : ∀ i, i < 32 → ∃ c : UInt8, cs[i]? = some (Bv c) := by
    intro i hi'
    have h1 := hi i hi'
    rw [cells_u8, List.getElem?_eq_getElem (by omega)] at h1
    obtain ⟨c, hc⟩ := open_u8 h1
    refine ⟨c, ?_⟩
    have : (List.take 1 (List.drop (i * 1) cs))[0]? = some (Bv c) := by rw [hc]; rfl
    simpa using this
  obtain ⟨f, hf⟩ := choose_lt each
  refine ⟨(List.range 32).map f, by simp, ?_⟩
  apply List.ext_getElem?
  intro i
  by_cases h32 : i < 32
  · rw [hf i h32]; simp [h32]
  · rw [List.getElem?_eq_none (by omega)]; simp [h32]
end

end Go.Proofs.YtdmjnopjnaoepaaGreatDoor
namespace Go.Proofs.YtdmjnopjnaoepaaGreatDoor
open Go.ChangeShapes Go.WideShapes Go.ChangeAt Go.RowKit Go.Deep

section
variable {H : Type} {enc : TypeId × Value → H} {W : World} {fuel : Nat} {cs : List Value} {x : DataW H × List MemPlace}

theorem drop_take_one {α : Type} {cs : List α} {i : Nat} {v : α} (h : (cs.drop i).take 1 = [v]) : cs[i]? = some v := by
  have : ((cs.drop i).take 1)[0]? = some v := by rw [h]; rfl
  simpa using this

theorem weights_part {d : DataW H} {t : TypeId} {fs : List TypeId} {ds : List (DataW H)} (hl : ∀ n ∈ DataW.weightsEach Tryz.prog fs ds, n ≤ reachBytes) {j : Nat} (ht : fs[j]? = some t) (hd : ds[j]? = some d) : Light t d :=
  fun n hn => hl n (DataW.weights_mem_each ht hd n hn)

theorem cells?_at {w : World} {b o : Nat} {n : Nat} {cs : List Value} (h : w.cells? 0 ⟨b, o, none⟩ n = some cs) : At w b o cs := by
  obtain ⟨_, hl, hc⟩ := World.cells?_some h
  intro i u hu
  have hi : i < n := by have := (List.getElem?_eq_some_iff.1 hu).1; omega
  have := hc i hi
  rw [Addr.add_lit] at this
  rw [this, hu]

theorem weightsAll_mem {P : Program} {e : TypeId} : ∀ {ds : List (DataW H)} {d : DataW H}, d ∈ ds → ∀ {n : Nat}, n ∈ d.weights P e → n ∈ DataW.weightsAll P e ds
  | d0 :: ds, d, hd, n, hn => by
    simp only [DataW.weightsAll, List.mem_append]
    rcases List.mem_cons.1 hd with rfl | hd
    · exact Or.inl hn
    · exact Or.inr (weightsAll_mem hd hn)

/-- A slice that has an element begins at a plain address. -/
theorem cells?_spot {P : Program} {w : World} {a : Addr} {m n k : Nat} {e : TypeId} {D : Nat → DataW H} {Pl : Nat → List MemPlace}
    (hel : ∀ i, i < m → ∃ cs', w.cells? 0 (a.add (i * k)) k = some cs' ∧ DataW.trod enc P w 0 (fun _ => true) true n e cs' = some (D i, Pl i)) (hm : 0 < m) (hk : 0 < k := by decide) : a.spot = none := by
  obtain ⟨cs', hc, _⟩ := hel 0 hm
  obtain ⟨_, hl, hx⟩ := World.cells?_some hc
  have h0 := hx 0 hk
  have e0 : (a.add (0 * k)).add 0 = a := by simp [Addr.add]
  rw [e0, List.getElem?_eq_getElem (by omega)] at h0
  unfold World.cell? at h0
  split at h0
  · split at h0
    · cases h0
    · rename_i hs; simpa using hs
  · cases h0

end
end Go.Proofs.YtdmjnopjnaoepaaGreatDoor
namespace Go.Proofs.YtdmjnopjnaoepaaGreatDoor
open Go.ChangeShapes Go.WideShapes Go.ChangeAt Go.RowKit Go.Deep

theorem cells_ptr : Tryz.prog.cellsOf 30 = 34 := by kernel_rfl
theorem bytes_ptr : Tryz.prog.bytesOf 30 = 48 := by kernel_rfl
theorem bytes_str : Tryz.prog.bytesOf 9 = 16 := by kernel_rfl
theorem cells_bool : Tryz.prog.cellsOf 4 = 1 := by kernel_rfl
theorem cells_u32 : Tryz.prog.cellsOf 26 = 1 := by kernel_rfl
section
variable {H : Type} {enc : TypeId × Value → H} {W : World} {fuel : Nat} {cs : List Value} {x : DataW H × List MemPlace}

theorem open_str (h : DataW.trod enc Tryz.prog W 0 (fun _ => true) true fuel 9 cs = some x) (hl : Light 9 x.1) : ∃ s : ByteArray, cs = [.string s] ∧ s.size ≤ 140737488351232 := by
  obtain ⟨s, c3, h3, -⟩ := DataW.trod_string Tryz.underlying9 h
  refine ⟨s, c3, ?_⟩
  have := hl s.data.toList.length (by rw [h3]; simp [DataW.weights])
  simpa [reachBytes] using this

set_option maxRecDepth 100000 in
theorem open_pt (h : DataW.trod enc Tryz.prog W 0 (fun _ => true) true fuel 30 cs = some x) : ∃ p : Pt, p.Wf ∧ cs = p.cells := by
  obtain ⟨xs, n, rfl, hx, hlen, hxl, hf⟩ := DataW.trod_struct Tryz.underlying30 h
  rw [cells_ptr] at hlen
  have hxl' : xs.length = 3 := hxl
  have e0 : DataW.trod enc Tryz.prog W 0 (fun _ => true) true n 26 ((cs.drop 0).take (Tryz.prog.cellsOf 26)) = xs[0]? := hf 0 _ rfl
  have e1 : DataW.trod enc Tryz.prog W 0 (fun _ => true) true n 25 ((cs.drop 1).take (Tryz.prog.cellsOf 25)) = xs[1]? := hf 1 _ rfl
  have e2 : DataW.trod enc Tryz.prog W 0 (fun _ => true) true n 28 ((cs.drop 2).take (Tryz.prog.cellsOf 28)) = xs[2]? := hf 2 _ rfl
  rw [cells_u32] at e0
  rw [cells_u64] at e1
  rw [cells_hash] at e2
  match xs, hxl' with
  | [x0, x1, x2], _ =>
  obtain ⟨k0, c0, -, w0⟩ := DataW.trod_int Tryz.underlying26 e0
  obtain ⟨k1, c1, -, w1⟩ := DataW.trod_int Tryz.underlying25 e1
  obtain ⟨hs, hh, c2⟩ := open_hash e2
  have b0 := bounds_u32 w0
  have b1 := bounds_u64 w1
  obtain ⟨n0, rfl⟩ := Int.eq_ofNat_of_zero_le b0.1
  obtain ⟨n1, rfl⟩ := Int.eq_ofNat_of_zero_le b1.1
  refine ⟨⟨n0, n1, hs⟩, ⟨by simp only; omega, by simp only; omega, hh⟩, ?_⟩
  have g0 := drop_take_one c0
  have g1 := drop_take_one c1
  unfold Pt.cells
  apply List.ext_getElem?
  intro i
  rcases i with _ | _ | i
  · simpa using g0
  · simpa using g1
  · simp only [List.getElem?_cons_succ]
    rw [← c2]
    by_cases hi : i < 32
    · rw [List.getElem?_take, if_pos hi, List.getElem?_drop]; congr 1; omega
    · rw [List.getElem?_eq_none (by omega), List.getElem?_eq_none (by simp; omega)]

end
end Go.Proofs.YtdmjnopjnaoepaaGreatDoor
namespace Go.Proofs.YtdmjnopjnaoepaaGreatDoor
open Go.RowKit Go.ChangeShapes Go.WideShapes

theorem cells_ub : Tryz.prog.cellsOf 32 = 36 := by kernel_rfl
section
variable {H : Type} {enc : TypeId × Value → H} {W : World} {fuel : Nat} {cs : List Value} {x : DataW H × List MemPlace}

set_option maxRecDepth 100000 in
theorem open_ub (h : DataW.trod enc Tryz.prog W 0 (fun _ => true) true fuel 32 cs = some x) : ∃ u : Ub, u.Wf ∧ cs = u.cells := by
  obtain ⟨xs, n, rfl, hx, hlen, hxl, hf⟩ := DataW.trod_struct Tryz.underlying32 h
  rw [cells_ub] at hlen
  have hxl' : xs.length = 3 := hxl
  have e0 : DataW.trod enc Tryz.prog W 0 (fun _ => true) true n 25 ((cs.drop 0).take (Tryz.prog.cellsOf 25)) = xs[0]? := hf 0 _ rfl
  have e1 : DataW.trod enc Tryz.prog W 0 (fun _ => true) true n 26 ((cs.drop 1).take (Tryz.prog.cellsOf 26)) = xs[1]? := hf 1 _ rfl
  have e2 : DataW.trod enc Tryz.prog W 0 (fun _ => true) true n 30 ((cs.drop 2).take (Tryz.prog.cellsOf 30)) = xs[2]? := hf 2 _ rfl
  rw [cells_u64] at e0
  rw [cells_u32] at e1
  rw [cells_ptr] at e2
  match xs, hxl' with
  | [x0, x1, x2], _ =>
  obtain ⟨k0, c0, -, w0⟩ := DataW.trod_int Tryz.underlying25 e0
  obtain ⟨k1, c1, -, w1⟩ := DataW.trod_int Tryz.underlying26 e1
  obtain ⟨p, hp, c2⟩ := open_pt e2
  have b0 := bounds_u64 w0
  have b1 := bounds_u32 w1
  obtain ⟨n0, rfl⟩ := Int.eq_ofNat_of_zero_le b0.1
  obtain ⟨n1, rfl⟩ := Int.eq_ofNat_of_zero_le b1.1
  refine ⟨⟨n0, n1, p⟩, ⟨by simp only; omega, by simp only; omega, hp⟩, ?_⟩
  have g0 := drop_take_one c0
  have g1 := drop_take_one c1
  unfold Ub.cells
  apply List.ext_getElem?
  intro i
  rcases i with _ | _ | i
  · simpa using g0
  · simpa using g1
  · simp only [List.getElem?_cons_succ]
    rw [← c2]
    by_cases hi : i < 34
    · rw [List.getElem?_take, if_pos hi, List.getElem?_drop]; congr 1; omega
    · rw [List.getElem?_eq_none (by omega), List.getElem?_eq_none (by rw [List.length_take, List.length_drop]; omega)]
end
section
variable {H : Type} {enc : TypeId × Value → H} {W : World} {fuel : Nat} {cs : List Value} {x : DataW H × List MemPlace}
end

section
variable {H : Type} {enc : TypeId × Value → H} {W : World} {fuel : Nat} {cs : List Value} {x : DataW H × List MemPlace}
end
end Go.Proofs.YtdmjnopjnaoepaaGreatDoor
