/- Walk: aes.Seal: a block enciphered. Walks: ctr.put32, Made, block, Stream, Crypt. A device, as data; what memory holds of it. A slice literal of one struct. Over any program. -/
import Derived.Test.YtkbnkdokcmpcgaaGreatDoorB0
import Derived.Test.YtkbnkdokcmpcgaaGreatDoorB6
import Derived.Test.YtkbnkdokcmpcgaaGreatDoorB8
namespace Go.Proofs.YtkbnkdokcmpcgaaGreatDoor
open Go.RowKit

theorem subB_get (b : List UInt8) (n : Nat) (h : n < 16) : (subB b)[n]? = some (boxB (gB b ((n + 4 * (n % 4)) % 16))) := by
  simp [subB, h]
def SeW (w0 : World) (K cur : List UInt8) (T X : Nat) (w : World) : Prop :=
  w.heap[w0.heap.size + 1]? = some (.cells (cur.map Bv).toArray 282 (0, 0)) ∧ w.heap[w0.heap.size + 1 + 1]? = some (.cells ((zB 16).map Bv).toArray 282 (0, 0)) ∧
    w.heap[T]? = some (.cells (boxT.map Bv).toArray 314 (0, 0)) ∧ w.heap[X]? = some (.cells (K.map Bv).toArray 317 (0, 0)) ∧ Below w0.heap.size w0 w
theorem SeW.fr {w0 w w' : World} {K cur : List UInt8} {T X : Nat} {S : Nat → Prop} (h : SeW w0 K cur T X w) (hf : Fr S w w') (h1 : ¬ S (w0.heap.size + 1)) (h2 : ¬ S (w0.heap.size + 1 + 1)) (h3 : ¬ S T) (h4 : ¬ S X) (h5 : ∀ k, S k → w0.heap.size ≤ k) : SeW w0 K cur T X w' :=
  ⟨(hf.block _ (lt_of_block h.1) h1).trans h.1, (hf.block _ (lt_of_block h.2.1) h2).trans h.2.1, (hf.block _ (lt_of_block h.2.2.1) h3).trans h.2.2.1, (hf.block _ (lt_of_block h.2.2.2.1) h4).trans h.2.2.2.1, h.2.2.2.2.trans (hf.below h.2.2.2.2.size h5)⟩
theorem SeW.below {w0 w w' : World} {K cur : List UInt8} {T X : Nat} (h : SeW w0 K cur T X w) (hf : Below w.heap.size w w') : SeW w0 K cur T X w' :=
  h.fr (Fr.of_below (S := fun _ => False) hf) id id id id (fun _ h => h.elim)
theorem SeW.turn {w0 w w' : World} {K cur cur' : List UInt8} {T X : Nat} (h : SeW w0 K cur T X w) (hg : w'.heap[w0.heap.size + 1]? = some (.cells (cur'.map Bv).toArray 282 (0, 0))) (hf : Fr (fun k => k = w0.heap.size + 1) w w') (hT : w0.heap.size + 1 + 1 < T) (hX : w0.heap.size + 1 + 1 < X) : SeW w0 K cur' T X w' :=
  ⟨hg, (hf.block _ (lt_of_block h.2.1) (by omega)).trans h.2.1, (hf.block _ (lt_of_block h.2.2.1) (by omega)).trans h.2.2.1, (hf.block _ (lt_of_block h.2.2.2.1) (by omega)).trans h.2.2.2.1, h.2.2.2.2.trans (hf.below h.2.2.2.2.size (fun k hk => by omega))⟩

set_option maxRecDepth 100000 in
set_option maxHeartbeats 4000000 in
theorem seal_block_any (k b : List UInt8) (w : World) (hk : k.length = 32) (hb : b.length = 16) :
    Calls Tryz.prog 199 #[.agg (k.map Bv).toArray, .agg (b.map Bv).toArray] w fun e w' => e = .returned (.agg ((aesB k b).map Bv).toArray) ∧ Below w.heap.size w w' := by
  have HKl := Lib.hid hk
  have HBl := Lib.hid hb
  have HA := Lib.hid (al3_0 w (.cells (k.map Bv).toArray 32) (.cells (b.map Bv).toArray 282) (.cells ((zB 16).map Bv).toArray 282))
  have HBk := Lib.hid (al3_1 w (.cells (k.map Bv).toArray 32) (.cells (b.map Bv).toArray 282) (.cells ((zB 16).map Bv).toArray 282))
  have HC := Lib.hid (al3_2 w (.cells (k.map Bv).toArray 32) (.cells (b.map Bv).toArray 282) (.cells ((zB 16).map Bv).toArray 282))
  have HB3 := Lib.hid (show Below w.heap.size w (((w.alloc (.cells (k.map Bv).toArray 32)).alloc (.cells (b.map Bv).toArray 282)).alloc (.cells ((zB 16).map Bv).toArray 282)) from
    (((Below.refl _ w).alloc (Nat.le_refl _) _).alloc (by simp) _).alloc (by simp only [World.size_alloc]; omega) _)
  clear hk hb
  have HTab := Lib.hid table_any
  obtain ⟨T0, hT0⟩ : ∃ T, T = boxT := ⟨_, rfl⟩
  rw [← hT0] at HTab
  have HTl := Lib.hid (show T0.length = 256 by rw [hT0]; exact boxT_length)
  have HT0 := Lib.hid hT0
  obtain ⟨K, hK⟩ : ∃ K, K = rkeysB k := ⟨_, rfl⟩
  have HKv := Lib.hid hK
  have HKl2 := Lib.hid (show K.length = 240 by rw [hK]; exact rkeysB_length k HKl.out)
  clear hT0 hK
  go_enter Tryz.func199, Tryz.ntmps199
  go_wp2_with fail
  refine (HTab.out _).mono ?_
  rintro e w1 ⟨rfl, hf1⟩
  have HF1 := Lib.hid (HB3.out.trans (hf1.mono (by simp only [World.size_alloc]; omega)))
  have HA1 := Lib.hid ((hf1.block w.heap.size (by simp only [World.size_alloc]; omega)).trans HA.out)
  have HBk1 := Lib.hid ((hf1.block (w.heap.size + 1) (by simp only [World.size_alloc]; omega)).trans HBk.out)
  have HC1 := Lib.hid ((hf1.block (w.heap.size + 1 + 1) (by simp only [World.size_alloc]; omega)).trans HC.out)
  have hsz1 : w.heap.size + 1 + 1 < w1.heap.size := lt_of_block HC1.out
  clear hf1 HA HBk HC HB3 HTab
  go_wp2_with (first | (refine wpList_store_row rfl _ (.tmp 5) (.tmp 10) rfl w1.heap.size rfl (T0.map Bv) rfl _ _ (heap_alloc_new _ _) (by simp [HTl.out]) (Bv_oneCell _) (by rw [info_b256]; simp [HTl.out]) ?_; intro w2 hg2 hf2 _; have HFr2 := Lib.hid ((Fr.of_below (S := fun k => k = w1.heap.size) ((Below.refl _ w1).alloc (Nat.le_refl _) _)).trans hf2); have HT2 := Lib.hid hg2; have HA2 := Lib.hid (At.of_row ((HFr2.out.block _ (lt_of_block HA1.out) (by omega)).trans HA1.out)); clear hg2 hf2) | (refine wpList_load_at rfl _ (.tmp 2) rfl w.heap.size 0 rfl (k.map Bv) _ HA2.out Tryz.underlying32 rfl (by rw [info_key]; simp [HKl.out]) ?_))
  have HB2 := Lib.hid ((HFr2.out.block _ (lt_of_block HBk1.out) (by omega)).trans HBk1.out)
  have HC2 := Lib.hid ((HFr2.out.block _ (lt_of_block HC1.out) (by omega)).trans HC1.out)
  have HF2 := Lib.hid (HF1.out.trans (HFr2.out.below HF1.out.size (fun k hk => by omega)))
  have hsz2 : w1.heap.size < w2.heap.size := lt_of_block HT2.out
  obtain ⟨T, hT⟩ : ∃ T, T = w1.heap.size := ⟨_, rfl⟩
  rw [← hT] at HT2 hsz1 hsz2 ⊢
  rw [HT0.out] at HT2
  have hex := expand_any k T w2 HKl.out HT2.out
  rw [← HKv.out] at hex
  clear HFr2 HA2 HA1 HBk1 HC1 HF1 hT
  refine hex.mono ?_
  clear hex
  rintro e w3 ⟨rfl, hf3⟩
  have HT3 := Lib.hid ((hf3.block _ (lt_of_block HT2.out)).trans HT2.out)
  have HB3 := Lib.hid ((hf3.block _ (lt_of_block HB2.out)).trans HB2.out)
  have HC3 := Lib.hid ((hf3.block _ (lt_of_block HC2.out)).trans HC2.out)
  have HF3 := Lib.hid (HF2.out.trans (hf3.mono HF2.out.size))
  have hsz3 : T < w3.heap.size := lt_of_block HT3.out
  clear hf3 HT2 HB2 HC2 HF2 hsz2
  have hb0 := @rkeyAt_length K 0 (by rw [HKl2.out]; decide)
  have HK0l := Lib.hid hb0
  clear hb0
  go_wp2_with (first | (refine wpList_store_row rfl _ (.tmp 6) (.tmp 12) rfl w3.heap.size rfl (K.map Bv) rfl _ _ (heap_alloc_new _ _) (by simp [HKl2.out]) (Bv_oneCell _) (by rw [info_blks]; simp [HKl2.out]) ?_; intro w4 hg4 hf4 _; have HFr4 := Lib.hid ((Fr.of_below (S := fun k => k = w3.heap.size) ((Below.refl _ w3).alloc (Nat.le_refl _) _)).trans hf4); have HX4 := Lib.hid hg4; have HB4 := Lib.hid ((HFr4.out.block _ (lt_of_block HB3.out) (by omega)).trans HB3.out); have HAb4 := Lib.hid (At.of_row HB4.out); have HAk4 := Lib.hid (At_part8 HX4.out 0 16); clear hg4 hf4) | (refine wpList_load_at rfl _ (.tmp 3) rfl (w.heap.size + 1) 0 rfl (b.map Bv) _ HAb4.out Tryz.underlying282 rfl (by rw [info_blk]; simp [HBl.out]) ?_) | (refine wpList_load_at rfl _ (.tmp 14) rfl w3.heap.size 0 rfl ((rkeyAt K 0).map Bv) _ HAk4.out Tryz.underlying282 rfl (by rw [info_blk]; simp [HK0l.out]) ?_))
  have HE4 := Lib.hid (show SeW w K b T w3.heap.size w4 from ⟨HB4.out, (HFr4.out.block _ (lt_of_block HC3.out) (by omega)).trans HC3.out, (HFr4.out.block _ (lt_of_block HT3.out) (by omega)).trans HT3.out, HX4.out, HF3.out.trans (HFr4.out.below HF3.out.size (fun k hk => by omega))⟩)
  obtain ⟨X, hX⟩ : ∃ X, X = w3.heap.size := ⟨_, rfl⟩
  have HSz := Lib.hid (show w.heap.size + 1 + 1 < T ∧ T < X by omega)
  rw [← hX] at HE4 ⊢
  clear HFr4 HX4 HB4 HAb4 HAk4 hsz3 hsz1 HF3 HC3 HB3 HT3 hX
  refine (sum_block_any b (rkeyAt K 0) w4 HBl.out HK0l.out).mono ?_
  rintro e w5 ⟨rfl, hf5⟩
  have HE5 := Lib.hid (HE4.out.below hf5)
  obtain ⟨s0, hs0⟩ : ∃ s, s = sumB b (rkeyAt K 0) := ⟨_, rfl⟩
  have HS0 := Lib.hid (show s0 = sealTo K b 0 from hs0)
  have HS0l := Lib.hid (show s0.length = 16 by rw [hs0, sumB_length, HBl.out, HK0l.out]; rfl)
  rw [← hs0]
  clear hf5 HE4 hs0
  go_wp2_with (first | (refine wpList_store_row rfl _ (.tmp 3) (.tmp 16) rfl (w.heap.size + 1) rfl (s0.map Bv) rfl _ _ HE5.out.1 (by simp [HS0l.out, HBl.out]) (Bv_oneCell _) (by rw [info_blk]; simp [HS0l.out]) ?_; intro w6 hg6 hf6 _; have HE6 := Lib.hid (HE5.out.turn hg6 hf6 HSz.out.1 (by have := HSz.out; omega)); clear hg6 hf6))
  rw [HS0.out] at HE6
  clear HE5
  go_loopw [7] (fun ni wr => ∃ n : Nat, n ≤ 14 ∧ ni = .int .i64 ((n : Int) + 1) ∧ SeW w K (sealTo K b n) T X wr) (fun ni _ => 16 - (intOf ni).toNat)
  case atStart => exact ⟨0, by omega, rfl, HE6.out⟩
  case round =>
    clear HE6
    obtain ⟨n, hn, rfl, he⟩ := hrel
    have HE := Lib.hid he
    clear he
    obtain ⟨cur, hcur⟩ : ∃ c, c = sealTo K b n := ⟨_, rfl⟩
    rw [← hcur] at HE
    have HCur := Lib.hid hcur
    have HCl := Lib.hid (show cur.length = 16 by rw [hcur]; exact sealTo_length K b HKl2.out HBl.out n hn)
    clear hcur
    rcases Nat.lt_or_ge n 14 with hlt | hge
    · have HEa := Lib.hid (HE.out.below ((Below.refl _ wr).alloc (Nat.le_refl _) (.cells ((zB 16).map Bv).toArray 282)))
      have HXa := Lib.hid (heap_alloc_new wr (.cells ((zB 16).map Bv).toArray 282))
      have hszx : X < wr.heap.size := lt_of_block HE.out.2.2.2.1
      go_wp2_with fail
      obtain ⟨wo, hwo⟩ : ∃ wo : World, wo = wr := ⟨_, rfl⟩
      rw [← hwo] at HE HEa HXa hszx ⊢
      clear hwo
      obtain ⟨x, hx⟩ : ∃ x, x = wo.heap.size := ⟨_, rfl⟩
      rw [← hx] at HXa hszx ⊢
      have HXsz := Lib.hid (show X < x from hszx)
      clear hszx HE hx
      go_loopw [21] (fun ji wr => ∃ j : Nat, j ≤ 16 ∧ ji = .int .i64 j ∧ wr.heap[x]? = some (.cells ((upB (subB cur) 16 j).map Bv).toArray 282 (0, 0)) ∧ SeW w K cur T X wr) (fun ji _ => 16 - (intOf ji).toNat)
      case atStart => exact ⟨0, Nat.zero_le _, rfl, by rw [upB_zero]; exact HXa.out, HEa.out⟩
      case round =>
        clear HXa HEa
        obtain ⟨j, hj, rfl, hg, he⟩ := hrel
        rcases Nat.lt_or_ge j 16 with hlj | hgj
        · have hsub := subB_get cur j hlj
          have HSet := Lib.hid (upB_set (subB cur) 16 j _ hlj hsub)
          have gc := cell_of_bytes he.1 (gB_get cur ((j + 4 * (j % 4)) % 16) (by rw [HCl.out]; omega))
          have gz := cell_of_bytes hg (upB_get (subB cur) 16 j hlj (by rw [subB_length]; exact hj))
          obtain ⟨y, hy⟩ : ∃ y, y = gB cur ((j + 4 * (j % 4)) % 16) := ⟨_, rfl⟩
          rw [← hy] at HSet gc
          have gx := cell_of_bytes he.2.2.1 (boxT_get y)
          have hfz : wr.frozen? ⟨x, j, none⟩ = false := by simp [World.frozen?, hg]
          have hyl := y.toNat_lt
          have HG := Lib.hid hg
          have HE := Lib.hid he
          clear hg he hy hsub
          go_wp2_with fail
          refine ⟨⟨j + 1, by omega, by go_num, set_bytes HG.out HSet.out, HE.out.fr ((Fr.refl (fun k => k = x) wr).set _ j rfl _) (by have := HXsz.out; have := HSz.out; omega) (by have := HXsz.out; have := HSz.out; omega) (by have := HXsz.out; have := HSz.out; omega) (by have := HXsz.out; omega) (fun k hk => by have := HXsz.out; have := HSz.out; omega)⟩, by simp [intOf]; omega⟩
        · obtain rfl : j = 16 := by omega
          rw [upB_all _ _ (subB_length cur)] at hg
          have HE := Lib.hid he
          clear he
          rcases Nat.lt_or_ge (n + 1) 14 with h13 | h13
          · obtain ⟨sb, hsb⟩ : ∃ s, s = subB cur := ⟨_, rfl⟩
            have HSb := Lib.hid hsb
            have HSbl := Lib.hid (show sb.length = 16 by rw [hsb]; exact subB_length cur)
            rw [← hsb] at hg
            have HXr0 := Lib.hid hg
            have HAt0 := Lib.hid (At.of_row hg)
            clear hg hsb
            go_wp2_with (refine wpList_load_at rfl _ (.tmp 8) rfl x 0 rfl (sb.map Bv) _ HAt0.out Tryz.underlying282 rfl (by rw [info_blk]; simp [HSbl.out]) ?_)
            refine (mix_block_any sb wr HSbl.out).mono ?_
            rintro e w6 ⟨rfl, hf6⟩
            have HE6 := Lib.hid (HE.out.below hf6)
            have HXr6 := Lib.hid ((hf6.block _ (lt_of_block HXr0.out)).trans HXr0.out)
            obtain ⟨xs, hxs⟩ : ∃ s, s = mixB sb := ⟨_, rfl⟩
            have HXv := Lib.hid (show xs = mixB (subB cur) by rw [hxs, HSb.out])
            have HXl := Lib.hid (show xs.length = 16 by rw [hxs]; exact mixB_length sb)
            rw [← hxs]
            clear hf6 HE HXr0 HAt0 hxs
            go_wp2_with (refine wpList_store_row rfl _ (.tmp 8) (.tmp 40) rfl x rfl (xs.map Bv) rfl _ _ HXr6.out (by simp [HXl.out, HSbl.out]) (Bv_oneCell _) (by rw [info_blk]; simp [HXl.out]) ?_; intro w7 hg7 hf7 _; have HXr := Lib.hid hg7; have HE := Lib.hid (HE6.out.fr hf7 (by have := HXsz.out; have := HSz.out; omega) (by have := HXsz.out; have := HSz.out; omega) (by have := HXsz.out; have := HSz.out; omega) (by have := HXsz.out; omega) (fun k hk => by have := HXsz.out; have := HSz.out; omega)); clear hg7 hf7 HXr6 HE6)
            have HXat := Lib.hid (fun w' (hw : ∃ u : Wd w7.heap.size w7, w' = u.to) => (by obtain ⟨u, rfl⟩ := hw; exact u.at (At.of_row HXr.out) : At w' x 0 (xs.map Bv)))
            have hkp := At_part8 HE.out.2.2.2.1 ((n + 1) * 16) 16
            rw [show (K.drop ((n + 1) * 16)).take 16 = rkeyAt K (n + 1) by rw [Nat.mul_comm]; rfl] at hkp
            have HKat := Lib.hid (fun w' (hw : ∃ u : Wd w7.heap.size w7, w' = u.to) => (by obtain ⟨u, rfl⟩ := hw; exact u.at hkp : At w' X ((n + 1) * 16) ((rkeyAt K (n + 1)).map Bv)))
            have HKal := Lib.hid (rkeyAt_length K (n + 1) (by rw [HKl2.out]; omega))
            obtain ⟨s1, hs1⟩ : ∃ s, s = sumB xs (rkeyAt K (n + 1)) := ⟨_, rfl⟩
            have hsm := fun (u : Wd w7.heap.size w7) => Calls.wd u (Nat.le_refl _) (sum_block_any xs (rkeyAt K (n + 1)) u.to HXl.out HKal.out)
            rw [← hs1] at hsm
            have HSm := Lib.hid hsm
            have HS1l := Lib.hid (show s1.length = 16 by rw [hs1, sumB_length, HXl.out, HKal.out]; rfl)
            have HS1 := Lib.hid (show s1 = sealTo K b (n + 1) by
              rw [hs1]
              show _ = sumB (if n + 1 < 14 then mixB (subB (sealTo K b n)) else subB (sealTo K b n)) (rkeyAt K (n + 1))
              rw [if_pos h13, ← HCur.out, HXv.out])
            clear hkp hsm hs1
            refine wp_region_class_tail 5 (C := fun w' => ∃ u : Wd w7.heap.size w7, w' = u.to) (by kernel_rfl) (by kernel_rfl) ⟨⟨{ w7 with drawn := w7.drawn + 1 }, (Below.refl _ w7).drew⟩, rfl⟩ ?_
            simp only [List.take_succ_cons, List.take_zero, List.drop_succ_cons, List.drop_zero]
            repeat (first | (refine wpQuiet_load_at rfl 282 (.tmp 8) rfl x 0 rfl _ _ HXat.out Tryz.underlying282 rfl (by rw [info_blk]; simp [HXl.out]) ?_; simp only [Act.put, sA, sB, sC]) | (refine wpQuiet_load_at rfl 282 (.tmp 43) rfl X ((n + 1) * 16) rfl _ _ HKat.out Tryz.underlying282 rfl (by rw [info_blk]; simp [HKal.out]) ?_; simp only [Act.put, sA, sB, sC]) | go_big_quiet_step (with_reducible exact HSm.out _))
            refine wpQuiet_nil ?_
            rintro _ ⟨⟨w5, hb5⟩, rfl⟩
            have HE5 := Lib.hid (HE.out.below hb5)
            clear hb5
            go_wp2_with (refine wpList_store_row rfl _ (.tmp 3) (.tmp 45) rfl (w.heap.size + 1) rfl (s1.map Bv) rfl _ _ HE5.out.1 (by simp [HS1l.out, HCl.out]) (Bv_oneCell _) (by rw [info_blk]; simp [HS1l.out]) ?_; intro w8 hg8 hf8 _)
            refine ⟨⟨n + 1, by omega, by go_num, ?_⟩, by simp [intOf]; omega⟩
            rw [← HS1.out]
            exact HE5.out.turn hg8 hf8 HSz.out.1 (by have := HSz.out; omega)
          · obtain ⟨xs, hxs⟩ : ∃ s, s = subB cur := ⟨_, rfl⟩
            have HXv := Lib.hid hxs
            have HXl := Lib.hid (show xs.length = 16 by rw [hxs]; exact subB_length cur)
            rw [← hxs] at hg
            have HXr := Lib.hid hg
            clear hg hxs
            go_wp2_with fail
            have HXat := Lib.hid (fun w' (hw : ∃ u : Wd wr.heap.size wr, w' = u.to) => (by obtain ⟨u, rfl⟩ := hw; exact u.at (At.of_row HXr.out) : At w' x 0 (xs.map Bv)))
            have hkp := At_part8 HE.out.2.2.2.1 ((n + 1) * 16) 16
            rw [show (K.drop ((n + 1) * 16)).take 16 = rkeyAt K (n + 1) by rw [Nat.mul_comm]; rfl] at hkp
            have HKat := Lib.hid (fun w' (hw : ∃ u : Wd wr.heap.size wr, w' = u.to) => (by obtain ⟨u, rfl⟩ := hw; exact u.at hkp : At w' X ((n + 1) * 16) ((rkeyAt K (n + 1)).map Bv)))
            have HKal := Lib.hid (rkeyAt_length K (n + 1) (by rw [HKl2.out]; omega))
            obtain ⟨s1, hs1⟩ : ∃ s, s = sumB xs (rkeyAt K (n + 1)) := ⟨_, rfl⟩
            have hsm := fun (u : Wd wr.heap.size wr) => Calls.wd u (Nat.le_refl _) (sum_block_any xs (rkeyAt K (n + 1)) u.to HXl.out HKal.out)
            rw [← hs1] at hsm
            have HSm := Lib.hid hsm
            have HS1l := Lib.hid (show s1.length = 16 by rw [hs1, sumB_length, HXl.out, HKal.out]; rfl)
            have HS1 := Lib.hid (show s1 = sealTo K b (n + 1) by
              rw [hs1]
              show _ = sumB (if n + 1 < 14 then mixB (subB (sealTo K b n)) else subB (sealTo K b n)) (rkeyAt K (n + 1))
              rw [if_neg (Nat.not_lt.2 h13), ← HCur.out, HXv.out])
            clear hkp hsm hs1
            refine wp_region_class_tail 5 (C := fun w' => ∃ u : Wd wr.heap.size wr, w' = u.to) (by kernel_rfl) (by kernel_rfl) ⟨⟨{ wr with drawn := wr.drawn + 1 }, (Below.refl _ wr).drew⟩, rfl⟩ ?_
            simp only [List.take_succ_cons, List.take_zero, List.drop_succ_cons, List.drop_zero]
            repeat (first | (refine wpQuiet_load_at rfl 282 (.tmp 8) rfl x 0 rfl _ _ HXat.out Tryz.underlying282 rfl (by rw [info_blk]; simp [HXl.out]) ?_; simp only [Act.put, sA, sB, sC]) | (refine wpQuiet_load_at rfl 282 (.tmp 43) rfl X ((n + 1) * 16) rfl _ _ HKat.out Tryz.underlying282 rfl (by rw [info_blk]; simp [HKal.out]) ?_; simp only [Act.put, sA, sB, sC]) | go_big_quiet_step (with_reducible exact HSm.out _))
            refine wpQuiet_nil ?_
            rintro _ ⟨⟨w5, hb5⟩, rfl⟩
            have HE5 := Lib.hid (HE.out.below hb5)
            clear hb5
            go_wp2_with (refine wpList_store_row rfl _ (.tmp 3) (.tmp 45) rfl (w.heap.size + 1) rfl (s1.map Bv) rfl _ _ HE5.out.1 (by simp [HS1l.out, HCl.out]) (Bv_oneCell _) (by rw [info_blk]; simp [HS1l.out]) ?_; intro w8 hg8 hf8 _)
            refine ⟨⟨n + 1, by omega, by go_num, ?_⟩, by simp [intOf]; omega⟩
            rw [← HS1.out]
            exact HE5.out.turn hg8 hf8 HSz.out.1 (by have := HSz.out; omega)
    · obtain rfl : n = 14 := by omega
      have HAt := Lib.hid (At.of_row HE.out.1)
      go_wp2_with (first | (refine wpList_load_at rfl _ (.tmp 3) rfl (w.heap.size + 1) 0 rfl (cur.map Bv) _ HAt.out Tryz.underlying282 rfl (by rw [info_blk]; simp [HCl.out]) ?_) | (refine wpList_store_row rfl _ (.tmp 4) (.tmp 46) rfl (w.heap.size + 1 + 1) rfl (cur.map Bv) rfl _ _ HE.out.2.1 (by simp [HCl.out, zB]) (Bv_oneCell _) (by rw [info_blk]; simp [HCl.out]) ?_; intro w8 hg8 hf8 _))
      exact bodyPost_ret (results_cell_row rfl _ _ _ _ _ _ _ rfl hg8 Tryz.underlying282 rfl (by rw [info_blk]; simp [HCl.out])) rfl ⟨by rw [HCur.out, HKv.out]; rfl, HE.out.2.2.2.2.trans (hf8.below HE.out.2.2.2.2.size (fun j hj => by omega))⟩

end Go.Proofs.YtkbnkdokcmpcgaaGreatDoor
namespace Go.Proofs.YtkbnkdokcmpcgaaGreatDoor
open Go.RowKit

theorem over_take {l ys : List UInt8} {o j : Nat} {y : UInt8} (hy : ys[j]? = some y) (hl : o + j < l.length) : (over l o (ys.take j)).set (o + j) y = over l o (ys.take (j + 1)) := by
  have hj : j < ys.length := (List.getElem?_eq_some_iff.1 hy).1
  have ey : ys[j] = y := (List.getElem?_eq_some_iff.1 hy).2
  have ho : (l.take o).length = o := by rw [List.length_take]; omega
  have hyt : (ys.take j).length = j := by rw [List.length_take]; omega
  have hyt2 : (ys.take (j + 1)).length = j + 1 := by rw [List.length_take]; omega
  unfold over
  rw [hyt, hyt2, List.set_append_right _ _ (by omega), ho, Nat.add_sub_cancel_left, List.set_append_right _ _ (by omega), hyt, Nat.sub_self, List.drop_eq_getElem_cons hl, List.set_cons_zero, List.take_succ_eq_append_getElem hj, ey, List.append_assoc]
  rfl
theorem over_get {l ys : List UInt8} {o j : Nat} (hj : j ≤ ys.length) (hl : o + j < l.length) : (over l o (ys.take j))[o + j]? = some (gB l (o + j)) := by
  have ho : (l.take o).length = o := by rw [List.length_take]; omega
  have hyt : (ys.take j).length = j := by rw [List.length_take]; omega
  unfold over
  rw [hyt, List.getElem?_append_right (by omega), ho, Nat.add_sub_cancel_left, List.getElem?_append_right (by omega), hyt, Nat.sub_self, List.getElem?_drop, Nat.add_zero, gB_get l (o + j) hl]
theorem u8_shr (x j : Nat) (hj : j < 4) : Value.int .u8 ((x : Int) / 2 ^ (24 - 8 * j) % 256) = .int .u8 ((UInt8.ofNat (x / 256 ^ (3 - j))).toNat : Int) := by
  have := u8_of x (3 - j)
  rw [show 24 - 8 * j = 8 * (3 - j) by omega, this]; rfl

set_option maxHeartbeats 1000000 in
theorem put32_any (B o m c x : Nat) (l : List UInt8) (t : TypeId) (w : World) (hm : 4 ≤ m) (hl : o + 4 ≤ l.length) (hg : w.heap[B]? = some (.cells (l.map Bv).toArray t (0, 0))) :
    Calls Tryz.prog 147 #[.slice (some ⟨B, o, none⟩) m c, .int .u32 (x : Int)] w fun e w' => e = .returned (.tuple #[]) ∧ w'.heap[B]? = some (.cells ((over l o (putB x 4)).map Bv).toArray t (0, 0)) ∧ Fr (fun k => k = B) w w' := by
  have HG0 := Lib.hid hg
  have HF0 := Lib.hid (Fr.refl (fun k => k = B) w)
  clear hg
  go_enter Tryz.func147, Tryz.ntmps147
  go_wp2_with fail
  go_loopw [5] (fun ji wr => ∃ j : Nat, j ≤ 4 ∧ ji = .int .i64 j ∧ wr.heap[B]? = some (.cells ((over l o ((putB x 4).take j)).map Bv).toArray t (0, 0)) ∧ Fr (fun k => k = B) w wr) (fun ji _ => 4 - (intOf ji).toNat)
  case atStart => exact ⟨0, Nat.zero_le _, rfl, by rw [List.take_zero, show over l o [] = l by simp [over]]; exact HG0.out, HF0.out⟩
  case round =>
    clear HG0 HF0
    obtain ⟨j, hj, rfl, hg, hf⟩ := hrel
    rcases Nat.lt_or_ge j 4 with hlt | hge
    · have hpg := putB_get x 4 j hlt
      have gc := cell_of_bytes hg (over_get (by rw [putB_length]; exact hj) (by omega))
      have hset := over_take (l := l) (o := o) hpg (by omega)
      have hfz : wr.frozen? ⟨B, o + j, none⟩ = false := by simp [World.frozen?, hg]
      have HV := Lib.hid (u8_shr x j hlt)
      rw [show 4 - 1 - j = 3 - j by omega] at hset
      obtain ⟨y, hy⟩ : ∃ y, y = UInt8.ofNat (x / 256 ^ (3 - j)) := ⟨_, rfl⟩
      rw [← hy] at hset HV
      have HSet := Lib.hid hset
      have HG := Lib.hid hg
      have HF := Lib.hid hf
      clear hg hf hset hpg hy
      go_wp2
      go_roundw
      case rel =>
        rw [HV.out]
        exact ⟨j + 1, by omega, by go_num, set_bytes HG.out HSet.out, HF.out.set _ _ rfl _⟩
      case measure => simp [intOf]; omega
    · obtain rfl : j = 4 := by omega
      rw [List.take_of_length_le (by rw [putB_length]; exact Nat.le_refl _)] at hg
      have HG := Lib.hid hg
      have HF := Lib.hid hf
      clear hg hf
      go_wp2
      go_end0
      exact ⟨rfl, HG.out, HF.out⟩

theorem info_nonce : (Tryz.prog.info? 215).map (·.size) = some 12 := by kernel_rfl

theorem over3 (a b c : List UInt8) (ha : a.length = 4) (hb : b.length = 4) (hc : c.length = 4) : over (over (over (zB 12) 0 a) 4 b) 8 c = a ++ b ++ c := by
  obtain ⟨a0, a1, a2, a3, rfl⟩ : ∃ a0 a1 a2 a3, a = [a0, a1, a2, a3] := by
    match a, ha with | [p, q, r, s], _ => exact ⟨p, q, r, s, rfl⟩
  obtain ⟨b0, b1, b2, b3, rfl⟩ : ∃ a0 a1 a2 a3, b = [a0, a1, a2, a3] := by
    match b, hb with | [p, q, r, s], _ => exact ⟨p, q, r, s, rfl⟩
  obtain ⟨c0, c1, c2, c3, rfl⟩ : ∃ a0 a1 a2 a3, c = [a0, a1, a2, a3] := by
    match c, hc with | [p, q, r, s], _ => exact ⟨p, q, r, s, rfl⟩
  rfl
theorem putB_8 (x : Nat) : putB (x / 4294967296) 4 ++ putB x 4 = putB x 8 := by
  have e : ∀ k, x / 4294967296 / 256 ^ k = x / 256 ^ (k + 4) := by
    intro k; rw [Nat.div_div_eq_div_mul, show 4294967296 = 256 ^ 4 from rfl, ← Nat.pow_add, Nat.add_comm]
  simp only [putB, show List.range 4 = [0, 1, 2, 3] from rfl, show List.range 8 = [0, 1, 2, 3, 4, 5, 6, 7] from rfl, List.map_cons, List.map_nil, e]
  rfl
theorem putB_mod (x : Nat) : putB (x % 4294967296) 4 = putB x 4 := by
  unfold putB
  apply List.map_congr_left
  intro j hj
  rw [List.mem_range] at hj
  apply UInt8.toNat_inj.1
  rw [UInt8.toNat_ofNat', UInt8.toNat_ofNat']
  rcases (show j = 0 ∨ j = 1 ∨ j = 2 ∨ j = 3 by omega) with rfl | rfl | rfl | rfl <;> simp only [Nat.reduceSub, Nat.reducePow] <;> omega

set_option maxHeartbeats 1000000 in
theorem made_nonce_any (birth addr : Nat) (w : World) :
    Calls Tryz.prog 116 #[.int .u64 (birth : Int), .int .u32 (addr : Int)] w fun e w' => e = .returned (.agg ((nonceB birth addr).map Bv).toArray) ∧ Below w.heap.size w w' := by
  have HZ := Lib.hid (heap_alloc_new w (.cells ((zB 12).map Bv).toArray 215))
  have HB := Lib.hid (show Below w.heap.size w (w.alloc (.cells ((zB 12).map Bv).toArray 215)) from (Below.refl _ w).alloc (Nat.le_refl _) _)
  have HP := Lib.hid put32_any
  have hp1 := fun u => put32_any w.heap.size 0 12 12 (birth / 4294967296 % 4294967296) (zB 12) 215 u (by decide) (by decide)
  rw [show ((birth / 4294967296 % 4294967296 : Nat) : Int) = (birth : Int) / 4294967296 % 4294967296 by omega, putB_mod] at hp1
  have hp2 := fun u l hl => put32_any w.heap.size 4 8 8 (birth % 4294967296) l 215 u (by decide) hl
  rw [show ((birth % 4294967296 : Nat) : Int) = (birth : Int) % 4294967296 by omega, putB_mod] at hp2
  have hp3 := fun u l hl => put32_any w.heap.size 8 4 4 addr l 215 u (by decide) hl
  have HN := Lib.hid (over3 (putB (birth / 4294967296) 4) (putB birth 4) (putB addr 4) (putB_length _ _) (putB_length _ _) (putB_length _ _))
  rw [putB_8] at HN
  obtain ⟨l1, hl1⟩ : ∃ l, l = over (zB 12) 0 (putB (birth / 4294967296) 4) := ⟨_, rfl⟩
  rw [← hl1] at hp1 HN
  have HL1 := Lib.hid (show l1.length = 12 by rw [hl1]; simp [over, putB_length, zB])
  obtain ⟨l2, hl2⟩ : ∃ l, l = over l1 4 (putB birth 4) := ⟨_, rfl⟩
  have hp2 := fun u => hp2 u l1 (by rw [HL1.out]; decide)
  rw [← hl2] at hp2 HN
  have HL2 := Lib.hid (show l2.length = 12 by rw [hl2]; simp [over, putB_length, HL1.out])
  obtain ⟨l3, hl3⟩ : ∃ l, l = over l2 8 (putB addr 4) := ⟨_, rfl⟩
  have hp3 := fun u => hp3 u l2 (by rw [HL2.out]; decide)
  rw [← hl3] at hp3 HN
  have HL3 := Lib.hid (show l3.length = 12 by rw [hl3]; simp [over, putB_length, HL2.out])
  have HP1 := Lib.hid hp1
  have HP2 := Lib.hid hp2
  have HP3 := Lib.hid hp3
  clear hp1 hp2 hp3 hl1 hl2 hl3
  go_enter Tryz.func116, Tryz.ntmps116
  go_wp2_with fail
  refine (HP1.out _ HZ.out).mono ?_
  rintro e w1 ⟨rfl, hg1, hf1⟩
  have HG1 := Lib.hid hg1
  have HF1 := Lib.hid (HB.out.trans (hf1.below HB.out.size (fun k hk => by omega)))
  clear hg1 hf1
  go_wp2_with fail
  refine (HP2.out _ HG1.out).mono ?_
  rintro e w2 ⟨rfl, hg2, hf2⟩
  have HG2 := Lib.hid hg2
  have HF2 := Lib.hid (HF1.out.trans (hf2.below HF1.out.size (fun k hk => by omega)))
  clear hg2 hf2
  go_wp2_with fail
  refine (HP3.out _ HG2.out).mono ?_
  rintro e w3 ⟨rfl, hg3, hf3⟩
  have HG3 := Lib.hid hg3
  have HAt3 := Lib.hid (At.of_row hg3)
  have HF3 := Lib.hid (HF2.out.trans (hf3.below HF2.out.size (fun k hk => by omega)))
  clear hg3 hf3
  go_wp2_with (first | (refine wpList_load_at rfl _ (.tmp 4) rfl w.heap.size 0 rfl (l3.map Bv) _ HAt3.out Tryz.underlying215 rfl (by rw [info_nonce]; simp [HL3.out]) ?_) | (refine wpList_store_row rfl _ (.tmp 4) (.tmp 17) rfl w.heap.size rfl (l3.map Bv) rfl _ _ HG3.out rfl (Bv_oneCell _) (by rw [info_nonce]; simp [HL3.out]) ?_; intro w8 hg8 hf8 _))
  exact bodyPost_ret (results_cell_row rfl _ _ _ _ _ _ _ rfl hg8 Tryz.underlying215 rfl (by rw [info_nonce]; simp [HL3.out])) rfl ⟨by rw [HN.out]; rfl, HF3.out.trans (hf8.below HF3.out.size (fun j hj => by omega))⟩

theorem al_three (w : World) (A B C : Obj) : Below w.heap.size w (((w.alloc A).alloc B).alloc C) := (((Below.refl _ w).alloc (Nat.le_refl _) _).alloc (by simp) _).alloc (by simp only [World.size_alloc]; omega) _
theorem over_blk (n c : List UInt8) (hn : n.length = 12) (hc : c.length = 4) : over (over (zB 16) 0 n) 12 c = n ++ c := by
  unfold over zB
  rw [List.take_zero, List.nil_append, Nat.zero_add, hn, List.drop_replicate, List.take_left' hn, List.drop_of_length_le (by simp [hn, hc]), List.append_nil]
set_option maxRecDepth 100000 in
set_option maxHeartbeats 1000000 in
theorem nonce_block_any (k n : List UInt8) (i : Nat) (w : World) (hk : k.length = 32) (hn : n.length = 12) :
    Calls Tryz.prog 178 #[.agg (n.map Bv).toArray, .agg (k.map Bv).toArray, .int .u32 (i : Int)] w fun e w' => e = .returned (.agg ((blockB k n i).map Bv).toArray) ∧ Below w.heap.size w w' := by
  have HKl := Lib.hid hk
  have HNl := Lib.hid hn
  have HA := Lib.hid (al3_0 w (.cells (n.map Bv).toArray 215) (.cells (k.map Bv).toArray 32) (.cells ((zB 16).map Bv).toArray 282))
  have HBk := Lib.hid (al3_1 w (.cells (n.map Bv).toArray 215) (.cells (k.map Bv).toArray 32) (.cells ((zB 16).map Bv).toArray 282))
  have HC := Lib.hid (al3_2 w (.cells (n.map Bv).toArray 215) (.cells (k.map Bv).toArray 32) (.cells ((zB 16).map Bv).toArray 282))
  have HB3 := Lib.hid (al_three w (.cells (n.map Bv).toArray 215) (.cells (k.map Bv).toArray 32) (.cells ((zB 16).map Bv).toArray 282))
  have HZ := Lib.hid (heap_alloc_new (((w.alloc (.cells (n.map Bv).toArray 215)).alloc (.cells (k.map Bv).toArray 32)).alloc (.cells ((zB 16).map Bv).toArray 282)) (.cells ((zB 16).map Bv).toArray 282))
  have HBel := Lib.hid ((Below.refl _ (((w.alloc (.cells (n.map Bv).toArray 215)).alloc (.cells (k.map Bv).toArray 32)).alloc (.cells ((zB 16).map Bv).toArray 282))).alloc (Nat.le_refl _) (.cells ((zB 16).map Bv).toArray 282))
  have HSz := Lib.hid (show (((w.alloc (.cells (n.map Bv).toArray 215)).alloc (.cells (k.map Bv).toArray 32)).alloc (.cells ((zB 16).map Bv).toArray 282)).heap.size = w.heap.size + 1 + 1 + 1 by simp)
  rw [HSz.out] at HZ
  have HA4 := Lib.hid ((HBel.out.block _ (lt_of_block HA.out)).trans HA.out)
  have HK4 := Lib.hid ((HBel.out.block _ (lt_of_block HBk.out)).trans HBk.out)
  have HC4 := Lib.hid ((HBel.out.block _ (lt_of_block HC.out)).trans HC.out)
  have HB4 := Lib.hid (HB3.out.trans (HBel.out.mono (by rw [HSz.out]; omega)))
  clear hk hn HA HBk HC HB3 HBel HSz
  go_enter Tryz.func178, Tryz.ntmps178
  go_wp2_with fail
  refine wp_region_quiet_tail 2 (by kernel_rfl) (by kernel_rfl) ?_
  simp only [List.take_succ_cons, List.take_zero, List.drop_succ_cons, List.drop_zero]
  repeat (go_big_quiet_step (fail))
  refine wpQuiet_nil ?_
  go_wp2_with (refine copy_u8 rfl (.tmp 8) (.tmp 9) rfl (g := w.heap.size + 1 + 1 + 1) (cur := zB 16) (t := 282) HZ.out (n := 12) (ys := n) (sl_row' (b := w.heap.size) HA4.out rfl (by simp [HNl.out])) rfl rfl (by decide) ?_; intro w5 hg5 hf5)
  rw [show min 12 16 = 12 from rfl, List.take_of_length_le (by rw [HNl.out]; decide)] at hg5
  have HK5 := Lib.hid ((hf5.block _ (lt_of_block HK4.out) (by omega)).trans HK4.out)
  have HC5 := Lib.hid ((hf5.block _ (lt_of_block HC4.out) (by omega)).trans HC4.out)
  have HB5 := Lib.hid (HB4.out.drew.trans (hf5.below HB4.out.drew.size (fun k hk => by omega)))
  have hob := over_blk n (putB i 4) HNl.out (putB_length _ _)
  obtain ⟨l1, hl1⟩ : ∃ l, l = over (zB 16) 0 n := ⟨_, rfl⟩
  rw [← hl1] at hg5 hob
  have HG5 := Lib.hid hg5
  have hp := put32_any (w.heap.size + 1 + 1 + 1) 12 4 4 i l1 282 w5 (by decide) (by rw [hl1]; simp [over, zB, HNl.out]) HG5.out
  rw [hob] at hp
  obtain ⟨blk, hblk⟩ : ∃ b, b = n ++ putB i 4 := ⟨_, rfl⟩
  rw [← hblk] at hp
  have HBl := Lib.hid (show blk.length = 16 by rw [hblk]; simp [HNl.out, putB_length])
  have HBlk := Lib.hid hblk
  have HP := Lib.hid hp
  clear hg5 hf5 hob hl1 hp hblk HZ HA4 HK4 HC4 HB4
  go_wp2_with fail
  refine HP.out.mono ?_
  rintro e w6 ⟨rfl, hg6, hf6⟩
  have HBa6 := Lib.hid (At.of_row hg6)
  have HKa6 := Lib.hid (At.of_row ((hf6.block _ (lt_of_block HK5.out) (by omega)).trans HK5.out))
  have HC6 := Lib.hid ((hf6.block _ (lt_of_block HC5.out) (by omega)).trans HC5.out)
  have HB6 := Lib.hid (HB5.out.trans (hf6.below HB5.out.size (fun k hk => by omega)))
  clear hg6 hf6
  go_wp2_with (first | (refine wpList_load_at rfl _ (.tmp 4) rfl (w.heap.size + 1) 0 rfl (k.map Bv) _ HKa6.out Tryz.underlying32 rfl (by rw [info_key]; simp [HKl.out]) ?_) | (refine wpList_load_at rfl _ (.tmp 7) rfl (w.heap.size + 1 + 1 + 1) 0 rfl (blk.map Bv) _ HBa6.out Tryz.underlying282 rfl (by rw [info_blk]; simp [HBl.out]) ?_))
  refine (seal_block_any k blk _ HKl.out HBl.out).mono ?_
  rintro e w7 ⟨rfl, hf7⟩
  have HC7 := Lib.hid ((hf7.block _ (lt_of_block HC6.out)).trans HC6.out)
  have HB7 := Lib.hid (HB6.out.trans (hf7.mono HB6.out.size))
  obtain ⟨r, hr⟩ : ∃ r, r = aesB k blk := ⟨_, rfl⟩
  have HRl := Lib.hid (show r.length = 16 by rw [hr]; exact aesB_length _ _ HKl.out HBl.out)
  rw [← hr]
  have HR := Lib.hid (show r = blockB k n i by rw [hr, HBlk.out]; rfl)
  clear hf7 hr
  go_wp2_with (refine wpList_store_row rfl _ (.tmp 6) (.tmp 16) rfl (w.heap.size + 1 + 1) rfl (r.map Bv) rfl _ _ HC7.out (by simp [HRl.out, zB]) (Bv_oneCell _) (by rw [info_blk]; simp [HRl.out]) ?_; intro w8 hg8 hf8 _)
  exact bodyPost_ret (results_cell_row rfl _ _ _ _ _ _ _ rfl hg8 Tryz.underlying282 rfl (by rw [info_blk]; simp [HRl.out])) rfl ⟨by rw [HR.out], HB7.out.trans (hf8.below HB7.out.size (fun j hj => by omega))⟩

theorem streamTo_succ (k n : List UInt8) (i : Nat) : streamTo k n (i + 1) = streamTo k n i ++ blockB k n i := rfl

def StW (w0 : World) (k n : List UInt8) (out : Value) (j : Nat) (w : World) : Prop :=
  w.heap[w0.heap.size]? = some (.cells (k.map Bv).toArray 32 (0, 0)) ∧ w.heap[w0.heap.size + 1]? = some (.cells (n.map Bv).toArray 215 (0, 0)) ∧
    w.ownsRow (w0.heap.size + 1 + 1) 5 1 out (16 * j) ((streamTo k n j).map Bv) ∧ Below w0.heap.size w0 w
theorem StW.fr {w0 w w' : World} {k n : List UInt8} {out : Value} {j : Nat} {S : Nat → Prop} (h : StW w0 k n out j w) (hf : Fr S w w') (h1 : ¬ S w0.heap.size) (h2 : ¬ S (w0.heap.size + 1)) (h3 : ∀ k, out.ownBlock = some k → ¬ S k) (h5 : ∀ k, S k → w0.heap.size ≤ k) : StW w0 k n out j w' :=
  ⟨(hf.block _ (lt_of_block h.1) h1).trans h.1, (hf.block _ (lt_of_block h.2.1) h2).trans h.2.1, h.2.2.1.fr hf h3, h.2.2.2.trans (hf.below h.2.2.2.size h5)⟩

set_option maxRecDepth 100000 in
set_option maxHeartbeats 2000000 in
theorem stream_any (k n : List UInt8) (m : Nat) (w : World) (hk : k.length = 32) (hn : n.length = 12) (hm : m ≤ 65536) :
    Calls Tryz.prog 146 #[.agg (k.map Bv).toArray, .agg (n.map Bv).toArray, .int .i64 0, .int .i64 (m : Int)] w fun e w' => ∃ aa cc, e = .returned (.tuple #[.slice aa m cc, .int .i64 0]) ∧
      w'.ownsRow w.heap.size 5 1 (.slice aa m cc) m (((streamTo k n ((m + 15) / 16)).take m).map Bv) ∧ Below w.heap.size w w' := by
  have HKl := Lib.hid hk
  have HNl := Lib.hid hn
  have HA := Lib.hid (al2_0 w (.cells (k.map Bv).toArray 32) (.cells (n.map Bv).toArray 215))
  have HN := Lib.hid (al2_1 w (.cells (k.map Bv).toArray 32) (.cells (n.map Bv).toArray 215))
  have HB := Lib.hid (show Below w.heap.size w ((w.alloc (.cells (k.map Bv).toArray 32)).alloc (.cells (n.map Bv).toArray 215)) from ((Below.refl _ w).alloc (Nat.le_refl _) _).alloc (by simp) _)
  clear hk hn
  have b1 : decide ((m : Int) < 0) = false := by simp
  have b2 : decide ((65536 : Int) < (m : Int)) = false := by simp; omega
  obtain ⟨i0, hi, hz0, hz1, hz2⟩ := info_parts info_u8
  go_enter Tryz.func146, Tryz.ntmps146
  go_wp2_with (at_make; refine wpList_make_own _ rfl _ _ 26 rfl (w.heap.size + 1 + 1) 5 i0 (.int .u8 0) 1 Tryz.underlying26 hi hz0 hz1 .i64 .i64 ((m : Int) + 32) (m + 32) rfl rfl (by omega) (by rw [hz2]; omega) (by unfold maxLen; omega) (by simp) ?_)
  intro w1 hown hg
  have HW1 := Lib.hid (show StW w k n (.slice (some ⟨w.heap.size + 1 + 1, 0, none⟩) 0 (m + 32)) 0 w1 from by
    have hb := (Below.refl ((w.alloc (.cells (k.map Bv).toArray 32)).alloc (.cells (n.map Bv).toArray 215)).heap.size _).grown hg (Nat.le_refl _) (fun k h => by cases h)
    exact ⟨(hb.block _ (lt_of_block HA.out)).trans HA.out, (hb.block _ (lt_of_block HN.out)).trans HN.out, hown, HB.out.trans (hb.mono (by simp; omega))⟩)
  clear hown hg HA HN HB
  go_wp2_with fail
  go_loopw [10, 12, 13] (fun out ii _ wr => ∃ j : Nat, j ≤ (m + 15) / 16 ∧ ii = .int .u32 j ∧ (∃ a c, out = .slice a (16 * j) c) ∧ StW w k n out j wr) (fun _ ii _ _ => (m + 15) / 16 - (intOf ii).toNat)
  case atStart => exact ⟨0, Nat.zero_le _, rfl, ⟨_, _, rfl⟩, HW1.out⟩
  case round =>
    clear HW1
    obtain ⟨j, hj, rfl, ⟨aj, cj, rfl⟩, hs⟩ := hrel
    rcases Nat.lt_or_ge (16 * j) m with hlt | hge
    · have HNa := Lib.hid (At.of_row hs.2.1)
      have HKa := Lib.hid (At.of_row hs.1)
      have HS := Lib.hid hs
      clear hs
      go_wp2_with (first | (refine wpList_load_at rfl _ (.tmp 5) rfl (w.heap.size + 1) 0 rfl (n.map Bv) _ HNa.out Tryz.underlying215 rfl (by rw [info_nonce]; simp [HNl.out]) ?_) | (refine wpList_load_at rfl _ (.tmp 4) rfl w.heap.size 0 rfl (k.map Bv) _ HKa.out Tryz.underlying32 rfl (by rw [info_key]; simp [HKl.out]) ?_))
      refine (nonce_block_any k n j _ HKl.out HNl.out).mono ?_
      rintro e w2 ⟨rfl, hf2⟩
      have HS2 := Lib.hid (HS.out.fr (Fr.of_below (S := fun _ => False) hf2) id id (fun _ _ => id) (fun _ h => h.elim))
      obtain ⟨bl, hbl⟩ : ∃ b, b = blockB k n j := ⟨_, rfl⟩
      have HBl := Lib.hid (show bl.length = 16 by rw [hbl]; exact blockB_length _ _ _ HKl.out HNl.out)
      rw [← hbl]
      have HBv := Lib.hid hbl
      clear HS HNa HKa hf2 hbl
      go_wp2_with (first | (refine wpList_store_row rfl _ (.tmp 13) (.tmp 47) rfl w2.heap.size rfl (bl.map Bv) rfl _ _ (heap_alloc_new _ _) (by simp [HBl.out]) (Bv_oneCell _) (by rw [info_blk]; simp [HBl.out]) ?_; intro w3 hg3 hf3 _; have HFr3 := Lib.hid ((Fr.of_below (S := fun k => k = w2.heap.size) ((Below.refl _ w2).alloc (Nat.le_refl _) _)).trans hf3); have hsz3 := lt_of_block HS2.out.2.1; have HG3 := Lib.hid hg3; have hsz4 : w2.heap.size < w3.heap.size := lt_of_block hg3; have HS3 := Lib.hid (HS2.out.fr HFr3.out (by omega) (by omega) (fun k hk e => by have := HS2.out.2.2.1.lt k hk; omega) (fun k hk => by omega)); clear hg3 hf3) | (refine append_u8 rfl (.tmp 48) (.tmp 49) rfl HS3.out.2.2.1 (vx := .slice (some ⟨w2.heap.size, 0, none⟩) 16 16) (m := 16) (news := bl) (sl_row' HG3.out rfl (by simp [HBl.out])) rfl rfl (by omega) (by have := HS3.out.2.2.2.size; omega) ?_))
      intro aa cc w4 hown4 hf4 _
      rw [HBv.out, ← List.map_append, ← streamTo_succ] at hown4
      have hb4 := HS3.out.2.2.1.lt
      have HS4 := Lib.hid (show StW w k n (.slice aa (16 * j + 16) cc) (j + 1) w4 from ⟨(hf4.block _ (lt_of_block HS3.out.1) (fun e => by have := hb4 _ e; omega)).trans HS3.out.1, (hf4.block _ (lt_of_block HS3.out.2.1) (fun e => by have := hb4 _ e; omega)).trans HS3.out.2.1, hown4, HS3.out.2.2.2.trans (hf4.below HS3.out.2.2.2.size (fun k hk => by have := hb4 k hk; omega))⟩)
      clear hown4 hf4 HS3 HS2 hb4 HG3 HFr3
      go_wp2_with fail
      refine ⟨⟨j + 1, by omega, by go_num, ⟨_, _, rfl⟩, ?_⟩, by simp [intOf]; omega⟩
      exact HS4.out
    · obtain rfl : j = (m + 15) / 16 := by omega
      obtain ⟨q, hq⟩ : ∃ q, q = (m + 15) / 16 := ⟨_, rfl⟩
      have HQ := Lib.hid hq
      rw [← hq] at hs hge ⊢
      have hsl := (Sl.own hs.2.2.1).cut rfl (Nat.zero_le m) hge
      rw [show (if cj = 0 then aj else aj.map (·.add (0 * 1))) = aj by cases aj <;> simp [Addr.add], Nat.sub_zero, Nat.sub_zero, Nat.zero_mul, Nat.mul_one, List.drop_zero, ← List.map_take] at hsl
      have m1 : min (0 : Int) ((16 * q : Nat) : Int) = 0 := by omega
      have m2 : min (m : Int) ((16 * q : Nat) : Int) = m := by omega
      have hmc : m ≤ cj := by
        obtain ⟨_, _, e, hq2⟩ := (Sl.own hs.2.2.1).len
        simp only [Value.slice.injEq] at e
        omega
      have b3 : decide ((16 : Int) * (q : Int) < (m : Int)) = false := by simp; omega
      have HSl := Lib.hid hsl
      have HS := Lib.hid hs
      clear hs hsl hq hj
      go_wp2_with fail
      refine (clone_any (.slice aj m cj) _ m wr HSl.out (by omega)).mono ?_
      rintro e w5 ⟨aa, cc, rfl, hown5, hf5⟩
      have HO5 := Lib.hid hown5
      have HF5 := Lib.hid (HS.out.2.2.2.trans (hf5.mono HS.out.2.2.2.size))
      have hszw := HS.out.2.2.2.size
      clear hown5 hf5 HS HSl
      go_wp2
      go_ret2
      exact ⟨_, _, rfl, by rw [← HQ.out]; exact HO5.out.base hszw, HF5.out⟩

set_option maxRecDepth 100000 in
set_option maxHeartbeats 2000000 in
theorem crypt_any (k n b : List UInt8) (v : Value) (w : World) (hk : k.length = 32) (hn : n.length = 12) (hb : b.length ≤ 65536) (hv : Sl w 1 v b.length (b.map Bv)) :
    Calls Tryz.prog 115 #[.agg (k.map Bv).toArray, .agg (n.map Bv).toArray, v] w fun e w' => ∃ aa cc, e = .returned (.tuple #[.slice aa b.length cc, .int .i64 0]) ∧
      w'.ownsRow w.heap.size 5 1 (.slice aa b.length cc) b.length ((cryptB k n b).map Bv) ∧ Below w.heap.size w w' := by
  have HKl := Lib.hid hk
  have HNl := Lib.hid hn
  obtain ⟨av, cv, rfl, _⟩ := hv.len
  have HKa := Lib.hid (At.of_row (al2_0 w (.cells (k.map Bv).toArray 32) (.cells (n.map Bv).toArray 215)))
  have HNa := Lib.hid (At.of_row (al2_1 w (.cells (k.map Bv).toArray 32) (.cells (n.map Bv).toArray 215)))
  have hb2 : Below w.heap.size w ((w.alloc (.cells (k.map Bv).toArray 32)).alloc (.cells (n.map Bv).toArray 215)) := ((Below.refl _ w).alloc (Nat.le_refl _) _).alloc (by simp) _
  have HB := Lib.hid hb2
  have HV := Lib.hid (hv.below hb2)
  have HVw := Lib.hid hv
  have hsz2 : ((w.alloc (.cells (k.map Bv).toArray 32)).alloc (.cells (n.map Bv).toArray 215)).heap.size = w.heap.size + 1 + 1 := by simp
  have HSz2 := Lib.hid hsz2
  obtain ⟨m, hm⟩ : ∃ m, m = b.length := ⟨_, rfl⟩
  have HM := Lib.hid hm
  have hm65 : m ≤ 65536 := by rw [hm]; exact hb
  rw [← hm] at HV HVw ⊢
  clear hk hn hv hb2 hsz2 hm hb
  go_enter Tryz.func115, Tryz.ntmps115
  go_wp2_with (first | (refine wpList_load_at rfl _ (.tmp 3) rfl w.heap.size 0 rfl (k.map Bv) _ HKa.out Tryz.underlying32 rfl (by rw [info_key]; simp [HKl.out]) ?_) | (refine wpList_load_at rfl _ (.tmp 4) rfl (w.heap.size + 1) 0 rfl (n.map Bv) _ HNa.out Tryz.underlying215 rfl (by rw [info_nonce]; simp [HNl.out]) ?_))
  refine (stream_any k n m _ HKl.out HNl.out hm65).mono ?_
  rintro e w1 ⟨aa, cc, rfl, hown, hf⟩
  rw [HSz2.out] at hown
  have HF1 := Lib.hid (HB.out.trans (hf.mono (by rw [HSz2.out]; omega)))
  have HV1 := Lib.hid (HV.out.below hf)
  have hszw : w.heap.size + 1 + 1 ≤ w1.heap.size := by have := hf.size; rw [HSz2.out] at this; exact this
  obtain ⟨s, hs⟩ : ∃ s, s = (streamTo k n ((m + 15) / 16)).take m := ⟨_, rfl⟩
  have HS := Lib.hid hs
  have HSl := Lib.hid (show s.length = m by rw [hs, List.length_take, streamTo_length _ _ HKl.out HNl.out]; omega)
  rw [← hs] at hown
  have HO := Lib.hid hown
  clear hown hf HB HV HKa HNa hs
  go_wp2_with fail
  go_loopw [24, 10] (fun ji _ wr => ∃ j : Nat, j ≤ m ∧ ji = .int .i64 j ∧ wr.ownsRow (w.heap.size + 1 + 1) 5 1 (.slice aa m cc) m ((sumTo s b j).map Bv) ∧ Below w.heap.size w wr) (fun ji _ _ => m - (intOf ji).toNat)
  case atStart => exact ⟨0, Nat.zero_le _, rfl, by rw [sumTo_zero]; exact HO.out, HF1.out⟩
  case round =>
    clear HO HF1 HV1
    obtain ⟨j, hj, rfl, ho, hf⟩ := hrel
    have hlen : s.length = b.length := HSl.out.trans HM.out
    rcases Nat.lt_or_ge j m with hlt | hge
    · obtain ⟨g, rfl, hgs⟩ : ∃ g, aa = some ⟨g, 0, none⟩ ∧ w.heap.size ≤ g := by
        rcases ho.2 with ⟨e, _⟩ | ⟨g, cap, cur, e, hb, _⟩
        · simp only [Value.slice.injEq] at e; omega
        · simp only [Value.slice.injEq] at e; exact ⟨g, e.1, by omega⟩
      have hvr := (HVw.out.below hf)
      obtain ⟨_, a', c', e', _, _, hcv⟩ := hvr
      simp only [Value.slice.injEq, true_and] at e'
      obtain ⟨rfl, rfl⟩ := e'
      obtain ⟨vb, vo, rfl, gv⟩ := hcv j (Bv (gB b j)) (by rw [List.getElem?_map, gB_get b j (by rw [← HM.out]; exact hlt)]; rfl)
      have gs : wr.cell? ⟨g, j, none⟩ = some (Bv (gB s j)) := by
        rw [ho.cellAt j (by omega), List.getElem?_map, sumTo_get s b j (by rw [HSl.out]; exact hlt) hlen]; rfl
      have hfz := ho.frozenAt j
      obtain ⟨y, hy⟩ : ∃ y, y = gB s j := ⟨_, rfl⟩
      obtain ⟨z, hz⟩ : ∃ z, z = gB b j := ⟨_, rfl⟩
      have hset := sumTo_set s b j (by rw [HSl.out]; exact hlt) hlen
      rw [← hy] at gs hset
      rw [← hz] at gv hset
      obtain ⟨x, hx⟩ : ∃ x, x = y ^^^ z := ⟨_, rfl⟩
      rw [← hx] at hset
      have HV := Lib.hid (show bits .xor .u8 (y.toNat : Int) (z.toNat : Int) = (x.toNat : Int) by rw [bx, hx])
      unfold Bv at gs gv
      have HSet := Lib.hid hset
      have HO := Lib.hid ho
      have HF := Lib.hid hf
      clear hset hy hz hx ho hf hcv hlen
      go_wp2_with fail
      go_region
      rw [HV.out]
      go_wp2
      go_roundw
      case rel =>
        refine ⟨j + 1, by omega, by go_num, ?_, (HF.out.setCell (p := ⟨g, j, none⟩) hgs _).drew⟩
        have h2 := (HO.out.stored j (.int .u8 (x.toNat : Int))).1
        rw [show (.int .u8 (x.toNat : Int) : Value) = Bv x from rfl, ← List.map_set, HSet.out] at h2
        exact h2
      case measure => simp [intOf]; omega
    · obtain rfl : j = m := by omega
      have hall := sumTo_all s b hlen
      rw [HSl.out] at hall
      rw [hall] at ho
      have HO := Lib.hid ho
      have HF := Lib.hid hf
      clear ho hf hlen hall
      go_wp2
      go_ret2
      refine ⟨_, _, rfl, ?_, HF.out⟩
      have e : cryptB k n b = sumB s b := by unfold cryptB; rw [← HM.out, ← HS.out]
      rw [e]
      exact HO.out.base (by omega)

end Go.Proofs.YtkbnkdokcmpcgaaGreatDoor
namespace Go.Proofs.YtkbnkdokcmpcgaaGreatDoor
open Go.RowKit

def lastI (ws : List (Nat × List UInt8)) (a : Nat) : Option Nat := (List.range ws.length).reverse.find? fun i => decide ((ws.getD i (0, [])).1 = a)
theorem getD_append_lt {α : Type} (l m : List α) (i : Nat) {z : α} (h : i < l.length) : (l ++ m).getD i z = l.getD i z := by
  rw [List.getD_eq_getElem?_getD, List.getD_eq_getElem?_getD, List.getElem?_append_left h]
theorem find_congr {α : Type} {p q : α → Bool} : ∀ l : List α, (∀ x ∈ l, p x = q x) → l.find? p = l.find? q
  | [], _ => rfl
  | x :: l, h => by
    rw [List.find?_cons, List.find?_cons, h x List.mem_cons_self, find_congr l (fun y hy => h y (List.mem_cons_of_mem _ hy))]
theorem lastI_snoc (ws : List (Nat × List UInt8)) (p : Nat × List UInt8) (a : Nat) : lastI (ws ++ [p]) a = if a = p.1 then some ws.length else lastI ws a := by
  unfold lastI
  rw [List.length_append, List.length_singleton, List.range_succ, List.reverse_append, List.reverse_singleton, List.singleton_append, List.find?_cons]
  have e : (ws ++ [p]).getD ws.length (0, []) = p := by simp [List.getD_eq_getElem?_getD]
  rw [e]
  by_cases h : a = p.1
  · rw [if_pos h, show decide (p.1 = a) = true by simp [h]]
  · rw [if_neg h, show decide (p.1 = a) = false by simp [Ne.symm h]]
    refine find_congr _ fun i hi => ?_
    have hi' : i < ws.length := by simpa using hi
    rw [getD_append_lt ws [p] i hi']
theorem lastI_get {ws : List (Nat × List UInt8)} {a i : Nat} (h : lastI ws a = some i) : i < ws.length ∧ (ws.getD i (0, [])).1 = a := by
  unfold lastI at h
  have h1 := List.mem_of_find?_eq_some h
  have h2 := List.find?_some h
  exact ⟨by simpa using h1, by simpa using h2⟩
structure Dv where
  size : Nat
  lies : Nat → List UInt8
  waits : List (Nat × List UInt8)
  left : Int
  down : Bool
def Dv.cur (d : Dv) (a : Nat) : List UInt8 :=
  match lastI d.waits a with
  | some i => (d.waits.getD i (0, [])).2
  | none => d.lies a
def Dv.step (d : Dv) : Dv := { d with down := d.down || decide (d.left = 0), left := if 0 < d.left then d.left - 1 else d.left }
def Dv.wrote (d : Dv) (a : Nat) (b : List UInt8) : Dv := { d with waits := d.waits ++ [(a, b)] }
def Dv.quiet (d : Dv) : Dv := { d with waits := [] }
def Dv.limit (d : Dv) (n : Int) : Dv := { d with left := max n (-1) }
def Dv.new (size : Nat) : Dv := ⟨size, fun _ => zB 512, [], -1, false⟩
def tornB (old b : List UInt8) : List UInt8 := b.take 256 ++ old.drop 256
def crash1 (keep : Nat) (torn : Int) (i : Nat) (p : Nat × List UInt8) (lies : Nat → List UInt8) : Nat → List UInt8 :=
  if (i : Int) = torn then fun c => if c = p.1 then tornB (lies p.1) p.2 else lies c
  else if keep / 2 ^ (i % 64) % 2 = 1 then fun c => if c = p.1 then p.2 else lies c
  else lies
def crashTo (d : Dv) (keep : Nat) (torn : Int) : Nat → Nat → List UInt8
  | 0 => d.lies
  | n + 1 => crash1 keep torn n (d.waits.getD n (0, [])) (crashTo d keep torn n)
def Dv.crashed (d : Dv) (keep : Nat) (torn : Int) : Dv := { d with lies := crashTo d keep torn d.waits.length, waits := [], left := -1, down := false }

theorem Dv.cur_wrote (d : Dv) (a : Nat) (b : List UInt8) (c : Nat) : (d.wrote a b).cur c = if c = a then b else d.cur c := by
  unfold Dv.cur Dv.wrote
  simp only [lastI_snoc]
  by_cases h : c = a
  · simp [h, List.getD_eq_getElem?_getD]
  · simp only [h, if_false]
    cases hq : lastI d.waits c with
    | none => rfl
    | some i => dsimp only; rw [getD_append_lt _ _ _ (lastI_get hq).1]

structure Dv.Wf (d : Dv) : Prop where
  lo : 16 ≤ d.size
  hi : d.size ≤ 4096
  lies : ∀ a, (d.lies a).length = 512
  waits : ∀ p ∈ d.waits, p.1 < d.size ∧ p.2.length = 512
  left : -1 ≤ d.left ∧ d.left ≤ 9223372036854775807
theorem Dv.Wf.wait {d : Dv} (h : d.Wf) {i : Nat} (hi : i < d.waits.length) : (d.waits.getD i (0, [])).2.length = 512 ∧ (d.waits.getD i (0, [])).1 < d.size := by
  have : d.waits.getD i (0, []) = d.waits[i] := by rw [List.getD_eq_getElem?_getD, List.getElem?_eq_getElem hi]; rfl
  rw [this]
  have := h.waits _ (List.getElem_mem hi)
  exact ⟨this.2, this.1⟩
theorem Dv.Wf.cur {d : Dv} (h : d.Wf) (a : Nat) : (d.cur a).length = 512 := by
  unfold Dv.cur
  split
  · rename_i i hi; exact (h.wait (lastI_get hi).1).1
  · exact h.lies a
theorem Dv.Wf.new {size : Nat} (h1 : 16 ≤ size) (h2 : size ≤ 4096) : (Dv.new size).Wf := ⟨h1, h2, fun _ => List.length_replicate, fun _ h => (List.not_mem_nil h).elim, ⟨by show (-1 : Int) ≤ -1; decide, by show (-1 : Int) ≤ _; decide⟩⟩
theorem Dv.Wf.step {d : Dv} (h : d.Wf) : d.step.Wf := ⟨h.lo, h.hi, h.lies, h.waits, by have := h.left; unfold Dv.step; dsimp only; split <;> omega⟩
theorem Dv.Wf.wrote {d : Dv} (h : d.Wf) {a : Nat} {b : List UInt8} (ha : a < d.size) (hb : b.length = 512) : (d.wrote a b).Wf :=
  ⟨h.lo, h.hi, h.lies, fun p hp => by
    rcases List.mem_append.1 hp with hp | hp
    · exact h.waits p hp
    · rw [List.mem_singleton.1 hp]; exact ⟨ha, hb⟩, h.left⟩
theorem Dv.Wf.quiet {d : Dv} (h : d.Wf) : d.quiet.Wf := ⟨h.lo, h.hi, h.lies, fun p hp => by simp [Dv.quiet] at hp, h.left⟩
theorem Dv.Wf.limit {d : Dv} (h : d.Wf) {n : Int} (hn : n ≤ 9223372036854775807) : (d.limit n).Wf := ⟨h.lo, h.hi, h.lies, h.waits, by unfold Dv.limit; dsimp only; omega⟩
theorem tornB_length {old b : List UInt8} (h1 : old.length = 512) (h2 : b.length = 512) : (tornB old b).length = 512 := by simp [tornB, h1, h2]
theorem crash1_length {keep : Nat} {torn : Int} {i : Nat} {p : Nat × List UInt8} {lies : Nat → List UInt8} (h : ∀ a, (lies a).length = 512) (hp : p.2.length = 512) (a : Nat) : (crash1 keep torn i p lies a).length = 512 := by
  unfold crash1
  split
  · dsimp only; split; (· exact tornB_length (h _) hp); (· exact h a)
  · split
    · dsimp only; split; (· exact hp); (· exact h a)
    · exact h a
theorem Dv.Wf.crashTo {d : Dv} (h : d.Wf) (keep : Nat) (torn : Int) : ∀ n, n ≤ d.waits.length → ∀ a, (crashTo d keep torn n a).length = 512
  | 0, _, a => h.lies a
  | n + 1, hn, a => crash1_length (h.crashTo keep torn n (by omega)) (h.wait (by omega)).1 a
theorem Dv.Wf.crashed {d : Dv} (h : d.Wf) (keep : Nat) (torn : Int) : (d.crashed keep torn).Wf := ⟨h.lo, h.hi, fun a => h.crashTo keep torn _ (Nat.le_refl _) a, fun p hp => by simp [Dv.crashed] at hp, by simp [Dv.crashed]⟩

def SecV (b : List UInt8) : Value := .agg (b.map Bv).toArray
def WrL (p : Nat × List UInt8) : List Value := .int .u32 (p.1 : Int) :: p.2.map Bv
theorem WrL_length {p : Nat × List UInt8} (h : p.2.length = 512) : (WrL p).length = 513 := by simp [WrL, h]
def LieM (ml : List (Nat × Value)) (lies : Nat → List UInt8) : Prop := ∀ a, (getU ml a).getD (SecV (zB 512)) = SecV (lies a)
def LastM (mt : List (Nat × Value)) (ws : List (Nat × List UInt8)) : Prop := ∀ a, getU mt a = (lastI ws a).map fun i => .int .i64 (i : Int)

structure DvAt (w : World) (lo D L T : Nat) (wv : Value) (d : Dv) : Prop where
  row : w.heap[D]? = some (.cells #[.int .i64 (d.size : Int), .map (some L), wv, .map (some T), .int .i64 d.left, .bool d.down] 152 (0, 0))
  lm : ∃ ml, UM w L ml ∧ LieM ml d.lies
  tm : ∃ mt, UM w T mt ∧ LastM mt d.waits
  wt : w.ownsRow lo 158 513 wv d.waits.length (d.waits.map WrL).flatten
  wf : d.Wf
  nDL : D ≠ L
  nDT : D ≠ T
  nLT : L ≠ T
  nD : lo ≤ D
  nL : lo ≤ L
  nT : lo ≤ T
def DvF (D L T : Nat) (wv : Value) (k : Nat) : Prop := k = D ∨ k = L ∨ k = T ∨ wv.ownBlock = some k
def DvIn (w : World) (lo D : Nat) (F : Nat → Prop) (d : Dv) : Prop := ∃ L T wv, DvAt w lo D L T wv d ∧ ∀ k, DvF D L T wv k → F k

theorem DvAt.own_ne {w : World} {lo D L T : Nat} {wv : Value} {d : Dv} (h : DvAt w lo D L T wv d) : ∀ k, wv.ownBlock = some k → k ≠ D ∧ k ≠ L ∧ k ≠ T := by
  intro k hk
  rcases h.wt.2 with ⟨rfl, _⟩ | ⟨g, cap, cur, rfl, _, hg, _, _, hcs, _⟩
  · cases hk
  · obtain rfl : g = k := by simpa [Value.ownBlock] using hk
    obtain ⟨ml, ⟨es, cl, hl, _⟩, _⟩ := h.lm
    obtain ⟨mt, ⟨es', cl', ht, _⟩, _⟩ := h.tm
    refine ⟨fun e => ?_, fun e => ?_, fun e => ?_⟩
    · rw [e, h.row] at hg
      simp only [Option.some.injEq, Obj.cells.injEq] at hg
      have := hg.1
      rw [← this] at hcs
      simp at hcs; omega
    · rw [e, hl] at hg; cases hg
    · rw [e, ht] at hg; cases hg
theorem DvAt.fr {S : Nat → Prop} {w w' : World} {lo D L T : Nat} {wv : Value} {d : Dv} (h : DvAt w lo D L T wv d) (hf : Fr S w w') (hs : ∀ k, DvF D L T wv k → ¬ S k) : DvAt w' lo D L T wv d := by
  obtain ⟨ml, h1, h2⟩ := h.lm
  obtain ⟨mt, h3, h4⟩ := h.tm
  exact ⟨(hf.block _ (lt_of_block h.row) (hs _ (Or.inl rfl))).trans h.row, ⟨ml, h1.fr hf (hs _ (Or.inr (Or.inl rfl))), h2⟩, ⟨mt, h3.fr hf (hs _ (Or.inr (Or.inr (Or.inl rfl)))), h4⟩, h.wt.fr hf (fun k hk => hs k (Or.inr (Or.inr (Or.inr hk)))),
    h.wf, h.nDL, h.nDT, h.nLT, h.nD, h.nL, h.nT⟩
theorem DvIn.fr {S : Nat → Prop} {w w' : World} {lo D : Nat} {F : Nat → Prop} {d : Dv} (h : DvIn w lo D F d) (hf : Fr S w w') (hs : ∀ k, F k → ¬ S k) : DvIn w' lo D F d := by
  obtain ⟨L, T, wv, h1, h2⟩ := h
  exact ⟨L, T, wv, h1.fr hf (fun k hk => hs k (h2 k hk)), h2⟩
theorem DvIn.below {w w' : World} {lo D : Nat} {F : Nat → Prop} {d : Dv} (h : DvIn w lo D F d) (hf : Below w.heap.size w w') : DvIn w' lo D F d := h.fr (Fr.of_below (S := fun _ => False) hf) (fun _ _ => id)
theorem DvAt.lt {w : World} {lo D L T : Nat} {wv : Value} {d : Dv} (h : DvAt w lo D L T wv d) : ∀ k, DvF D L T wv k → k < w.heap.size := by
  rintro k (rfl | rfl | rfl | hk)
  · exact lt_of_block h.row
  · obtain ⟨_, h1, _⟩ := h.lm; exact h1.lt
  · obtain ⟨_, h1, _⟩ := h.tm; exact h1.lt
  · exact (h.wt.lt k hk).2
theorem DvAt.ge {w : World} {lo D L T : Nat} {wv : Value} {d : Dv} (h : DvAt w lo D L T wv d) : ∀ k, DvF D L T wv k → lo ≤ k := by
  rintro k (rfl | rfl | rfl | hk)
  · exact h.nD
  · exact h.nL
  · exact h.nT
  · exact (h.wt.lt k hk).1
theorem DvIn.small {w : World} {lo D : Nat} {F : Nat → Prop} {d : Dv} (h : DvIn w lo D F d) : ∃ F', DvIn w lo D F' d ∧ (∀ k, F' k → F k ∧ k < w.heap.size) ∧ F' D := by
  obtain ⟨L, T, wv, h1, h2⟩ := h
  exact ⟨DvF D L T wv, ⟨L, T, wv, h1, fun _ h => h⟩, fun k hk => ⟨h2 k hk, h1.lt k hk⟩, Or.inl rfl⟩

end Go.Proofs.YtkbnkdokcmpcgaaGreatDoor
namespace Go.Proofs.YtkbnkdokcmpcgaaGreatDoor
open Go.RowKit

theorem set_fold (off : Nat) : ∀ (l : List Value) (k : Nat) (cs : Array Value), off + k + l.length ≤ cs.size →
    ((l.zipIdx k).foldl (fun (cs : Array Value) (x : Value × Nat) => cs.setIfInBounds (off + x.2) x.1) cs).toList = cs.toList.take (off + k) ++ l ++ cs.toList.drop (off + k + l.length)
  | [], k, cs, _ => by simp
  | v :: l, k, cs, h => by
    simp only [List.length_cons] at h
    rw [List.zipIdx_cons, List.foldl_cons, set_fold off l (k + 1) _ (by simp; omega)]
    simp only [Array.toList_setIfInBounds, List.length_cons]
    have hlt : off + k < cs.toList.length := by simp; omega
    rw [show off + (k + 1) = off + k + 1 by omega, List.take_succ_eq_append_getElem (by simpa using hlt), List.take_set_of_le (Nat.le_refl _), List.getElem_set_self, List.drop_set_of_lt (by omega)]
    rw [show off + k + 1 + l.length = off + k + (l.length + 1) by omega]
    simp

theorem fill_one {arr zs : Array Value} (n : Nat) (h : arr.size = n) (hz : zs.size = n) : Instr.fill (fun i => some (i * n, n)) zs [(0, .agg arr)] = some arr := by
  unfold Instr.fill
  simp only [Value.cells, Nat.zero_mul]
  rw [if_neg (by simp [h, hz])]
  unfold Instr.fill
  congr 1
  apply Array.toList_inj.1
  rw [← Array.foldl_toList, Array.toList_zipIdx]
  have e := set_fold 0 arr.toList 0 zs (by simp; omega)
  simp only [Nat.zero_add] at e ⊢
  rw [e]
  simp only [List.take_zero, List.nil_append, Array.length_toList, h]
  rw [List.drop_of_length_le (by simp [hz])]
  simp

theorem build_one {P : Program} {ops : Array Oper} {rest : List Oper} {o : Oper} {a : Act} {w : World} {Q : Exit → Act → World → Prop} (hgd : o.guard = none) (t e : TypeId) (x : Operand) (ho : o.op = .buildSlice t 1 #[(0, x)])
    {arr : Array Value} (hx : a.eval x = .agg arr) (ht : P.underlying t = some (.slice e)) (i : TypeInfo) (z : Value) (n : Nat) (hi : P.info? e = some i) (hz : i.zero = some z) (hsz : i.size = n) (hzs : z.cells.size = n) (hn : arr.size = n) (h0 : 0 < n) (h24 : n < 1000)
    (hK : wpList P ops Q rest (a.put o.dst (.slice (some ⟨w.heap.size, 0, none⟩) 1 1)) (w.alloc (.cells arr e))) : wpList P ops Q (o :: rest) a w := by
  refine wpList_plain hgd fun K hKK => ?_
  have hf := fill_one (arr := arr) (zs := (Array.range (1 * n)).map (z.cells[· % z.cells.size]!)) n hn (by simp)
  have hr : (Instr.buildSlice t 1 #[(0, .agg arr)]).run P w = .ok (.slice (some ⟨w.heap.size, 0, none⟩) 1 1) (w.alloc (.cells arr e)) := by
    unfold Instr.buildSlice
    have hzv : (zeroValue e).run P w = .ok z w := by simp [zeroValue, typeInfo, hi, hz]
    have hso : (sizeOf e).run P w = .ok n w := by simp [sizeOf, typeInfo, hi, hsz]
    rw [Sem.run_bind, run_underlying ht]
    simp only [Result.andThen_ok, Sem.run_bind, hso, Nat.one_mul]
    rw [if_neg (by omega), if_neg (by omega)]
    simp only [Sem.run_bind, hzv, Result.andThen_ok, Sem.run_pure]
    rw [Nat.one_mul] at hf
    simp only [hf]
    simp [newRow]
  unfold Oper.wp execOp
  simp only [ho, List.map_toArray, List.map_cons, List.map_nil, hx, Sem.run_bind, hr, Result.andThen_ok, Sem.run_pure]
  exact hKK _ _ hK

end Go.Proofs.YtkbnkdokcmpcgaaGreatDoor
