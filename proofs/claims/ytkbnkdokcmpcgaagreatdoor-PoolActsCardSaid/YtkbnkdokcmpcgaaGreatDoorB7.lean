/- Walks: aes.table, Block.sum. Walk: aes.Block.mix. Printed by tools/genaesc.py. -/
import Derived.Test.YtkbnkdokcmpcgaaGreatDoorB2
import Derived.Test.YtkbnkdokcmpcgaaGreatDoorB6
namespace Go.Proofs.YtkbnkdokcmpcgaaGreatDoor
open Go.RowKit

theorem info_b256 : (Tryz.prog.info? 314).map (·.size) = some 256 := by kernel_rfl
theorem info_blk : (Tryz.prog.info? 282).map (·.size) = some 16 := by kernel_rfl
theorem info_blks : (Tryz.prog.info? 317).map (·.size) = some 240 := by kernel_rfl
theorem info_key : (Tryz.prog.info? 32).map (·.size) = some 32 := by kernel_rfl

def upB (l : List UInt8) (N n : Nat) : List UInt8 := l.take n ++ zB (N - n)
theorem upB_length (l : List UInt8) (N n : Nat) (h : n ≤ N) (hl : n ≤ l.length) : (upB l N n).length = N := by simp [upB, zB]; omega
theorem upB_zero (l : List UInt8) (N : Nat) : upB l N 0 = zB N := by simp [upB]
theorem upB_all (l : List UInt8) (N : Nat) (h : l.length = N) : upB l N N = l := by simp [upB, zB, ← h]
theorem upB_set (l : List UInt8) (N n : Nat) (x : UInt8) (h : n < N) (hx : l[n]? = some x) : (upB l N n).set n x = upB l N (n + 1) := by
  have hn : n < l.length := (List.getElem?_eq_some_iff.1 hx).1
  have ex : l[n] = x := (List.getElem?_eq_some_iff.1 hx).2
  unfold upB zB
  have hl : (l.take n).length = n := by rw [List.length_take]; omega
  rw [List.set_append_right _ _ (by omega), hl, Nat.sub_self, show N - n = N - (n + 1) + 1 by omega, List.replicate_succ, List.set_cons_zero, List.take_succ_eq_append_getElem hn, ex, List.append_assoc]
  rfl

theorem upB_get (l : List UInt8) (N n : Nat) (h : n < N) (hl : n ≤ l.length) : (upB l N n)[n]? = some 0 := by
  have hl' : (l.take n).length = n := by rw [List.length_take]; omega
  unfold upB zB
  rw [List.getElem?_append_right (by omega), hl', Nat.sub_self, List.getElem?_replicate, if_pos (by omega)]
theorem cell_of_bytes {w : World} {b n : Nat} {l : List UInt8} {x : UInt8} {t : TypeId} (h : w.heap[b]? = some (.cells (l.map Bv).toArray t (0, 0))) (hx : l[n]? = some x) : w.cell? ⟨b, n, none⟩ = some (.int .u8 (x.toNat : Int)) := by
  rw [cell_of_row _ _ n _ _ _ h, List.getElem?_toArray, List.getElem?_map, hx]; rfl
theorem set_bytes {w : World} {b n : Nat} {l l' : List UInt8} {x : UInt8} {t : TypeId} (h : w.heap[b]? = some (.cells (l.map Bv).toArray t (0, 0))) (hx : l.set n x = l') : (w.setCell ⟨b, n, none⟩ (.int .u8 (x.toNat : Int))).heap[b]? = some (.cells (l'.map Bv).toArray t (0, 0)) := by
  have h1 := heap_setCell_same w b n _ _ (Bv x) h
  rwa [List.setIfInBounds_toArray, ← List.map_set, hx] at h1

theorem boxed_any (n : Nat) (hn : n < 256) (w : World) : Calls Tryz.prog 211 #[.int .u8 (n : Int)] w fun e w' => e = .returned (.int .u8 ((boxB (UInt8.ofNat n)).toNat : Int)) ∧ w' = w := by
  have h := box_any (UInt8.ofNat n) w
  rwa [show (UInt8.ofNat n).toNat = n by rw [UInt8.toNat_ofNat']; omega] at h

set_option maxRecDepth 100000 in
set_option maxHeartbeats 4000000 in
theorem table_any (w : World) : Calls Tryz.prog 210 #[.func (.func 211) #[] #[]] w fun e w' => e = .returned (.agg (boxT.map Bv).toArray) ∧ Below w.heap.size w w' := by
  obtain ⟨T, hT⟩ : ∃ T, T = boxT := ⟨_, rfl⟩
  have hTl : T.length = 256 := by rw [hT]; exact boxT_length
  have hTg : ∀ n, n < 256 → T[n]? = some (boxB (UInt8.ofNat n)) := by
    intro n hn
    rw [hT]; have := boxT_get (UInt8.ofNat n)
    rwa [show (UInt8.ofNat n).toNat = n by rw [UInt8.toNat_ofNat']; omega] at this
  rw [← hT]
  have HTl := Lib.hid hTl
  have HTg := Lib.hid hTg
  have HZ0 := Lib.hid (heap_alloc_new w (.cells ((zB 256).map Bv).toArray 314))
  have HB0 := Lib.hid (show Below w.heap.size w (w.alloc (.cells ((zB 256).map Bv).toArray 314)) from (Below.refl _ w).alloc (Nat.le_refl _) _)
  have HBox := Lib.hid boxed_any
  clear hTl hTg hT
  go_enter Tryz.func210, Tryz.ntmps210
  go_wp2
  go_loopw [4] (fun i wr => ∃ n : Nat, n ≤ 256 ∧ i = .int .i64 n ∧ wr.heap[w.heap.size]? = some (.cells ((upB T 256 n).map Bv).toArray 314 (0, 0)) ∧ Below w.heap.size w wr) (fun i _ => 256 - (intOf i).toNat)
  case atStart => exact ⟨0, Nat.zero_le _, rfl, by rw [upB_zero]; exact HZ0.out, HB0.out⟩
  case round =>
    obtain ⟨n, hn, rfl, hg, hf⟩ := hrel
    rcases Nat.lt_or_ge n 256 with hlt | hge
    · have hset := upB_set T 256 n _ hlt (HTg.out n hlt)
      have HSet := Lib.hid hset
      have HG := Lib.hid hg
      have HF := Lib.hid hf
      have hbx := HBox.out n hlt
      obtain ⟨z, hz⟩ : ∃ z, z = boxB (UInt8.ofNat n) := ⟨_, rfl⟩
      rw [← hz] at hbx HSet
      have hfz : wr.frozen? ⟨w.heap.size, n, none⟩ = false := by simp [World.frozen?, hg]
      have hc := cell_of_bytes hg (upB_get T 256 n hlt (by rw [HTl.out]; omega))
      have HBx := Lib.hid hbx
      clear hset hg hf hbx hz
      go_wp2_with fail
      refine (HBx.out _).mono ?_
      rintro e w1 ⟨rfl, rfl⟩
      go_wp2
      go_roundw
      case rel =>
        exact ⟨n + 1, by omega, by go_num, set_bytes HG.out HSet.out, HF.out.trans (((Fr.refl (fun k => k = w.heap.size) w1).set _ n rfl _).below HF.out.size (fun k hk => by omega))⟩
      case measure => simp [intOf]; omega
    · obtain rfl : n = 256 := by omega
      rw [upB_all _ _ HTl.out] at hg
      have HG := Lib.hid hg
      have HAt := Lib.hid (At.of_row hg)
      clear hg
      go_wp2_with (first | (refine wpList_load_at rfl _ (.tmp 2) rfl w.heap.size 0 rfl (T.map Bv) _ HAt.out Tryz.underlying314 rfl (by rw [info_b256]; simp [HTl.out]) ?_) | (refine wpList_store_row rfl _ (.tmp 2) (.tmp 14) rfl w.heap.size rfl (T.map Bv) rfl _ _ HG.out (by simp [HTl.out]) (Bv_oneCell _) (by rw [info_b256]; simp [HTl.out]) ?_; intro w8 hg8 hf8 _))
      exact bodyPost_ret (results_cell_row rfl _ _ _ _ _ _ _ rfl hg8 Tryz.underlying314 rfl (by rw [info_b256]; simp [HTl.out])) rfl ⟨rfl, hf.trans (hf8.below hf.size (fun j hj => by omega))⟩


def sumTo (a b : List UInt8) (n : Nat) : List UInt8 := (sumB a b).take n ++ a.drop n
theorem sumTo_zero (a b : List UInt8) : sumTo a b 0 = a := by simp [sumTo]
theorem sumTo_all (a b : List UInt8) (h : a.length = b.length) : sumTo a b a.length = sumB a b := by
  unfold sumTo
  rw [List.drop_of_length_le (Nat.le_refl _), List.append_nil, List.take_of_length_le (by rw [sumB_length]; omega)]
theorem sumTo_get (a b : List UInt8) (n : Nat) (h : n < a.length) (hb : a.length = b.length) : (sumTo a b n)[n]? = some (gB a n) := by
  have hl : ((sumB a b).take n).length = n := by rw [List.length_take, sumB_length]; omega
  unfold sumTo
  rw [List.getElem?_append_right (by omega), hl, Nat.sub_self, List.getElem?_drop, Nat.add_zero, gB, List.getD_eq_getElem?_getD, List.getElem?_eq_getElem h]; rfl
theorem gB_get (a : List UInt8) (n : Nat) (h : n < a.length) : a[n]? = some (gB a n) := by
  rw [gB, List.getD_eq_getElem?_getD, List.getElem?_eq_getElem h]; rfl
theorem sumTo_set (a b : List UInt8) (n : Nat) (h : n < a.length) (hb : a.length = b.length) : (sumTo a b n).set n (gB a n ^^^ gB b n) = sumTo a b (n + 1) := by
  have hl : ((sumB a b).take n).length = n := by rw [List.length_take, sumB_length]; omega
  unfold sumTo
  have hs : n < (sumB a b).length := by rw [sumB_length]; omega
  have e : (sumB a b)[n] = gB a n ^^^ gB b n := by
    have h1 := List.getElem?_eq_getElem hs
    have h2 : (sumB a b)[n]? = some (gB a n ^^^ gB b n) := by
      unfold sumB
      rw [List.getElem?_zipWith, gB_get a n h, gB_get b n (by omega)]
    rw [h1] at h2; exact Option.some.inj h2
  rw [List.set_append_right _ _ (by omega), hl, Nat.sub_self, List.drop_eq_getElem_cons h, List.set_cons_zero, List.take_succ_eq_append_getElem hs, e, List.append_assoc]
  rfl

theorem al3_0 (w : World) (A B C : Obj) : (((w.alloc A).alloc B).alloc C).heap[w.heap.size]? = some A :=
  ((Below.refl _ ((w.alloc A).alloc B)).alloc (Nat.le_refl _) C).block w.heap.size (by simp only [World.size_alloc]; omega) |>.trans
    (((Below.refl _ (w.alloc A)).alloc (Nat.le_refl _) B).block w.heap.size (by simp only [World.size_alloc]; omega) |>.trans (heap_alloc_new w A))
theorem al3_1 (w : World) (A B C : Obj) : (((w.alloc A).alloc B).alloc C).heap[w.heap.size + 1]? = some B := by
  have h := heap_alloc_new (w.alloc A) B
  rw [World.size_alloc] at h
  exact ((Below.refl _ ((w.alloc A).alloc B)).alloc (Nat.le_refl _) C).block _ (by simp only [World.size_alloc]; omega) |>.trans h
theorem al3_2 (w : World) (A B C : Obj) : (((w.alloc A).alloc B).alloc C).heap[w.heap.size + 1 + 1]? = some C := by
  have h := heap_alloc_new ((w.alloc A).alloc B) C
  rwa [World.size_alloc, World.size_alloc] at h

set_option maxRecDepth 100000 in
set_option maxHeartbeats 4000000 in
theorem sum_block_any (a b : List UInt8) (w : World) (ha : a.length = 16) (hb : b.length = 16) :
    Calls Tryz.prog 213 #[.agg (a.map Bv).toArray, .agg (b.map Bv).toArray] w fun e w' => e = .returned (.agg ((sumB a b).map Bv).toArray) ∧ Below w.heap.size w w' := by
  have HAl := Lib.hid ha
  have HBl := Lib.hid hb
  have HA := Lib.hid (al3_0 w (.cells (a.map Bv).toArray 282) (.cells (b.map Bv).toArray 282) (.cells ((zB 16).map Bv).toArray 282))
  have HB := Lib.hid (al3_1 w (.cells (a.map Bv).toArray 282) (.cells (b.map Bv).toArray 282) (.cells ((zB 16).map Bv).toArray 282))
  have HC := Lib.hid (al3_2 w (.cells (a.map Bv).toArray 282) (.cells (b.map Bv).toArray 282) (.cells ((zB 16).map Bv).toArray 282))
  have HB3 := Lib.hid (show Below w.heap.size w (((w.alloc (.cells (a.map Bv).toArray 282)).alloc (.cells (b.map Bv).toArray 282)).alloc (.cells ((zB 16).map Bv).toArray 282)) from
    (((Below.refl _ w).alloc (Nat.le_refl _) _).alloc (by simp) _).alloc (by simp only [World.size_alloc]; omega) _)
  clear ha hb
  go_enter Tryz.func213, Tryz.ntmps213
  go_wp2
  go_loopw [6] (fun i wr => ∃ n : Nat, n ≤ 16 ∧ i = .int .i64 n ∧ wr.heap[w.heap.size]? = some (.cells ((sumTo a b n).map Bv).toArray 282 (0, 0)) ∧ wr.heap[w.heap.size + 1]? = some (.cells (b.map Bv).toArray 282 (0, 0)) ∧ wr.heap[w.heap.size + 1 + 1]? = some (.cells ((zB 16).map Bv).toArray 282 (0, 0)) ∧ Below w.heap.size w wr) (fun i _ => 16 - (intOf i).toNat)
  case atStart => exact ⟨0, Nat.zero_le _, rfl, by rw [sumTo_zero]; exact HA.out, HB.out, HC.out, HB3.out⟩
  case round =>
    obtain ⟨n, hn, rfl, hg, hgb, hgc, hf⟩ := hrel
    rcases Nat.lt_or_ge n 16 with hlt | hge
    · have hc := cell_of_bytes hg (sumTo_get a b n (by rw [HAl.out]; exact hlt) (HAl.out.trans HBl.out.symm))
      have hd := cell_of_bytes hgb (gB_get b n (by rw [HBl.out]; exact hlt))
      have HSet := Lib.hid (sumTo_set a b n (by rw [HAl.out]; exact hlt) (HAl.out.trans HBl.out.symm))
      have HG := Lib.hid hg
      have HGB := Lib.hid hgb
      have HGC := Lib.hid hgc
      have HF := Lib.hid hf
      have hfz : wr.frozen? ⟨w.heap.size, n, none⟩ = false := by simp [World.frozen?, hg]
      obtain ⟨x, hx⟩ : ∃ x, x = gB a n := ⟨_, rfl⟩
      obtain ⟨y, hy⟩ : ∃ y, y = gB b n := ⟨_, rfl⟩
      rw [← hx] at hc HSet
      rw [← hy] at hd HSet
      have HV := Lib.hid (bx x y)
      clear hg hgb hgc hf hx hy
      go_wp2_with fail
      go_region
      rw [HV.out]
      go_wp2
      go_roundw
      case rel =>
        refine ⟨n + 1, by omega, by go_num, set_bytes HG.out HSet.out, ?_, ?_, (HF.out.setCell (p := ⟨w.heap.size, n, none⟩) (Nat.le_refl _) _).drew⟩
        · exact ((Fr.refl (fun k => k = w.heap.size) wr).set _ n rfl _).block _ (lt_of_block HGB.out) (by omega) |>.trans HGB.out
        · exact ((Fr.refl (fun k => k = w.heap.size) wr).set _ n rfl _).block _ (lt_of_block HGC.out) (by omega) |>.trans HGC.out
      case measure => simp [intOf]; omega
    · obtain rfl : n = 16 := by omega
      have e16 := sumTo_all a b (HAl.out.trans HBl.out.symm)
      rw [HAl.out] at e16
      rw [e16] at hg
      have hsl : (sumB a b).length = 16 := by rw [sumB_length, HAl.out, HBl.out]; rfl
      obtain ⟨sv, hsv⟩ : ∃ sv, sv = sumB a b := ⟨_, rfl⟩
      rw [← hsv] at hg hsl
      have HSv := Lib.hid hsv
      have HG := Lib.hid hg
      have HAt := Lib.hid (At.of_row hg)
      have HGC := Lib.hid hgc
      have HSl := Lib.hid hsl
      clear hg hgb hgc e16 hsv hsl
      go_wp2_with (first | (refine wpList_load_at rfl _ (.tmp 2) rfl w.heap.size 0 rfl (sv.map Bv) _ HAt.out Tryz.underlying282 rfl (by rw [info_blk]; simp [HSl.out]) ?_) | (refine wpList_store_row rfl _ (.tmp 4) (.tmp 18) rfl (w.heap.size + 1 + 1) rfl (sv.map Bv) rfl _ _ HGC.out (by simp [HSl.out, zB]) (Bv_oneCell _) (by rw [info_blk]; simp [HSl.out]) ?_; intro w8 hg8 hf8 _))
      exact bodyPost_ret (results_cell_row rfl _ _ _ _ _ _ _ rfl hg8 Tryz.underlying282 rfl (by rw [info_blk]; simp [HSl.out])) rfl ⟨by rw [← HSv.out], hf.trans (hf8.below hf.size (fun j hj => by omega))⟩

end Go.Proofs.YtkbnkdokcmpcgaaGreatDoor
namespace Go.Proofs.YtkbnkdokcmpcgaaGreatDoor
open Go.RowKit

def mixTo (b : List UInt8) (n : Nat) : List UInt8 := (mixB b).take n ++ b.drop n
theorem mixTo_zero (b : List UInt8) : mixTo b 0 = b := by simp [mixTo]
theorem mixTo_all (b : List UInt8) (h : b.length = 16) : mixTo b 16 = mixB b := by
  unfold mixTo
  rw [List.drop_of_length_le (by omega), List.append_nil, List.take_of_length_le (by rw [mixB_length]; exact Nat.le_refl _)]
theorem mixTo_get (b : List UInt8) (n j : Nat) (hj : n ≤ j) (h : j < 16) (hb : b.length = 16) : (mixTo b n)[j]? = some (gB b j) := by
  have hl : ((mixB b).take n).length = n := by rw [List.length_take, mixB_length]; omega
  unfold mixTo
  rw [List.getElem?_append_right (by omega), hl, List.getElem?_drop, show n + (j - n) = j by omega, gB_get b j (by omega)]
theorem mixTo_set (b : List UInt8) (n : Nat) (h : n < 16) (hb : b.length = 16) : (mixTo b n).set n (mixAt b n) = mixTo b (n + 1) := by
  have hl : ((mixB b).take n).length = n := by rw [List.length_take, mixB_length]; omega
  have hs : n < (mixB b).length := by rw [mixB_length]; exact h
  have e : (mixB b)[n] = mixAt b n := by simp [mixB]
  unfold mixTo
  rw [List.set_append_right _ _ (by omega), hl, Nat.sub_self, List.drop_eq_getElem_cons (by omega), List.set_cons_zero, List.take_succ_eq_append_getElem hs, e, List.append_assoc]
  rfl

theorem al2_0 (w : World) (A B : Obj) : ((w.alloc A).alloc B).heap[w.heap.size]? = some A :=
  ((Below.refl _ (w.alloc A)).alloc (Nat.le_refl _) B).block w.heap.size (by simp only [World.size_alloc]; omega) |>.trans (heap_alloc_new w A)
theorem al2_1 (w : World) (A B : Obj) : ((w.alloc A).alloc B).heap[w.heap.size + 1]? = some B := by
  have h := heap_alloc_new (w.alloc A) B
  rwa [World.size_alloc] at h

set_option maxRecDepth 100000 in
set_option maxHeartbeats 4000000 in
theorem mix_block_any (b : List UInt8) (w : World) (hb : b.length = 16) :
    Calls Tryz.prog 214 #[.agg (b.map Bv).toArray] w fun e w' => e = .returned (.agg ((mixB b).map Bv).toArray) ∧ Below w.heap.size w w' := by
  have HBl := Lib.hid hb
  have HA := Lib.hid (al2_0 w (.cells (b.map Bv).toArray 282) (.cells ((zB 16).map Bv).toArray 282))
  have HC := Lib.hid (al2_1 w (.cells (b.map Bv).toArray 282) (.cells ((zB 16).map Bv).toArray 282))
  have HB2 := Lib.hid (show Below w.heap.size w ((w.alloc (.cells (b.map Bv).toArray 282)).alloc (.cells ((zB 16).map Bv).toArray 282)) from
    ((Below.refl _ w).alloc (Nat.le_refl _) _).alloc (by simp) _)
  clear hb
  go_enter Tryz.func214, Tryz.ntmps214
  go_wp2
  go_loopw [3] (fun ci wr => ∃ c : Nat, c ≤ 16 ∧ c % 4 = 0 ∧ ci = .int .i64 c ∧ wr.heap[w.heap.size]? = some (.cells ((mixTo b c).map Bv).toArray 282 (0, 0)) ∧ wr.heap[w.heap.size + 1]? = some (.cells ((zB 16).map Bv).toArray 282 (0, 0)) ∧ Below w.heap.size w wr) (fun ci _ => 16 - (intOf ci).toNat)
  case atStart => exact ⟨0, Nat.zero_le _, rfl, rfl, by rw [mixTo_zero]; exact HA.out, HC.out, HB2.out⟩
  case round =>
    obtain ⟨c, hc16, hc4, rfl, hg, hgc, hf⟩ := hrel
    rcases Nat.lt_or_ge c 16 with hlt | hge
    · have hc12 : c + 4 ≤ 16 := by omega
      have g0 := cell_of_bytes hg (mixTo_get b c c (by omega) (by omega) HBl.out)
      have g1 := cell_of_bytes hg (mixTo_get b c (c + 1) (by omega) (by omega) HBl.out)
      have g2 := cell_of_bytes hg (mixTo_get b c (c + 2) (by omega) (by omega) HBl.out)
      have g3 := cell_of_bytes hg (mixTo_get b c (c + 3) (by omega) (by omega) HBl.out)
      obtain ⟨x0, hx0⟩ : ∃ x, x = gB b c := ⟨_, rfl⟩
      obtain ⟨x1, hx1⟩ : ∃ x, x = gB b (c + 1) := ⟨_, rfl⟩
      obtain ⟨x2, hx2⟩ : ∃ x, x = gB b (c + 2) := ⟨_, rfl⟩
      obtain ⟨x3, hx3⟩ : ∃ x, x = gB b (c + 3) := ⟨_, rfl⟩
      have HX := Lib.hid (And.intro hx0 (And.intro hx1 (And.intro hx2 hx3)))
      rw [← hx0] at g0
      rw [← hx1] at g1
      rw [← hx2] at g2
      rw [← hx3] at g3
      have HVA := Lib.hid (show bits .xor .u8 (bits .xor .u8 (bits .xor .u8 (x0.toNat : Int) (x1.toNat : Int)) (x2.toNat : Int)) (x3.toNat : Int) = ((x0 ^^^ x1 ^^^ x2 ^^^ x3).toNat : Int) by rw [bx, bx, bx])
      have HG := Lib.hid hg
      have HGC := Lib.hid hgc
      have HF := Lib.hid hf
      clear hg hgc hf hx0 hx1 hx2 hx3
      go_wp2_with fail
      refine wp_region_quiet_tail 18 (by kernel_rfl) (by kernel_rfl) ?_
      simp only [List.take_succ_cons, List.take_zero, List.drop_succ_cons, List.drop_zero]
      repeat (go_big_quiet_step (fail))
      refine wpQuiet_nil ?_
      go_wp2_with fail
      rw [HVA.out]
      obtain ⟨sx, hsx⟩ : ∃ sx, sx = x0 ^^^ x1 ^^^ x2 ^^^ x3 := ⟨_, rfl⟩
      rw [← hsx]
      have HSx := Lib.hid hsx
      clear hsx HVA g0 g1 g2 g3
      go_loopw [33] (fun ii wr => ∃ i : Nat, i ≤ 4 ∧ ii = .int .i64 i ∧ wr.heap[w.heap.size]? = some (.cells ((mixTo b (c + i)).map Bv).toArray 282 (0, 0)) ∧ wr.heap[w.heap.size + 1]? = some (.cells ((zB 16).map Bv).toArray 282 (0, 0)) ∧ Below w.heap.size w wr) (fun ii _ => 4 - (intOf ii).toNat)
      case atStart => exact ⟨0, Nat.zero_le _, rfl, HG.out, HGC.out, HF.out.drew⟩
      case round =>
        clear HG HGC HF
        obtain ⟨i, hi, rfl, hg, hgc, hf⟩ := hrel
        rcases Nat.lt_or_ge i 4 with hlti | hgei
        · have gi := cell_of_bytes hg (mixTo_get b (c + i) (c + i) (Nat.le_refl _) (by omega) HBl.out)
          have hfz : wr.frozen? ⟨w.heap.size, c + i, none⟩ = false := by simp [World.frozen?, hg]
          have hset := mixTo_set b (c + i) (by omega) HBl.out
          have hmx : mixAt b (c + i) = gB b (c + i) ^^^ (sx ^^^ dblB (gB b (c + i) ^^^ gB b (c + (i + 1) % 4))) := by
            unfold mixAt
            rw [show (c + i) / 4 * 4 = c by omega, show (c + i + 1) % 4 = (i + 1) % 4 by omega, HSx.out, HX.out.1, HX.out.2.1, HX.out.2.2.1, HX.out.2.2.2]
          rw [hmx] at hset
          obtain ⟨y, hy⟩ : ∃ y, y = gB b (c + i) := ⟨_, rfl⟩
          rw [← hy] at gi hset
          rcases Nat.lt_or_ge (i + 1) 4 with h3 | h3
          · have gn := cell_of_bytes hg (mixTo_get b (c + i) (c + i + 1) (by omega) (by omega) HBl.out)
            rw [show (i + 1) % 4 = i + 1 by omega, show c + (i + 1) = c + i + 1 by omega] at hset
            obtain ⟨z, hz⟩ : ∃ z, z = gB b (c + i + 1) := ⟨_, rfl⟩
            rw [← hz] at gn hset
            have HD := Lib.hid (show ∀ u, Calls Tryz.prog 220 #[.int .u8 (bits .xor .u8 (y.toNat : Int) (z.toNat : Int))] u fun e w' => e = .returned (.int .u8 ((dblB (y ^^^ z)).toNat : Int)) ∧ w' = u by rw [bx]; exact fun u => double_any (y ^^^ z) u)
            have HV := Lib.hid (show bits .xor .u8 (y.toNat : Int) (bits .xor .u8 (sx.toNat : Int) ((dblB (y ^^^ z)).toNat : Int)) = ((y ^^^ (sx ^^^ dblB (y ^^^ z))).toNat : Int) by rw [bx, bx])
            have HSet := Lib.hid hset
            have HG := Lib.hid hg
            have HGC := Lib.hid hgc
            have HF := Lib.hid hf
            clear hset hg hgc hf hy hz hmx
            go_wp2_with fail
            refine wp_region_quiet_tail 17 (by kernel_rfl) (by kernel_rfl) ?_
            simp only [List.take_succ_cons, List.take_zero, List.drop_succ_cons, List.drop_zero]
            repeat (first | go_big_quiet_step (fail) | (go_big_quiet_want; go_big_quiet_op; apply Exists.intro; refine ⟨?_, ?_⟩; (focus (with_reducible exact HD.out _)); go_big_quiet_on))
            refine wpQuiet_nil ?_
            go_wp2_with fail
            rw [HV.out]
            go_wp2
            go_roundw
            case rel =>
              refine ⟨i + 1, by omega, by go_num, set_bytes HG.out HSet.out, ?_, (HF.out.setCell (p := ⟨w.heap.size, c + i, none⟩) (Nat.le_refl _) _).drew⟩
              exact ((Fr.refl (fun k => k = w.heap.size) wr).set _ (c + i) rfl _).block _ (lt_of_block HGC.out) (by omega) |>.trans HGC.out
            case measure => simp [intOf]; omega
          · rw [show (i + 1) % 4 = 0 by omega, show c + 0 = c from rfl, ← HX.out.1] at hset
            have HD := Lib.hid (show ∀ u, Calls Tryz.prog 220 #[.int .u8 (bits .xor .u8 (y.toNat : Int) (x0.toNat : Int))] u fun e w' => e = .returned (.int .u8 ((dblB (y ^^^ x0)).toNat : Int)) ∧ w' = u by rw [bx]; exact fun u => double_any (y ^^^ x0) u)
            have HV := Lib.hid (show bits .xor .u8 (y.toNat : Int) (bits .xor .u8 (sx.toNat : Int) ((dblB (y ^^^ x0)).toNat : Int)) = ((y ^^^ (sx ^^^ dblB (y ^^^ x0))).toNat : Int) by rw [bx, bx])
            have HSet := Lib.hid hset
            have HG := Lib.hid hg
            have HGC := Lib.hid hgc
            have HF := Lib.hid hf
            clear hset hg hgc hf hy hmx
            go_wp2_with fail
            refine wp_region_quiet_tail 17 (by kernel_rfl) (by kernel_rfl) ?_
            simp only [List.take_succ_cons, List.take_zero, List.drop_succ_cons, List.drop_zero]
            repeat (first | go_big_quiet_step (fail) | (go_big_quiet_want; go_big_quiet_op; apply Exists.intro; refine ⟨?_, ?_⟩; (focus (with_reducible exact HD.out _)); go_big_quiet_on))
            refine wpQuiet_nil ?_
            go_wp2_with fail
            rw [HV.out]
            go_wp2
            go_roundw
            case rel =>
              refine ⟨i + 1, by omega, by go_num, set_bytes HG.out HSet.out, ?_, (HF.out.setCell (p := ⟨w.heap.size, c + i, none⟩) (Nat.le_refl _) _).drew⟩
              exact ((Fr.refl (fun k => k = w.heap.size) wr).set _ (c + i) rfl _).block _ (lt_of_block HGC.out) (by omega) |>.trans HGC.out
            case measure => simp [intOf]; omega
        · obtain rfl : i = 4 := by omega
          have HG := Lib.hid hg
          have HGC := Lib.hid hgc
          have HF := Lib.hid hf
          clear hg hgc hf
          go_wp2
          go_roundw
          case rel => exact ⟨c + 4, by omega, by omega, by go_num, HG.out, HGC.out, HF.out⟩
          case measure => simp [intOf]; omega
    · obtain rfl : c = 16 := by omega
      rw [mixTo_all b HBl.out] at hg
      have hsl := mixB_length b
      obtain ⟨sv, hsv⟩ : ∃ sv, sv = mixB b := ⟨_, rfl⟩
      rw [← hsv] at hg hsl
      have HSv := Lib.hid hsv
      have HG := Lib.hid hg
      have HAt := Lib.hid (At.of_row hg)
      have HGC := Lib.hid hgc
      have HSl := Lib.hid hsl
      clear hg hgc hsv hsl
      go_wp2_with (first | (refine wpList_load_at rfl _ (.tmp 1) rfl w.heap.size 0 rfl (sv.map Bv) _ HAt.out Tryz.underlying282 rfl (by rw [info_blk]; simp [HSl.out]) ?_) | (refine wpList_store_row rfl _ (.tmp 2) (.tmp 64) rfl (w.heap.size + 1) rfl (sv.map Bv) rfl _ _ HGC.out (by simp [HSl.out, zB]) (Bv_oneCell _) (by rw [info_blk]; simp [HSl.out]) ?_; intro w8 hg8 hf8 _))
      exact bodyPost_ret (results_cell_row rfl _ _ _ _ _ _ _ rfl hg8 Tryz.underlying282 rfl (by rw [info_blk]; simp [HSl.out])) rfl ⟨by rw [← HSv.out], hf.trans (hf8.below hf.size (fun j hj => by omega))⟩

end Go.Proofs.YtkbnkdokcmpcgaaGreatDoor
