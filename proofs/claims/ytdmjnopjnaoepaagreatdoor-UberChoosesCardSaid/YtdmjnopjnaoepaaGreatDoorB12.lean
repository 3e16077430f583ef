/- Walk: banyanref02's block. A node's bytes, as data; the walk of node's Put. Walks: strings.Compare, slices.BinarySearchFunc over strings. Walks: sort.Search by node.Find's closure; node.Find. Walks: node.Find, the reference's Find. Plain laws: keys that rise, and where a key stands in them. Walk: banyanlaw09's great. Walks: the reference's bytes of a number, of a pointer. -/
import Derived.Test.YtdmjnopjnaoepaaGreatDoorB1
import Derived.Test.YtdmjnopjnaoepaaGreatDoorB3
import Derived.Test.YtdmjnopjnaoepaaGreatDoorB6
import Derived.Test.YtdmjnopjnaoepaaGreatDoorB7
import Derived.Test.YtdmjnopjnaoepaaGreatDoorB8
import Derived.Test.YtdmjnopjnaoepaaGreatDoorB10
import Derived.Test.YtdmjnopjnaoepaaGreatDoorB11
import Derived.Lib.Bytealg
import Derived.Deep.RegionHeld3
namespace Go.Proofs.YtdmjnopjnaoepaaGreatDoor
open Go.RowKit

def zero8 : Array Value := #[.int .u32 0, .int .u32 0, .int .u32 0, .int .u32 0, .int .u32 0, .int .u32 0, .int .u32 0, .int .u32 0]
/-- What block holds: the state that came, the result's place, the words. -/
structure Blk (w : World) (arr : Array Value) (wl : List Nat) (wr : World) : Prop where
  below : Below w.heap.size w wr
  s : wr.heap[w.heap.size]? = some (.cells arr 97 (0, 0))
  r : wr.heap[w.heap.size + 1]? = some (.cells zero8 97 (0, 0))
  w : wr.heap[w.heap.size + 2]? = some (.cells (rowZ 64 wl).toArray 99 (0, 0))
section
variable {w wr w1 : World} {arr : Array Value} {wl : List Nat}
theorem Blk.start (w : World) (arr : Array Value) : Blk w arr [] (((w.alloc (.cells arr 97)).alloc (.cells zero8 97)).alloc (.cells (rowZ 64 []).toArray 99)) := by
  have hs1 : (w.alloc (.cells arr 97)).heap.size = w.heap.size + 1 := by simp
  have hs2 : ((w.alloc (.cells arr 97)).alloc (.cells zero8 97)).heap.size = w.heap.size + 2 := by simp
  have a0 := heap_alloc_new w (.cells arr 97)
  have a1 := heap_alloc_new (w.alloc (.cells arr 97)) (.cells zero8 97)
  have a2 := heap_alloc_new ((w.alloc (.cells arr 97)).alloc (.cells zero8 97)) (.cells (rowZ 64 []).toArray 99)
  rw [hs1] at a1
  rw [hs2] at a2
  exact ⟨(((Below.refl _ w).alloc (Nat.le_refl _) _).alloc (by simp) _).alloc (by simp; omega) _,
    (Below.heap_alloc _ _ _ (by simp; omega)).trans ((Below.heap_alloc _ _ _ (by simp)).trans a0), (Below.heap_alloc _ _ _ (by simp)).trans a1, a2⟩
theorem Blk.fr {S : Nat → Prop} (h : Blk w arr wl wr) (hf : Fr S wr w1) (hs : ∀ k, S k → w.heap.size + 2 < k) : Blk w arr wl w1 :=
  ⟨h.below.trans (hf.below h.below.size (fun k hk => by have := hs k hk; omega)), (hf.block _ (lt_of_block h.s) (fun x => by have := hs _ x; omega)).trans h.s,
    (hf.block _ (lt_of_block h.r) (fun x => by have := hs _ x; omega)).trans h.r, (hf.block _ (lt_of_block h.w) (fun x => by have := hs _ x; omega)).trans h.w⟩
theorem Blk.bel (h : Blk w arr wl wr) (hb : Below wr.heap.size wr w1) : Blk w arr wl w1 := h.fr (Fr.of_below (S := fun _ => False) hb) (fun _ x => x.elim)
theorem Blk.cellW (h : Blk w arr wl wr) (hl : wl.length ≤ 64) (j : Nat) (hj : j < 64) : wr.cell? ⟨w.heap.size + 2, j, none⟩ = some (.int .u32 ((wl.getD j 0 : Nat) : Int)) := by
  rw [cell_of_row _ _ j _ _ _ h.w, List.getElem?_toArray]
  exact rowZ_get 64 wl j hl hj
theorem Blk.freeW (h : Blk w arr wl wr) (j : Nat) : wr.frozen? ⟨w.heap.size + 2, j, none⟩ = false := by simp [World.frozen?, h.w]
theorem Blk.setW (h : Blk w arr wl wr) (hl : wl.length < 64) (x : Nat) : Blk w arr (wl ++ [x]) (wr.setCell ⟨w.heap.size + 2, wl.length, none⟩ (U32 x)) := by
  have e := heap_setCell_same wr (w.heap.size + 2) wl.length _ _ (U32 x) h.w
  rw [List.setIfInBounds_toArray, rowZ_set 64 wl x hl] at e
  have hf := Fr.set (S := fun k => k = w.heap.size + 2) (Fr.refl _ wr) (w.heap.size + 2) wl.length rfl (U32 x)
  exact ⟨h.below.trans (hf.below h.below.size (fun k hk => by omega)), (hf.block _ (lt_of_block h.s) (by omega)).trans h.s, (hf.block _ (lt_of_block h.r) (by omega)).trans h.r, e⟩
end

theorem not_val {x : Nat} (h : x < 4294967296) : bits .xor .u32 (if IntKind.u32.signed = true then -1 else IntKind.u32.max) (x : Int) = ((4294967295 ^^^ x : Nat) : Int) :=
  u32_xor_nat 4294967295 x (by decide) h

set_option maxRecDepth 100000 in
set_option maxHeartbeats 8000000 in
theorem block01_any (s : St) (hs : s.Ok) (v vk : Value) (b : List UInt8) (w : World) (h : Sl w 1 v 64 (b.map Bv)) (hk : Sl w 1 vk 64 (kInit.map U32)) :
    Calls Tryz.prog 83 #[.agg s.arr, v, vk] w fun e w' => e = .returned (.agg (takeN s b).arr) ∧ Below w.heap.size w w' := by
  obtain ⟨ks, hks⟩ : ∃ ks, ks = kInit := ⟨_, rfl⟩
  have HKl := Lib.hid (show ks.length = 64 by rw [hks]; exact kInit_length)
  have HK32 := Lib.hid (show ∀ x ∈ ks, x < 4294967296 by rw [hks]; exact kInit_lt)
  obtain ⟨R, hR⟩ : ∃ R, R = takeN s b := ⟨_, rfl⟩
  have HRes := Lib.hid (show R = addSt (roundsN s ks (spreadL b 64) 64) s by rw [hR, hks]; rfl)
  rw [← hR]
  rw [← hks] at hk
  obtain ⟨arr, harr⟩ : ∃ arr, arr = s.arr := ⟨_, rfl⟩
  rw [← harr]
  have HArr := Lib.hid harr
  obtain ⟨a, cap, rfl, _⟩ := h.len
  obtain ⟨ak, ck, rfl, _⟩ := hk.len
  have HS := Lib.hid (fun (w' : World) (hh : Below w.heap.size w w') => (h.below hh : Sl w' 1 (.slice a 64 cap) 64 (b.map Bv)))
  have HK := Lib.hid (fun (w' : World) (hh : Below w.heap.size w w') => (hk.below hh : Sl w' 1 (.slice ak 64 ck) 64 (ks.map U32)))
  have HOk := Lib.hid hs
  clear hR harr h hk hks hs
  go_enter Tryz.func83, Tryz.ntmps83
  go_wp2_with fail
  have HB0 := Lib.hid (show Blk w arr (spreadL b 0) _ from Blk.start w arr)
  go_loopw [8] (fun i wr => ∃ k : Nat, k ≤ 16 ∧ i = .int .i64 k ∧ Blk w arr (spreadL b k) wr) (fun i _ => 16 - (intOf i).toNat)
  case atStart => exact ⟨0, Nat.zero_le _, rfl, HB0.out⟩
  case round =>
    obtain ⟨k, hk, rfl, hblk⟩ := hrel
    rcases Nat.lt_or_ge k 16 with hlt | hge
    ·
      have hsl := HS.out wr hblk.below
      obtain ⟨A, C, q, hA⟩ := cut_u8 hsl (lo := 4 * k) (hi := 4 * k + 4) (by omega) (by omega)
      have HBlk := Lib.hid hblk
      have e4 : 4 * k + 4 - 4 * k = 4 := by omega
      rw [e4] at q hA
      have ec : ((4 * k : Nat) : Int) = 4 * (k : Int) := by omega
      have ec2 : ((4 * k + 4 : Nat) : Int) = 4 * (k : Int) + 4 := by omega
      rw [ec, ec2] at q
      have HA := Lib.hid hA
      clear hblk hsl e4 ec ec2 hA
      have hx : spreadL b (k + 1) = spreadL b k ++ [getB ((b.drop (4 * k)).take 4)] := by
        show spreadL b k ++ [if k < 16 then getB ((b.drop (4 * k)).take 4) else wNext (spreadL b k) k] = _
        rw [if_pos hlt]
      have hx32 : getB ((b.drop (4 * k)).take 4) < 4294967296 := spreadL_lt b (k + 1) _ (by rw [hx]; simp)
      have HX := Lib.hid hx
      obtain ⟨X, hX⟩ : ∃ X, X = getB ((b.drop (4 * k)).take 4) := ⟨_, rfl⟩
      have HGet := Lib.hid (refNum_ok (.slice A 4 C) ((b.drop (4 * k)).take 4) 4 wr HA.out (by omega))
      rw [← hX] at HX HGet hx32
      have HLk := Lib.hid (spreadL_length b k)
      clear hx hX
      go_wp2_with fail
      refine HGet.out.mono ?_
      rintro e w2 ⟨rfl, rfl⟩
      have c0 : wr.cell? ⟨w.heap.size + 2, k, none⟩ = some (.int .u32 ((((spreadL b k).getD k 0 : Nat)) : Int)) := HBlk.out.cellW (by rw [HLk.out]; omega) k (by omega)
      have f0 := HBlk.out.freeW k
      go_wp2
      go_roundw
      case rel =>
        refine ⟨k + 1, by omega, by go_num, ?_⟩
        have h1 := HBlk.out.setW (by rw [HLk.out]; omega) X
        rw [HLk.out] at h1
        rw [HX.out]
        exact h1
      case measure => simp [intOf]; omega
    · obtain rfl : k = 16 := by omega
      have HR16 := Lib.hid hblk
      clear hblk hk hge HB0
      go_wp2_with fail
      go_loopw [9] (fun i wr => ∃ m : Nat, m ≤ 48 ∧ i = .int .i64 ((m : Int) + 16) ∧ Blk w arr (spreadL b (m + 16)) wr) (fun i _ => 64 - (intOf i).toNat)
      case atStart => exact ⟨0, by omega, rfl, HR16.out⟩
      case round =>
        obtain ⟨m, hm, rfl, hblk⟩ := hrel
        rcases Nat.lt_or_ge m 48 with hlt | hge
        ·
          have HBlk := Lib.hid hblk
          have HLk := Lib.hid (spreadL_length b (m + 16))
          have hc := fun (u : Wd wr.heap.size wr) j (hj : j < 64) => u.cell' (hblk.cellW (by rw [HLk.out]; omega) j hj)
          have hlt32 : ∀ j, (spreadL b (m + 16)).getD j 0 < 4294967296 := fun j => getD_lt32 (spreadL_lt b (m + 16)) j
          have d0 := fun u => hc u m (by omega)
          have d1 := fun u => hc u (m + 1) (by omega)
          have d9 := fun u => hc u (m + 9) (by omega)
          have d14 := fun u => hc u (m + 14) (by omega)
          obtain ⟨x0, hx0⟩ : ∃ x0, x0 = (spreadL b (m + 16)).getD m 0 := ⟨_, rfl⟩
          obtain ⟨x1, hx1⟩ : ∃ x1, x1 = (spreadL b (m + 16)).getD (m + 1) 0 := ⟨_, rfl⟩
          obtain ⟨x9, hx9⟩ : ∃ x9, x9 = (spreadL b (m + 16)).getD (m + 9) 0 := ⟨_, rfl⟩
          obtain ⟨x14, hx14⟩ : ∃ x14, x14 = (spreadL b (m + 16)).getD (m + 14) 0 := ⟨_, rfl⟩
          have b0 : x0 < 4294967296 := by rw [hx0]; exact hlt32 _
          have b1 : x1 < 4294967296 := by rw [hx1]; exact hlt32 _
          have b9 : x9 < 4294967296 := by rw [hx9]; exact hlt32 _
          have b14 : x14 < 4294967296 := by rw [hx14]; exact hlt32 _
          rw [← hx0] at d0
          rw [← hx1] at d1
          rw [← hx9] at d9
          rw [← hx14] at d14
          have HXs := Lib.hid (And.intro hx0 (And.intro hx1 (And.intro hx9 hx14)))
          have s1 : ∀ (u : Wd wr.heap.size wr), Calls Tryz.prog 96 #[.int .u32 (x1 : Int), .int .i64 7, .int .i64 18, .int .u64 3] u.to fun e w'' => e = .returned (.int .u32 (smallN x1 7 18 3 : Int)) ∧ ∃ u' : Wd wr.heap.size wr, w'' = u'.to := fun u => Calls.wd u (Nat.le_refl _) (small01_any x1 7 18 3 u.to b1 (by decide) (by decide) (by decide))
          have s2 : ∀ (u : Wd wr.heap.size wr), Calls Tryz.prog 96 #[.int .u32 (x14 : Int), .int .i64 17, .int .i64 19, .int .u64 10] u.to fun e w'' => e = .returned (.int .u32 (smallN x14 17 19 10 : Int)) ∧ ∃ u' : Wd wr.heap.size wr, w'' = u'.to := fun u => Calls.wd u (Nat.le_refl _) (small01_any x14 17 19 10 u.to b14 (by decide) (by decide) (by decide))
          have bs1 := smallN_lt 7 18 3 b1
          have bs2 := smallN_lt 17 19 10 b14
          obtain ⟨S1, hS1⟩ : ∃ S1, S1 = smallN x1 7 18 3 := ⟨_, rfl⟩
          obtain ⟨S2, hS2⟩ : ∃ S2, S2 = smallN x14 17 19 10 := ⟨_, rfl⟩
          rw [← hS1] at s1 bs1
          rw [← hS2] at s2 bs2
          have HSs := Lib.hid (And.intro hS1 hS2)
          have HS1 := Lib.hid s1
          have HS2 := Lib.hid s2
          clear hblk hc hlt32 hx0 hx1 hx9 hx14 s1 s2 hS1 hS2
          go_wp2_with fail
          refine wp_region_class_tail 23 (C := fun w' => ∃ u : Wd wr.heap.size wr, w' = u.to) (by kernel_rfl) (by kernel_rfl) ⟨⟨{ wr with drawn := wr.drawn + 1 }, (Below.refl _ wr).drew⟩, rfl⟩ ?_
          simp only [List.take_succ_cons, List.take_zero, List.drop_succ_cons, List.drop_zero]
          repeat (go_big_quiet_step (first | with_reducible exact HS1.out _ | with_reducible exact HS2.out _))
          refine wpQuiet_nil ?_
          rintro w5 ⟨⟨_, hb5⟩, rfl⟩
          have hblk5 := HBlk.out.bel hb5
          have c16 : w5.cell? ⟨w.heap.size + 2, m + 16, none⟩ = some (.int .u32 ((((spreadL b (m + 16)).getD (m + 16) 0 : Nat)) : Int)) := hblk5.cellW (by rw [HLk.out]; omega) (m + 16) (by omega)
          have f16 := hblk5.freeW (m + 16)
          have HBlk5 := Lib.hid hblk5
          clear hb5 hblk5 d0 d1 d9 d14 b1 b14 bs1 bs2
          go_wp2_with fail
          go_roundw
          case rel =>
            refine ⟨m + 1, by omega, by go_num, ?_⟩
            have hx : spreadL b (m + 1 + 16) = spreadL b (m + 16) ++ [(x0 + S1 + x9 + S2) % 4294967296] := by
              rw [show m + 1 + 16 = m + 16 + 1 by omega]
              show spreadL b (m + 16) ++ [if m + 16 < 16 then getB ((b.drop (4 * (m + 16))).take 4) else wNext (spreadL b (m + 16)) (m + 16)] = _
              obtain ⟨q0, q1, q9, q14⟩ := HXs.out
              obtain ⟨r1, r2⟩ := HSs.out
              rw [if_neg (by omega), wNext, show m + 16 - 16 = m by omega, show m + 16 - 7 = m + 9 by omega, show m + 16 - 15 = m + 1 by omega, show m + 16 - 2 = m + 14 by omega, ← q0, ← q1, ← q9, ← q14, ← r1, ← r2]
              congr 3
              omega
            have h1 := HBlk5.out.setW (by rw [HLk.out]; omega) ((x0 + S1 + x9 + S2) % 4294967296)
            rw [HLk.out, ← hx] at h1
            have e : Value.int .u32 (((x0 : Int) + (S1 : Int) + (x9 : Int) + (S2 : Int)) % 4294967296) = U32 ((x0 + S1 + x9 + S2) % 4294967296) := by unfold U32; congr 1
            rw [e]
            exact h1
          case measure => simp [intOf]; omega
        · obtain rfl : m = 48 := by omega
          have HB64 := Lib.hid hblk
          clear hblk hm hge
          obtain ⟨ws, hws⟩ : ∃ ws, ws = spreadL b 64 := ⟨_, rfl⟩
          have HWs := Lib.hid hws
          have HWl := Lib.hid (show ws.length = 64 by rw [hws, spreadL_length])
          have HW32 := Lib.hid (show ∀ x ∈ ws, x < 4294967296 by rw [hws]; exact spreadL_lt b 64)
          rw [show 48 + 16 = 64 from rfl, ← hws] at HB64
          rw [← hws] at HRes
          clear hws
          have HAs := Lib.hid (show arr.size = 8 by rw [HArr.out]; rfl)
          have HA1 := Lib.hid (show ∀ u ∈ arr.toList, u.oneCell' = true by rw [HArr.out]; exact St.arr_one s)
          have HAt := Lib.hid (At.of_row (cs := arr.toList) (by simpa using HB64.out.s))
          go_wp2_with (first | (refine wpList_load_at rfl 97 (.tmp 3) rfl w.heap.size 0 rfl arr.toList _ HAt.out Tryz.underlying97 rfl (by rw [Array.length_toList, HAs.out]; kernel_rfl) ?_) | (refine wpList_store_row rfl 97 (.tmp 10) (.tmp 57) rfl _ rfl arr.toList rfl _ _ (heap_alloc_new _ _) (by rw [Array.length_toList, HAs.out]; rfl) HA1.out (by rw [Array.length_toList, HAs.out]; kernel_rfl) ?_; intro w4 hg4 hf4 hs4))
          obtain ⟨X, hX⟩ : ∃ X, X = wr.heap.size := ⟨_, rfl⟩
          have hsz : w.heap.size + 2 < X := by rw [hX]; exact lt_of_block HB64.out.w
          have hbel4 : Below wr.heap.size wr w4 := ((Below.refl _ wr).alloc (Nat.le_refl _) _).trans (hf4.below (by simp) (fun j hj => by omega))
          have HX4 := Lib.hid (show Blk w arr ws w4 ∧ w4.heap[X]? = some (.cells (roundsN s ks ws 0).arr 97 (0, 0)) from ⟨HB64.out.bel hbel4, by rw [hX]; rw [HArr.out] at hg4; exact hg4⟩)
          rw [← hX]
          clear hg4 hf4 hs4 hbel4 hX HB64 HAt
          go_loopw [11] (fun i wr => ∃ n : Nat, n ≤ 64 ∧ i = .int .i64 n ∧ Blk w arr ws wr ∧ wr.heap[X]? = some (.cells (roundsN s ks ws n).arr 97 (0, 0))) (fun i _ => 64 - (intOf i).toNat)
          case atStart => exact ⟨0, by omega, rfl, HX4.out⟩
          case round =>
            obtain ⟨n, hn, rfl, hblk, hrow⟩ := hrel
            rcases Nat.lt_or_ge n 64 with hlt | hge
            · obtain ⟨x, hx⟩ : ∃ x, x = roundsN s ks ws n := ⟨_, rfl⟩
              rw [← hx] at hrow
              have hok : x.Ok := by rw [hx]; exact roundsN_ok _ _ HOk.out n
              have hnext : roundsN s ks ws (n + 1) = roundN x (ks.getD n 0) (ws.getD n 0) := by rw [hx]; rfl
              have hks : n < ks.length := by rw [HKl.out]; exact hlt
              obtain ⟨gk, ok', rfl, hck⟩ := cellU (HK.out wr hblk.below) n hlt
              have hkc : wr.cell? ⟨gk, ok' + n, none⟩ = some (.int .u32 ((ks.getD n 0 : Nat) : Int)) := by
                rw [hck n hks, List.getD_eq_getElem?_getD, List.getElem?_eq_getElem hks]; rfl
              have hwc := hblk.cellW (by rw [HWl.out]; exact Nat.le_refl _) n hlt
              have hk32 : ks.getD n 0 < 4294967296 := getD_lt32 HK32.out n
              have hw32 : ws.getD n 0 < 4294967296 := getD_lt32 HW32.out n
              obtain ⟨kn, hkn⟩ : ∃ kn, kn = ks.getD n 0 := ⟨_, rfl⟩
              obtain ⟨wn, hwn⟩ : ∃ wn, wn = ws.getD n 0 := ⟨_, rfl⟩
              rw [← hkn] at hkc hk32 hnext
              rw [← hwn] at hwc hw32 hnext
              have HNext := Lib.hid hnext
              clear hx hnext hkn hwn hck hks
              obtain ⟨xa, xb, xc, xd, xe, xf, xg, xh⟩ := x
              obtain ⟨ba, bb, bc, bd, be, bf, bg, bh⟩ := hok
              simp only at ba bb bc bd be bf bg bh
              have hc : ∀ j, wr.cell? ⟨X, j, none⟩ = (St.arr ⟨xa, xb, xc, xd, xe, xf, xg, xh⟩)[j]? := fun j => cell_of_row _ _ j _ _ _ hrow
              have c4 : ∀ (u : Wd wr.heap.size wr), u.to.cell? ⟨X, 4, none⟩ = some (.int .u32 (xe : Int)) := fun u => u.cell' (hc 4)
              have c5 : ∀ (u : Wd wr.heap.size wr), u.to.cell? ⟨X, 5, none⟩ = some (.int .u32 (xf : Int)) := fun u => u.cell' (hc 5)
              have c6 : ∀ (u : Wd wr.heap.size wr), u.to.cell? ⟨X, 6, none⟩ = some (.int .u32 (xg : Int)) := fun u => u.cell' (hc 6)
              have c7 : ∀ (u : Wd wr.heap.size wr), u.to.cell? ⟨X, 7, none⟩ = some (.int .u32 (xh : Int)) := fun u => u.cell' (hc 7)
              have ck := fun (u : Wd wr.heap.size wr) => u.cell' hkc
              have cw := fun (u : Wd wr.heap.size wr) => u.cell' hwc
              have HBlk := Lib.hid hblk
              have HRow := Lib.hid hrow
              have s1 : ∀ (u : Wd wr.heap.size wr), Calls Tryz.prog 97 #[.int .u32 (xe : Int), .int .i64 6, .int .i64 11, .int .i64 25] u.to fun e w'' => e = .returned (.int .u32 (mixN xe 6 11 25 : Int)) ∧ ∃ u' : Wd wr.heap.size wr, w'' = u'.to := fun u => Calls.wd u (Nat.le_refl _) (three01_any xe 6 11 25 u.to be (by decide) (by decide) (by decide))
              have bm1 := mixN_lt 6 11 25 be
              obtain ⟨M1, hM1⟩ : ∃ M1, M1 = mixN xe 6 11 25 := ⟨_, rfl⟩
              rw [← hM1] at s1 bm1
              have HS1 := Lib.hid s1
              have HM1 := Lib.hid hM1
              have q1 := u32_and_nat xe xf be bf
              have q2 := not_val be
              have q3 := u32_and_nat (4294967295 ^^^ xe) xg (xor_lt32 (by decide) be) bg
              have q4 := u32_or_nat (xe &&& xf) ((4294967295 ^^^ xe) &&& xg) (and_lt32 be) (and_lt32 (xor_lt32 (by decide) be))
              rw [← ch_same be bg] at q4
              obtain ⟨C1, hC1⟩ : ∃ C1, C1 = xg ^^^ (xe &&& (xf ^^^ xg)) := ⟨_, rfl⟩
              rw [← hC1] at q4
              have HC1 := Lib.hid hC1
              have HRegs := Lib.hid (And.intro ba (And.intro bb (And.intro bc (And.intro bd bh))))
              clear hblk hrow hc hkc hwc s1 hM1 hC1
              go_wp2_with fail
              refine wp_region_wd wr.heap.size (by kernel_rfl) (by kernel_rfl) ?_
              repeat (go_big_quiet_step (with_reducible exact HS1.out _))
              refine wpQuiet_nil ?_
              rintro w5 ⟨⟨_, hb5⟩, rfl⟩
              have hblk5 := HBlk.out.bel hb5
              have hrow5 := (hb5.block X (lt_of_block HRow.out)).trans HRow.out
              obtain ⟨T1, hT1⟩ : ∃ T1, T1 = t1N ⟨xa, xb, xc, xd, xe, xf, xg, xh⟩ kn wn := ⟨_, rfl⟩
              have e12 : ((((xh : Int) + M1 + C1 + kn) % 4294967296 + wn) % 4294967296) = (T1 : Int) := by
                have : T1 = (xh + M1 + C1 + kn + wn) % 4294967296 := by rw [hT1, HM1.out, HC1.out]; rfl
                omega
              have bT1 : T1 < 4294967296 := by rw [hT1]; exact Nat.mod_lt _ (by decide)
              rw [e12]
              have HT1 := Lib.hid hT1
              clear hb5 c4 c5 c6 c7 ck cw bm1 q1 q2 q3 q4 hT1 e12 HBlk HRow bb bc bd be bf bg bh
              obtain ⟨ba, bb, bc, bd, bh⟩ := HRegs.out
              have hc : ∀ j, w5.cell? ⟨X, j, none⟩ = (St.arr ⟨xa, xb, xc, xd, xe, xf, xg, xh⟩)[j]? := fun j => cell_of_row _ _ j _ _ _ hrow5
              have c0 : ∀ (u : Wd w5.heap.size w5), u.to.cell? ⟨X, 0, none⟩ = some (.int .u32 (xa : Int)) := fun u => u.cell' (hc 0)
              have c1 : ∀ (u : Wd w5.heap.size w5), u.to.cell? ⟨X, 1, none⟩ = some (.int .u32 (xb : Int)) := fun u => u.cell' (hc 1)
              have c2 : ∀ (u : Wd w5.heap.size w5), u.to.cell? ⟨X, 2, none⟩ = some (.int .u32 (xc : Int)) := fun u => u.cell' (hc 2)
              have HBlk := Lib.hid hblk5
              have HRow := Lib.hid hrow5
              have s1 : ∀ (u : Wd w5.heap.size w5), Calls Tryz.prog 97 #[.int .u32 (xa : Int), .int .i64 2, .int .i64 13, .int .i64 22] u.to fun e w'' => e = .returned (.int .u32 (mixN xa 2 13 22 : Int)) ∧ ∃ u' : Wd w5.heap.size w5, w'' = u'.to := fun u => Calls.wd u (Nat.le_refl _) (three01_any xa 2 13 22 u.to ba (by decide) (by decide) (by decide))
              obtain ⟨M2, hM2⟩ : ∃ M2, M2 = mixN xa 2 13 22 := ⟨_, rfl⟩
              rw [← hM2] at s1
              have HS2 := Lib.hid s1
              have HM2 := Lib.hid hM2
              have q1 := u32_and_nat xa xb ba bb
              have q2 := u32_and_nat xa xc ba bc
              have q3 := u32_and_nat xb xc bb bc
              have q4 := u32_or_nat (xa &&& xb) (xa &&& xc) (and_lt32 ba) (and_lt32 ba)
              have q5 := u32_or_nat ((xa &&& xb) ||| (xa &&& xc)) (xb &&& xc) (or_lt32 (and_lt32 ba) (and_lt32 ba)) (and_lt32 bb)
              rw [← maj_same] at q5
              obtain ⟨C2, hC2⟩ : ∃ C2, C2 = (xa &&& (xb ||| xc)) ||| (xb &&& xc) := ⟨_, rfl⟩
              rw [← hC2] at q5
              have HC2 := Lib.hid hC2
              clear hblk5 hrow5 hc s1 hM2 hC2 ba bb bc bd bh
              go_wp2_with fail
              refine wp_region_wd w5.heap.size (by kernel_rfl) (by kernel_rfl) ?_
              repeat (go_big_quiet_step (with_reducible exact HS2.out _))
              refine wpQuiet_nil ?_
              rintro w6 ⟨⟨_, hb6⟩, rfl⟩
              have hblk6 := HBlk.out.bel hb6
              have hrow6 := (hb6.block X (lt_of_block HRow.out)).trans HRow.out
              obtain ⟨T2, hT2⟩ : ∃ T2, T2 = t2N ⟨xa, xb, xc, xd, xe, xf, xg, xh⟩ := ⟨_, rfl⟩
              have e13 : (((M2 : Int) + C2) % 4294967296) = (T2 : Int) := by
                have : T2 = (M2 + C2) % 4294967296 := by rw [hT2, HM2.out, HC2.out]; rfl
                omega
              rw [e13]
              have HT2 := Lib.hid hT2
              have bT2 : T2 < 4294967296 := by rw [hT2]; exact Nat.mod_lt _ (by decide)
              clear hb6 c0 c1 c2 q1 q2 q3 q4 q5 hT2 e13 HBlk HRow
              obtain ⟨ba, bb, bc, bd, bh⟩ := HRegs.out
              have hc : ∀ j, w6.cell? ⟨X, j, none⟩ = (St.arr ⟨xa, xb, xc, xd, xe, xf, xg, xh⟩)[j]? := fun j => cell_of_row _ _ j _ _ _ hrow6
              have c0 : w6.cell? ⟨X, 0, none⟩ = some (.int .u32 (xa : Int)) := hc 0
              have c1 : w6.cell? ⟨X, 1, none⟩ = some (.int .u32 (xb : Int)) := hc 1
              have c2 : w6.cell? ⟨X, 2, none⟩ = some (.int .u32 (xc : Int)) := hc 2
              have c3 : w6.cell? ⟨X, 3, none⟩ = some (.int .u32 (xd : Int)) := hc 3
              have c4 : w6.cell? ⟨X, 4, none⟩ = some (.int .u32 (xe : Int)) := hc 4
              have c5 : w6.cell? ⟨X, 5, none⟩ = some (.int .u32 (xf : Int)) := hc 5
              have c6 : w6.cell? ⟨X, 6, none⟩ = some (.int .u32 (xg : Int)) := hc 6
              have HBlk := Lib.hid hblk6
              have HRow := Lib.hid hrow6
              clear hblk6 hrow6 hc
              go_wp2_with (refine wpList_store_row rfl 97 (.tmp 10) (.tmp 130) rfl X rfl [.int .u32 (((T1 : Int) + T2) % 4294967296), .int .u32 (xa : Int), .int .u32 (xb : Int), .int .u32 (xc : Int), .int .u32 (((xd : Int) + T1) % 4294967296), .int .u32 (xe : Int), .int .u32 (xf : Int), .int .u32 (xg : Int)] rfl _ _ HRow.out rfl (by intro u hu; simp only [List.mem_cons, List.not_mem_nil, or_false] at hu; rcases hu with rfl | rfl | rfl | rfl | rfl | rfl | rfl | rfl <;> rfl) (by kernel_rfl) ?_)
              intro w7 hg7 hf7 hs7
              have HN := Lib.hid (show Blk w arr ws w7 ∧ w7.heap[X]? = some (.cells (roundsN s ks ws (n + 1)).arr 97 (0, 0)) by
                refine ⟨HBlk.out.fr hf7 (fun k hk => by omega), ?_⟩
                rw [hg7, HNext.out]
                have e0 : Value.int .u32 (((T1 : Int) + T2) % 4294967296) = .int .u32 (((t1N ⟨xa, xb, xc, xd, xe, xf, xg, xh⟩ kn wn + t2N ⟨xa, xb, xc, xd, xe, xf, xg, xh⟩) % 4294967296 : Nat) : Int) := by
                  rw [← HT1.out, ← HT2.out]; congr 1
                have e5 : Value.int .u32 (((xd : Int) + T1) % 4294967296) = .int .u32 (((xd + t1N ⟨xa, xb, xc, xd, xe, xf, xg, xh⟩ kn wn) % 4294967296 : Nat) : Int) := by
                  rw [← HT1.out]; congr 1
                rw [e0, e5]
                rfl)
              clear hg7 hf7 hs7
              go_wp2
              go_roundw
              case rel => exact ⟨n + 1, by omega, by go_num, HN.out⟩
              case measure => simp [intOf]; omega
            · obtain rfl : n = 64 := by omega
              obtain ⟨x, hx⟩ : ∃ x, x = roundsN s ks ws 64 := ⟨_, rfl⟩
              rw [← hx] at hrow HRes
              have HA0 := Lib.hid (show Blk w arr ws wr ∧ wr.heap[X]? = some (.cells (((addSt x s).list.take 0 ++ x.list.drop 0).map U32).toArray 97 (0, 0)) from ⟨hblk, by rw [List.take_zero, List.drop_zero, List.nil_append]; exact hrow⟩)
              clear hrow hblk hx hn hge HX4
              go_wp2_with fail
              go_loopw [131] (fun i wr => ∃ n : Nat, n ≤ 8 ∧ i = .int .i64 n ∧ Blk w arr ws wr ∧ wr.heap[X]? = some (.cells (((addSt x s).list.take n ++ x.list.drop n).map U32).toArray 97 (0, 0))) (fun i _ => 8 - (intOf i).toNat)
              case atStart => exact ⟨0, by omega, rfl, HA0.out⟩
              case round =>
                obtain ⟨n, hn, rfl, hblk, hrow⟩ := hrel
                rcases Nat.lt_or_ge n 8 with hlt | hge
                · have hxl : x.list.length = 8 := rfl
                  have hsl : s.list.length = 8 := rfl
                  have hset := mid_set hxl hsl hlt
                  have hxc : wr.cell? ⟨X, n, none⟩ = some (.int .u32 ((x.list.getD n 0 : Nat) : Int)) := by
                    rw [cell_of_row _ _ n _ _ _ hrow, List.getElem?_toArray, List.getElem?_map, List.getElem?_append_right (by simp [addSt_list]; omega)]
                    rw [show ((addSt x s).list.take n).length = n by rw [List.length_take]; exact Nat.min_eq_left (by show n ≤ 8; omega), Nat.sub_self, List.getElem?_drop, Nat.add_zero, List.getD_eq_getElem?_getD, List.getElem?_eq_getElem (by omega)]
                    rfl
                  have hsc : wr.cell? ⟨w.heap.size, n, none⟩ = some (.int .u32 ((s.list.getD n 0 : Nat) : Int)) := by
                    have h0 := hblk.s
                    rw [HArr.out] at h0
                    rw [cell_of_row _ _ n _ _ _ h0]
                    show (s.list.map U32).toArray[n]? = _
                    rw [List.getElem?_toArray, List.getElem?_map, List.getD_eq_getElem?_getD, List.getElem?_eq_getElem (by omega)]; rfl
                  have hf : wr.frozen? ⟨X, n, none⟩ = false := by simp [World.frozen?, hrow]
                  obtain ⟨u, hu⟩ : ∃ u, u = x.list.getD n 0 := ⟨_, rfl⟩
                  obtain ⟨v', hv'⟩ : ∃ v', v' = s.list.getD n 0 := ⟨_, rfl⟩
                  rw [← hu] at hxc hset
                  rw [← hv'] at hsc hset
                  have HSet := Lib.hid hset
                  have HRow := Lib.hid hrow
                  have HBlk := Lib.hid hblk
                  clear hset hrow hblk hu hv' hxl hsl
                  go_wp2_with fail
                  refine wp_region_quiet_tail 8 (by kernel_rfl) (by kernel_rfl) ?_
                  simp only [List.take_succ_cons, List.take_zero, List.drop_succ_cons, List.drop_zero]
                  repeat (go_big_quiet_step (fail))
                  refine wpQuiet_nil ?_
                  go_wp2_with fail
                  go_roundw
                  case rel =>
                    have h1 := heap_setCell_same wr X n _ _ (U32 ((u + v') % 4294967296)) HRow.out
                    rw [List.setIfInBounds_toArray, ← List.map_set, addSt_list, HSet.out] at h1
                    have e : (Value.int .u32 (((u : Int) + (v' : Int)) % 4294967296)) = U32 ((u + v') % 4294967296) := by unfold U32; congr 1
                    rw [e]
                    refine ⟨n + 1, by omega, by go_num, HBlk.out.fr (((Fr.refl (fun k => k = X) wr).drew).set _ _ rfl _) (fun k hk => by omega), ?_⟩
                    rw [addSt_list]
                    exact h1
                  case measure => simp [intOf]; omega
                · obtain rfl : n = 8 := by omega
                  have HFin := Lib.hid (show wr.heap[X]? = some (.cells R.arr 97 (0, 0)) by
                    rw [hrow, HRes.out]; rfl)
                  have HBlk := Lib.hid hblk
                  have HAtF := Lib.hid (At.of_row (cs := R.arr.toList) (by simpa using HFin.out))
                  clear hrow hblk hn hge
                  have HRl := Lib.hid (show R.arr.toList.length = 8 from rfl)
                  go_wp2_with (first | (refine wpList_load_at rfl 97 (.tmp 10) rfl X 0 rfl R.arr.toList _ HAtF.out Tryz.underlying97 rfl (by rw [HRl.out]; kernel_rfl) ?_) | (refine wpList_store_row rfl 97 (.tmp 6) (.tmp 143) rfl _ rfl R.arr.toList rfl _ _ HBlk.out.r (by rw [HRl.out]; rfl) (St.arr_one R) (by rw [HRl.out]; kernel_rfl) ?_; intro w9 hg9 hf9 hs9))
                  have HG9 := Lib.hid hg9
                  have HB9 := Lib.hid (HBlk.out.below.trans (hf9.below HBlk.out.below.size (fun j hj => by omega)))
                  clear hg9 hf9 hs9
                  go_wp2
                  exact bodyPost_ret (results_cell_row rfl _ w9 (w.heap.size + 1) _ _ _ _ rfl HG9.out Tryz.underlying97 rfl (by rw [List.size_toArray, HRl.out]; kernel_rfl)) rfl ⟨rfl, HB9.out⟩
end Go.Proofs.YtdmjnopjnaoepaaGreatDoor
namespace Go.Proofs.YtdmjnopjnaoepaaGreatDoor
open Go.RowKit

/-- What is laid for the i-th key. -/
def kvAt (n : Nd) (i : Nat) : List UInt8 := strB (n.keys.getD i ⟨#[]⟩) ++ (if n.leaf then strB (n.vals.getD i ⟨#[]⟩) else [])
def kvTo (n : Nd) (k : Nat) : List UInt8 := (List.range k).flatMap (kvAt n)
def kidsTo (n : Nd) (k : Nat) : List UInt8 := (n.kids.take k).flatMap ptrB
def headB (n : Nd) : List UInt8 := putB (if n.leaf then 1 else 2) 1 ++ putB n.keys.length 1
def bytesN (n : Nd) : List UInt8 := headB n ++ kvTo n n.keys.length ++ kidsTo n n.kids.length

theorem kvTo_succ (n : Nd) (k : Nat) : kvTo n (k + 1) = kvTo n k ++ kvAt n k := by
  unfold kvTo; rw [List.range_succ, List.flatMap_append]; simp
theorem kidsTo_succ (n : Nd) (k : Nat) (h : k < n.kids.length) : kidsTo n (k + 1) = kidsTo n k ++ ptrB n.kids[k] := by
  unfold kidsTo; rw [List.take_succ_eq_append_getElem h, List.flatMap_append]; simp
theorem headB_length (n : Nd) : (headB n).length = 2 := by unfold headB; simp [putB_length]

theorem kvTo_length_leaf (n : Nd) (hl : n.leaf = true) : ∀ k, k ≤ n.keys.length → k ≤ n.vals.length → (kvTo n k).length = strsN (n.keys.take k) + strsN (n.vals.take k) := by
  intro k
  induction k with
  | zero => intro _ _; simp [kvTo, strsN]
  | succ k ih =>
    intro h1 h2
    rw [kvTo_succ, List.length_append, ih (by omega) (by omega), strsN_step _ k (by omega), strsN_step _ k (by omega)]
    unfold kvAt
    rw [hl, if_pos rfl, List.length_append, strB_length, strB_length, List.getD_eq_getElem?_getD, List.getD_eq_getElem?_getD, List.getElem?_eq_getElem (by omega), List.getElem?_eq_getElem (by omega)]
    simp only [Option.getD_some]
    omega
theorem kvTo_length_inner (n : Nd) (hl : n.leaf = false) : ∀ k, k ≤ n.keys.length → (kvTo n k).length = strsN (n.keys.take k) := by
  intro k
  induction k with
  | zero => intro _; simp [kvTo, strsN]
  | succ k ih =>
    intro h1
    rw [kvTo_succ, List.length_append, ih (by omega), strsN_step _ k (by omega)]
    unfold kvAt
    rw [hl, List.length_append, strB_length, List.getD_eq_getElem?_getD, List.getElem?_eq_getElem (by omega)]
    simp only [Option.getD_some, Bool.false_eq_true, if_false, List.length_nil]
    omega
theorem kidsTo_length (n : Nd) (h : ∀ p ∈ n.kids, p.Wf) : ∀ k, k ≤ n.kids.length → (kidsTo n k).length = 44 * k := by
  intro k
  induction k with
  | zero => intro _; simp [kidsTo]
  | succ k ih =>
    intro hk
    rw [kidsTo_succ n k (by omega), List.length_append, ih (by omega), ptrB_length _ (h _ (List.getElem_mem (by omega)))]
    omega

structure FormOk (n : Nd) : Prop where
  kvLen : (kvTo n n.keys.length).length = strsN n.keys + strsN n.vals
  vals : n.leaf = true → n.vals.length = n.keys.length
  keyS : ∀ s ∈ n.keys, 1 ≤ s.size ∧ s.size ≤ 32
  valS : ∀ s ∈ n.vals, s.size ≤ 96
theorem keysB_pos {l : List ByteArray} (h : keysB l = true) : ∀ s ∈ l, 1 ≤ s.size := by
  intro s hs
  obtain ⟨i, hi, rfl⟩ := List.getElem_of_mem hs
  have h1 := List.all_eq_true.1 h i (by simpa using hi)
  unfold keyAt at h1
  rw [List.getElem?_eq_getElem hi] at h1
  simp only [Bool.and_eq_true, decide_eq_true_iff] at h1
  have := h1.1.1
  omega
theorem formB_ok {n : Nd} (h : formB n = true) : FormOk n := by
  have hv := formB_vals h
  have hk := formB_keys h
  have hks : ∀ s ∈ n.keys, 1 ≤ s.size ∧ s.size ≤ 32 := fun s hs => ⟨keysB_pos hk s hs, keysB_size hk s hs⟩
  unfold formB at h
  simp only [Bool.and_eq_true] at h
  cases hl : n.leaf with
  | true =>
    rw [hl] at h
    simp only [if_true, Bool.and_eq_true, decide_eq_true_iff] at h
    have e1 := h.2.1.1
    refine ⟨?_, fun _ => e1, hks, hv⟩
    rw [kvTo_length_leaf n hl _ (Nat.le_refl _) (by omega), List.take_length, List.take_of_length_le (by omega)]
  | false =>
    rw [hl] at h
    simp only [Bool.false_eq_true, if_false, Bool.and_eq_true, decide_eq_true_iff] at h
    have e1 : n.vals = [] := List.eq_nil_of_length_eq_zero h.2.1.1.1
    refine ⟨?_, fun h => (by rw [hl] at h; cases h), hks, hv⟩
    rw [kvTo_length_inner n hl _ (Nat.le_refl _), List.take_length, e1]
    simp [strsN]
theorem bytesN_length {n : Nd} (h : formB n = true) (hw : ∀ p ∈ n.kids, p.Wf) : (bytesN n).length = sizeN n := by
  unfold bytesN
  rw [List.length_append, List.length_append, headB_length, (formB_ok h).kvLen, kidsTo_length n hw _ (Nat.le_refl _)]
  unfold sizeN; omega
theorem strsN_ge (l : List ByteArray) (h : ∀ s ∈ l, 1 ≤ s.size) : 2 * l.length ≤ strsN l := by
  induction l with
  | nil => simp
  | cons a l ih =>
    have h1 := ih (fun s hs => h s (by simp [hs]))
    have h2 := h a (by simp)
    have e : strsN (a :: l) = (1 + a.size) + strsN l := by simp [strsN]
    rw [e, List.length_cons]; omega

end Go.Proofs.YtdmjnopjnaoepaaGreatDoor
namespace Go.Proofs.YtdmjnopjnaoepaaGreatDoor
open Go.RowKit

theorem compareBytes_eq : ∀ (a b : List UInt8), Lib.compareBytes a b = if a < b then -1 else if a = b then 0 else 1
  | [], [] => by simp [Lib.compareBytes]
  | [], _ :: _ => by simp [Lib.compareBytes]
  | _ :: _, [] => by simp [Lib.compareBytes]
  | x :: a, y :: b => by
    have ih := compareBytes_eq a b
    unfold Lib.compareBytes
    simp only [List.cons_lt_cons_iff]
    by_cases h1 : x < y
    · simp [h1]
    · by_cases h2 : y < x
      · have hne : x ≠ y := fun e => UInt8.lt_irrefl x (by rw [e] at h2 ⊢; exact h2)
        simp [h1, h2, hne]
      · have he : x = y := UInt8.le_antisymm (UInt8.not_lt.1 h2) (UInt8.not_lt.1 h1)
        subst he
        simp [h1, ih]

/-- How two strings stand: less, the same, greater. -/
def cmpS (a b : ByteArray) : Int := if sLt a b then -1 else if sEq a b then 0 else 1
theorem cmpS_eq (a b : ByteArray) : Lib.compareBytes a.data.toList b.data.toList = cmpS a b := by
  rw [compareBytes_eq]
  unfold cmpS
  have h1 := sLt_iff a b
  have h2 : sEq a b = true ↔ a.data.toList = b.data.toList := by
    rw [sEq_iff]
    exact ⟨fun h => by rw [h], fun h => ByteArray.ext (Array.toList_inj.1 h)⟩
  simp only [h1, h2]
theorem cmpS_neg (a b : ByteArray) : decide (cmpS a b < 0) = sLt a b := by
  unfold cmpS; cases sLt a b
  · cases sEq a b <;> rfl
  · rfl
theorem sLt_irrefl (a : ByteArray) : sLt a a = false := by
  rw [Bool.eq_false_iff]; intro h; exact List.lt_irrefl _ ((sLt_iff a a).1 h)
theorem cmpS_zero (a b : ByteArray) : (cmpS a b == 0) = sEq a b := by
  unfold cmpS
  cases h1 : sLt a b with
  | false => cases sEq a b <;> rfl
  | true =>
    cases h2 : sEq a b with
    | false => rfl
    | true =>
      have := (sEq_iff a b).1 h2
      subst this
      rw [sLt_irrefl] at h1
      cases h1
theorem sLt_trans {a b c : ByteArray} (h1 : sLt a b = true) (h2 : sLt b c = true) : sLt a c = true :=
  (sLt_iff a c).2 (List.lt_trans ((sLt_iff a b).1 h1) ((sLt_iff b c).1 h2))

/-- Keys that rise. -/
def Rising (l : List ByteArray) : Prop := ∀ i j (hj : j < l.length) (hij : i < j), sLt (l[i]'(by omega)) l[j] = true
/-- i parts the keys into those that are less, and the others. -/
def PartAt (p : ByteArray → Bool) (l : List ByteArray) (i : Nat) : Prop := i ≤ l.length ∧ (∀ j (h : j < l.length), j < i → p l[j] = true) ∧ (∀ j (h : j < l.length), i ≤ j → p l[j] = false)
def SearchPost (l : List ByteArray) (key : ByteArray) (w : World) (e : Ending) (w' : World) : Prop :=
  ∃ (i : Nat), e = .returned (.tuple #[.int .i64 (i : Int), .bool (decide (i < l.length) && sEq (l.getD i ⟨#[]⟩) key)]) ∧ PartAt (fun k => sLt k key) l i ∧ w = w'

end Go.Proofs.YtdmjnopjnaoepaaGreatDoor
namespace Go.Proofs.YtdmjnopjnaoepaaGreatDoor
open Go.RowKit

def gtS (a b : ByteArray) : Bool := !(sLt a b || sEq a b)
theorem list_tri : ∀ a b : List UInt8, a < b ∨ a = b ∨ b < a
  | [], [] => Or.inr (Or.inl rfl)
  | [], _ :: _ => Or.inl (by simp)
  | _ :: _, [] => Or.inr (Or.inr (by simp))
  | x :: a, y :: b => by
    simp only [List.cons_lt_cons_iff, List.cons.injEq]
    by_cases h1 : x < y
    · exact Or.inl (Or.inl h1)
    · by_cases h2 : y < x
      · exact Or.inr (Or.inr (Or.inl h2))
      · have he : x = y := UInt8.le_antisymm (UInt8.not_lt.1 h2) (UInt8.not_lt.1 h1)
        subst he
        rcases list_tri a b with h | h | h
        · exact Or.inl (Or.inr ⟨rfl, h⟩)
        · exact Or.inr (Or.inl ⟨rfl, h⟩)
        · exact Or.inr (Or.inr (Or.inr ⟨rfl, h⟩))
theorem gtS_eq (a b : ByteArray) : gtS a b = sLt b a := by
  unfold gtS
  cases h1 : sLt a b with
  | true =>
    cases h2 : sLt b a with
    | false => rfl
    | true => have := sLt_trans h1 h2; rw [sLt_irrefl] at this; cases this
  | false =>
    cases h2 : sEq a b with
    | true =>
      have := (sEq_iff a b).1 h2
      subst this
      rw [sLt_irrefl]; rfl
    | false =>
      cases h3 : sLt b a with
      | true => rfl
      | false =>
        exfalso
        rcases list_tri a.data.toList b.data.toList with h | h | h
        · rw [(sLt_iff a b).2 h] at h1; cases h1
        · have : a = b := ByteArray.ext (Array.toList_inj.1 h)
          rw [(sEq_iff a b).2 this] at h2; cases h2
        · rw [(sLt_iff b a).2 h] at h3; cases h3
theorem Fr_drewF (S : Nat → Prop) (w : World) (n : Nat) : Fr S w (w.drewN n) := ⟨rfl, rfl, rfl, Nat.le_refl _, fun _ _ _ => rfl⟩

def SortPost (l : List ByteArray) (key : ByteArray) (w : World) (e : Ending) (w' : World) : Prop :=
  ∃ (i : Nat), e = .returned (.int .i64 (i : Int)) ∧ PartAt (fun k => !gtS k key) l i ∧ ∃ n, w' = w.drewN n

end Go.Proofs.YtdmjnopjnaoepaaGreatDoor
namespace Go.Proofs.YtdmjnopjnaoepaaGreatDoor
open Go.RowKit

theorem PartAt.count {p : ByteArray → Bool} {l : List ByteArray} {i : Nat} (h : PartAt p l i) : (l.filter p).length = i := by
  obtain ⟨h0, h1, h2⟩ := h
  have e1 : (l.take i).filter p = l.take i := List.filter_eq_self.2 fun x hx => by
    obtain ⟨j, hj, rfl⟩ := List.getElem_of_mem hx
    rw [List.length_take] at hj
    rw [List.getElem_take]
    exact h1 j (by omega) (by omega)
  have e2 : (l.drop i).filter p = [] := List.filter_eq_nil_iff.2 fun x hx => by
    obtain ⟨j, hj, rfl⟩ := List.getElem_of_mem hx
    rw [List.length_drop] at hj
    rw [List.getElem_drop, h2 (i + j) (by omega) (by omega)]
    simp
  have e : l.filter p = (l.take i).filter p ++ (l.drop i).filter p := by rw [← List.filter_append, List.take_append_drop]
  rw [e, e1, e2, List.append_nil, List.length_take]
  omega

def findIs (l : List ByteArray) (key : ByteArray) : Bool := l.any (fun k => sEq k key)
def atP (leaf : Bool) (key : ByteArray) (k : ByteArray) : Bool := sLt k key || (sEq k key && !leaf)
def findAt (n : Nd) (key : ByteArray) : Nat := (n.keys.filter (atP n.leaf key)).length

theorem found_eq {l : List ByteArray} {key : ByteArray} {i : Nat} (hr : Rising l) (h : PartAt (fun k => sLt k key) l i) : (decide (i < l.length) && sEq (l.getD i ⟨#[]⟩) key) = findIs l key := by
  obtain ⟨h0, h1, h2⟩ := h
  rw [Bool.eq_iff_iff]
  unfold findIs
  simp only [Bool.and_eq_true, decide_eq_true_iff, List.any_eq_true]
  constructor
  · rintro ⟨hi, he⟩
    refine ⟨l[i], List.getElem_mem hi, ?_⟩
    rwa [List.getD_eq_getElem?_getD, List.getElem?_eq_getElem hi] at he
  · rintro ⟨x, hx, he⟩
    obtain ⟨j, hj, rfl⟩ := List.getElem_of_mem hx
    have hk := (sEq_iff _ _).1 he
    have hji : i ≤ j := by
      rcases Nat.lt_or_ge j i with h | h
      · have := h1 j hj h
        simp only [hk, sLt_irrefl] at this
        cases this
      · exact h
    have hij : j ≤ i := by
      rcases Nat.lt_or_ge i j with h | h
      · have h3 := hr i j hj h
        have h4 := h2 i (by omega) (Nat.le_refl _)
        simp only at h4
        rw [hk] at h3
        rw [h3] at h4
        cases h4
      · exact h
    obtain rfl : i = j := by omega
    refine ⟨hj, ?_⟩
    rw [List.getD_eq_getElem?_getD, List.getElem?_eq_getElem hj]
    exact he

end Go.Proofs.YtdmjnopjnaoepaaGreatDoor
namespace Go.Proofs.YtdmjnopjnaoepaaGreatDoor
open Go.RowKit

theorem rising_of_step {l : List ByteArray} (h : ∀ j (hj : j + 1 < l.length), sLt (l[j]'(by omega)) l[j + 1] = true) : Rising l := by
  intro i j hj hij
  obtain ⟨d, rfl⟩ : ∃ d, j = i + 1 + d := ⟨j - (i + 1), by omega⟩
  induction d with
  | zero => exact h i hj
  | succ d ih => exact sLt_trans (ih (by omega) (by omega)) (h (i + 1 + d) hj)

theorem keysB_rising {l : List ByteArray} (h : keysB l = true) : Rising l := by
  refine rising_of_step fun j hj => ?_
  have h1 := List.all_eq_true.1 h (j + 1) (by simpa using hj)
  unfold keyAt at h1
  rw [List.getElem?_eq_getElem hj] at h1
  simp only [Bool.and_eq_true] at h1
  have h2 := h1.2
  rw [List.getD_eq_getElem?_getD, List.getElem?_eq_getElem (by omega)] at h2
  exact h2

theorem partAt_of_down {p : ByteArray → Bool} : ∀ {l : List ByteArray}, (∀ i j (hj : j < l.length) (hij : i < j), p l[j] = true → p (l[i]'(by omega)) = true) → PartAt p l (l.filter p).length
  | [], _ => ⟨Nat.zero_le _, fun j h _ => by simp at h, fun j h _ => by simp at h⟩
  | a :: l, h => by
    have ih := partAt_of_down (l := l) (fun i j hj hij hp => h (i + 1) (j + 1) (by simp; omega) (by omega) hp)
    obtain ⟨h0, h1, h2⟩ := ih
    cases ha : p a with
    | true =>
      rw [List.filter_cons_of_pos ha, List.length_cons]
      refine ⟨by simp; omega, fun j hj hji => ?_, fun j hj hji => ?_⟩
      · rcases j with _ | j
        · exact ha
        · exact h1 j (by simpa using hj) (by omega)
      · rcases j with _ | j
        · omega
        · exact h2 j (by simpa using hj) (by omega)
    | false =>
      have hall : ∀ j (hj : j < l.length), p l[j] = false := fun j hj => by
        rw [Bool.eq_false_iff]
        intro hp
        have := h 0 (j + 1) (by simp; omega) (by omega) hp
        rw [show (a :: l)[0] = a from rfl, ha] at this
        cases this
      have he : l.filter p = [] := List.filter_eq_nil_iff.2 fun x hx => by
        obtain ⟨j, hj, rfl⟩ := List.getElem_of_mem hx
        rw [hall j hj]; simp
      rw [List.filter_cons_of_neg (by rw [ha]; simp), he]
      refine ⟨Nat.zero_le _, fun j hj hji => by simp at hji, fun j hj hji => ?_⟩
      rcases j with _ | j
      · exact ha
      · exact hall j (by simpa using hj)

theorem sLt_asymm {a b : ByteArray} (h : sLt a b = true) : sLt b a = false := by
  rw [Bool.eq_false_iff]
  intro h2
  have := sLt_trans h h2
  rw [sLt_irrefl] at this
  cases this

theorem findAt_part {n : Nd} (key : ByteArray) (hr : Rising n.keys) : PartAt (atP n.leaf key) n.keys (findAt n key) := by
  refine partAt_of_down fun i j hj hij hp => ?_
  have h1 := hr i j hj hij
  unfold atP at hp ⊢
  simp only [Bool.or_eq_true, Bool.and_eq_true] at hp ⊢
  rcases hp with hp | ⟨hp, -⟩
  · exact Or.inl (sLt_trans h1 hp)
  · rw [sEq_iff] at hp
    rw [hp] at h1
    exact Or.inl h1

theorem findAt_own {n : Nd} (hr : Rising n.keys) (i : Nat) (hi : i < n.keys.length) : findAt n n.keys[i] = if n.leaf then i else i + 1 := by
  obtain ⟨h0, h1, h2⟩ := findAt_part n.keys[i] hr
  have hself : atP n.leaf n.keys[i] n.keys[i] = !n.leaf := by unfold atP; rw [sLt_irrefl, (sEq_iff _ _).2 rfl]; simp
  have hle : i ≤ findAt n n.keys[i] := by
    rcases Nat.lt_or_ge (findAt n n.keys[i]) i with h | h
    · have h3 := h2 _ (by omega) (Nat.le_refl _)
      have h4 := hr _ i hi h
      unfold atP at h3
      rw [h4] at h3
      simp at h3
    · exact h
  have hge : findAt n n.keys[i] ≤ i + 1 := by
    rcases Nat.lt_or_ge (i + 1) (findAt n n.keys[i]) with h | h
    · have h3 := h1 (i + 1) (by omega) h
      have h4 := hr i (i + 1) (by omega) (by omega)
      unfold atP at h3
      simp only [Bool.or_eq_true, Bool.and_eq_true] at h3
      rcases h3 with h3 | ⟨h3, -⟩
      · rw [sLt_asymm h4] at h3; cases h3
      · rw [sEq_iff] at h3; rw [h3, sLt_irrefl] at h4; cases h4
    · exact h
  cases hl : n.leaf with
  | true =>
    rw [hl] at hself
    rw [if_pos rfl]
    rcases Nat.lt_or_ge i (findAt n n.keys[i]) with h | h
    · have := h1 i hi h
      rw [hl, hself] at this; cases this
    · omega
  | false =>
    rw [hl] at hself
    rw [if_neg (by simp)]
    rcases Nat.lt_or_ge i (findAt n n.keys[i]) with h | h
    · omega
    · have := h2 i hi h
      rw [hl, hself] at this; cases this
theorem findIs_own {l : List ByteArray} (i : Nat) (hi : i < l.length) : findIs l l[i] = true :=
  List.any_eq_true.2 ⟨l[i], List.getElem_mem hi, (sEq_iff _ _).2 rfl⟩
theorem findAt_le {n : Nd} (key : ByteArray) : findAt n key ≤ n.keys.length := List.length_filter_le _ _
/-- What stands ahead isn't more. -/
theorem findAt_ahead {n : Nd} (key : ByteArray) (hr : Rising n.keys) (i : Nat) (hi : i < n.keys.length) (h : findAt n key = i + 1) : sLt key n.keys[i] = false := by
  have h3 := (findAt_part key hr).2.1 i hi (by omega)
  unfold atP at h3
  simp only [Bool.or_eq_true, Bool.and_eq_true] at h3
  rcases h3 with h3 | ⟨h3, -⟩
  · exact sLt_asymm h3
  · rw [sEq_iff] at h3; rw [h3, sLt_irrefl]
/-- What stands there isn't less. -/
theorem findAt_there {n : Nd} (key : ByteArray) (hr : Rising n.keys) (hi : findAt n key < n.keys.length) : sLt n.keys[findAt n key] key = false := by
  have h3 := (findAt_part key hr).2.2 _ hi (Nat.le_refl _)
  unfold atP at h3
  simp only [Bool.or_eq_false_iff] at h3
  exact h3.1
theorem bytesLess_nil (l : List UInt8) : Op.bytesLess l [] = false := by
  rw [bytesLess_eq]; simp
theorem findAt_first {n : Nd} (hk : keysB n.keys = true) : findAt n ⟨#[]⟩ = 0 := by
  have hr := keysB_rising hk
  rcases Nat.eq_zero_or_pos (findAt n ⟨#[]⟩) with h | h
  · exact h
  · exfalso
    have hle := findAt_le (n := n) ⟨#[]⟩
    have h3 := (findAt_part ⟨#[]⟩ hr).2.1 0 (by omega) h
    unfold atP at h3
    simp only [Bool.or_eq_true, Bool.and_eq_true] at h3
    rcases h3 with h3 | ⟨h3, -⟩
    · unfold sLt at h3
      rw [show (⟨#[]⟩ : ByteArray).toList = [] from by rw [ByteArray.toList_eq], bytesLess_nil] at h3
      cases h3
    · rw [sEq_iff] at h3
      have h4 := List.all_eq_true.1 hk 0 (by simp; omega)
      unfold keyAt at h4
      rw [List.getElem?_eq_getElem (by omega), h3] at h4
      simp at h4
      exact h4.1 rfl

end Go.Proofs.YtdmjnopjnaoepaaGreatDoor
namespace Go.Proofs.YtdmjnopjnaoepaaGreatDoor
open Go.RowKit

def lenS (l : List ByteArray) : Int := (l.map (fun s => (s.size : Int))).sum
theorem lenS_step (l : List ByteArray) (k : Nat) (h : k < l.length) : lenS (l.take (k + 1)) = lenS (l.take k) + (l[k].size : Int) := by
  unfold lenS
  rw [List.take_succ_eq_append_getElem h, List.map_append, List.sum_append]; simp
def costN (n : Nd) : Int := 44 * (n.kids.length : Int) + lenS n.keys + lenS n.vals
def great9 (n : Nd) : Bool := decide (6000 < wrap64 (costN n)) || decide (200 < (n.keys.length : Int)) || decide (200 < (n.vals.length : Int))
theorem wrap64_add' (a b : Int) : wrap64 (wrap64 a + b) = wrap64 (a + b) := by unfold wrap64; omega

end Go.Proofs.YtdmjnopjnaoepaaGreatDoor
namespace Go.Proofs.YtdmjnopjnaoepaaGreatDoor
open Go.RowKit

theorem refNum_any (x n : Nat) (w : World) (h8 : n ≤ 8) (hx : x < 18446744073709551616) (hfit : x / 256 ^ n = 0) :
    Calls Tryz.prog 67 #[.int .u64 (x : Int), .int .i64 (n : Int)] w fun e w' => ∃ aa cc, e = .returned (.slice aa n cc) ∧ w'.ownsRow w.heap.size 5 1 (.slice aa n cc) n ((putB x n).map Bv) ∧ Below w.heap.size w w' := by
  have HX := Lib.hid hfit
  have HH := Lib.hid (fun w => refPut_all x n w h8 hx)
  clear hfit hx
  go_enter Tryz.func67, Tryz.ntmps67
  go_wp2_with fail
  refine (HH.out _).mono ?_
  rintro e w1 ⟨hb, h | h⟩
  · exact absurd HX.out (by have := h.1; omega)
  · obtain ⟨-, aa, cc, rfl, hown⟩ := h
    have HB := Lib.hid hb
    have HO := Lib.hid hown
    clear hb hown
    go_wp2
    go_ret
    exact ⟨aa, cc, rfl, HO.out, HB.out⟩

theorem step_append_u8 {w : World} {o : Oper} {a : Act} {K : Act → World → Prop} {Q : Exit → Act → World → Prop} (s x : Operand)
    (ho : o.op = .call { callee := .builtin .append, args := #[s, x], argTypes := #[22, 22] })
    {base : Nat} {v : Value} {n : Nat} {xs : List UInt8} (hown : w.ownsRow base 5 1 v n (xs.map Bv)) {vx : Value} {m : Nat} {news : List UInt8} (hx : Sl w 1 vx m (news.map Bv))
    (hs : a.eval s = v) (hxe : a.eval x = vx) (hr : n + m ≤ 140737488355328) (hbase : base ≤ w.heap.size)
    (h : ∀ aa cc w', w'.ownsRow base 5 1 (.slice aa (n + m) cc) (n + m) ((xs ++ news).map Bv) → Fr (fun k => v.ownBlock = some k) w w' → ((Value.slice aa (n + m) cc).ownBlock = v.ownBlock ∨ (Value.slice aa (n + m) cc).ownBlock = some w.heap.size) →
      K (a.put o.dst (.slice aa (n + m) cc)) w') : Oper.wp Tryz.prog o a w K Q := by
  obtain ⟨i0, hi, hz0, hz1, hz2⟩ := info_parts info_u8
  obtain ⟨v', w', hq, h2, h3, h4, ⟨aa, cc, rfl⟩, _⟩ := run_append_sl (P := Tryz.prog) w base 22 o.type 5 i0 (.int .u8 0) 1 1 Tryz.underlying22 hi hz0 hz1 hz2 rfl (by decide) v n _ hown vx m _ hx (Bv_oneCell _) (by unfold maxLen; omega) (by omega) hbase
  rw [← List.map_append] at h2
  unfold Oper.wp execOp
  simp only [ho, resolve, invoke, builtin, Sem.run_bind, Sem.run_pure, Result.andThen_ok, List.map_toArray, List.map_cons, List.map_nil, hs, hxe, hq]
  exact h aa cc w' h2 ((Fr.refl _ w).grown h3 (fun k hk => Or.inl hk)) h4

theorem held_step {b : Nat} {x y : Value} {w0 W wA : World} (hb : Below W.heap.size W wA) (h : W.cell? ⟨b, 0, none⟩ = some x ∧ W.cell? ⟨b, 1, none⟩ = some y ∧ Below w0.heap.size w0 W) :
    wA.cell? ⟨b, 0, none⟩ = some x ∧ wA.cell? ⟨b, 1, none⟩ = some y ∧ Below w0.heap.size w0 wA :=
  ⟨(hb.cell (World.block_lt_of_cell? W _ h.1)).trans h.1, (hb.cell (World.block_lt_of_cell? W _ h.2.1)).trans h.2.1, h.2.2.trans (hb.mono h.2.2.size)⟩
theorem held_own {b : Nat} {x y : Value} {w0 W wA : World} {e n : Nat} {v : Value} {xs : List Value} (ho : wA.ownsRow W.heap.size e 1 v n xs) (h : W.cell? ⟨b, 0, none⟩ = some x ∧ W.cell? ⟨b, 1, none⟩ = some y ∧ Below w0.heap.size w0 W) :
    wA.ownsRow w0.heap.size e 1 v n xs := ho.base h.2.2.size
theorem held_size {b : Nat} {x y : Value} {w0 W : World} (h : W.cell? ⟨b, 0, none⟩ = some x ∧ W.cell? ⟨b, 1, none⟩ = some y ∧ Below w0.heap.size w0 W) : w0.heap.size ≤ W.heap.size := h.2.2.size
theorem held_fr {b : Nat} {x y : Value} {w0 W w9 : World} {S : Nat → Prop} (hf : Fr S W w9) (hs : ∀ k, S k → w0.heap.size ≤ k) (hb : b < w0.heap.size) (h : W.cell? ⟨b, 0, none⟩ = some x ∧ W.cell? ⟨b, 1, none⟩ = some y ∧ Below w0.heap.size w0 W) :
    w9.cell? ⟨b, 0, none⟩ = some x ∧ w9.cell? ⟨b, 1, none⟩ = some y ∧ Below w0.heap.size w0 w9 :=
  ⟨hf.cell h.1 (fun k => by have := hs _ k; simp only at this; omega), hf.cell h.2.1 (fun k => by have := hs _ k; simp only at this; omega), h.2.2.trans (hf.below h.2.2.size hs)⟩

set_option maxRecDepth 100000 in
set_option maxHeartbeats 4000000 in
theorem refPtrBytes_any (p : Pt) (w : World) (h : p.Wf) :
    Calls Tryz.prog 68 #[.agg p.arr] w fun e w' => ∃ aa cc, e = .returned (.slice aa 44 cc) ∧ w'.ownsRow w.heap.size 5 1 (.slice aa 44 cc) 44 ((ptrB p).map Bv) ∧ Below w.heap.size w w' := by
  have hg := heap_alloc_new w (.cells p.arr 30)
  have hc0 : (w.alloc (.cells p.arr 30)).cell? ⟨w.heap.size, 0, none⟩ = some (.int .u32 (p.addr : Int)) := (cell_of_row _ _ 0 _ _ _ hg).trans p.get0
  have hc1 : (w.alloc (.cells p.arr 30)).cell? ⟨w.heap.size, 1, none⟩ = some (.int .u64 (p.birth : Int)) := (cell_of_row _ _ 1 _ _ _ hg).trans p.get1
  have HAT := Lib.hid (At_box w p 30)
  have HW := Lib.hid h
  have HB := Lib.hid ((Below.refl _ w).alloc (Nat.le_refl _) (.cells p.arr 30))
  have ha := h.addr
  have EW := Lib.hid (show IntKind.u64.wrap (p.addr : Int) = (p.addr : Int) by rw [IntKind.wrap_u64]; omega)
  have HA := Lib.hid (show ∀ w, Calls Tryz.prog 67 #[.int .u64 (p.addr : Int), .int .i64 4] w fun e w' => ∃ aa cc, e = .returned (.slice aa 4 cc) ∧ w'.ownsRow w.heap.size 5 1 (.slice aa 4 cc) 4 ((putB p.addr 4).map Bv) ∧ Below w.heap.size w w' from fun w => refNum_any p.addr 4 w (by omega) (by omega) (Nat.div_eq_of_lt (by omega)))
  have HBI := Lib.hid (show ∀ w, Calls Tryz.prog 67 #[.int .u64 (p.birth : Int), .int .i64 8] w fun e w' => ∃ aa cc, e = .returned (.slice aa 8 cc) ∧ w'.ownsRow w.heap.size 5 1 (.slice aa 8 cc) 8 ((putB p.birth 8).map Bv) ∧ Below w.heap.size w w' from fun w => refNum_any p.birth 8 w (by omega) h.birth (Nat.div_eq_of_lt (by have := h.birth; omega)))
  clear h hg
  obtain ⟨w0, hw0⟩ : ∃ w0, w0 = w.alloc (.cells p.arr 30) := ⟨_, rfl⟩
  have hs0 : w0.heap.size = w.heap.size + 1 := by rw [hw0]; simp
  have HW0 := Lib.hid hw0
  rw [← hw0] at hc0 hc1
  clear hw0
  go_enter Tryz.func68, Tryz.ntmps68
  go_wp2_with fail
  rw [← HW0.out] at HAT HB ⊢
  go_region_held3 (fun w' => w'.cell? ⟨w.heap.size, 0, none⟩ = some (.int .u32 (p.addr : Int)) ∧ w'.cell? ⟨w.heap.size, 1, none⟩ = some (.int .u64 (p.birth : Int)) ∧ Below w0.heap.size w0 w')
    (first | exact ⟨hc0, hc1, (Below.refl _ _).drew⟩ | assumption)
    (first
      | (go_at_call_of 67 (Value.int .u64 (IntKind.u64.wrap (p.addr : Int)))
         rw [EW.out]
         refine (HA.out _).mono ?_
         rintro e wA ⟨aA, cA, rfl, hoA, hbA⟩
         have hSA := held_step hbA (by assumption)
         replace hoA := held_own (w0 := w0) hoA (by assumption)
         try (replace hoB := hoB.fr (Fr.of_below (S := fun _ => False) hbA) (fun _ _ => id))
         clear hbA)
      | (go_at_call_of 67 (Value.int .u64 (p.birth : Int))
         refine (HBI.out _).mono ?_
         rintro e wB ⟨aB, cB, rfl, hoB, hbB⟩
         have hSB := held_step hbB (by assumption)
         replace hoB := held_own (w0 := w0) hoB (by assumption)
         try (replace hoA := hoA.fr (Fr.of_below (S := fun _ => False) hbB) (fun _ _ => id))
         clear hbB)
      | (refine step_append_u8 (.tmp 7) (.tmp 10) rfl hoA (Sl.own hoB) rfl rfl ?h1 ?h2 ?h3
         case h1 => decide
         case h2 =>
           refine held_size (b := w.heap.size) (x := .int .u32 (p.addr : Int)) (y := .int .u64 (p.birth : Int)) ?_
           assumption
         intro aC cC w9 hoC hfC h3
         have hS9 := held_fr (b := w.heap.size) (x := .int .u32 (p.addr : Int)) (y := .int .u64 (p.birth : Int)) hfC (fun k hk => (hoA.lt k hk).1) (by omega) (by assumption)
         clear hfC hoA hoB))
  all_goals
    have HOC := Lib.hid (show w9.ownsRow w0.heap.size 5 1 (.slice aC 12 cC) 12 ((putB p.addr 4 ++ putB p.birth 8).map Bv) from hoC)
    have hsum : At w9 w.heap.size 2 (p.sum.map Bv) := by simpa using (Pt.sumAt (HAT.out.fr (Fr.of_below (S := fun _ => False) hS9.2.2) id))
    have HSum := Lib.hid (show Sl w9 1 (.slice (some ⟨w.heap.size, 2, none⟩) 32 32) 32 (p.sum.map Bv) from ⟨by simp [HW.out.sum], _, _, rfl, Nat.le_refl _, fun h => (by cases h), fun i u hu => ⟨_, _, rfl, hsum i u hu⟩⟩)
    have HB9 := Lib.hid (HB.out.trans (hS9.2.2.mono HB.out.size))
    have hs9 := hS9.2.2.size
    have HS0 := Lib.hid hs0
    clear hoC hsum hS9 h3 hc0 hc1 hs0
    go_wp2_with (at_builtin; refine append_u8 rfl (.tmp 12) (.tmp 14) rfl HOC.out HSum.out rfl rfl (by decide) hs9 ?_)
    intro aD cD w10 hoD hfD h4
    have HOD := Lib.hid (hoD.base (show w.heap.size ≤ w0.heap.size by have := HS0.out; omega))
    have HBD := Lib.hid (HB9.out.trans (hfD.below (by have := HS0.out; omega) (fun k hk => by have := (HOC.out.lt k hk).1; have := HS0.out; omega)))
    clear hoD hfD h4
    go_wp2
    go_ret
    exact ⟨aD, cD, rfl, HOD.out, HBD.out⟩

end Go.Proofs.YtdmjnopjnaoepaaGreatDoor
