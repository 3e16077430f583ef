/- Walk: banyanref02's With. Walks: banyanref03's padded, turned. A region that draws its order: an operation that yields one value in every world of a class, and leaves it, may come first, if every world on the way lies in the class. Over any program. -/
import Derived.Test.YtdmjnopjnaoepaaGreatDoorB0
import Derived.Test.YtdmjnopjnaoepaaGreatDoorB1
import Derived.Test.YtdmjnopjnaoepaaGreatDoorB8
import Derived.Test.YtdmjnopjnaoepaaGreatDoorB12
import Derived.Deep.DeepCutAuto
namespace Go.Proofs.YtdmjnopjnaoepaaGreatDoor
open Go.RowKit

/-- What With holds: the rows of numbers, the result's place, the bytes so far. -/
structure WithRel (w : World) (v1 v2 v : Value) (ys : List UInt8) (wr : World) : Prop where
  own : wr.ownsRow (w.heap.size + 2) 5 1 v ys.length (ys.map Bv)
  c : wr.heap[w.heap.size]? = some (.cells #[v1, v2] 86 (0, 0))
  z : wr.heap[w.heap.size + 1]? = some (.cells ((List.replicate 32 (0 : UInt8)).map Bv).toArray 28 (0, 0))
  below : Below w.heap.size w wr
theorem WithRel.size {w wr : World} {v1 v2 v : Value} {ys : List UInt8} (h : WithRel w v1 v2 v ys wr) : w.heap.size + 2 ≤ wr.heap.size := by have := lt_of_block h.z; omega
theorem WithRel.bel {w wr w1 : World} {v1 v2 v : Value} {ys : List UInt8} (h : WithRel w v1 v2 v ys wr) (hb : Below wr.heap.size wr w1) : WithRel w v1 v2 v ys w1 :=
  ⟨h.own.fr (Fr.of_below (S := fun _ => False) hb) (fun _ _ => id), (hb.block _ (lt_of_block h.c)).trans h.c, (hb.block _ (lt_of_block h.z)).trans h.z, h.below.trans (hb.mono h.below.size)⟩
theorem WithRel.app {w wr w1 : World} {u1 u2 v v1 : Value} {ys zs : List UInt8} {n : Nat} (h : WithRel w u1 u2 v ys wr) (hn : n = (ys ++ zs).length) (ho : w1.ownsRow (w.heap.size + 2) 5 1 v1 n ((ys ++ zs).map Bv)) (hf : Fr (fun k => v.ownBlock = some k) wr w1) : WithRel w u1 u2 v1 (ys ++ zs) w1 :=
  ⟨hn ▸ ho, (hf.block _ (lt_of_block h.c) (fun e => by have := (h.own.lt _ e).1; omega)).trans h.c, (hf.block _ (lt_of_block h.z) (fun e => by have := (h.own.lt _ e).1; omega)).trans h.z,
    h.below.trans (hf.below h.below.size (fun k e => by have := (h.own.lt _ e).1; omega))⟩
theorem WithRel.fr {S : Nat → Prop} {w wr w1 : World} {v1 v2 v : Value} {ys : List UInt8} (h : WithRel w v1 v2 v ys wr) (hf : Fr S wr w1) (hs : ∀ k, S k → w.heap.size + 2 ≤ k ∧ v.ownBlock ≠ some k) : WithRel w v1 v2 v ys w1 :=
  ⟨h.own.fr hf (fun k hk x => (hs k x).2 hk), (hf.block _ (lt_of_block h.c) (fun x => by have := (hs _ x).1; omega)).trans h.c, (hf.block _ (lt_of_block h.z) (fun x => by have := (hs _ x).1; omega)).trans h.z,
    h.below.trans (hf.below h.below.size (fun k x => by have := (hs k x).1; omega))⟩
theorem WithRel.cells {w wr : World} {v1 v2 v : Value} {ys : List UInt8} (h : WithRel w v1 v2 v ys wr) : wr.cell? ⟨w.heap.size, 0, none⟩ = some v1 ∧ wr.cell? ⟨w.heap.size, 1, none⟩ = some v2 :=
  ⟨cell_of_row _ _ 0 _ _ _ h.c, cell_of_row _ _ 1 _ _ _ h.c⟩
theorem WithRel.start (w : World) (v1 v2 : Value) : WithRel w v1 v2 (.slice (some ⟨w.heap.size + 1 + 1, 0, none⟩) 0 0) [] (((w.alloc (.cells #[v1, v2] 86)).alloc (.cells ((List.replicate 32 (0 : UInt8)).map Bv).toArray 28)).alloc (.cells #[] 5)) := by
  have a0 := heap_alloc_new w (.cells #[v1, v2] 86)
  have a1 := heap_alloc_new (w.alloc (.cells #[v1, v2] 86)) (.cells ((List.replicate 32 (0 : UInt8)).map Bv).toArray 28)
  rw [show (w.alloc (.cells #[v1, v2] 86)).heap.size = w.heap.size + 1 by simp] at a1
  have h0 := own_empty ((w.alloc (.cells #[v1, v2] 86)).alloc (.cells ((List.replicate 32 (0 : UInt8)).map Bv).toArray 28))
  have hs : ((w.alloc (.cells #[v1, v2] 86)).alloc (.cells ((List.replicate 32 (0 : UInt8)).map Bv).toArray 28)).heap.size = w.heap.size + 2 := by simp
  rw [hs] at h0
  exact ⟨h0, (Below.heap_alloc _ _ _ (by simp; omega)).trans ((Below.heap_alloc _ _ _ (by simp)).trans a0), (Below.heap_alloc _ _ _ (by simp)).trans a1,
    (((Below.refl _ w).alloc (Nat.le_refl _) _).alloc (by simp) _).alloc (by simp; omega) _⟩

theorem index_row8 (arr : Array Value) (i : Nat) (v : Value) (hi : i < 8) (hv : arr[i]? = some v) (w : World) : (Instr.index 97 (.agg arr) (.int .i64 (i : Int))).run Tryz.prog w = .ok v w := by
  have hu : Tryz.prog.underlying 97 = some (.array 8 26) := Tryz.underlying97
  have hs : (sizeOf 26).run Tryz.prog w = .ok 1 w := by kernel_rfl
  have ha : (isAgg 26).run Tryz.prog w = .ok false w := by kernel_rfl
  have hlt : (0 : Int) ≤ (i : Int) ∧ (i : Int) < ((8 : Nat) : Int) := by omega
  simp [Instr.index, run_underlying hu, asIntOf, hlt.1, hs, part, ha, hv, Sem.run_bind, Result.andThen]
  intro h; omega

set_option maxRecDepth 100000 in
set_option maxHeartbeats 8000000 in
theorem with02_any (v1 v2 v : Value) (xs : List UInt8) (w : World) (hm : MadeC w v1 v2) (h : Sl w 1 v xs.length (xs.map Bv)) (hr : xs.length ≤ 1000000) :
    Calls Tryz.prog 63 #[.agg #[v1, v2], v] w fun e w' => e = .returned (.agg ((hashN xs).map Bv).toArray) ∧ Below w.heap.size w w' := by
  obtain ⟨hv, hhv⟩ : ∃ hv, hv = hashN xs := ⟨_, rfl⟩
  rw [← hhv]
  have HHv := Lib.hid hhv
  obtain ⟨n, hn⟩ : ∃ n, n = xs.length := ⟨_, rfl⟩
  rw [← hn] at h hr
  have HN := Lib.hid hn
  obtain ⟨a, cap, rfl⟩ := shape_of h
  obtain ⟨a1, c1, rfl⟩ := shape_of hm.1
  obtain ⟨a2, c2, rfl⟩ := shape_of hm.2
  have HM := Lib.hid hm
  have HS := Lib.hid h
  clear hhv hn hm h
  go_enter Tryz.func63, Tryz.ntmps63
  have hstart := WithRel.start w (.slice a1 8 c1) (.slice a2 64 c2)
  have HS0 := Lib.hid (HS.out.below hstart.below)
  have HSz := Lib.hid hstart.size
  have HO0 := Lib.hid hstart.own
  have HR0 := Lib.hid hstart
  clear hstart
  go_wp2_with (at_builtin; refine append_u8 rfl (.tmp 11) (.tmp 12) rfl HO0.out HS0.out rfl rfl (by simp; omega) HSz.out ?_)
  intro a3 c3 w1 hown1 hf1 h31
  have hr1 := HR0.out.app (n := n) (zs := xs) (by simp [HN.out]) (by rw [List.nil_append]; exact hown1) hf1
  rw [List.nil_append] at hr1
  have hr1a := hr1.bel ((Below.refl _ w1).alloc (Nat.le_refl _) (.cells #[.int .u8 128] 5))
  have hlit : Sl (w1.alloc (.cells #[.int .u8 128] 5)) 1 (.slice (some ⟨w1.heap.size, 0, none⟩) 1 1) 1 ([(0x80 : UInt8)].map Bv) := sl_row' (heap_alloc_new _ _) rfl rfl
  have hown1' := hr1a.own
  rw [← HN.out] at hown1'
  have HOwn1 := Lib.hid hown1'
  have HLit := Lib.hid hlit
  have HR1 := Lib.hid hr1a
  have HBs := Lib.hid (show w.heap.size + 2 ≤ (w1.alloc (.cells #[.int .u8 128] 5)).heap.size from hr1a.size)
  clear hown1 hf1 h31 hr1 hr1a hown1' hlit HO0 HS0 HSz HR0
  go_wp2_with (at_builtin; refine append_u8 rfl (.tmp 13) (.tmp 14) rfl HOwn1.out HLit.out rfl rfl (by omega) HBs.out ?_)
  intro a4 c4 w2 hown2 hf2 h32
  have hr2 := HR1.out.app (n := n + 1) (zs := [(0x80 : UInt8)]) (by rw [List.length_append, ← HN.out]; rfl) (by rw [List.map_append]; exact hown2) hf2
  have HR2 := Lib.hid (show WithRel w (.slice a1 8 c1) (.slice a2 64 c2) (.slice a4 (n + 1) c4) (xs ++ [0x80] ++ List.replicate 0 0) w2 by simpa using hr2)
  clear hown2 hf2 h32 hr2 HOwn1 HLit HR1 HBs
  go_wp2_with fail
  go_loopw [5] (fun v wr => ∃ (j : Nat) (a : Option Addr) (c : Nat), j ≤ padZ n ∧ v = .slice a (n + 1 + j) c ∧ WithRel w (.slice a1 8 c1) (.slice a2 64 c2) v (xs ++ [0x80] ++ List.replicate j 0) wr) (fun v _ => 1000200 - lenV v)
  case atStart => exact ⟨0, a4, c4, Nat.zero_le _, rfl, HR2.out⟩
  case round =>
    obtain ⟨j, a5, c5, hj, rfl, hrel⟩ := hrel
    have hpz := padZ_lt n
    have hlen3 : (xs ++ [0x80] ++ List.replicate j (0 : UInt8)).length = n + 1 + j := by rw [List.length_append, List.length_append, List.length_replicate, ← HN.out]; rfl
    obtain ⟨ys, hys⟩ : ∃ ys, ys = xs ++ [0x80] ++ List.replicate j (0 : UInt8) := ⟨_, rfl⟩
    rw [← hys] at hlen3 hrel
    have HYs := Lib.hid hys
    clear hys
    by_cases hjp : j < padZ n
    · have hmin := padZ_min n j hjp
      have t1 : ((((n + 1 + j : Nat) : Int) % 64) != 56) = true := by rw [bne_iff_ne]; omega
      have hra := hrel.bel ((Below.refl _ wr).alloc (Nat.le_refl _) (.cells #[.int .u8 0] 5))
      have hlit : Sl (wr.alloc (.cells #[.int .u8 0] 5)) 1 (.slice (some ⟨wr.heap.size, 0, none⟩) 1 1) 1 ([(0 : UInt8)].map Bv) := sl_row' (heap_alloc_new _ _) rfl rfl
      have hown1 := hra.own
      rw [hlen3] at hown1
      have HOwn1 := Lib.hid hown1
      have HLit := Lib.hid hlit
      have HR1 := Lib.hid hra
      have HBs := Lib.hid (show w.heap.size + 2 ≤ (wr.alloc (.cells #[.int .u8 0] 5)).heap.size from hra.size)
      have HLen3 := Lib.hid hlen3
      clear hrel hlen3 hmin hra hlit hown1
      go_wp2_with (at_builtin; refine append_u8 rfl (.tmp 20) (.tmp 21) rfl HOwn1.out HLit.out rfl rfl (by omega) HBs.out ?_)
      intro a6 c6 w4 hown4 hf4 h34
      have hr4 := HR1.out.app (n := n + 1 + j + 1) (zs := [(0 : UInt8)]) (by rw [List.length_append, HLen3.out]; rfl) (by rw [List.map_append]; exact hown4) hf4
      have HR4 := Lib.hid hr4
      clear hown4 hf4 h34 hr4 HOwn1 HLit HR1 HBs HLen3
      go_wp2
      go_roundw
      case rel => exact ⟨j + 1, a6, c6, by omega, rfl, by rw [List.replicate_succ', ← List.append_assoc, ← HYs.out]; exact HR4.out⟩
      case measure => simp [lenV]; omega
    · obtain rfl : j = padZ n := by omega
      have hat := padZ_at n
      have t1 : ((((n + 1 + padZ n : Nat) : Int) % 64) != 56) = false := by rw [bne_eq_false_iff_eq]; omega
      obtain ⟨m, hm⟩ : ∃ m, m = n + 1 + padZ n := ⟨_, rfl⟩
      rw [← hm] at t1 hlen3 hat hrel ⊢
      have hm2 : m < 1000200 := by omega
      have HRel := Lib.hid hrel
      have HLen3 := Lib.hid hlen3
      have HM' := Lib.hid hm
      clear hrel hlen3 hj hjp hpz hm
      have hput := fun w => refNum_any (n * 8) 8 w (by decide) (by omega) (Nat.div_eq_of_lt (by omega))
      rw [show ((n * 8 : Nat) : Int) = (n : Int) * 8 by omega, show ((8 : Nat) : Int) = 8 from rfl] at hput
      have HPut := Lib.hid hput
      clear hput
      go_wp2_with fail
      refine (HPut.out _).mono ?_
      rintro e w3 ⟨a7, c7, rfl, hown5, hb5⟩
      have hr3 := HRel.out.bel hb5
      have HS5 := Lib.hid (Sl.own hown5)
      have hown3 := hr3.own
      rw [HLen3.out] at hown3
      have HOwn3 := Lib.hid hown3
      have HBs := Lib.hid hr3.size
      have HR3 := Lib.hid hr3
      clear hown5 hb5 hown3 hr3
      go_wp2_with (at_builtin; refine append_u8 rfl (.tmp 23) (.tmp 28) rfl HOwn3.out HS5.out rfl rfl (by omega) HBs.out ?_)
      intro a8 c8 w6 hown6 hf6 h36
      have hr6 := HR3.out.app (n := m + 8) (zs := putB (n * 8) 8) (by rw [List.length_append, HLen3.out, putB_length]) (by rw [List.map_append]; exact hown6) hf6
      have HEnd := Lib.hid (show ys ++ putB (n * 8) 8 = endOf xs n by rw [HYs.out, endOf, ← HN.out])
      obtain ⟨es, hes⟩ : ∃ es, es = endOf xs n := ⟨_, rfl⟩
      rw [HEnd.out, ← hes] at hr6
      have HEl := Lib.hid (show es.length = m + 8 by rw [hes, ← HEnd.out, List.length_append, HLen3.out, putB_length])
      obtain ⟨N, hN⟩ : ∃ N, m + 8 = 64 * N := ⟨(m + 8) / 64, by omega⟩
      have HHv2 := Lib.hid (show hv = outB (blocksN sInit es N) by
        rw [HHv.out]
        unfold hashN
        rw [← HN.out, ← hes, HEl.out, hN, Nat.mul_div_cancel_left _ (by decide)])
      have HR6 := Lib.hid hr6
      have HEs := Lib.hid hes
      clear hown6 hf6 h36 hr6 hes HOwn3 HS5 HBs HR3 HEnd HRel HR2
      have hN2 : N ≤ 15700 := by omega
      have hm6 : m + 8 = 64 * N := hN
      rw [hN] at HR6 HEl ⊢
      have HN6 := Lib.hid hN
      clear hN hm6
      obtain ⟨M, hM⟩ : ∃ M, M = 64 * N := ⟨_, rfl⟩
      rw [← hM] at HEl ⊢
      have hM2 : M ≤ 1004800 := by omega
      have HMM := Lib.hid hM
      rw [← hM] at HR6
      clear hM
      have hX7 := heap_alloc_new w6 (.cells zero8 97)
      have hR7 := HR6.out.bel ((Below.refl _ w6).alloc (Nat.le_refl _) (.cells zero8 97))
      obtain ⟨X, hX⟩ : ∃ X, X = w6.heap.size := ⟨_, rfl⟩
      have hsz : w.heap.size + 2 ≤ X := by rw [hX]; exact HR6.out.size
      have hne : (Value.slice a8 M c8).ownBlock ≠ some X := fun e => by
        have := (HR6.out.own.lt X e).2
        omega
      go_wp2_with fail
      rw [← hX] at hX7 ⊢
      obtain ⟨w7, hw7⟩ : ∃ w7, w7 = w6.alloc (.cells zero8 97) := ⟨_, rfl⟩
      rw [show (w6.alloc (.cells #[.int .u32 0, .int .u32 0, .int .u32 0, .int .u32 0, .int .u32 0, .int .u32 0, .int .u32 0, .int .u32 0] 97)) = w7 from hw7.symm]
      rw [← hw7] at hX7 hR7
      obtain ⟨hc0, -⟩ := hR7.cells
      obtain ⟨g1, o1, rfl, hcs⟩ := cellU (HM.out.1.below hR7.below) 0 (by decide)
      have HX7 := Lib.hid (show w7.drew.heap[X]? = some (.cells ((List.replicate 8 0).map U32).toArray 97 (0, 0)) from hX7)
      have HR7 := Lib.hid hR7
      have HSrc := Lib.hid (show At w7.drew g1 o1 (hInit.map U32) from fun i u hu => by
        obtain ⟨hi, rfl⟩ := List.getElem?_eq_some_iff.1 hu
        rw [List.getElem_map]
        exact hcs i (by simpa using hi))
      have HNe := Lib.hid hne
      have HHl := Lib.hid hInit_length
      clear hX7 hR7 hX hw7 hcs hne HR6
      refine wp_region_quiet_tail 3 (by kernel_rfl) (by kernel_rfl) ?_
      simp only [List.take_succ_cons, List.take_zero, List.drop_succ_cons, List.drop_zero]
      repeat (go_big_quiet_step (fail))
      refine wpQuiet_nil ?_
      refine copy_u32 rfl (.tmp 30) (.tmp 32) rfl HX7.out HSrc.out rfl rfl HHl.out (by simp) ?_
      intro w8 hg8 hf8
      rw [List.take_zero, List.nil_append, HHl.out, List.drop_of_length_le (by simp), List.append_nil] at hg8
      have hf8' : Fr (fun k => k = X) w7 w8 := (Fr.refl (fun k => k = X) w7).drew.trans hf8
      have HR8 := Lib.hid (show WithRel w (.slice (some ⟨g1, o1, none⟩) 8 c1) (.slice a2 64 c2) (.slice a8 M c8) es w8 ∧ w8.heap[X]? = some (.cells (blocksN sInit es 0).arr 97 (0, 0)) from
        ⟨HR7.out.fr hf8' (fun k hk => by subst hk; exact ⟨hsz, HNe.out⟩), by
          have e : (blocksN sInit es 0).arr = (hInit.map U32).toArray := by
            show (sInit.list.map U32).toArray = _
            rw [sInit_list]
          rw [e]; exact hg8⟩)
      clear hg8 hf8 hf8' HX7 HR7 HSrc hc0
      go_wp2_with fail
      have HI0 := Lib.hid (show sInit.Ok from sInit_ok)
      go_loopw [7] (fun i wr => ∃ k : Nat, k ≤ N ∧ i = .int .i64 ((64 * k : Nat) : Int) ∧ WithRel w (.slice (some ⟨g1, o1, none⟩) 8 c1) (.slice a2 64 c2) (.slice a8 M c8) es wr ∧ wr.heap[X]? = some (.cells (blocksN sInit es k).arr 97 (0, 0))) (fun i _ => M - (intOf i).toNat)
      case atStart => exact ⟨0, Nat.zero_le _, rfl, HR8.out⟩
      case round =>
        obtain ⟨k, hk, rfl, hr, hrow⟩ := hrel
        rcases Nat.lt_or_ge k N with hlt | hge
        · have hM := HMM.out
          have hown := Sl.own hr.own
          rw [HEl.out] at hown
          obtain ⟨A, C, qs, hA⟩ := cut_u8 hown (lo := 64 * k) (hi := 64 * k + 64) (by omega) (by omega)
          rw [show 64 * k + 64 - 64 * k = 64 by omega] at qs hA
          obtain ⟨i, hi⟩ : ∃ i, i = 64 * k := ⟨_, rfl⟩
          rw [show ((64 * k + 64 : Nat) : Int) = ((64 * k : Nat) : Int) + 64 by omega, ← hi] at qs
          rw [← hi]
          have hil : i < M := by omega
          have hc1 := fun (u : Wd wr.heap.size wr) => u.cell' hr.cells.2
          have hbk := fun (u : Wd wr.heap.size wr) => Calls.wd u (Nat.le_refl _) (block01_any (blocksN sInit es k) (blocksN_ok _ HI0.out k) (.slice A 64 C) (.slice a2 64 c2) ((es.drop (64 * k)).take 64) u.to (hA.below u.hb) ((HM.out.2.below hr.below).below u.hb))
          obtain ⟨s', hs'⟩ : ∃ s', s' = takeN (blocksN sInit es k) ((es.drop (64 * k)).take 64) := ⟨_, rfl⟩
          obtain ⟨s0, hs0⟩ : ∃ s0, s0 = blocksN sInit es k := ⟨_, rfl⟩
          rw [← hs'] at hbk
          rw [← hs0] at hbk hrow
          have HS' := Lib.hid (show s' = blocksN sInit es (k + 1) from hs')
          have HAt := Lib.hid (At.of_row (cs := s0.arr.toList) (by simpa using hrow))
          have HU := Lib.hid (fun w' (hw : ∃ u : Wd wr.heap.size wr, w' = u.to) => (by obtain ⟨u, rfl⟩ := hw; exact u.at HAt.out : At w' X 0 s0.arr.toList))
          have HBk := Lib.hid hbk
          have HR := Lib.hid hr
          have HRow := Lib.hid hrow
          have HI := Lib.hid hi
          clear hM hown hA hbk hr hrow hs' hs0 hi
          go_wp2_with fail
          refine wp_region_class_tail 9 (C := fun w' => ∃ u : Wd wr.heap.size wr, w' = u.to) (by kernel_rfl) (by kernel_rfl) ⟨⟨{ wr with drawn := wr.drawn + 1 }, (Below.refl _ wr).drew⟩, rfl⟩ ?_
          simp only [List.take_succ_cons, List.take_zero, List.drop_succ_cons, List.drop_zero]
          repeat (first | (refine wpQuiet_load_at rfl 97 (.tmp 6) rfl X 0 rfl _ _ HU.out Tryz.underlying97 rfl (by kernel_rfl) ?_; simp only [Act.put, List.setIfInBounds_toArray, List.set_cons_succ, List.set_cons_zero, Array.toArray_toList]) | go_big_quiet_step (with_reducible exact HBk.out _))
          refine wpQuiet_nil ?_
          rintro w9 ⟨⟨_, hb9⟩, rfl⟩
          have HRow9 := Lib.hid ((hb9.block X (lt_of_block HRow.out)).trans HRow.out)
          have HR9 := Lib.hid (HR.out.bel hb9)
          clear hb9 hc1
          refine wpList_store_row rfl 97 (.tmp 6) (.tmp 48) rfl X rfl s'.arr.toList rfl _ _ HRow9.out rfl (St.arr_one s') (by kernel_rfl) ?_
          intro w10 hg10 hf10 hs10
          have HRel := Lib.hid (show WithRel w (.slice (some ⟨g1, o1, none⟩) 8 c1) (.slice a2 64 c2) (.slice a8 M c8) es w10 ∧ w10.heap[X]? = some (.cells (blocksN sInit es (k + 1)).arr 97 (0, 0)) from
            ⟨HR9.out.fr hf10 (fun j hj => by subst hj; exact ⟨hsz, HNe.out⟩), by rw [← HS'.out]; exact hg10⟩)
          clear hg10 hf10 hs10
          go_wp2
          go_roundw
          case rel => exact ⟨k + 1, by omega, by have := HI.out; rw [this]; go_num, HRel.out⟩
          case measure => simp [intOf]; omega
        · obtain rfl : N = k := by omega
          have hM := HMM.out
          obtain ⟨fs, hfs⟩ : ∃ fs, fs = blocksN sInit es N := ⟨_, rfl⟩
          have HOk := Lib.hid (show fs.Ok by rw [hfs]; exact blocksN_ok _ HI0.out N)
          rw [← hfs] at hrow
          have HFs := Lib.hid (show hv = outB fs by rw [HHv2.out, hfs])
          rw [← hM]
          have HR := Lib.hid hr
          have HRow := Lib.hid hrow
          have hz0 := heap_alloc_new wr (.cells ((outTo fs.list 0).map Bv).toArray 28)
          have hR0 := hr.bel ((Below.refl _ wr).alloc (Nat.le_refl _) (.cells ((outTo fs.list 0).map Bv).toArray 28))
          have HAtX := Lib.hid (At.of_row (cs := fs.arr.toList) (by simpa using ((Below.heap_alloc wr (.cells ((outTo fs.list 0).map Bv).toArray 28) X (lt_of_block hrow)).trans hrow)))
          obtain ⟨Z, hZ⟩ : ∃ Z, Z = wr.heap.size := ⟨_, rfl⟩
          have HZl := Lib.hid (show X < Z by rw [hZ]; exact lt_of_block hrow)
          have HNz := Lib.hid (show (Value.slice a8 M c8).ownBlock ≠ some Z from fun e => by
            have := (hr.own.lt Z e).2
            omega)
          rw [← hZ] at hz0
          have HZ0 := Lib.hid (And.intro hR0 hz0)
          clear hM hr hrow hfs hz0 hR0 hge hk HR8
          go_wp2_with (refine wpList_load_at rfl 97 (.tmp 6) rfl X 0 rfl fs.arr.toList _ HAtX.out Tryz.underlying97 rfl (by kernel_rfl) ?_)
          rw [← hZ]
          clear hZ
          go_loopw [50] (fun i wr => ∃ n : Nat, n ≤ 8 ∧ i = .int .i64 n ∧ WithRel w (.slice (some ⟨g1, o1, none⟩) 8 c1) (.slice a2 64 c2) (.slice a8 M c8) es wr ∧ wr.heap[Z]? = some (.cells ((outTo fs.list n).map Bv).toArray 28 (0, 0))) (fun i _ => 8 - (intOf i).toNat)
          case atStart => exact ⟨0, Nat.zero_le _, rfl, HZ0.out⟩
          case round =>
            obtain ⟨n, hn, rfl, hr, hz⟩ := hrel
            rcases Nat.lt_or_ge n 8 with hlt8 | hge
            · have hidx := index_row8 fs.arr n (U32 (fs.list.getD n 0)) hlt8 (by
                unfold St.arr
                rw [List.getElem?_toArray, List.getElem?_map, List.getD_eq_getElem?_getD, List.getElem?_eq_getElem (show n < fs.list.length from hlt8)]; rfl)
              have hstep := outTo_step fs.list n rfl hlt8
              have h32 := HOk.out.get n
              have hol := outTo_length fs.list n rfl (by omega)
              obtain ⟨x, hx⟩ : ∃ x, x = fs.list.getD n 0 := ⟨_, rfl⟩
              rw [← hx] at hidx hstep h32
              unfold U32 at hidx
              have hsl := slice_hash Z n hlt8
              have hput := fun w => refNum_any x 4 w (by decide) (by omega) (Nat.div_eq_of_lt (by omega))
              rw [show ((4 : Nat) : Int) = 4 from rfl] at hput
              have HPut := Lib.hid hput
              have HStep := Lib.hid hstep
              have HOl := Lib.hid hol
              have HZ2 := Lib.hid hz
              have HR2 := Lib.hid hr
              have HSl := Lib.hid hsl
              have hx64 : IntKind.u64.wrap (x : Int) = (x : Int) := by rw [IntKind.wrap_u64]; omega
              have h4w : IntKind.i64.wrap (4 * (n : Int)) = 4 * (n : Int) := IntWalk.i64_in _ (by omega)
              clear hput hstep hol hz hr hx hsl
              go_wp2_with fail
              refine wp_region_any (by kernel_rfl) ?_
              refine wpAny_take (i := 0) (v := .int .i64 (n : Int)) rfl (by kernel_rfl) (by kernel_rfl) (by kernel_rfl) (fun _ _ _ h => h) (Or.inl ⟨by rfl, fun w => by go_simp⟩) ?_
              refine wpAny_take (i := 1) (v := .int .i64 (4 * (n : Int))) rfl (by kernel_rfl) (by kernel_rfl) (by kernel_rfl) (fun _ _ _ h => h) (Or.inl ⟨by rfl, fun w => by go_simp⟩) ?_
              refine wpAny_take (i := 2) (v := .slice (some ⟨Z, 4 * n, none⟩) (32 - 4 * n) (32 - 4 * n)) rfl (by kernel_rfl) (by kernel_rfl) (by kernel_rfl) (fun _ _ _ h => h) (Or.inl ⟨by rfl, fun w => by have := HSl.out w; go_simp⟩) ?_
              refine wpAny_take (i := 3) (v := .int .u32 (x : Int)) rfl (by kernel_rfl) (by kernel_rfl) (by kernel_rfl) (fun _ _ _ h => h) (Or.inl ⟨by rfl, fun w => by go_simp⟩) ?_
              refine wpAny_take (i := 4) (v := .int .u64 (x : Int)) rfl (by kernel_rfl) (by kernel_rfl) (by kernel_rfl) (fun _ _ _ h => h) (Or.inl ⟨by rfl, fun w => by go_simp⟩) ?_
              refine wpAny_list 5 rfl (by kernel_rfl) ?_
              simp only [List.drop_succ_cons, List.drop_zero]
              obtain ⟨wd, hwd⟩ : ∃ wd : World, wd = { wr with drawn := wr.drawn + 1 } := ⟨_, rfl⟩
              have HZd := Lib.hid (show wd.heap[Z]? = some (.cells ((outTo fs.list n).map Bv).toArray 28 (0, 0)) by rw [hwd]; exact HZ2.out)
              have HRd := Lib.hid (show WithRel w (.slice (some ⟨g1, o1, none⟩) 8 c1) (.slice a2 64 c2) (.slice a8 M c8) es wd by rw [hwd]; exact HR2.out.bel ((Below.refl _ wr).drew))
              rw [← hwd]
              clear hwd
              go_wp2_with fail
              refine (HPut.out _).mono ?_
              rintro e w9 ⟨a9, c9, rfl, hown9, hb9⟩
              have HZ9 := Lib.hid ((hb9.block _ (lt_of_block HZd.out)).trans HZd.out)
              have HR9 := Lib.hid (HRd.out.bel hb9)
              have HS9 := Lib.hid (Sl.own hown9)
              clear hown9 hb9
              go_wp2_with (refine copy_u8 rfl (.tmp 56) (.tmp 59) rfl HZ9.out HS9.out rfl rfl (by rw [HOl.out]; omega) ?_)
              intro w10 hg10 hf10
              have e4 : (putB x 4).take (min 4 (32 - 4 * n)) = putB x 4 := List.take_of_length_le (by rw [putB_length]; omega)
              rw [e4, HStep.out] at hg10
              have HG10 := Lib.hid hg10
              have HR10 := Lib.hid (HR9.out.fr hf10 (fun k hk => by
                subst hk
                have := HZl.out
                refine ⟨by omega, fun e => ?_⟩
                exact HNz.out e))
              clear hg10 hf10 e4
              go_wp2
              go_roundw
              case rel => exact ⟨n + 1, by omega, by go_num, HR10.out, HG10.out⟩
              case measure => simp [intOf]; omega
            · obtain rfl : n = 8 := by omega
              rw [outTo_all, ← HFs.out] at hz
              have HLn := Lib.hid (show hv.length = 32 by rw [HFs.out]; exact outB_length fs)
              have HAtF := Lib.hid (At.of_row hz)
              have HR2 := Lib.hid hr
              clear hr hz hn hge
              go_wp2_with (first | (refine load_hash' rfl (.tmp 8) rfl rfl HAtF.out HLn.out ?_) | (refine store_hash rfl (.tmp 4) (.tmp 62) rfl rfl rfl HR2.out.z rfl HLn.out ?_; intro w11 hg11 hf11))
              exact bodyPost_ret (ret_hash1 rfl rfl hg11 HLn.out) rfl ⟨rfl, HR2.out.below.trans (hf11.below HR2.out.below.size (fun j hj => by omega))⟩
end Go.Proofs.YtdmjnopjnaoepaaGreatDoor
namespace Go.Proofs.YtdmjnopjnaoepaaGreatDoor
open Go.RowKit

theorem made_row (B : Nat) (w1 : World) (n : Nat) (xs : List UInt8) (h : w1.ownsRow B 5 1 (.slice (some ⟨B, 0, none⟩) n n) n (xs.map Bv)) : w1.heap[B]? = some (.cells (xs.map Bv).toArray 5 (0, 0)) := by
  rcases h.2 with ⟨h1, h2⟩ | ⟨g, cap, cur, h1, hb, hg, -, -, hcs, htake⟩
  · cases h1
  · simp only [Value.slice.injEq, Option.some.injEq, Addr.mk.injEq, and_true, true_and] at h1
    obtain ⟨rfl, rfl⟩ := h1
    rw [hg, ← htake, List.take_of_length_le (by rw [Array.length_toList, hcs]; exact Nat.le_refl _)]
/-- A whole row that the call has made is its own. -/
theorem own_of_row {w : World} {b n base : Nat} {xs : List UInt8} (h : w.heap[b]? = some (.cells (xs.map Bv).toArray 5 (0, 0))) (hb : base ≤ b) (hn : xs.length = n) (hm : n ≤ 1000000000) : w.ownsRow base 5 1 (.slice (some ⟨b, 0, none⟩) n n) n (xs.map Bv) :=
  ⟨by simp [hn], Or.inr ⟨b, n, _, rfl, hb, h, Nat.le_refl _, by unfold maxLen; omega, by simp [hn], by rw [Nat.mul_one, List.take_of_length_le (by simp [hn])]⟩⟩
theorem with02' (v1 v2 v : Value) (xs : List UInt8) (n : Nat) (hn : n = xs.length) (w : World) (hm : MadeC w v1 v2) (h : Sl w 1 v n (xs.map Bv)) (hr : n ≤ 1000000) :
    Calls Tryz.prog 63 #[.agg #[v1, v2], v] w fun e w' => e = .returned (.agg ((hashN xs).map Bv).toArray) ∧ Below w.heap.size w w' := by
  subst hn; exact with02_any v1 v2 v xs w hm h hr
theorem MadeC.below {w w' : World} {v1 v2 : Value} (h : MadeC w v1 v2) (hb : Below w.heap.size w w') : MadeC w' v1 v2 := ⟨h.1.below hb, h.2.below hb⟩

set_option maxRecDepth 100000 in
set_option maxHeartbeats 4000000 in
theorem padded03_any (v1 v2 v : Value) (key : List UInt8) (w : World) (hm : MadeC w v1 v2) (h : Sl w 1 v key.length (key.map Bv)) (hr : key.length ≤ 1000000) :
    Calls Tryz.prog 62 #[.agg #[v1, v2], v] w fun e w' => ∃ u, e = .returned u ∧ Sl w' 1 u 64 ((keyB key).map Bv) ∧ Below w.heap.size w w' := by
  obtain ⟨a1, c1, rfl⟩ := shape_of hm.1
  obtain ⟨a2, c2, rfl⟩ := shape_of hm.2
  obtain ⟨n, hn⟩ : ∃ n, n = key.length := ⟨_, rfl⟩
  rw [← hn] at h hr
  obtain ⟨a, cap, rfl⟩ := shape_of h
  have HM := Lib.hid (fun w' (hb : Below w.heap.size w w') => hm.below hb)
  have HS := Lib.hid (fun w' (hb : Below w.heap.size w w') => h.below hb)
  have HN := Lib.hid hn
  clear hm h hn
  have HB0 := Lib.hid (show Below w.heap.size w (w.alloc (.cells #[.slice a1 8 c1, .slice a2 64 c2] 86)) from (Below.refl _ w).alloc (Nat.le_refl _) _)
  rcases Nat.lt_or_ge 64 n with h64 | h64
  · have HW := Lib.hid (fun w' hb => with02' _ _ (.slice a n cap) key n HN.out w' (HM.out w' hb) (HS.out w' hb) hr)
    have HK := Lib.hid (show keyB key = hashN key ++ List.replicate 32 0 by unfold keyB; rw [if_pos (by rw [← HN.out]; exact h64)])
    have HL := Lib.hid (hashN_length key)
    obtain ⟨hv, hhv⟩ : ∃ hv, hv = hashN key := ⟨_, rfl⟩
    rw [← hhv] at HW HK HL
    clear hhv
    have m1 : decide ((64 : Int) < (n : Int)) = true := by simp; omega
    go_enter Tryz.func62, Tryz.ntmps62
    go_wp2_with fail
    refine (HW.out _ HB0.out).mono ?_
    rintro e w1 ⟨rfl, hb1⟩
    have HB1 := Lib.hid (HB0.out.trans (hb1.mono HB0.out.size))
    clear hb1
    go_wp2_with (refine store_hash rfl (.tmp 5) (.tmp 12) rfl rfl rfl (heap_alloc_new _ _) rfl HL.out ?_)
    intro w2 hg2 hf2
    have hbel2 : Below w1.heap.size w1 w2 := ((Below.refl _ w1).alloc (Nat.le_refl _) _).trans (hf2.below (by simp) (fun j hj => by omega))
    have HB2 := Lib.hid (HB1.out.trans (hbel2.mono HB1.out.size))
    have HS2 := Lib.hid (show Sl w2 1 (.slice (some ⟨w1.heap.size, 0, none⟩) 32 32) 32 (hv.map Bv) from sl_row' hg2 rfl (by simp [HL.out]))
    clear hg2 hf2 hbel2
    go_wp2_with (at_make; refine make_u8 rfl (.const (.int .i64 64)) (.const (.int .i64 64)) rfl 64 rfl rfl (by omega) ?_)
    intro w3 hown3 hb3
    have HB3 := Lib.hid (HB2.out.trans (hb3.mono HB2.out.size))
    have HG3 := Lib.hid (made_row w2.heap.size w3 64 (zB 64) hown3)
    have HS3 := Lib.hid (HS2.out.below hb3)
    have HLt := Lib.hid HB2.out.size
    clear hown3 hb3
    go_wp2_with (refine copy_u8 rfl (.tmp 15) (.tmp 16) rfl HG3.out HS3.out rfl rfl (by rw [zB_length]; decide) ?_)
    intro w4 hg4 hf4
    have e5 : over (zB 64) 0 (hv.take 32) = keyB key := by
      rw [List.take_of_length_le (by rw [HL.out]; decide), over_zB 64 hv, HL.out, HK.out]; rfl
    rw [e5] at hg4
    have HG4 := Lib.hid hg4
    have HB4 := Lib.hid (HB3.out.trans (hf4.below HB3.out.size (fun j hj => by have := HLt.out; omega)))
    clear hg4 hf4 e5
    go_wp2
    go_ret
    exact ⟨_, rfl, sl_row' HG4.out rfl (by simp [keyB_length]), HB4.out⟩
  · have HK := Lib.hid (show keyB key = key ++ List.replicate (64 - key.length) 0 by unfold keyB; rw [if_neg (by rw [← HN.out]; omega)])
    have m1 : decide ((64 : Int) < (n : Int)) = false := by simp; omega
    have HS0 := Lib.hid (HS.out _ HB0.out)
    go_enter Tryz.func62, Tryz.ntmps62
    go_wp2_with (at_make; refine make_u8 rfl (.const (.int .i64 64)) (.const (.int .i64 64)) rfl 64 rfl rfl (by omega) ?_)
    intro w3 hown3 hb3
    have hsz : w.heap.size ≤ w.heap.size + 1 := by omega
    have HB3 := Lib.hid (HB0.out.trans (hb3.mono hsz))
    have HG3 := Lib.hid (made_row (w.heap.size + 1) w3 64 (zB 64) hown3)
    have HS3 := Lib.hid (HS0.out.below (by simpa using hb3))
    have HLt := Lib.hid hsz
    clear hown3 hb3 hsz
    go_wp2_with (refine copy_u8 rfl (.tmp 15) (.tmp 16) rfl HG3.out HS3.out rfl rfl (by rw [zB_length]; omega) ?_)
    intro w4 hg4 hf4
    have e5 : over (zB 64) 0 (key.take n) = keyB key := by
      rw [List.take_of_length_le (by rw [← HN.out]; omega), over_zB 64 key, HK.out]; rfl
    rw [e5] at hg4
    have HG4 := Lib.hid hg4
    have HB4 := Lib.hid (HB3.out.trans (hf4.below HB3.out.size (fun j hj => by have := HLt.out; omega)))
    clear hg4 hf4 e5
    go_wp2
    go_ret
    exact ⟨_, rfl, sl_row' HG4.out rfl (by simp [keyB_length]), HB4.out⟩
set_option maxRecDepth 100000 in
set_option maxHeartbeats 4000000 in
theorem turned03_any (v : Value) (l : List UInt8) (y : UInt8) (w : World) (h : Sl w 1 v 64 (l.map Bv)) :
    Calls Tryz.prog 64 #[v, .int .u8 (y.toNat : Int)] w fun e w' => ∃ aa cc, e = .returned (.slice aa 64 cc) ∧ w'.ownsRow w.heap.size 5 1 (.slice aa 64 cc) 64 ((l.map (· ^^^ y)).map Bv) ∧ Below w.heap.size w w' := by
  have hl : l.length = 64 := by simpa using h.1
  obtain ⟨a, c, rfl⟩ := shape_of h
  obtain ⟨g, o, rfl, hat⟩ := h.here' (by decide)
  have HL := Lib.hid hl
  have HAt := Lib.hid hat
  have hgl : g < w.heap.size := World.block_lt_of_cell? w ⟨g, o + 0, none⟩ (hat 0 (Bv l[0]) (by rw [List.getElem?_map, List.getElem?_eq_getElem (by omega)]; rfl))
  clear h hl hat
  go_enter Tryz.func64, Tryz.ntmps64
  go_wp2_with (at_make; refine make_u8 rfl (.tmp 8) (.tmp 8) rfl 64 rfl rfl (by omega) ?_)
  intro w1 hown hb1
  have HR := Lib.hid (show w1.heap[w.heap.size]? = some (.cells (((l.map (· ^^^ y)).take 0 ++ (zB 64).drop 0).map Bv).toArray 5 (0, 0)) ∧ Below w.heap.size w w1 from ⟨made_row w.heap.size w1 64 (zB 64) hown, hb1⟩)
  clear hown hb1
  go_wp2_with fail
  go_loopw [12] (fun i wr => ∃ k : Nat, k ≤ 64 ∧ i = .int .i64 k ∧ wr.heap[w.heap.size]? = some (.cells (((l.map (· ^^^ y)).take k ++ (zB 64).drop k).map Bv).toArray 5 (0, 0)) ∧ Below w.heap.size w wr) (fun i _ => 64 - (intOf i).toNat)
  case atStart => exact ⟨0, Nat.zero_le _, rfl, HR.out⟩
  case round =>
    obtain ⟨k, hk, rfl, hrow, hb⟩ := hrel
    rcases Nat.lt_or_ge k 64 with hlt | hge
    · have hkl : k < l.length := by rw [HL.out]; exact hlt
      have c0 : wr.cell? ⟨g, o + k, none⟩ = some (.int .u8 ((l[k].toNat : Nat) : Int)) := hb.cell (p := ⟨g, o + k, none⟩) hgl |>.trans (HAt.out k _ (by rw [List.getElem?_map, List.getElem?_eq_getElem hkl]; rfl))
      have hlen : ((l.map (· ^^^ y)).take k ++ (zB 64).drop k).length = 64 := by rw [List.length_append, List.length_take, List.length_drop, List.length_map, zB_length, HL.out]; omega
      have hset : ((l.map (· ^^^ y)).take k ++ (zB 64).drop k).set k (l[k] ^^^ y) = (l.map (· ^^^ y)).take (k + 1) ++ (zB 64).drop (k + 1) := by
        have h1 : ((l.map (· ^^^ y)).take k).length = k := by rw [List.length_take, List.length_map]; omega
        rw [List.set_append_right _ _ (by omega), h1, Nat.sub_self, List.drop_eq_getElem_cons (by rw [zB_length]; exact hlt), List.set_cons_zero, List.take_succ_eq_append_getElem (by simpa using hkl), List.append_assoc, List.getElem_map]
        rfl
      obtain ⟨ys, hys⟩ : ∃ ys, ys = (l.map (· ^^^ y)).take k ++ (zB 64).drop k := ⟨_, rfl⟩
      rw [← hys] at hrow hlen hset
      obtain ⟨z, d0⟩ : ∃ z, wr.cell? ⟨w.heap.size, k, none⟩ = some (Bv z) := ⟨ys[k]'(by omega), by rw [cell_of_row _ _ k _ _ _ hrow, List.getElem?_toArray, List.getElem?_map, List.getElem?_eq_getElem (by omega)]; rfl⟩
      have f0 : wr.frozen? ⟨w.heap.size, k, none⟩ = false := by simp [World.frozen?, hrow]
      obtain ⟨x, hx⟩ : ∃ x, x = l[k] := ⟨_, rfl⟩
      rw [← hx] at c0 hset
      have HV := Lib.hid (u8_xor_val x y)
      have HSet := Lib.hid hset
      have HRow := Lib.hid hrow
      have HB := Lib.hid hb
      clear hrow hb hlen hset hys hx
      go_wp2
      go_roundw
      case rel =>
        have h1 := heap_setCell_same wr w.heap.size k _ _ (Bv (x ^^^ y)) HRow.out
        rw [List.setIfInBounds_toArray, ← List.map_set, HSet.out] at h1
        rw [HV.out]
        exact ⟨k + 1, by omega, by go_num, h1, HB.out.setCell (Nat.le_refl _) _⟩
      case measure => simp [intOf]; omega
    · obtain rfl : k = 64 := by omega
      rw [List.take_of_length_le (by rw [List.length_map, HL.out]; exact Nat.le_refl _), List.drop_of_length_le (by rw [zB_length]; exact Nat.le_refl _), List.append_nil] at hrow
      have HRow := Lib.hid hrow
      have HB := Lib.hid hb
      clear hrow hb
      go_wp2
      go_ret
      exact ⟨_, _, rfl, own_of_row HRow.out (Nat.le_refl _) (by rw [List.length_map, HL.out]) (by decide), HB.out⟩
end Go.Proofs.YtdmjnopjnaoepaaGreatDoor
namespace Go.Proofs.YtdmjnopjnaoepaaGreatDoor
open Go.RowKit

section
variable {P : Program} {md : Region.Mode} {ops : Array Oper} {C : World → Prop} {Q : Exit → Act → World → Prop}

/-- wpAny, with every world on the way in the class. -/
def wpAnyC (P : Program) (md : Region.Mode) (ops : Array Oper) (C : World → Prop) (Q : Exit → Act → World → Prop) : Nat → Array Bool → Act → World → Prop
  | 0, listed, a, w => C w ∧ Region.ready md ops listed = [] ∧ Q .normal a w
  | f + 1, listed, a, w => C w ∧ (Region.ready md ops listed = [] → Q .normal a w) ∧ ∀ i ∈ Region.ready md ops listed, wpOp P ops Q i (wpAnyC P md ops C Q f (listed.setIfInBounds i true)) a w

theorem wpAnyC.here {f : Nat} {listed : Array Bool} {a : Act} {w : World} (h : wpAnyC P md ops C Q f listed a w) : C w := by
  cases f <;> exact h.1
theorem wpAny_of_C : ∀ {f : Nat} {listed : Array Bool} {a : Act} {w : World}, wpAnyC P md ops C Q f listed a w → wpAny P md ops Q f listed a w
  | 0, _, _, _, h => h.2
  | _ + 1, _, _, _, h => ⟨h.2.1, fun i hi => wpOp_mono (fun _ _ h' => wpAny_of_C h') (h.2.2 i hi)⟩

/-- Yields the value in every world of the class, and leaves the world. -/
def YieldsC (P : Program) (ops : Array Oper) (C : World → Prop) (o : Oper) (v : Value) (a : Act) : Prop :=
  (Region.wanted o (yielded ops a.tmps) = true ∧ ∀ w, C w → (execOp a.eval o).run P w = .ok (.value v) w) ∨ (Region.wanted o (yielded ops a.tmps) = false ∧ v = undef)

theorem YieldsC.op {i : Nat} {o : Oper} {v : Value} {a : Act} (hi : ops[i]? = some o) (hy : YieldsC P ops C o v a) {K : Act → World → Prop} {w : World} (hw : C w) (h : K (a.put o.dst v) w) : wpOp P ops Q i K a w := by
  unfold wpOp
  simp only [hi]
  rcases hy with ⟨h1, h2⟩ | ⟨h1, rfl⟩
  · rw [if_pos h1]
    refine .inl ?_
    unfold Oper.wp
    rw [h2 w hw]
    exact h
  · rw [if_neg (by rw [h1]; decide)]
    exact h
theorem YieldsC.same {o : Oper} {v : Value} {a a' : Act} (hy : YieldsC P ops C o v a) (he : execOp a'.eval o = execOp a.eval o) (hw : Region.wanted o (yielded ops a'.tmps) = Region.wanted o (yielded ops a.tmps)) : YieldsC P ops C o v a' := by
  unfold YieldsC
  rw [he, hw]
  exact hy

/-- What an operation does behind the taken one, it does ahead of it. -/
theorem wpOp_ahead {j : Nat} {oi oj : Oper} {v : Value} (hj : ops[j]? = some oj) (hap : oi.apart ops oj = true) (hsi : ∀ cs b, oi.op ≠ .select cs b) (hsj : ∀ cs b, oj.op ≠ .select cs b)
    (hQ : ∀ c a w, Q (.panic c) (a.put oi.dst v) w → Q (.panic c) a w) {K : Act → World → Prop} {a : Act} {w : World} (hy : YieldsC P ops C oi v a) (h : wpOp P ops Q j K (a.put oi.dst v) w) :
    wpOp P ops Q j (fun a' w' => YieldsC P ops C oi v a' ∧ K (a'.put oi.dst v) w') a w := by
  obtain ⟨h1, h2, h3⟩ := Oper.apart_spec hap
  have stays : ∀ (b : Act), YieldsC P ops C oi v b → ∀ u, YieldsC P ops C oi v (b.put oj.dst u) := fun b hb u => hb.same (execOp_put oi hsi b oj.dst u h3) (wanted_put oi b oj.dst u h3)
  have both : ∀ (b : Act), YieldsC P ops C oi v b → ∀ (u : Value) (w' : World), K ((b.put oi.dst v).put oj.dst u) w' → YieldsC P ops C oi v (b.put oj.dst u) ∧ K ((b.put oj.dst u).put oi.dst v) w' :=
    fun b hb u w' hk => ⟨stays b hb u, by rw [← Act.put_comm b v u h2]; exact hk⟩
  unfold wpOp at h ⊢
  simp only [hj] at h ⊢
  rw [wanted_put oj a oi.dst v h1] at h
  by_cases hw : Region.wanted oj (yielded ops a.tmps) = true
  · rw [if_pos hw] at h ⊢
    rcases h with h | ⟨ha, hl⟩
    · refine .inl ?_
      unfold Oper.wp at h ⊢
      rw [execOp_put oj hsj a oi.dst v h1] at h
      cases hr : (execOp a.eval oj).run P w with
      | ok n w' =>
        rw [hr] at h
        cases n with
        | value u => exact both a hy u w' h
        | skip => exact both a hy undef w' h
        | defer d =>
          refine both { a with defers := d :: a.defers } (hy.same rfl rfl) undef w' ?_
          rw [← Act.put_defers]
          exact h
        | enter f args =>
          refine Calls.mono h fun e w'' he => ?_
          cases e with
          | returned u => exact both a hy u w'' he
          | panicked c => exact hQ _ _ _ he
          | outgrown => exact he
        | row row args => exact Rows.mono h fun u w'' he => both a hy u w'' he
        | _ => exact h
      | halt x w' =>
        rw [hr] at h
        cases x with
        | panic u => exact hQ _ _ _ h
        | _ => exact h
    · exact .inr ⟨by unfold Oper.asks at ha ⊢; rw [execOp_put oj hsj a oi.dst v h1] at ha; exact ha, hl⟩
  · rw [if_neg hw] at h ⊢
    exact both a hy undef w h

theorem wpAnyC_first {i : Nat} {oi : Oper} {v : Value} (hi : ops[i]? = some oi) (hsel : ∀ (j : Nat) (o : Oper) cs b, ops[j]? = some o → o.op ≠ .select cs b)
    (hQ : ∀ c a w, Q (.panic c) (a.put oi.dst v) w → Q (.panic c) a w) :
    ∀ (f : Nat) (listed : Array Bool) (a : Act) (w : World),
      (∀ j oj, ops[j]? = some oj → j ≠ i → listed.getD j true = false → (∀ e ∈ oj.after, Region.binds md e = true → e.on ≠ i) → oi.apart ops oj = true) →
      i ∈ Region.ready md ops listed → YieldsC P ops C oi v a → wpAnyC P md ops C Q f (listed.setIfInBounds i true) (a.put oi.dst v) w → wpAnyC P md ops C Q (f + 1) listed a w
  | 0, listed, a, w, _, hr, hy, H => by
    refine ⟨H.1, fun h => (by rw [h] at hr; cases hr), fun j hj => ?_⟩
    by_cases hji : j = i
    · subst hji; exact hy.op hi H.1 H
    · have := ready_mono hj hji
      rw [H.2.1] at this
      cases this
  | f + 1, listed, a, w, hfree, hr, hy, H => by
    refine ⟨H.1, fun h => (by rw [h] at hr; cases hr), fun j hj => ?_⟩
    by_cases hji : j = i
    · subst hji; exact hy.op hi H.1 H
    · obtain ⟨hjun, oj, hoj, hall⟩ := mem_ready.1 hj
      have hun := (mem_ready.1 hr).1
      have hnot : ∀ e ∈ oj.after, Region.binds md e = true → e.on ≠ i := by
        intro e he hb heq
        have h1 := hall e he hb
        rw [heq] at h1
        rcases Nat.lt_or_ge i listed.size with h' | h'
        · simp [h'] at hun h1; rw [hun] at h1; cases h1
        · simp [Array.getElem?_eq_none h'] at h1
      have h2 := wpOp_ahead hoj (hfree j oj hoj hji hjun hnot) (fun cs b => hsel i oi cs b hi) (fun cs b => hsel j oj cs b hoj) hQ hy (H.2.2 j (ready_mono hj hji))
      refine wpOp_mono (fun a' w' h3 => wpAnyC_first hi hsel hQ f (listed.setIfInBounds j true) a' w' ?_ (ready_mono hr (Ne.symm hji)) h3.1 ?_) h2
      · intro k ok hk hki hku hno
        refine hfree k ok hk hki ?_ hno
        by_cases hjk : j = k
        · subst hjk; exact hjun
        · rwa [getD_set_ne true hjk] at hku
      · rw [Array.setIfInBounds_comm _ _ hji]
        exact h3.2

theorem wpAnyC_take {i : Nat} {oi : Oper} {v : Value} {f : Nat} {listed : Array Bool} {a : Act} {w : World} (hi : ops[i]? = some oi)
    (hs : Region.noSelect ops = true) (hf : Region.free md ops listed i = true) (hr : (Region.ready md ops listed).contains i = true)
    (hQ : ∀ c a w, Q (.panic c) (a.put oi.dst v) w → Q (.panic c) a w) (hy : YieldsC P ops C oi v a)
    (h : wpAnyC P md ops C Q f (listed.setIfInBounds i true) (a.put oi.dst v) w) : wpAnyC P md ops C Q (f + 1) listed a w :=
  wpAnyC_first hi (Region.noSelect_spec hs) hQ f listed a w (Region.free_spec hi hf) (by simpa using hr) hy h

/-- The one that is ready comes next. -/
theorem wpAnyC_forced {f : Nat} {listed : Array Bool} {a : Act} {w : World} (i : Nat) {o : Oper} (hw0 : C w) (hr : Region.ready md ops listed = [i]) (ho : ops[i]? = some o) (hw : Region.wanted o (yielded ops a.tmps) = true)
    (h : ∀ K' : Act → World → Prop, (∀ a w, wpAnyC P md ops C Q f (listed.setIfInBounds i true) a w → K' a w) → Oper.wp P o a w K' Q) : wpAnyC P md ops C Q (f + 1) listed a w := by
  refine ⟨hw0, fun h0 => (by rw [hr] at h0; cases h0), fun j hj => ?_⟩
  rw [hr] at hj
  obtain rfl := List.mem_singleton.1 hj
  unfold wpOp
  simp only [ho]
  rw [if_pos hw]
  exact .inl (h _ fun _ _ h' => h')
theorem wpAnyC_done {f : Nat} {listed : Array Bool} {a : Act} {w : World} (hr : Region.ready md ops listed = []) (hw0 : C w) (h : Q .normal a w) : wpAnyC P md ops C Q f listed a w := by
  cases f with
  | zero => exact ⟨hw0, hr, h⟩
  | succ f => exact ⟨hw0, fun _ => h, fun i hi => (by rw [hr] at hi; cases hi)⟩

/-- A struct or an array, read at an address that lies alike in every world of the class. -/
theorem yields_load {o : Oper} {a : Act} (hw : Region.wanted o (yielded ops a.tmps) = true) (ty : TypeId) (x : Operand) (ho : o.op = .load ty x)
    (b off : Nat) (hx : a.eval x = .pointer (some ⟨b, off, none⟩)) (cs : List Value) (d : TypeDesc) (hc : ∀ w', C w' → At w' b off cs)
    (hu : P.underlying ty = some d) (hd : (match d with | .struct _ | .array _ _ => true | _ => false) = true) (hi : (P.info? ty).map (·.size) = some cs.length) : YieldsC P ops C o (.agg cs.toArray) a :=
  .inl ⟨hw, fun w' hw' => by
    unfold execOp
    simp only [ho, hx, Instr.loadAt, Instr.sureAddr, Sem.run_bind, Sem.run_pure, Result.andThen_ok, run_loadVar_at w' b off ty cs d (hc w' hw') hu hd hi]⟩
/-- A struct or an array, stored over a row, at a forced step. -/
theorem wp_store_row {o : Oper} {a : Act} {w : World} {K : Act → World → Prop} (ty : TypeId) (x y : Operand) (ho : o.op = .store ty x y)
    (b : Nat) (hx : a.eval x = .pointer (some ⟨b, 0, none⟩)) (cs : List Value) (hy : a.eval y = .agg cs.toArray) (old : Array Value) (t : TypeId) (hb : w.heap[b]? = some (.cells old t (0, 0))) (hl : old.size = cs.length)
    (h1 : ∀ u ∈ cs, u.oneCell' = true) (hi : (P.info? ty).map (·.size) = some cs.length)
    (h : ∀ w', w'.heap[b]? = some (.cells cs.toArray t (0, 0)) → Fr (fun k => k = b) w w' → w'.heap.size = w.heap.size → K (a.put o.dst undef) w') : Oper.wp P o a w K Q := by
  have hst := run_storeCells_at P b 0 t cs 0 old w hb (by omega) h1
  cases hq : P.info? ty with
  | none => simp [hq] at hi
  | some i =>
    have hs : i.size = cs.length := by simpa [hq] using hi
    have he : (old.toList.take (0 + 0) ++ cs ++ old.toList.drop (0 + 0 + cs.length)).toArray = cs.toArray := by
      rw [List.drop_of_length_le (by rw [Array.length_toList]; omega)]; simp
    rw [he] at hst
    have hr : (Instr.storeAt ty (.pointer (some ⟨b, 0, none⟩)) (.agg cs.toArray)).run P w = .ok () (w.setRow b cs.toArray) := by
      simp [Instr.storeAt, Instr.sureAddr, storeVar, sizeOf, typeInfo, hq, hs, Value.cells, Sem.run_bind, hst]
    unfold Oper.wp execOp
    simp only [ho, hx, hy, Sem.run_bind, Sem.run_pure, Result.andThen_ok, hr]
    exact h _ (setRow_heap w b old _ t _ hb) ⟨rfl, rfl, rfl, by simp, fun k _ hk => setRow_other w b k _ hk⟩ (by simp)
end

end Go.Proofs.YtdmjnopjnaoepaaGreatDoor
