/- Walks: banyanref11's Set, Taken, Same. Walks: strings.Compare, slices.BinarySearchFunc over strings. Walks: sort.Search by node.Find's closure; node.Find. Walks: node.Find, the reference's Find. Plain laws: keys that rise, and where a key stands in them. Walk: banyanlaw09's great. Walks: the reference's bytes of a number, of a pointer. Walk: the reference's bytes of a node. -/
import Derived.Test.YtkbnkdokcmpcgaaGreatDoorB12
import Derived.Test.YtkbnkdokcmpcgaaGreatDoorB13
import Derived.Test.YtkbnkdokcmpcgaaGreatDoorB14
import Derived.Test.YtkbnkdokcmpcgaaGreatDoorB15
import Derived.BigQuiet
import Derived.Lib.Bytealg
import Derived.Deep.RegionHeld3
namespace Go.Proofs.YtkbnkdokcmpcgaaGreatDoor
open Go.RowKit

theorem Sl_n32 (w : World) (n : Nat) : Sl (w.alloc (.cells #[.int .u32 (n : Int)] 41)) 1 (.slice (some ⟨w.heap.size, 0, none⟩) 1 1) 1 ([n].map U32) := by
  refine ⟨rfl, some ⟨w.heap.size, 0, none⟩, 1, rfl, Nat.le_refl _, (fun h => by cases h), fun i u hu => ⟨w.heap.size, 0, rfl, ?_⟩⟩
  have hi : i < 1 := by simpa using (List.getElem?_eq_some_iff.1 hu).1
  obtain rfl : i = 0 := by omega
  rw [Nat.zero_add, cell_of_row _ _ 0 _ _ _ (heap_alloc_new w _)]
  exact hu
def RwPost (w : World) (S size : Nat) (V : Nat) (t : Nat → Bool) (l : List Nat) (e : Ending) (w' : World) : Prop :=
  ((∀ a ∈ l, 2 ≤ a ∧ a < size) → e = .returned (.int .i64 0) ∧ (∃ V', RsAt w' S V' size (ofL l) ∧ (V' = V ∨ w.heap.size ≤ V')) ∧ Fr (fun k => k = S) w w') ∧ (¬ (∀ a ∈ l, 2 ≤ a ∧ a < size) → e = .returned (.int .i64 2) ∧ w = w' ∧ RsAt w' S V size t)

set_option maxHeartbeats 2000000 in
set_option maxRecDepth 100000 in
theorem rsSet_any (S V size n : Nat) (t : Nat → Bool) (l : List Nat) (v : Value) (w : World) (h : RsAt w S V size t) (hv : Sl w 1 v n (l.map U32)) (hl : ∀ a ∈ l, a < 4294967296) (hn : n ≤ 140737488351232)
    (hno : 0 < n → ∀ a m c, v = .slice (some a) m c → a.block ≠ S) :
    Calls Tryz.prog 35 #[.pointer (some ⟨S, 0, none⟩), v] w (RwPost w S size V t l) := by
  have hln : l.length = n := by simpa using hv.1
  obtain ⟨av, cv, rfl, _⟩ := hv.len
  have HH := Lib.hid h
  have HV := Lib.hid hv
  have HL := Lib.hid hl
  have HLn := Lib.hid hln
  have HNo := Lib.hid hno
  have hs := h.2.2.1
  clear h hv hl hln hno
  go_enter Tryz.func35, Tryz.ntmps35
  go_wp2_with fail
  go_loop [11, 6] (fun ii _ => ∃ i : Nat, i ≤ n ∧ ii = .int .i64 i ∧ ∀ a ∈ l.take i, 2 ≤ a ∧ a < size) (fun ii _ => n - (intOf ii).toNat)
  case atStart => exact ⟨0, Nat.zero_le _, rfl, fun a h => by simp at h⟩
  case round =>
    obtain ⟨i, hi, rfl, hok⟩ := hrel
    have HOk := Lib.hid hok
    clear hok
    rcases Nat.lt_or_ge i n with hlt | hge
    · obtain ⟨a, ha⟩ : ∃ a, l[i]? = some a := ⟨_, List.getElem?_eq_getElem (by rw [HLn.out]; exact hlt)⟩
      have hal := HL.out a (List.mem_of_getElem? ha)
      obtain ⟨_, a', c', e', _, _, hcv⟩ := HV.out
      simp only [Value.slice.injEq, true_and] at e'
      obtain ⟨rfl, rfl⟩ := e'
      obtain ⟨vb, vo, rfl, gv⟩ := hcv i (U32 a) (by rw [List.getElem?_map, ha]; rfl)
      unfold U32 at gv
      have his := rsIs_any S V size a t w HH.out hal
      have HTk := Lib.hid (show l.take (i + 1) = l.take i ++ [a] by rw [List.take_succ_eq_append_getElem (by rw [HLn.out]; exact hlt), (List.getElem?_eq_some_iff.1 ha).2])
      have HMem := Lib.hid (List.mem_of_getElem? ha)
      clear hcv ha
      rcases Classical.em (2 ≤ a ∧ a < size) with hr | hr
      · rw [show decide (2 ≤ a ∧ a < size) = true by simpa using hr] at his
        have HNext := Lib.hid (show ∀ c ∈ l.take (i + 1), 2 ≤ c ∧ c < size from fun c hc => by
          rw [HTk.out, List.mem_append, List.mem_singleton] at hc
          rcases hc with hc | rfl
          · exact HOk.out c hc
          · exact hr)
        have HIs := Lib.hid his
        clear his hr
        go_wp2_with fail
        refine HIs.out.mono ?_
        rintro e w1 ⟨rfl, rfl⟩
        go_wp2_with fail
        exact ⟨⟨i + 1, by omega, by go_num, HNext.out⟩, by simp [intOf]; omega⟩
      · rw [show decide (2 ≤ a ∧ a < size) = false by rw [decide_eq_false_iff_not]; exact hr] at his
        have HBad := Lib.hid (show ¬ ∀ c ∈ l, 2 ≤ c ∧ c < size from fun hh => hr (hh a HMem.out))
        have HIs := Lib.hid his
        clear his hr
        go_wp2_with fail
        refine HIs.out.mono ?_
        rintro e w1 ⟨rfl, rfl⟩
        go_wp2
        go_ret
        exact ⟨fun hh => absurd hh HBad.out, fun _ => ⟨rfl, rfl, HH.out⟩⟩
    · obtain rfl : n = i := by omega
      have hok := HOk.out
      rw [List.take_of_length_le (by rw [HLn.out]; exact Nat.le_refl _)] at hok
      have HAll := Lib.hid hok
      have c0 := HH.out.c0
      have f0 : w.frozen? ⟨S, 0, none⟩ = false := frozen_of_row _ S 0 _ _ HH.out.2.2.2.2.1
      have hsl := HH.out.lt.1
      clear hok HOk
      go_wp2_with (refine make_bool rfl (.tmp 25) (.tmp 25) rfl size rfl rfl hs (by have := HH.out.2.1; omega) ?_; intro w1 hg hb; have HG := Lib.hid hg; have HB := Lib.hid hb; have f1 : w1.frozen? ⟨S, 0, none⟩ = false := (frozen_of_row _ S 0 _ _ ((hb.block S hsl).trans HH.out.2.2.2.2.1)); have c1 := (hb.cell (p := ⟨S, 0, none⟩) hsl).trans c0; clear hg hb)
      have HSt := Lib.hid (show RsAt (w1.setCell ⟨S, 0, none⟩ (.slice (some ⟨w.heap.size, 0, none⟩) size size)) S w.heap.size size (ofL (l.take 0)) ∧ Fr (fun k => k = S) w (w1.setCell ⟨S, 0, none⟩ (.slice (some ⟨w.heap.size, 0, none⟩) size size)) from by
        have hrow1 := (HB.out.block S hsl).trans HH.out.2.2.2.2.1
        have hfr : Fr (fun k => k = S) w1 (w1.setCell ⟨S, 0, none⟩ (.slice (some ⟨w.heap.size, 0, none⟩) size size)) := (Fr.refl (fun k => k = S) w1).set S 0 rfl _
        refine ⟨⟨by omega, HH.out.2.1, hs, TOk.none size, ?_, (hfr.block _ (lt_of_block HG.out) (by omega)).trans HG.out⟩, ((Fr.of_below (S := fun k => k = S) HB.out)).trans hfr⟩
        exact heap_setCell_same w1 S 0 _ _ _ hrow1)
      clear c0 f0 c1 f1 HB HG
      go_loopw [31, 8] (fun ii _ wr => ∃ i : Nat, i ≤ n ∧ ii = .int .i64 i ∧ RsAt wr S w.heap.size size (ofL (l.take i)) ∧ Fr (fun k => k = S) w wr) (fun ii _ _ => n - (intOf ii).toNat)
      case atStart => exact ⟨0, Nat.zero_le _, rfl, HSt.out.1, HSt.out.2⟩
      case round =>
        clear HSt
        obtain ⟨i, hi, rfl, hsp, hf⟩ := hrel
        have HSp := Lib.hid hsp
        have HF := Lib.hid hf
        have HVr := Lib.hid (HV.out.fr0 hf HNo.out)
        clear hsp hf
        rcases Nat.lt_or_ge i n with hlt | hge
        · obtain ⟨a, ha⟩ : ∃ a, l[i]? = some a := ⟨_, List.getElem?_eq_getElem (by rw [HLn.out]; exact hlt)⟩
          have hr := HAll.out a (List.mem_of_getElem? ha)
          obtain ⟨_, a', c', e', _, _, hcv⟩ := HVr.out
          simp only [Value.slice.injEq, true_and] at e'
          obtain ⟨rfl, rfl⟩ := e'
          obtain ⟨vb, vo, rfl, gv⟩ := hcv i (U32 a) (by rw [List.getElem?_map, ha]; rfl)
          unfold U32 at gv
          have HSu := Lib.hid (ofL_succ l i a ha)
          have hal : a < size := hr.2
          have c0 := HSp.out.c0
          have g0 := HSp.out.bit hal
          have f0 := HSp.out.free a
          have HNx := Lib.hid (HSp.out.turned (a := a) true (HSp.out.2.2.2.1.mark hr.1 hr.2))
          clear hcv ha hr
          go_wp2_with fail
          have hfv : Fr (fun k => k = S) w (wr.setCell ⟨w.heap.size, a, none⟩ (.bool true)) := HF.out.step HNx.out.2 (fun j hj => Or.inr (by omega))
          exact ⟨⟨i + 1, by omega, by go_num, by rw [HSu.out]; exact HNx.out.1, hfv⟩, by simp [intOf]; omega⟩
        · obtain rfl : n = i := by omega
          have hsp := HSp.out
          rw [List.take_of_length_le (by rw [HLn.out]; exact Nat.le_refl _)] at hsp
          have HSp2 := Lib.hid hsp
          clear hsp HSp
          go_wp2
          go_ret
          exact ⟨fun _ => ⟨rfl, ⟨_, HSp2.out, Or.inr (Nat.le_refl _)⟩, HF.out⟩, fun hh => absurd HAll.out hh⟩

set_option maxHeartbeats 1000000 in
theorem rsTaken_any (S V size : Nat) (t : Nat → Bool) (w : World) (h : RsAt w S V size t) :
    Calls Tryz.prog 43 #[.pointer (some ⟨S, 0, none⟩)] w fun e w' => ∃ aa cc, e = .returned (.slice aa (cntT t size) cc) ∧ w'.ownsRow w.heap.size 41 1 (.slice aa (cntT t size) cc) (cntT t size) ((listT t size).map U32) ∧ Below w.heap.size w w' := by
  have c0 := h.c0
  have hs := h.2.2.1
  have HH := Lib.hid h
  clear h
  go_enter Tryz.func43, Tryz.ntmps43
  go_wp2_with fail
  go_loopw [11, 3, 4, 5] (fun ii v _ _ wr => ∃ (i m : Nat), i ≤ size ∧ ii = .int .i64 i ∧ m = cntT t i ∧ (∃ a c, v = .slice a m c) ∧ wr.ownsRow w.heap.size 41 1 v m ((listT t i).map U32) ∧ Below w.heap.size w wr) (fun ii _ _ _ _ => size - (intOf ii).toNat)
  case atStart => exact ⟨0, 0, Nat.zero_le _, rfl, rfl, ⟨_, _, rfl⟩, World.ownsRow_nil _ _ _ _, Below.refl _ _⟩
  case round =>
    obtain ⟨i, m, hi, rfl, hm, ⟨av, cv, rfl⟩, ho, hb⟩ := hrel
    have HO := Lib.hid ho
    have HB := Lib.hid hb
    have HM := Lib.hid hm
    have hml : m ≤ size := by rw [hm]; exact Nat.le_trans (cntT_le t i) hi
    clear ho hb hm
    rcases Nat.lt_or_ge i size with hlt | hge
    · have gv : wr.cell? ⟨V, i, none⟩ = some (.bool (t i)) := (HB.out.cell (p := ⟨V, i, none⟩) HH.out.lt.2).trans (HH.out.bit hlt)
      have HL := Lib.hid (listT_succ t i)
      have HCn := Lib.hid (cntT_succ t i)
      cases hb : t i with
      | false =>
        have HBi := Lib.hid hb
        rw [hb] at gv
        clear hb
        go_wp2_with fail
        refine ⟨⟨i + 1, m, by omega, by go_num, ?_, ⟨_, _, rfl⟩, ?_, HB.out⟩, by simp [intOf]; omega⟩
        · rw [HCn.out, HBi.out, HM.out]; simp
        · rw [HL.out, HBi.out]; simpa using HO.out
      | true =>
        have HBi := Lib.hid hb
        rw [hb] at gv
        have hi32 : i < 4294967296 := by omega
        clear hb
        go_wp2_with (refine appendZ_u32 rfl (.tmp 17) (.tmp 20) rfl (HO.out.alloc _) (Sl_n32 _ i) rfl rfl (by omega) (by simp; have := HB.out.size; omega) ?_; intro aa cc w4 hown4 hf4 _; have HO4 := Lib.hid hown4; have HF4 := Lib.hid hf4; clear hown4 hf4)
        refine ⟨⟨i + 1, m + 1, by omega, by go_num, ?_, ⟨_, _, rfl⟩, ?_, ?_⟩, by simp [intOf]; omega⟩
        · rw [HCn.out, HBi.out, HM.out]; simp
        · rw [HL.out, HBi.out]; exact HO4.out
        · exact (HB.out.alloc HB.out.size _).trans (HF4.out.below (by simp; have := HB.out.size; omega) (fun j hj => (HO.out.lt j hj).1))
    · obtain rfl : i = size := by omega
      obtain rfl : m = cntT t i := HM.out
      go_wp2
      go_ret
      exact ⟨_, _, rfl, HO.out, HB.out⟩

set_option maxHeartbeats 1000000 in
theorem rsSame_any (v1 v2 : Value) (n1 n2 : Nat) (xs ys : List Nat) (w : World) (h1 : Sl w 1 v1 n1 (xs.map U32)) (h2 : Sl w 1 v2 n2 (ys.map U32)) (hx : ∀ a ∈ xs, a < 4294967296) (hy : ∀ a ∈ ys, a < 4294967296) (hn : n1 ≤ 1000000) (hn2 : n2 ≤ 1000000) :
    Calls Tryz.prog 41 #[v1, v2] w fun e w' => e = .returned (.bool (decide (xs = ys))) ∧ Below w.heap.size w w' := by
  have l1 : xs.length = n1 := by simpa using h1.1
  have l2 : ys.length = n2 := by simpa using h2.1
  obtain ⟨_, a1, c1, rfl, _, _, hc1⟩ := h1
  obtain ⟨_, a2, c2, rfl, _, _, hc2⟩ := h2
  have H1 := Lib.hid hc1
  have H2 := Lib.hid hc2
  have HX := Lib.hid hx
  have HY := Lib.hid hy
  have HL := Lib.hid (show xs.length = n1 ∧ ys.length = n2 from ⟨l1, l2⟩)
  clear hc1 hc2 hx hy l1 l2
  obtain ⟨b, hb⟩ : ∃ b, b = decide (xs = ys) := ⟨_, rfl⟩
  rw [← hb]
  have HB := Lib.hid hb
  clear hb
  go_enter Tryz.func41, Tryz.ntmps41
  by_cases hne : n1 = n2
  · subst hne
    go_wp2_with fail
    go_loopw [13, 5] (fun ii _ wr => ∃ i : Nat, i ≤ n1 ∧ ii = .int .i64 i ∧ xs.take i = ys.take i ∧ Below w.heap.size w wr) (fun ii _ _ => n1 - (intOf ii).toNat)
    case atStart => exact ⟨0, Nat.zero_le _, rfl, rfl, Below.refl _ _⟩
    case round =>
      obtain ⟨i, hi, rfl, heq, hbel⟩ := hrel
      have HE := Lib.hid heq
      have HBl := Lib.hid hbel
      clear heq hbel
      rcases Nat.lt_or_ge i n1 with hlt | hge
      · obtain ⟨x, hxi⟩ : ∃ x, xs[i]? = some x := ⟨_, List.getElem?_eq_getElem (by rw [HL.out.1]; exact hlt)⟩
        obtain ⟨y, hyi⟩ : ∃ y, ys[i]? = some y := ⟨_, List.getElem?_eq_getElem (by rw [HL.out.2]; exact hlt)⟩
        obtain ⟨b1, o1, rfl, g1⟩ := H1.out i (U32 x) (by rw [List.getElem?_map, hxi]; rfl)
        obtain ⟨b2, o2, rfl, g2⟩ := H2.out i (U32 y) (by rw [List.getElem?_map, hyi]; rfl)
        have g1 := (HBl.out.cell (p := ⟨b1, o1 + i, none⟩) (World.block_lt_of_cell? w ⟨b1, o1 + i, none⟩ g1)).trans g1
        have g2 := (HBl.out.cell (p := ⟨b2, o2 + i, none⟩) (World.block_lt_of_cell? w ⟨b2, o2 + i, none⟩ g2)).trans g2
        unfold U32 at g1 g2
        have hx4 := HX.out x (List.mem_of_getElem? hxi)
        have hy4 := HY.out y (List.mem_of_getElem? hyi)
        have HT := Lib.hid (show xs.take (i + 1) = xs.take i ++ [x] ∧ ys.take (i + 1) = ys.take i ++ [y] from ⟨by rw [List.take_succ_eq_append_getElem (by rw [HL.out.1]; exact hlt), (List.getElem?_eq_some_iff.1 hxi).2], by rw [List.take_succ_eq_append_getElem (by rw [HL.out.2]; exact hlt), (List.getElem?_eq_some_iff.1 hyi).2]⟩)
        have HXY := Lib.hid (show xs[i]? = some x ∧ ys[i]? = some y from ⟨hxi, hyi⟩)
        clear hxi hyi
        go_wp2_with fail
        go_quiet (fail)
        have HBn := Lib.hid (belowDrewN HBl.out nq)
        by_cases hxy : x = y
        · subst hxy
          have hb : ((x : Int) != (x : Int)) = false := by simp
          go_wp2_with fail
          refine ⟨⟨i + 1, by omega, by go_num, by rw [HT.out.1, HT.out.2, HE.out], HBn.out⟩, by simp [intOf]; omega⟩
        · have hb : ((x : Int) != (y : Int)) = true := by simp; omega
          go_wp2_with fail
          go_ret
          refine ⟨?_, HBn.out⟩
          rw [HB.out, show decide (xs = ys) = false by
            rw [decide_eq_false_iff_not]
            intro e
            have h1 := HXY.out.1
            rw [e, HXY.out.2] at h1
            exact hxy (Option.some.inj h1).symm]
          rfl
      · obtain rfl : i = n1 := by omega
        go_wp2_with fail
        go_ret
        refine ⟨?_, HBl.out⟩
        have he := HE.out
        rw [List.take_of_length_le (by rw [HL.out.1]; exact Nat.le_refl _), List.take_of_length_le (by rw [HL.out.2]; exact Nat.le_refl _)] at he
        rw [HB.out, he]; simp
  · have hne2 : ((n1 : Int) != (n2 : Int)) = true := by simp; omega
    go_wp2_with fail
    go_ret
    refine ⟨?_, Below.refl _ _⟩
    rw [HB.out, show decide (xs = ys) = false by
      rw [decide_eq_false_iff_not]
      intro e
      exact hne (by rw [← HL.out.1, ← HL.out.2, e])]
    rfl

end Go.Proofs.YtkbnkdokcmpcgaaGreatDoor
namespace Go.Proofs.YtkbnkdokcmpcgaaGreatDoor
open Go.RowKit

end Go.Proofs.YtkbnkdokcmpcgaaGreatDoor
namespace Go.Proofs.YtkbnkdokcmpcgaaGreatDoor
open Go.RowKit

end Go.Proofs.YtkbnkdokcmpcgaaGreatDoor
namespace Go.Proofs.YtkbnkdokcmpcgaaGreatDoor
open Go.RowKit

end Go.Proofs.YtkbnkdokcmpcgaaGreatDoor
namespace Go.Proofs.YtkbnkdokcmpcgaaGreatDoor
open Go.RowKit

end Go.Proofs.YtkbnkdokcmpcgaaGreatDoor
namespace Go.Proofs.YtkbnkdokcmpcgaaGreatDoor
open Go.RowKit

def lenS (l : List ByteArray) : Int := (l.map (fun s => (s.size : Int))).sum
theorem lenS_step (l : List ByteArray) (k : Nat) (h : k < l.length) : lenS (l.take (k + 1)) = lenS (l.take k) + (l[k].size : Int) := by
  unfold lenS
  rw [List.take_succ_eq_append_getElem h, List.map_append, List.sum_append]; simp
def costN (n : Nd) : Int := 44 * (n.kids.length : Int) + lenS n.keys + lenS n.vals
theorem wrap64_add' (a b : Int) : wrap64 (wrap64 a + b) = wrap64 (a + b) := by unfold wrap64; omega

end Go.Proofs.YtkbnkdokcmpcgaaGreatDoor
namespace Go.Proofs.YtkbnkdokcmpcgaaGreatDoor
open Go.RowKit

theorem refNum_any (x n : Nat) (w : World) (h8 : n ≤ 8) (hx : x < 18446744073709551616) (hfit : x / 256 ^ n = 0) :
    Calls Tryz.prog 206 #[.int .u64 (x : Int), .int .i64 (n : Int)] w fun e w' => ∃ aa cc, e = .returned (.slice aa n cc) ∧ w'.ownsRow w.heap.size 5 1 (.slice aa n cc) n ((putB x n).map Bv) ∧ Below w.heap.size w w' := by
  have HX := Lib.hid hfit
  have HH := Lib.hid (fun w => refPut_all x n w h8 hx)
  clear hfit hx
  go_enter Tryz.func206, Tryz.ntmps206
  go_wp2_with fail
  refine (HH.out _).mono ?_
  rintro e w1 ⟨hb, h | h⟩
  · exact absurd HX.out (by have := h.1; omega)
  · obtain ⟨-, aa, cc, rfl, hown⟩ := h
    have HB := Lib.hid hb
    have HO := Lib.hid hown
    clear hb hown
    go_wp2
    go_ret
    exact ⟨aa, cc, rfl, HO.out, HB.out⟩

theorem step_append_u8 {w : World} {o : Oper} {a : Act} {K : Act → World → Prop} {Q : Exit → Act → World → Prop} (s x : Operand)
    (ho : o.op = .call { callee := .builtin .append, args := #[s, x], argTypes := #[26, 26] })
    {base : Nat} {v : Value} {n : Nat} {xs : List UInt8} (hown : w.ownsRow base 5 1 v n (xs.map Bv)) {vx : Value} {m : Nat} {news : List UInt8} (hx : Sl w 1 vx m (news.map Bv))
    (hs : a.eval s = v) (hxe : a.eval x = vx) (hr : n + m ≤ 140737488355328) (hbase : base ≤ w.heap.size)
    (h : ∀ aa cc w', w'.ownsRow base 5 1 (.slice aa (n + m) cc) (n + m) ((xs ++ news).map Bv) → Fr (fun k => v.ownBlock = some k) w w' → ((Value.slice aa (n + m) cc).ownBlock = v.ownBlock ∨ (Value.slice aa (n + m) cc).ownBlock = some w.heap.size) →
      K (a.put o.dst (.slice aa (n + m) cc)) w') : Oper.wp Tryz.prog o a w K Q := by
  obtain ⟨i0, hi, hz0, hz1, hz2⟩ := info_parts info_u8
  obtain ⟨v', w', hq, h2, h3, h4, ⟨aa, cc, rfl⟩, _⟩ := run_append_sl (P := Tryz.prog) w base 26 o.type 5 i0 (.int .u8 0) 1 1 Tryz.underlying26 hi hz0 hz1 hz2 rfl (by decide) v n _ hown vx m _ hx (Bv_oneCell _) (by unfold maxLen; omega) (by omega) hbase
  rw [← List.map_append] at h2
  unfold Oper.wp execOp
  simp only [ho, resolve, invoke, builtin, Sem.run_bind, Sem.run_pure, Result.andThen_ok, List.map_toArray, List.map_cons, List.map_nil, hs, hxe, hq]
  exact h aa cc w' h2 ((Fr.refl _ w).grown h3 (fun k hk => Or.inl hk)) h4

theorem held_step {b : Nat} {x y : Value} {w0 W wA : World} (hb : Below W.heap.size W wA) (h : W.cell? ⟨b, 0, none⟩ = some x ∧ W.cell? ⟨b, 1, none⟩ = some y ∧ Below w0.heap.size w0 W) :
    wA.cell? ⟨b, 0, none⟩ = some x ∧ wA.cell? ⟨b, 1, none⟩ = some y ∧ Below w0.heap.size w0 wA :=
  ⟨(hb.cell (World.block_lt_of_cell? W _ h.1)).trans h.1, (hb.cell (World.block_lt_of_cell? W _ h.2.1)).trans h.2.1, h.2.2.trans (hb.mono h.2.2.size)⟩
theorem held_own {b : Nat} {x y : Value} {w0 W wA : World} {e n : Nat} {v : Value} {xs : List Value} (ho : wA.ownsRow W.heap.size e 1 v n xs) (h : W.cell? ⟨b, 0, none⟩ = some x ∧ W.cell? ⟨b, 1, none⟩ = some y ∧ Below w0.heap.size w0 W) :
    wA.ownsRow w0.heap.size e 1 v n xs := ho.base h.2.2.size
theorem held_size {b : Nat} {x y : Value} {w0 W : World} (h : W.cell? ⟨b, 0, none⟩ = some x ∧ W.cell? ⟨b, 1, none⟩ = some y ∧ Below w0.heap.size w0 W) : w0.heap.size ≤ W.heap.size := h.2.2.size
theorem held_fr {b : Nat} {x y : Value} {w0 W w9 : World} {S : Nat → Prop} (hf : Fr S W w9) (hs : ∀ k, S k → w0.heap.size ≤ k) (hb : b < w0.heap.size) (h : W.cell? ⟨b, 0, none⟩ = some x ∧ W.cell? ⟨b, 1, none⟩ = some y ∧ Below w0.heap.size w0 W) :
    w9.cell? ⟨b, 0, none⟩ = some x ∧ w9.cell? ⟨b, 1, none⟩ = some y ∧ Below w0.heap.size w0 w9 :=
  ⟨hf.cell h.1 (fun k => by have := hs _ k; simp only at this; omega), hf.cell h.2.1 (fun k => by have := hs _ k; simp only at this; omega), h.2.2.trans (hf.below h.2.2.size hs)⟩

set_option maxRecDepth 100000 in
set_option maxHeartbeats 4000000 in
theorem refPtrBytes_any (p : Pt) (w : World) (h : p.Wf) :
    Calls Tryz.prog 195 #[.agg p.arr] w fun e w' => ∃ aa cc, e = .returned (.slice aa 44 cc) ∧ w'.ownsRow w.heap.size 5 1 (.slice aa 44 cc) 44 ((ptrB p).map Bv) ∧ Below w.heap.size w w' := by
  have hg := heap_alloc_new w (.cells p.arr 43)
  have hc0 : (w.alloc (.cells p.arr 43)).cell? ⟨w.heap.size, 0, none⟩ = some (.int .u32 (p.addr : Int)) := (cell_of_row _ _ 0 _ _ _ hg).trans p.get0
  have hc1 : (w.alloc (.cells p.arr 43)).cell? ⟨w.heap.size, 1, none⟩ = some (.int .u64 (p.birth : Int)) := (cell_of_row _ _ 1 _ _ _ hg).trans p.get1
  have HAT := Lib.hid (At_box w p 43)
  have HW := Lib.hid h
  have HB := Lib.hid ((Below.refl _ w).alloc (Nat.le_refl _) (.cells p.arr 43))
  have ha := h.addr
  have EW := Lib.hid (show IntKind.u64.wrap (p.addr : Int) = (p.addr : Int) by rw [IntKind.wrap_u64]; omega)
  have HA := Lib.hid (show ∀ w, Calls Tryz.prog 206 #[.int .u64 (p.addr : Int), .int .i64 4] w fun e w' => ∃ aa cc, e = .returned (.slice aa 4 cc) ∧ w'.ownsRow w.heap.size 5 1 (.slice aa 4 cc) 4 ((putB p.addr 4).map Bv) ∧ Below w.heap.size w w' from fun w => refNum_any p.addr 4 w (by omega) (by omega) (Nat.div_eq_of_lt (by omega)))
  have HBI := Lib.hid (show ∀ w, Calls Tryz.prog 206 #[.int .u64 (p.birth : Int), .int .i64 8] w fun e w' => ∃ aa cc, e = .returned (.slice aa 8 cc) ∧ w'.ownsRow w.heap.size 5 1 (.slice aa 8 cc) 8 ((putB p.birth 8).map Bv) ∧ Below w.heap.size w w' from fun w => refNum_any p.birth 8 w (by omega) h.birth (Nat.div_eq_of_lt (by have := h.birth; omega)))
  clear h hg
  obtain ⟨w0, hw0⟩ : ∃ w0, w0 = w.alloc (.cells p.arr 43) := ⟨_, rfl⟩
  have hs0 : w0.heap.size = w.heap.size + 1 := by rw [hw0]; simp
  have HW0 := Lib.hid hw0
  rw [← hw0] at hc0 hc1
  clear hw0
  go_enter Tryz.func195, Tryz.ntmps195
  go_wp2_with fail
  rw [← HW0.out] at HAT HB ⊢
  go_region_held3 (fun w' => w'.cell? ⟨w.heap.size, 0, none⟩ = some (.int .u32 (p.addr : Int)) ∧ w'.cell? ⟨w.heap.size, 1, none⟩ = some (.int .u64 (p.birth : Int)) ∧ Below w0.heap.size w0 w')
    (first | exact ⟨hc0, hc1, (Below.refl _ _).drew⟩ | assumption)
    (first
      | (go_at_call_of 206 (Value.int .u64 (IntKind.u64.wrap (p.addr : Int)))
         rw [EW.out]
         refine (HA.out _).mono ?_
         rintro e wA ⟨aA, cA, rfl, hoA, hbA⟩
         have hSA := held_step hbA (by assumption)
         replace hoA := held_own (w0 := w0) hoA (by assumption)
         try (replace hoB := hoB.fr (Fr.of_below (S := fun _ => False) hbA) (fun _ _ => id))
         clear hbA)
      | (go_at_call_of 206 (Value.int .u64 (p.birth : Int))
         refine (HBI.out _).mono ?_
         rintro e wB ⟨aB, cB, rfl, hoB, hbB⟩
         have hSB := held_step hbB (by assumption)
         replace hoB := held_own (w0 := w0) hoB (by assumption)
         try (replace hoA := hoA.fr (Fr.of_below (S := fun _ => False) hbB) (fun _ _ => id))
         clear hbB)
      | (refine step_append_u8 (.tmp 7) (.tmp 10) rfl hoA (Sl.own hoB) rfl rfl ?h1 ?h2 ?h3
         case h1 => decide
         case h2 =>
           refine held_size (b := w.heap.size) (x := .int .u32 (p.addr : Int)) (y := .int .u64 (p.birth : Int)) ?_
           assumption
         intro aC cC w9 hoC hfC h3
         have hS9 := held_fr (b := w.heap.size) (x := .int .u32 (p.addr : Int)) (y := .int .u64 (p.birth : Int)) hfC (fun k hk => (hoA.lt k hk).1) (by omega) (by assumption)
         clear hfC hoA hoB))
  all_goals
    have HOC := Lib.hid (show w9.ownsRow w0.heap.size 5 1 (.slice aC 12 cC) 12 ((putB p.addr 4 ++ putB p.birth 8).map Bv) from hoC)
    have hsum : At w9 w.heap.size 2 (p.sum.map Bv) := by simpa using (Pt.sumAt (HAT.out.fr (Fr.of_below (S := fun _ => False) hS9.2.2) id))
    have HSum := Lib.hid (show Sl w9 1 (.slice (some ⟨w.heap.size, 2, none⟩) 32 32) 32 (p.sum.map Bv) from ⟨by simp [HW.out.sum], _, _, rfl, Nat.le_refl _, fun h => (by cases h), fun i u hu => ⟨_, _, rfl, hsum i u hu⟩⟩)
    have HB9 := Lib.hid (HB.out.trans (hS9.2.2.mono HB.out.size))
    have hs9 := hS9.2.2.size
    have HS0 := Lib.hid hs0
    clear hoC hsum hS9 h3 hc0 hc1 hs0
    go_wp2_with (at_builtin; refine append_u8 rfl (.tmp 12) (.tmp 14) rfl HOC.out HSum.out rfl rfl (by decide) hs9 ?_)
    intro aD cD w10 hoD hfD h4
    have HOD := Lib.hid (hoD.base (show w.heap.size ≤ w0.heap.size by have := HS0.out; omega))
    have HBD := Lib.hid (HB9.out.trans (hfD.below (by have := HS0.out; omega) (fun k hk => by have := (HOC.out.lt k hk).1; have := HS0.out; omega)))
    clear hoD hfD h4
    go_wp2
    go_ret
    exact ⟨aD, cD, rfl, HOD.out, HBD.out⟩

end Go.Proofs.YtkbnkdokcmpcgaaGreatDoor
namespace Go.Proofs.YtkbnkdokcmpcgaaGreatDoor
open Go.RowKit

def RowRel (w0 : World) (xs : List UInt8) (v : Value) (wr : World) : Prop := ∃ aa cc, v = .slice aa xs.length cc ∧ wr.ownsRow w0.heap.size 5 1 v xs.length (xs.map Bv) ∧ Below w0.heap.size w0 wr
theorem RowRel.below {w0 wr : World} {xs : List UInt8} {v : Value} (h : RowRel w0 xs v wr) : Below w0.heap.size w0 wr := by obtain ⟨_, _, _, _, hB⟩ := h; exact hB
theorem RowRel.own {w0 wr : World} {xs : List UInt8} {v : Value} (h : RowRel w0 xs v wr) : wr.ownsRow w0.heap.size 5 1 v xs.length (xs.map Bv) := by obtain ⟨_, _, _, ho, _⟩ := h; exact ho
theorem RowRel.step {w0 W w1 : World} {xs : List UInt8} {v : Value} (h : RowRel w0 xs v W) (hb : Below W.heap.size W w1) : RowRel w0 xs v w1 := by
  obtain ⟨aa, cc, e, ho, hB⟩ := h
  exact ⟨aa, cc, e, ho.fr (Fr.of_below (S := fun _ => False) hb) (fun _ _ => id), hB.trans (hb.mono hB.size)⟩
theorem RowRel.grow {w0 w1 w2 : World} {xs ys : List UInt8} {v : Value} {aa : Option Addr} {cc m : Nat} (h : RowRel w0 xs v w1) (ho : w2.ownsRow w0.heap.size 5 1 (.slice aa (xs.length + m) cc) (xs.length + m) ((xs ++ ys).map Bv)) (hm : m = ys.length)
    (hf : Fr (fun k => v.ownBlock = some k) w1 w2) : RowRel w0 (xs ++ ys) (.slice aa (xs.length + m) cc) w2 := by
  obtain ⟨_, _, _, ho1, hB⟩ := h
  subst hm
  refine ⟨aa, cc, by rw [List.length_append], by rw [List.length_append]; exact ho, hB.trans (hf.below hB.size (fun k hk => (ho1.lt k hk).1))⟩

theorem headB_leaf {n : Nd} (hl : n.leaf = true) (hk : n.keys.length ≤ 255) : ([.int .u8 1, .int .u8 (n.keys.length : Int)] : List Value) = (headB n).map Bv := by
  unfold headB
  rw [hl]
  simp [putB, List.range_succ, Bv, UInt8.toNat_ofNat', Nat.mod_eq_of_lt (show n.keys.length < 256 by omega)]
theorem headB_inner {n : Nd} (hl : n.leaf = false) (hk : n.keys.length ≤ 255) : ([.int .u8 2, .int .u8 (n.keys.length : Int)] : List Value) = (headB n).map Bv := by
  unfold headB
  rw [hl]
  simp [putB, List.range_succ, Bv, UInt8.toNat_ofNat', Nat.mod_eq_of_lt (show n.keys.length < 256 by omega)]

theorem kvTo_bound {n : Nd} (h : formB n = true) (hk : n.keys.length ≤ 255) (k : Nat) (hkk : k ≤ n.keys.length) : (headB n ++ kvTo n k).length ≤ 40000 := by
  have hf := formB_ok h
  rw [List.length_append, headB_length]
  cases hl : n.leaf with
  | true =>
    have hv := hf.vals hl
    rw [kvTo_length_leaf n hl k hkk (by omega)]
    have s1 := strsN_le 32 (n.keys.take k) (fun s hs => (hf.keyS s (List.mem_of_mem_take hs)).2)
    have s2 := strsN_le 96 (n.vals.take k) (fun s hs => hf.valS s (List.mem_of_mem_take hs))
    have t1 : (n.keys.take k).length = k := by rw [List.length_take]; omega
    have t2 : (n.vals.take k).length = k := by rw [List.length_take]; omega
    rw [t1] at s1
    rw [t2] at s2
    omega
  | false =>
    rw [kvTo_length_inner n hl k hkk]
    have s1 := strsN_le 32 (n.keys.take k) (fun s hs => (hf.keyS s (List.mem_of_mem_take hs)).2)
    have t1 : (n.keys.take k).length = k := by rw [List.length_take]; omega
    rw [t1] at s1
    omega

theorem formB_leafkids {n : Nd} (h : formB n = true) (hl : n.leaf = true) : n.kids = [] := by
  unfold formB at h
  rw [hl] at h
  simp only [if_true, Bool.and_eq_true, decide_eq_true_iff] at h
  exact List.eq_nil_of_length_eq_zero h.2.1.2

def BytesPost (n : Nd) (w : World) (e : Ending) (w' : World) : Prop :=
  ∃ aa cc, e = .returned (.slice aa (bytesN n).length cc) ∧ w'.ownsRow w.heap.size 5 1 (.slice aa (bytesN n).length cc) (bytesN n).length ((bytesN n).map Bv) ∧ Below w.heap.size w w'

set_option maxRecDepth 100000 in
set_option maxHeartbeats 4000000 in
theorem refBytes_leaf (arr : Array Value) (n : Nd) (w : World) (h : NdIs w arr n) (hfb : formB n = true) (hk2 : n.keys.length ≤ 255) (hl : n.leaf = true) :
    Calls Tryz.prog 165 #[.agg arr] w (BytesPost n w) := by
  have hok := formB_ok hfb
  obtain ⟨ak, ck, av, cv, ap, cp, rfl, hk, hv, hp⟩ := h.get
  have hvl := hok.vals hl
  rw [hl, hvl]
  rw [hvl] at hv
  have hb0 : Below w.heap.size w (w.alloc (.cells #[.bool true, .slice ak n.keys.length ck, .slice av n.keys.length cv, .slice ap n.kids.length cp] 25)) := (Below.refl _ w).alloc (Nat.le_refl _) _
  have hT := At_nd (heap_alloc_new w (.cells #[.bool true, .slice ak n.keys.length ck, .slice av n.keys.length cv, .slice ap n.kids.length cp] 25))
  obtain ⟨w0, hw0⟩ : ∃ w0, w0 = w.alloc (.cells #[.bool true, .slice ak n.keys.length ck, .slice av n.keys.length cv, .slice ap n.kids.length cp] 25) := ⟨_, rfl⟩
  have hs0 : w0.heap.size = w.heap.size + 1 := by rw [hw0]; simp
  rw [← hw0] at hb0 hT
  have HS0 := Lib.hid hs0
  have HW0 := Lib.hid hw0
  have HB := Lib.hid hb0
  have HT := Lib.hid hT
  have HK := Lib.hid (hk.below hb0)
  have HV := Lib.hid (hv.below hb0)
  have HOK := Lib.hid hok
  have HKID := Lib.hid (formB_leafkids hfb hl)
  have HBD := Lib.hid (kvTo_bound hfb hk2)
  have HVL := Lib.hid hvl
  have HL := Lib.hid hl
  have hown := World.ownsRow_lit (e := 5) (size := 1) (base := w0.heap.size) w0 #[.int .u8 1, .int .u8 (n.keys.length : Int)] 2 (Nat.le_refl _) (by decide) rfl
  rw [show (#[.int .u8 1, .int .u8 (n.keys.length : Int)] : Array Value).toList = (headB n).map Bv from headB_leaf hl hk2] at hown
  have hrow0 : RowRel w0 (headB n ++ kvTo n 0) (.slice (some ⟨w.heap.size + 1, 0, none⟩) 2 2) (w0.alloc (.cells #[.int .u8 1, .int .u8 (n.keys.length : Int)] 5)) := by
    rw [← hs0]
    rw [show kvTo n 0 = [] from rfl, List.append_nil]
    exact ⟨_, _, by rw [headB_length], by rw [headB_length]; exact hown, (Below.refl _ _).alloc (Nat.le_refl _) _⟩
  have HR0 := Lib.hid hrow0
  have c0 := hT 0 _ rfl
  have c1 := hT 1 _ rfl
  rw [Nat.zero_add] at c0 c1
  clear h hk hv hp hb0 hT hs0 hfb hok hown hrow0 hw0 hvl hl
  go_enter Tryz.func165, Tryz.ntmps165
  have hbl : w.heap.size < w0.heap.size := by have := HS0.out; omega
  go_wp2_with fail
  rw [← HW0.out]
  clear c0 c1
  go_loopw [20, 3, 4] (fun i v _ wr => ∃ k : Nat, k ≤ n.keys.length ∧ i = .int .i64 k ∧ RowRel w0 (headB n ++ kvTo n k) v wr) (fun i _ _ _ => n.keys.length - (intOf i).toNat)
  case atStart => exact ⟨0, Nat.zero_le _, rfl, HR0.out⟩
  case round =>
    obtain ⟨k, hk, rfl, hrow⟩ := hrel
    rcases Nat.lt_or_ge k n.keys.length with hlt | hge
    · have hxl := HBD.out k hk
      have hx' : headB n ++ kvTo n (k + 1) = headB n ++ kvTo n k ++ kvAt n k := by rw [kvTo_succ, List.append_assoc]
      obtain ⟨xs, hxs⟩ : ∃ xs, xs = headB n ++ kvTo n k := ⟨_, rfl⟩
      rw [← hxs] at hrow hxl hx'
      obtain ⟨a', c', e', hel⟩ := HK.out.open
      simp only [Value.slice.injEq, true_and] at e'
      obtain ⟨rfl, rfl⟩ := e'
      obtain ⟨b, o, rfl, hc⟩ := hel k hlt
      obtain ⟨a', c', e', hel2⟩ := HV.out.open
      simp only [Value.slice.injEq] at e'
      obtain ⟨rfl, -, rfl⟩ := e'
      obtain ⟨b2, o2, rfl, hc2⟩ := hel2 k (by have := HVL.out; omega)
      obtain ⟨s, hs⟩ : ∃ s, s = n.keys[k]'hlt := ⟨_, rfl⟩
      obtain ⟨t, ht⟩ : ∃ t, t = n.vals[k]'(by have := HVL.out; omega) := ⟨_, rfl⟩
      have hss : s.size ≤ 32 := by rw [hs]; exact (HOK.out.keyS _ (List.getElem_mem _)).2
      have hts : t.size ≤ 96 := by rw [ht]; exact HOK.out.valS _ (List.getElem_mem _)
      have hkv : kvAt n k = strB s ++ strB t := by
        unfold kvAt
        rw [HL.out, if_pos rfl, hs, ht, List.getD_eq_getElem?_getD, List.getD_eq_getElem?_getD, List.getElem?_eq_getElem hlt, List.getElem?_eq_getElem (by have := HVL.out; omega)]
        rfl
      rw [hkv] at hx'
      have HX := Lib.hid hx'
      rw [← hs] at hc
      rw [← ht] at hc2
      obtain ⟨aa, cc, rfl, hown, hbr⟩ := hrow
      have hrow : RowRel w0 xs (.slice aa xs.length cc) wr := ⟨aa, cc, rfl, hown, hbr⟩
      have HRow := Lib.hid hrow
      have c1 := (hbr.cell (p := ⟨w.heap.size, 1, none⟩) hbl).trans (by simpa using HT.out 1 _ rfl : w0.cell? ⟨w.heap.size, 1, none⟩ = some (.slice (some ⟨b, o, none⟩) n.keys.length ck))
      have c2 := (hbr.cell (p := ⟨b, o + k, none⟩) (World.block_lt_of_cell? w0 _ hc)).trans hc
      have HC2 := Lib.hid hc2
      have HBr := Lib.hid hbr
      clear hxs hx' hkv hs ht hown hbr hrow hel hel2 hc hc2
      go_wp2_with fail
      refine (refStr_any s _ (by omega)).mono ?_
      rintro e w1 ⟨v1, rfl, hs1, hb1⟩
      have hrow1 := HRow.out.step hb1
      have ho1 := hrow1.own
      have hB1 := hrow1.below
      have HO1 := Lib.hid ho1
      have HRow1 := Lib.hid (HRow.out.step hb1)
      have hsz1 := hB1.size
      have HS1 := Lib.hid hs1
      have HB1 := Lib.hid hB1
      clear ho1 hs1 hb1 hB1 c1 c2 hrow1
      go_wp2_with (at_builtin; refine append_u8 rfl (.tmp 23) (.tmp 29) rfl HO1.out HS1.out rfl rfl (by rw [strB_length]; omega) hsz1 ?_)
      intro aa2 cc2 w2 hown2 hf2 h3
      have hrow2 := HRow1.out.grow (aa := aa2) (cc := cc2) (ys := strB s) (m := (strB s).length) (by rw [List.map_append]; exact hown2) rfl hf2
      have HRow2 := Lib.hid hrow2
      have hB2 := hrow2.below
      have c1 := (hB2.cell (p := ⟨w.heap.size, 2, none⟩) hbl).trans (by simpa using HT.out 2 _ rfl : w0.cell? ⟨w.heap.size, 2, none⟩ = some (.slice (some ⟨b2, o2, none⟩) n.keys.length cv))
      have c2 := (hB2.cell (p := ⟨b2, o2 + k, none⟩) (World.block_lt_of_cell? w0 _ HC2.out)).trans HC2.out
      clear hown2 hf2 h3 hB2 hsz1 hrow2
      go_wp2_with fail
      refine (refStr_any t _ (by omega)).mono ?_
      rintro e w3 ⟨v3, rfl, hs3, hb3⟩
      have hrow3 := HRow2.out.step hb3
      have HRow3 := Lib.hid hrow3
      have ho3 := hrow3.own
      have hB3 := hrow3.below
      rw [List.length_append] at ho3
      have HO3 := Lib.hid ho3
      have hsz3 := hB3.size
      have HS3 := Lib.hid hs3
      clear ho3 hs3 hb3 hB3 c1 c2 hrow3
      go_wp2_with (at_builtin; refine append_u8 rfl (.tmp 31) (.tmp 37) rfl HO3.out HS3.out rfl rfl (by rw [strB_length, strB_length]; omega) hsz3 ?_)
      intro aa4 cc4 w4 hown4 hf4 h5
      have hrow4 := HRow3.out.grow (aa := aa4) (cc := cc4) (ys := strB t) (m := (strB t).length) (by rw [List.length_append, List.map_append]; first | exact hown4 | (rw [List.map_append]; exact hown4) | (simpa using hown4)) rfl hf4
      rw [List.length_append, List.append_assoc, ← HX.out] at hrow4
      have HRow4 := Lib.hid hrow4
      clear hown4 hf4 h5 hrow4 hsz3
      go_wp2
      go_roundw
      case rel => exact ⟨k + 1, by omega, by go_num, HRow4.out⟩
      case measure => simp [intOf]; omega
    · obtain rfl : k = n.keys.length := by omega
      have hkid : n.kids = [] := HKID.out
      have e : bytesN n = headB n ++ kvTo n n.keys.length := by unfold bytesN kidsTo; rw [hkid]; simp
      rw [← e] at hrow
      obtain ⟨aa, cc, rfl, hown, hbr⟩ := hrow
      have HO := Lib.hid (hown.base (show w.heap.size ≤ w0.heap.size by omega))
      have HBr := Lib.hid (HB.out.trans (hbr.mono HB.out.size))
      clear e hown hbr hkid
      go_wp2
      go_ret
      exact ⟨aa, cc, rfl, HO.out, HBr.out⟩

end Go.Proofs.YtkbnkdokcmpcgaaGreatDoor

namespace Go.Proofs.YtkbnkdokcmpcgaaGreatDoor
open Go.RowKit

theorem formB_innerkids {n : Nd} (h : formB n = true) (hl : n.leaf = false) : n.kids.length = n.keys.length + 1 := by
  unfold formB at h
  rw [hl] at h
  simp only [Bool.false_eq_true, if_false, Bool.and_eq_true, decide_eq_true_iff] at h
  exact h.2.1.2

set_option maxRecDepth 100000 in
set_option maxHeartbeats 4000000 in
theorem refBytes_inner (arr : Array Value) (n : Nd) (w : World) (h : NdIs w arr n) (hfb : formB n = true) (hk2 : n.keys.length ≤ 255) (hl : n.leaf = false) :
    Calls Tryz.prog 165 #[.agg arr] w (BytesPost n w) := by
  have hok := formB_ok hfb
  have hkk := formB_innerkids hfb hl
  obtain ⟨ak, ck, av, cv, ap, cp, rfl, hk, hv, hp⟩ := h.get
  rw [hl]
  have hb0 : Below w.heap.size w (w.alloc (.cells #[.bool false, .slice ak n.keys.length ck, .slice av n.vals.length cv, .slice ap n.kids.length cp] 25)) := (Below.refl _ w).alloc (Nat.le_refl _) _
  have hT := At_nd (heap_alloc_new w (.cells #[.bool false, .slice ak n.keys.length ck, .slice av n.vals.length cv, .slice ap n.kids.length cp] 25))
  obtain ⟨w0, hw0⟩ : ∃ w0, w0 = w.alloc (.cells #[.bool false, .slice ak n.keys.length ck, .slice av n.vals.length cv, .slice ap n.kids.length cp] 25) := ⟨_, rfl⟩
  have hs0 : w0.heap.size = w.heap.size + 1 := by rw [hw0]; simp
  rw [← hw0] at hb0 hT
  have HS0 := Lib.hid hs0
  have HW0 := Lib.hid hw0
  have HB := Lib.hid hb0
  have HT := Lib.hid hT
  have HK := Lib.hid (hk.below hb0)
  have HP := Lib.hid (hp.below hb0)
  have HOK := Lib.hid hok
  have HBD := Lib.hid (kvTo_bound hfb hk2)
  have HL := Lib.hid hl
  have HKK := Lib.hid hkk
  have hkb : n.kids.length ≤ 256 := by omega
  have hown := World.ownsRow_lit (e := 5) (size := 1) (base := w0.heap.size) w0 #[.int .u8 2, .int .u8 (n.keys.length : Int)] 2 (Nat.le_refl _) (by decide) rfl
  rw [show (#[.int .u8 2, .int .u8 (n.keys.length : Int)] : Array Value).toList = (headB n).map Bv from headB_inner hl hk2] at hown
  have hrow0 : RowRel w0 (headB n ++ kvTo n 0) (.slice (some ⟨w.heap.size + 1, 0, none⟩) 2 2) (w0.alloc (.cells #[.int .u8 2, .int .u8 (n.keys.length : Int)] 5)) := by
    rw [← hs0]
    rw [show kvTo n 0 = [] from rfl, List.append_nil]
    exact ⟨_, _, by rw [headB_length], by rw [headB_length]; exact hown, (Below.refl _ _).alloc (Nat.le_refl _) _⟩
  have HR0 := Lib.hid hrow0
  clear h hk hv hp hb0 hT hs0 hfb hok hown hrow0 hw0 hl hkk
  go_enter Tryz.func165, Tryz.ntmps165
  have hbl : w.heap.size < w0.heap.size := by have := HS0.out; omega
  go_wp2_with fail
  rw [← HW0.out]
  go_loopw [49, 5, 7] (fun i v _ wr => ∃ k : Nat, k ≤ n.keys.length ∧ i = .int .i64 k ∧ RowRel w0 (headB n ++ kvTo n k) v wr) (fun i _ _ _ => n.keys.length - (intOf i).toNat)
  case atStart => exact ⟨0, Nat.zero_le _, rfl, HR0.out⟩
  case round =>
    obtain ⟨k, hk, rfl, hrow⟩ := hrel
    rcases Nat.lt_or_ge k n.keys.length with hlt | hge
    · have hxl := HBD.out k hk
      have hx' : headB n ++ kvTo n (k + 1) = headB n ++ kvTo n k ++ kvAt n k := by rw [kvTo_succ, List.append_assoc]
      obtain ⟨xs, hxs⟩ : ∃ xs, xs = headB n ++ kvTo n k := ⟨_, rfl⟩
      rw [← hxs] at hrow hxl hx'
      obtain ⟨a', c', e', hel⟩ := HK.out.open
      simp only [Value.slice.injEq, true_and] at e'
      obtain ⟨rfl, rfl⟩ := e'
      obtain ⟨b, o, rfl, hc⟩ := hel k hlt
      obtain ⟨s, hs⟩ : ∃ s, s = n.keys[k]'hlt := ⟨_, rfl⟩
      have hss : s.size ≤ 32 := by rw [hs]; exact (HOK.out.keyS _ (List.getElem_mem _)).2
      have hkv : kvAt n k = strB s := by
        unfold kvAt
        rw [HL.out, hs, List.getD_eq_getElem?_getD, List.getElem?_eq_getElem hlt]
        simp
      rw [hkv] at hx'
      have HX := Lib.hid hx'
      rw [← hs] at hc
      obtain ⟨aa, cc, rfl, hown, hbr⟩ := hrow
      have hrow : RowRel w0 xs (.slice aa xs.length cc) wr := ⟨aa, cc, rfl, hown, hbr⟩
      have HRow := Lib.hid hrow
      have c2 := (hbr.cell (p := ⟨b, o + k, none⟩) (World.block_lt_of_cell? w0 _ hc)).trans hc
      clear hxs hx' hkv hs hown hbr hrow hel hc
      go_wp2_with fail
      refine (refStr_any s _ (by omega)).mono ?_
      rintro e w1 ⟨v1, rfl, hs1, hb1⟩
      have hrow1 := HRow.out.step hb1
      have ho1 := hrow1.own
      have hB1 := hrow1.below
      have HO1 := Lib.hid ho1
      have HRow1 := Lib.hid (HRow.out.step hb1)
      have hsz1 := hB1.size
      have HS1 := Lib.hid hs1
      clear ho1 hs1 hb1 hB1 c2 hrow1
      go_wp2_with (at_builtin; refine append_u8 rfl (.tmp 53) (.tmp 55) rfl HO1.out HS1.out rfl rfl (by rw [strB_length]; omega) hsz1 ?_)
      intro aa2 cc2 w2 hown2 hf2 h3
      have hrow2 := HRow1.out.grow (aa := aa2) (cc := cc2) (ys := strB s) (m := (strB s).length) (by rw [List.map_append]; exact hown2) rfl hf2
      rw [← HX.out] at hrow2
      have HRow2 := Lib.hid hrow2
      clear hown2 hf2 h3 hsz1 hrow2
      go_wp2
      go_roundw
      case rel => exact ⟨k + 1, by omega, by go_num, HRow2.out⟩
      case measure => simp [intOf]; omega
    · obtain rfl : k = n.keys.length := by omega
      have hH := HBD.out n.keys.length (Nat.le_refl _)
      obtain ⟨hd, hhd⟩ : ∃ hd, hd = headB n ++ kvTo n n.keys.length := ⟨_, rfl⟩
      rw [← hhd] at hrow hH
      have hlast : bytesN n = hd ++ kidsTo n n.kids.length := by unfold bytesN; rw [hhd]
      have HLast := Lib.hid hlast
      have hbr := hrow.below
      have HRw := Lib.hid hrow
      have c3 := (hbr.cell (p := ⟨w.heap.size, 3, none⟩) hbl).trans (by simpa using HT.out 3 _ rfl : w0.cell? ⟨w.heap.size, 3, none⟩ = some (.slice ap n.kids.length cp))
      clear hhd hrow hbr hlast
      go_wp2_with fail
      clear c3
      obtain ⟨wo, hwo⟩ : ∃ wo : World, wo = wr := ⟨_, rfl⟩
      rw [← hwo] at HRw ⊢
      clear hwo
      go_loopw [61, 5, 9] (fun i v _ wr => ∃ k : Nat, k ≤ n.kids.length ∧ i = .int .i64 k ∧ RowRel w0 (hd ++ kidsTo n k) v wr) (fun i _ _ _ => n.kids.length - (intOf i).toNat)
      case atStart => exact ⟨0, Nat.zero_le _, rfl, by rw [show kidsTo n 0 = [] by simp [kidsTo], List.append_nil]; exact HRw.out⟩
      case round =>
        obtain ⟨k, hk, rfl, hrow⟩ := hrel
        rcases Nat.lt_or_ge k n.kids.length with hlt | hge
        · have hxl : (hd ++ kidsTo n k).length ≤ 60000 := by
            rw [List.length_append, kidsTo_length n HP.out.wf k hk]; omega
          have hx' : hd ++ kidsTo n (k + 1) = hd ++ kidsTo n k ++ ptrB (n.kids[k]'hlt) := by rw [kidsTo_succ n k hlt, List.append_assoc]
          obtain ⟨xs, hxs⟩ : ∃ xs, xs = hd ++ kidsTo n k := ⟨_, rfl⟩
          rw [← hxs] at hrow hxl hx'
          obtain ⟨a', c', e', hel⟩ := HP.out.open
          simp only [Value.slice.injEq, true_and] at e'
          obtain ⟨rfl, rfl⟩ := e'
          obtain ⟨b, o, rfl, hat⟩ := hel k hlt
          have hW : (n.kids[k]'hlt).Wf := HP.out.wf _ (List.getElem_mem hlt)
          obtain ⟨p, hp⟩ : ∃ p, p = n.kids[k]'hlt := ⟨_, rfl⟩
          rw [← hp] at hat hx' hW
          have HX := Lib.hid hx'
          have HWf := Lib.hid hW
          obtain ⟨aa, cc, rfl, hown, hbr⟩ := hrow
          have hrow : RowRel w0 xs (.slice aa xs.length cc) wr := ⟨aa, cc, rfl, hown, hbr⟩
          have HRow := Lib.hid hrow
          have HAT := Lib.hid (hat.fr (Fr.of_below (S := fun _ => False) hbr) id)
          have hpl := ptrB_length p hW
          have HPL := Lib.hid hpl
          clear hxs hx' hp hW hown hbr hrow hel hat hpl
          go_wp2_with (first | (refine load_ptr rfl (.tmp 63) rfl rfl HAT.out HWf.out ?_) | (refine store_ptr rfl (.tmp 9) (.tmp 64) rfl rfl rfl (heap_alloc_new _ _) rfl HWf.out ?_))
          intro w2 hb2 hf2 hs2
          have hbel2 : Below wr.heap.size wr w2 := ((Below.refl _ wr).alloc (Nat.le_refl _) _).trans (hf2.below (by simp) (fun k hk => by omega))
          have HAT2 := Lib.hid (show At w2 wr.heap.size 0 p.cells from At.of_row hb2)
          have HRow2 := Lib.hid (HRow.out.step hbel2)
          clear hbel2 hb2 hf2 hs2
          go_wp2_with (refine load_ptr rfl (.tmp 9) rfl rfl HAT2.out HWf.out ?_)
          refine (refPtrBytes_any p _ HWf.out).mono ?_
          rintro e w3 ⟨a3, c3, rfl, ho3, hb3⟩
          have hrow3 := HRow2.out.step hb3
          have HO3 := Lib.hid hrow3.own
          have HRow3 := Lib.hid hrow3
          have hsz3 := hrow3.below.size
          have HS3 := Lib.hid (Sl.own ho3)
          clear ho3 hb3 hrow3
          go_wp2_with (at_builtin; refine append_u8 rfl (.tmp 65) (.tmp 67) rfl HO3.out HS3.out rfl rfl (by omega) hsz3 ?_)
          intro aa4 cc4 w4 hown4 hf4 h5
          have hrow4 := HRow3.out.grow (aa := aa4) (cc := cc4) (ys := ptrB p) (m := 44) (by rw [List.map_append]; exact hown4) HPL.out.symm hf4
          rw [← HX.out] at hrow4
          have HRow4 := Lib.hid hrow4
          clear hown4 hf4 h5 hrow4 hsz3
          go_wp2
          go_roundw
          case rel => exact ⟨k + 1, by omega, by go_num, HRow4.out⟩
          case measure => simp [intOf]; omega
        · obtain rfl : k = n.kids.length := by omega
          rw [← HLast.out] at hrow
          obtain ⟨aa, cc, rfl, hown, hbr⟩ := hrow
          have HO := Lib.hid (hown.base (show w.heap.size ≤ w0.heap.size by omega))
          have HBr := Lib.hid (HB.out.trans (hbr.mono HB.out.size))
          clear hown hbr
          go_wp2
          go_ret
          exact ⟨aa, cc, rfl, HO.out, HBr.out⟩

theorem refBytes_any (arr : Array Value) (n : Nd) (w : World) (h : NdIs w arr n) (hfb : formB n = true) (hk2 : n.keys.length ≤ 255) :
    Calls Tryz.prog 165 #[.agg arr] w (BytesPost n w) := by
  cases hl : n.leaf with
  | true => exact refBytes_leaf arr n w h hfb hk2 hl
  | false => exact refBytes_inner arr n w h hfb hk2 hl

end Go.Proofs.YtkbnkdokcmpcgaaGreatDoor
