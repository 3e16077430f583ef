/- Walks: bytes.Equal, HasPrefix, CutPrefix; uber.parse. Walks: uber.Get, uber.Choose. -/
import Derived.Test.YtdmjnopjnaoepaaGreatDoorB1
import Derived.Test.YtdmjnopjnaoepaaGreatDoorB8
namespace Go.Proofs.YtdmjnopjnaoepaaGreatDoor
open Go.RowKit

theorem bEqual_any (v1 v2 : Value) (n1 n2 : Nat) (xs ys : List UInt8) (w : World) (h1 : Sl w 1 v1 n1 (xs.map Bv)) (h2 : Sl w 1 v2 n2 (ys.map Bv)) :
    Calls Tryz.prog 75 #[v1, v2] w fun e w' => e = .returned (.bool (decide (xs = ys))) ∧ w = w' := by
  have q1 := toStr_u8 h1
  have q2 := toStr_u8 h2
  clear h1 h2
  go_enter Tryz.func75, Tryz.ntmps75
  go_wp2
  go_ret
  have e : (xs == ys) = decide (xs = ys) := by rw [Bool.eq_iff_iff, beq_iff_eq, decide_eq_true_iff]
  exact ⟨by rw [← e]; rfl, rfl⟩

set_option maxHeartbeats 1000000 in
theorem bHasPrefix_any (v1 v2 : Value) (n1 n2 : Nat) (xs ys : List UInt8) (w : World) (h1 : Sl w 1 v1 n1 (xs.map Bv)) (h2 : Sl w 1 v2 n2 (ys.map Bv)) (hle : n2 ≤ n1) :
    Calls Tryz.prog 56 #[v1, v2] w fun e w' => e = .returned (.bool (decide (xs.take n2 = ys))) ∧ w = w' := by
  obtain ⟨a1, c1, rfl, hc1⟩ := h1.len
  obtain ⟨a2, c2, rfl, hc2⟩ := h2.len
  obtain ⟨A, C, q, hs⟩ := cut_u8_hi h1 hle
  have HS := Lib.hid hs
  have H2 := Lib.hid h2
  have m1 : (n2 : Int) ≤ (n1 : Int) := by omega
  have m2 : ¬ (n1 : Int) < (n2 : Int) := by omega
  clear hs h1 h2
  go_enter Tryz.func56, Tryz.ntmps56
  go_wp2_with fail
  refine (bEqual_any _ _ _ _ _ ys _ HS.out H2.out).mono ?_
  rintro e w1 ⟨rfl, rfl⟩
  go_wp2
  go_ret
  exact ⟨rfl, rfl⟩

set_option maxHeartbeats 1000000 in
theorem bCutPrefix_any (v1 v2 : Value) (n1 n2 : Nat) (xs ys : List UInt8) (w : World) (h1 : Sl w 1 v1 n1 (xs.map Bv)) (h2 : Sl w 1 v2 n2 (ys.map Bv)) (hle : n2 ≤ n1) :
    Calls Tryz.prog 35 #[v1, v2] w fun e w' => ∃ A n C, e = .returned (.tuple #[.slice A n C, .bool (decide (xs.take n2 = ys))]) ∧ w = w' ∧ (xs.take n2 = ys → n = n1 - n2 ∧ Sl w 1 (.slice A n C) n ((xs.drop n2).map Bv)) := by
  obtain ⟨a1, c1, rfl, hc1⟩ := h1.len
  obtain ⟨a2, c2, rfl, hc2⟩ := h2.len
  obtain ⟨A, C, q, hs, -⟩ := cut_u8_lo' h1 hle
  have hp := bHasPrefix_any _ _ _ _ _ _ w h1 h2 hle
  have HS := Lib.hid hs
  by_cases he : xs.take n2 = ys
  · rw [decide_eq_true he] at hp ⊢
    have HP := Lib.hid hp
    clear hs h1 h2 hp he
    go_enter Tryz.func35, Tryz.ntmps35
    go_wp2_with fail
    refine HP.out.mono ?_
    rintro e w1 ⟨rfl, rfl⟩
    go_wp2
    go_ret2
    exact ⟨A, _, C, rfl, rfl, fun _ => ⟨rfl, HS.out⟩⟩
  · rw [decide_eq_false he] at hp ⊢
    have HP := Lib.hid hp
    have HE := Lib.hid he
    clear hs h1 h2 hp he
    go_enter Tryz.func35, Tryz.ntmps35
    go_wp2_with fail
    refine HP.out.mono ?_
    rintro e w1 ⟨rfl, rfl⟩
    go_wp2
    go_ret2
    exact ⟨a1, _, c1, rfl, rfl, fun h => absurd h HE.out⟩

theorem readO_any (v : Value) (xs : List UInt8) (n : Nat) (w : World) (h : Sl w 1 v n (xs.map Bv)) (hr : n ≤ 140737488351232) :
    Calls Tryz.prog 36 #[v] w fun e w' => ∃ b ob, w.heap.size ≤ b ∧ (∀ k, ob = some k → w.heap.size ≤ k ∧ k ≠ b) ∧ e = .returned (.pointer (some ⟨b, 0, none⟩)) ∧ RdO w' b ob xs ∧ Below w.heap.size w w' := by
  have hn : xs.length = n := by simpa using h.1
  have HH := Lib.hid h
  have HN := Lib.hid hn
  clear h hn
  go_enter Tryz.func36, Tryz.ntmps36
  go_wp2_with fail
  refine (clone_any v xs n w HH.out hr).mono ?_
  rintro e w1 ⟨aa, cc, rfl, hown, hb⟩
  have HO := Lib.hid hown
  have HB := Lib.hid hb
  have hs := hb.size
  clear hown hb
  go_wp2
  go_ret
  have hn := HN.out
  subst hn
  refine ⟨w1.heap.size, _, hs, fun k hk => ⟨(HO.out.lt k hk).1, by have := (HO.out.lt k hk).2; omega⟩, rfl, ⟨_, heap_alloc_new _ _, ?_, rfl⟩, HB.out.alloc hs _⟩
  exact (Sl.own HO.out).below ((Below.refl _ _).alloc (Nat.le_refl _) _)
theorem endE_or (xs : List UInt8) : endE xs = 0 ∨ endE xs = 4 := by
  unfold endE
  split
  · exact Or.inl rfl
  · exact Or.inr rfl

/-- What 480 bytes tell. -/
def toldU (xs : List UInt8) : Ub := ⟨getB ((xs.drop 4).take 8), getB ((xs.drop 12).take 4), (ptrOf (xs.drop 16)).1⟩
theorem toldU_wf (xs : List UInt8) : (toldU xs).Wf := by
  refine ⟨?_, getB4_lt _, ptrOf_wf _⟩
  have h1 := getB_lt ((xs.drop 4).take 8)
  have h2 : ((xs.drop 4).take 8).length ≤ 8 := by rw [List.length_take]; omega
  exact Nat.lt_of_lt_of_le h1 (by have := Nat.pow_le_pow_right (show 0 < 256 by decide) h2; simpa using this)
def okU (xs : List UInt8) : Bool := decide (xs.take 4 = markB) && decide (endE (xs.drop 60) = 0) && ubOk (toldU xs)
def gotU (xs : List UInt8) : Ub := if xs.take 4 = markB then toldU xs else Ub.zero
theorem gotU_wf (xs : List UInt8) : (gotU xs).Wf := by unfold gotU; split; (· exact toldU_wf xs); (· exact Ub.zero_wf)

theorem zero36 : Ub.zero.arr = #[.int .u64 0, .int .u32 0, .int .u32 0, .int .u64 0, .int .u8 0, .int .u8 0, .int .u8 0, .int .u8 0, .int .u8 0, .int .u8 0, .int .u8 0, .int .u8 0, .int .u8 0, .int .u8 0, .int .u8 0, .int .u8 0, .int .u8 0, .int .u8 0, .int .u8 0, .int .u8 0, .int .u8 0, .int .u8 0, .int .u8 0, .int .u8 0, .int .u8 0, .int .u8 0, .int .u8 0, .int .u8 0, .int .u8 0, .int .u8 0, .int .u8 0, .int .u8 0, .int .u8 0, .int .u8 0, .int .u8 0, .int .u8 0] := rfl
theorem conv_mark (w : World) (g : Nat) (hg : g = w.heap.size) :
    (convert 22 22 (.slice (some ⟨g, 0, none⟩) 4 4)).run Tryz.prog (w.alloc (.cells #[.int .u8 66, .int .u8 78, .int .u8 89, .int .u8 78] 5)) = .ok (.slice (some ⟨g, 0, none⟩) 4 4) (w.alloc (.cells #[.int .u8 66, .int .u8 78, .int .u8 89, .int .u8 78] 5 (4, 5))) :=
  Go.Joins.run_convert_bytes_const_at (P := Tryz.prog) w 22 5 #[.int .u8 66, .int .u8 78, .int .u8 89, .int .u8 78] 4 4 g hg Tryz.underlying22 Tryz.underlying5

set_option maxRecDepth 100000 in
set_option maxHeartbeats 1000000 in
theorem ubParse_no (v : Value) (xs : List UInt8) (w : World) (h : Sl w 1 v 480 (xs.map Bv)) (hm : ¬ xs.take 4 = markB) :
    Calls Tryz.prog 16 #[v] w fun e w' => e = .returned (.tuple #[.agg Ub.zero.arr, .bool false]) ∧ Below w.heap.size w w' := by
  obtain ⟨a, c, rfl, hc⟩ := h.len
  have hcut := fun (w' : World) (h1 : Sl w' 1 (.slice a 480 c) 480 (xs.map Bv)) (v2 : Value) (h2 : Sl w' 1 v2 4 (markB.map Bv)) => bCutPrefix_any _ _ _ _ _ _ w' h1 h2 (by omega)
  rw [decide_eq_false hm] at hcut
  have HCut := Lib.hid hcut
  have q1 := conv_mark (w.alloc (.cells Ub.zero.arr 32)) (w.heap.size + 1) (by simp)
  obtain ⟨w1, hw1⟩ : ∃ w1, w1 = (w.alloc (.cells Ub.zero.arr 32)).alloc (.cells #[.int .u8 66, .int .u8 78, .int .u8 89, .int .u8 78] 5 (4, 5)) := ⟨_, rfl⟩
  have hb1 : Below w.heap.size w w1 := by rw [hw1]; exact ((Below.refl _ w).alloc (Nat.le_refl _) _).alloc (by simp) _
  have hz1 : w1.heap[w.heap.size]? = some (.cells Ub.zero.arr 32 (0, 0)) := by
    rw [hw1]; exact heap_alloc2_old w _ _
  have HB1 := Lib.hid hb1
  have HZ1 := Lib.hid hz1
  have HA1 := Lib.hid (show At w1 w.heap.size 0 Ub.zero.cells from At.of_row hz1)
  have HS1 := Lib.hid (h.below hb1)
  have HM1 := Lib.hid (show Sl w1 1 (.slice (some ⟨w.heap.size + 1, 0, none⟩) 4 4) 4 (markB.map Bv) by rw [hw1]; exact Sl_litm _ _ _ _ 4 rfl (by simp) rfl)
  rw [← hw1, zero36] at q1
  clear h hm hcut hb1 hz1 hw1
  go_enter Tryz.func16, Tryz.ntmps16
  go_wp2_with fail
  refine (HCut.out _ HS1.out _ HM1.out).mono ?_
  rintro e w2 ⟨A, n, C, rfl, rfl, -⟩
  go_wp2_with (first | (refine load_ub rfl (.tmp 2) rfl rfl HA1.out Ub.zero_wf ?_) | (refine store_ub rfl (.tmp 2) (.tmp 19) rfl rfl rfl HZ1.out Ub.zero_wf.asize Ub.zero_wf ?_))
  intro w3 hg3 hf3 hs3
  have HG3 := Lib.hid hg3
  have HB3 := Lib.hid (HB1.out.trans (hf3.below HB1.out.size (fun k hk => by omega)))
  clear hg3 hf3 hs3
  go_wp2
  refine bodyPost_ret (ret_ub rfl rfl HG3.out Ub.zero_wf) rfl ?_
  exact ⟨rfl, HB3.out⟩

theorem root_part {ops : Array Oper} {rest : List Oper} {o : Oper} {a : Act} {w : World} {Q : Exit → Act → World → Prop} (hgd : o.guard = none) (x y : Operand) (ho : o.op = .store 30 x y)
    {b : Nat} (hx : a.eval x = .pointer (some ⟨b, 2, none⟩)) {u : Ub} (hu : u.Wf) (hy : a.eval y = .agg u.root.arr) {old : Array Value} {t : TypeId} (hb : w.heap[b]? = some (.cells old t (0, 0)))
    (ho2 : ∃ c0 c1 l, old = (c0 :: c1 :: l).toArray ∧ l.length = 34 ∧ c0 = .int .u64 (u.txg : Int) ∧ c1 = .int .u32 (u.size : Int))
    (hK : ∀ w', w'.heap[b]? = some (.cells u.arr t (0, 0)) → Fr (fun k => k = b) w w' → w'.heap.size = w.heap.size → wpList Tryz.prog ops Q rest (a.put o.dst undef) w') : wpList Tryz.prog ops Q (o :: rest) a w := by
  obtain ⟨c0, c1, l, rfl, hll, rfl, rfl⟩ := ho2
  refine wpList_store_part hgd _ x y ho b 2 hx u.root.cells (by simpa [Pt.arr] using hy) _ t hb (by rw [hu.root.len]; simp; omega) (by have := u.root.one; rwa [Pt.arr_toList] at this) (by rw [info_ptr, hu.root.len]) (fun w' h1 h2 h3 => hK w' ?_ h2 h3)
  rw [h1]
  congr 2
  apply Array.toList_inj.1
  rw [hu.root.len]
  simp [Ub.arr, Ub.cells]
  omega
theorem zero_cellsU (a b : Value) : ∃ l, (Ub.zero.arr.setIfInBounds 0 a).setIfInBounds 1 b = (a :: b :: l).toArray ∧ l.length = 34 :=
  ⟨Pt.zero.cells, by simp [Ub.arr, Ub.cells, Ub.zero], by simp [Pt.zero_wf.len]⟩
theorem wrap32 {n : Nat} (h : n < 4294967296) : IntKind.u32.wrap (n : Int) = (n : Int) := by simp [IntKind.wrap, IntKind.bits, IntKind.signed]; omega

theorem bCutMark (v1 v2 : Value) (xs : List UInt8) (w : World) (h1 : Sl w 1 v1 480 (xs.map Bv)) (h2 : Sl w 1 v2 4 (markB.map Bv)) (hm : xs.take 4 = markB) :
    Calls Tryz.prog 35 #[v1, v2] w fun e w' => ∃ A C, e = .returned (.tuple #[.slice A 476 C, .bool true]) ∧ w = w' ∧ Sl w 1 (.slice A 476 C) 476 ((xs.drop 4).map Bv) := by
  refine (bCutPrefix_any v1 v2 480 4 xs markB w h1 h2 (by omega)).mono ?_
  rintro e w' ⟨A, n, C, rfl, rfl, hs⟩
  obtain ⟨rfl, hs⟩ := hs hm
  exact ⟨A, C, by rw [decide_eq_true hm], rfl, hs⟩
theorem u32_small {n : Nat} (h : n < 4294967296) : (n : Int) < 4294967296 := by omega

set_option maxRecDepth 100000 in
set_option maxHeartbeats 8000000 in
theorem ubParse_yes (v : Value) (xs : List UInt8) (w : World) (h : Sl w 1 v 480 (xs.map Bv)) (hm : xs.take 4 = markB) :
    Calls Tryz.prog 16 #[v] w fun e w' => e = .returned (.tuple #[.agg (toldU xs).arr, .bool (okU xs)]) ∧ Below w.heap.size w w' := by
  obtain ⟨a, c, rfl, hc⟩ := h.len
  have hlen : xs.length = 480 := by simpa using h.1
  have hcut := fun (w' : World) (h1 : Sl w' 1 (.slice a 480 c) 480 (xs.map Bv)) (v2 : Value) (h2 : Sl w' 1 v2 4 (markB.map Bv)) => bCutMark _ v2 xs w' h1 h2 hm
  have HCut := Lib.hid hcut
  have q1 := conv_mark (w.alloc (.cells Ub.zero.arr 32)) (w.heap.size + 1) (by simp)
  obtain ⟨w1, hw1⟩ : ∃ w1, w1 = (w.alloc (.cells Ub.zero.arr 32)).alloc (.cells #[.int .u8 66, .int .u8 78, .int .u8 89, .int .u8 78] 5 (4, 5)) := ⟨_, rfl⟩
  have hb1 : Below w.heap.size w w1 := by rw [hw1]; exact ((Below.refl _ w).alloc (Nat.le_refl _) _).alloc (by simp) _
  have hz1 : w1.heap[w.heap.size]? = some (.cells Ub.zero.arr 32 (0, 0)) := by
    rw [hw1]; exact heap_alloc2_old w _ _
  have HB1 := Lib.hid hb1
  have HZ1 := Lib.hid hz1
  have HS1 := Lib.hid (h.below hb1)
  have HM1 := Lib.hid (show Sl w1 1 (.slice (some ⟨w.heap.size + 1, 0, none⟩) 4 4) 4 (markB.map Bv) by rw [hw1]; exact Sl_litm _ _ _ _ 4 rfl (by simp) rfl)
  rw [← hw1, zero36] at q1
  -- what is read
  obtain ⟨r1, hr1⟩ : ∃ r1, r1 = xs.drop 4 := ⟨_, rfl⟩
  obtain ⟨r2, hr2⟩ : ∃ r2, r2 = xs.drop 12 := ⟨_, rfl⟩
  obtain ⟨r3, hr3⟩ : ∃ r3, r3 = xs.drop 16 := ⟨_, rfl⟩
  obtain ⟨r4, hr4⟩ : ∃ r4, r4 = xs.drop 60 := ⟨_, rfl⟩
  obtain ⟨u, hu⟩ : ∃ u, u = toldU xs := ⟨_, rfl⟩
  have huw := toldU_wf xs
  have hN8 : numOf 8 r1 = (u.txg, 0, r2) := by
    unfold numOf; rw [if_neg (by omega), if_neg (by rw [hr1, List.length_drop, hlen]; omega), hu, hr1, hr2]
    simp only [toldU, List.drop_drop]; rfl
  have hN4 : numOf 4 r2 = (u.size, 0, r3) := by
    unfold numOf; rw [if_neg (by omega), if_neg (by rw [hr2, List.length_drop, hlen]; omega), hu, hr2, hr3]
    simp only [toldU, List.drop_drop]; rfl
  have hP : ptrOf r3 = (u.root, 0, r4) := by
    have e1 : (ptrOf r3).2 = (0, r4) := by
      unfold ptrOf; rw [if_neg (by rw [hr3, List.length_drop, hlen]; omega), hr3, hr4]; simp only [List.drop_drop]
    rw [← Prod.eta (ptrOf r3), e1, hu]
    simp only [toldU, hr3]
  have hl1 : r1.length = 476 := by rw [hr1, List.length_drop, hlen]
  have hl2 : r2.length = 468 := by rw [hr2, List.length_drop, hlen]
  have hl3 : r3.length = 464 := by rw [hr3, List.length_drop, hlen]
  have hl4 : r4.length = 420 := by rw [hr4, List.length_drop, hlen]
  have hok : okU xs = (decide (endE r4 = 0) && ubOk u) := by unfold okU; rw [decide_eq_true hm, hr4, hu]; rfl
  rw [← hu] at huw ⊢
  obtain ⟨res, hres⟩ : ∃ res, res = okU xs := ⟨_, rfl⟩
  rw [← hres]
  rw [hok] at hres
  have HRes := Lib.hid hres
  rw [← hr1] at HCut
  have hwrap := wrap32 huw.size
  have m32 := huw.size
  have HN8 := Lib.hid hN8
  have HN4 := Lib.hid hN4
  have HP := Lib.hid hP
  have HL1 := Lib.hid hl1
  have HL2 := Lib.hid hl2
  have HL3 := Lib.hid hl3
  have HL4 := Lib.hid hl4
  have HU := Lib.hid huw
  have HT := Lib.hid huw.txg
  have hslt := hb1.size
  clear hres h hm hcut hb1 hz1 hw1 hu huw hN8 hN4 hP hl1 hl2 hl3 hl4 hok hr1 hr2 hr3 hr4 hlen
  go_enter Tryz.func16, Tryz.ntmps16
  go_wp2_with fail
  refine (HCut.out _ HS1.out _ HM1.out).mono ?_
  rintro e w2 ⟨A, C, rfl, rfl, hs2⟩
  have HS2 := Lib.hid hs2
  clear hs2 q1
  go_wp2_with fail
  refine (readO_any _ r1 _ _ HS2.out (by omega)).mono ?_
  rintro e w3 ⟨b, ob, hb, hob, rfl, hrd, hbel⟩
  have hw1lt := lt_of_block HZ1.out
  have HOB := Lib.hid (show ∀ k, ob = some k → w.heap.size < k ∧ k ≠ b from fun k hk => by have := hob k hk; omega)
  have hbne : w.heap.size < b := by omega
  have hz3 := (hbel.block w.heap.size hw1lt).trans HZ1.out
  have HZ3 := Lib.hid hz3
  have HR3 := Lib.hid hrd
  have HB3 := Lib.hid (HB1.out.trans (hbel.mono HB1.out.size))
  clear hb hob hrd hbel hz3
  go_wp2_with fail
  refine (rNumO_any b ob 8 r1 _ HR3.out (by rw [HL1.out]; omega)).mono ?_
  rw [HN8.out]
  rintro e w4 ⟨rfl, hr4, hf4⟩
  have hz4 := (hf4.block w.heap.size (lt_of_block HZ3.out) (by omega)).trans HZ3.out
  have HZ4 := Lib.hid hz4
  have HR4 := Lib.hid hr4
  have HB4 := Lib.hid (HB3.out.trans (hf4.below HB3.out.size (fun k hk => by omega)))
  have c0 : w4.cell? ⟨w.heap.size, 0, none⟩ = some (.int .u64 0) := (cell_of_row _ _ 0 _ _ _ hz4).trans rfl
  have f0 : w4.frozen? ⟨w.heap.size, 0, none⟩ = false := by simp [World.frozen?, hz4]
  clear hr4 hf4 hz4
  go_wp2_with fail
  obtain ⟨w5, hw5⟩ : ∃ w5, w5 = w4.setCell ⟨w.heap.size, 0, none⟩ (.int .u64 (u.txg : Int)) := ⟨_, rfl⟩
  have hz5 : w5.heap[w.heap.size]? = some (.cells (Ub.zero.arr.setIfInBounds 0 (.int .u64 (u.txg : Int))) 32 (0, 0)) := by rw [hw5]; exact heap_setCell_same _ _ _ _ _ _ HZ4.out
  have hr5 : RdO w5 b ob r2 := by
    rw [hw5]
    exact HR4.out.fr ((Fr.refl (fun k => k = w.heap.size) _).set _ 0 rfl _) (by omega) (fun k hk e => by have := HOB.out k hk; omega)
  have hF5 : Fr (fun k => k = w.heap.size) w4 w5 := by rw [hw5]; exact (Fr.refl (fun k => k = w.heap.size) _).set _ 0 rfl _
  rw [← hw5]
  have HB5 := Lib.hid (HB4.out.trans (hF5.below HB4.out.size (fun k hk => by omega)))
  have HR5 := Lib.hid hr5
  have HZ5 := Lib.hid hz5
  clear hw5 hF5 c0 f0 hr5 hz5
  refine (rNumO_any b ob 4 r2 _ HR5.out (by rw [HL2.out]; omega)).mono ?_
  rw [HN4.out]
  rintro e w6 ⟨rfl, hr6, hf6⟩
  have hz6 := (hf6.block w.heap.size (lt_of_block HZ5.out) (by omega)).trans HZ5.out
  have HZ6 := Lib.hid hz6
  have HR6 := Lib.hid hr6
  have HB6 := Lib.hid (HB5.out.trans (hf6.below HB5.out.size (fun k hk => by omega)))
  have c1 : w6.cell? ⟨w.heap.size, 1, none⟩ = some (.int .u32 0) := (cell_of_row _ _ 1 _ _ _ hz6).trans rfl
  have f1 : w6.frozen? ⟨w.heap.size, 1, none⟩ = false := by simp [World.frozen?, hz6]
  clear hr6 hf6 hz6
  go_wp2_with fail
  obtain ⟨w7, hw7⟩ : ∃ w7, w7 = w6.setCell ⟨w.heap.size, 1, none⟩ (.int .u32 (u.size : Int)) := ⟨_, rfl⟩
  have hz7 : w7.heap[w.heap.size]? = some (.cells ((Ub.zero.arr.setIfInBounds 0 (.int .u64 (u.txg : Int))).setIfInBounds 1 (.int .u32 (u.size : Int))) 32 (0, 0)) := by rw [hw7]; exact heap_setCell_same _ _ _ _ _ _ HZ6.out
  have hr7 : RdO w7 b ob r3 := by
    rw [hw7]
    exact HR6.out.fr ((Fr.refl (fun k => k = w.heap.size) _).set _ 1 rfl _) (by omega) (fun k hk e => by have := HOB.out k hk; omega)
  have hF7 : Fr (fun k => k = w.heap.size) w6 w7 := by rw [hw7]; exact (Fr.refl (fun k => k = w.heap.size) _).set _ 1 rfl _
  rw [← hw7]
  have HB7 := Lib.hid (HB6.out.trans (hF7.below HB6.out.size (fun k hk => by omega)))
  have HR7 := Lib.hid hr7
  obtain ⟨l7, hl7, hl7'⟩ := zero_cellsU (.int .u64 (u.txg : Int)) (.int .u32 (u.size : Int))
  rw [hl7] at hz7
  have HZ7 := Lib.hid hz7
  have HO7 := Lib.hid (show ∃ c0 c1 l, (Value.int IntKind.u64 (u.txg : Int) :: Value.int IntKind.u32 (u.size : Int) :: l7).toArray = (c0 :: c1 :: l).toArray ∧ l.length = 34 ∧ c0 = .int .u64 (u.txg : Int) ∧ c1 = .int .u32 (u.size : Int) from ⟨_, _, l7, rfl, hl7', rfl, rfl⟩)
  clear hw7 hF7 c1 f1 hr7 hz7 hl7 hl7'
  refine (ptrGet_any b ob r3 _ HR7.out (fun k hk => by have := HR7.out.lt (by intro e; have := HL3.out; rw [e] at this; cases this) k hk; omega) (by rw [HL3.out]; omega)).mono ?_
  rw [HP.out]
  rintro e w8 ⟨rfl, hr8, hf8⟩
  have hz8 := (hf8.block w.heap.size (lt_of_block HZ7.out) (by omega)).trans HZ7.out
  have HZ8 := Lib.hid hz8
  have HR8 := Lib.hid hr8
  have HB8 := Lib.hid (HB7.out.trans (hf8.below HB7.out.size (fun k hk => by omega)))
  clear hr8 hf8 hz8
  go_wp2_with (refine store_ptr rfl (.tmp 8) (.tmp 39) rfl rfl rfl (heap_alloc_new _ _) rfl HU.out.root ?_)
  intro w9 hg9 hf9 hs9
  have hbel9 : Below w8.heap.size w8 w9 := ((Below.refl _ w8).alloc (Nat.le_refl _) _).trans (hf9.below (by simp) (fun k hk => by omega))
  have HA9 := Lib.hid (show At w9 w8.heap.size 0 u.root.cells from At.of_row hg9)
  have HZ9 := Lib.hid ((hbel9.block w.heap.size (lt_of_block HZ8.out)).trans HZ8.out)
  have HR9 := Lib.hid (HR8.out.below hbel9)
  have HB9 := Lib.hid (HB8.out.trans (hbel9.mono HB8.out.size))
  clear hg9 hf9 hs9 hbel9
  go_wp2_with (first | (refine load_ptr rfl (.tmp 8) rfl rfl HA9.out HU.out.root ?_) | (refine root_part rfl (.tmp 42) (.tmp 41) rfl rfl HU.out rfl HZ9.out HO7.out ?_))
  intro w10 hg10 hf10 hs10
  have hR10 := HR9.out.fr hf10 (by omega) (fun k hk e => by have := HOB.out k hk; omega)
  have HB10 := Lib.hid (HB9.out.trans (hf10.below HB9.out.size (fun k hk => by omega)))
  have HUT := Lib.hid (fun w' (hw : ∃ x : Wd w10.heap.size w10, w' = x.to) => (by obtain ⟨x, rfl⟩ := hw; exact x.at (At.of_row hg10) : At w' w.heap.size 0 u.cells))
  have HUB := Lib.hid (fun w' (hw : ∃ x : Wd w10.heap.size w10, w' = x.to) => (by obtain ⟨x, rfl⟩ := hw; exact (x.hb.block _ (lt_of_block hg10)).trans hg10 : w'.heap[w.heap.size]? = some (.cells u.arr 32 (0, 0))))
  have hqe := fun (x : Wd w10.heap.size w10) => Calls.wd x (Nat.le_refl _) ((rEnd_any b r4 x.to (hR10.below x.hb).rd (by rw [HL4.out]; omega)).mono (fun _ _ ⟨h1, _, h3⟩ => ⟨h1, h3⟩))
  have hqc := fun (x : Wd w10.heap.size w10) => Calls.wd x (Nat.le_refl _) (show Calls Tryz.prog 13 #[.agg u.cells.toArray] x.to _ from ubCheck_any u x.to HU.out)
  have hOne : ∀ y ∈ u.cells, y.oneCell' = true := by have := u.one; rwa [Ub.arr_toList] at this
  have HOne := Lib.hid hOne
  clear hg10 hf10 hs10 hR10 hOne
  rcases endE_or r4 with h4 | h4
  · rw [h4] at hqe HRes
    rcases ubE_or u with h5 | h5
    · rw [h5] at hqc
      have HQ := Lib.hid (show res = true by rw [HRes.out, ubE_split.1 h5]; rfl)
      have HQe := Lib.hid hqe
      have HQc := Lib.hid hqc
      clear h4 h5 hqe hqc
      go_wp2_with fail
      refine wp_region_wd w10.heap.size (by kernel_rfl) (by kernel_rfl) ?_
      repeat (first
        | (refine wpQuiet_load_at rfl 32 (.tmp 2) rfl w.heap.size 0 rfl _ _ HUT.out Tryz.underlying32 rfl (by rw [info_ub, HU.out.len]) ?_; simp only [Act.put, List.setIfInBounds_toArray, List.set_cons_succ, List.set_cons_zero])
        | (refine wpQuiet_store_self rfl 32 (.tmp 2) (.tmp 43) rfl w.heap.size rfl u.cells rfl 32 HUB.out HOne.out (by rw [info_ub, HU.out.len]) ?_; simp only [Act.put])
        | go_big_quiet_step (first | with_reducible exact HQe.out _ | with_reducible exact HQc.out _))
      refine wpQuiet_nil ?_
      rintro w11 ⟨⟨_, hb11⟩, rfl⟩
      have HG11 := Lib.hid (HUB.out w11 ⟨⟨w11, hb11⟩, rfl⟩)
      have HB11 := Lib.hid (HB10.out.trans (hb11.mono HB10.out.size))
      clear hb11
      go_wp2
      refine bodyPost_ret (ret_ub rfl rfl HG11.out HU.out) rfl ?_
      exact ⟨by rw [HQ.out]; rfl, HB11.out⟩
    · rw [h5] at hqc
      have HQ := Lib.hid (show res = false by
        have : ubOk u = false := by
          cases hh : ubOk u with
          | true => rw [ubE_ok hh] at h5; cases h5
          | false => rfl
        rw [HRes.out, this]; rfl)
      have HQe := Lib.hid hqe
      have HQc := Lib.hid hqc
      clear h4 h5 hqe hqc
      go_wp2_with fail
      refine wp_region_wd w10.heap.size (by kernel_rfl) (by kernel_rfl) ?_
      repeat (first
        | (refine wpQuiet_load_at rfl 32 (.tmp 2) rfl w.heap.size 0 rfl _ _ HUT.out Tryz.underlying32 rfl (by rw [info_ub, HU.out.len]) ?_; simp only [Act.put, List.setIfInBounds_toArray, List.set_cons_succ, List.set_cons_zero])
        | (refine wpQuiet_store_self rfl 32 (.tmp 2) (.tmp 43) rfl w.heap.size rfl u.cells rfl 32 HUB.out HOne.out (by rw [info_ub, HU.out.len]) ?_; simp only [Act.put])
        | go_big_quiet_step (first | with_reducible exact HQe.out _ | with_reducible exact HQc.out _))
      refine wpQuiet_nil ?_
      rintro w11 ⟨⟨_, hb11⟩, rfl⟩
      have HG11 := Lib.hid (HUB.out w11 ⟨⟨w11, hb11⟩, rfl⟩)
      have HB11 := Lib.hid (HB10.out.trans (hb11.mono HB10.out.size))
      clear hb11
      go_wp2
      refine bodyPost_ret (ret_ub rfl rfl HG11.out HU.out) rfl ?_
      exact ⟨by rw [HQ.out]; rfl, HB11.out⟩
  · rw [h4] at hqe HRes
    have HQ := Lib.hid (show res = false by rw [HRes.out]; rfl)
    have HQe := Lib.hid hqe
    clear h4 hqe hqc
    go_wp2_with fail
    refine wp_region_wd w10.heap.size (by kernel_rfl) (by kernel_rfl) ?_
    repeat (first
      | (refine wpQuiet_load_at rfl 32 (.tmp 2) rfl w.heap.size 0 rfl _ _ HUT.out Tryz.underlying32 rfl (by rw [info_ub, HU.out.len]) ?_; simp only [Act.put, List.setIfInBounds_toArray, List.set_cons_succ, List.set_cons_zero])
      | (refine wpQuiet_store_self rfl 32 (.tmp 2) (.tmp 43) rfl w.heap.size rfl u.cells rfl 32 HUB.out HOne.out (by rw [info_ub, HU.out.len]) ?_; simp only [Act.put])
      | go_big_quiet_step (with_reducible exact HQe.out _))
    refine wpQuiet_nil ?_
    rintro w11 ⟨⟨_, hb11⟩, rfl⟩
    have HG11 := Lib.hid (HUB.out w11 ⟨⟨w11, hb11⟩, rfl⟩)
    have HB11 := Lib.hid (HB10.out.trans (hb11.mono HB10.out.size))
    clear hb11
    go_wp2
    refine bodyPost_ret (ret_ub rfl rfl HG11.out HU.out) rfl ?_
    exact ⟨by rw [HQ.out]; rfl, HB11.out⟩

theorem ubParse_any (v : Value) (xs : List UInt8) (w : World) (h : Sl w 1 v 480 (xs.map Bv)) :
    Calls Tryz.prog 16 #[v] w fun e w' => e = .returned (.tuple #[.agg (gotU xs).arr, .bool (okU xs)]) ∧ Below w.heap.size w w' := by
  by_cases hm : xs.take 4 = markB
  · rw [show gotU xs = toldU xs by unfold gotU; rw [if_pos hm]]
    exact ubParse_yes v xs w h hm
  · rw [show gotU xs = Ub.zero by unfold gotU; rw [if_neg hm], show okU xs = false by unfold okU; rw [decide_eq_false hm]; rfl]
    exact ubParse_no v xs w h hm
end Go.Proofs.YtdmjnopjnaoepaaGreatDoor
namespace Go.Proofs.YtdmjnopjnaoepaaGreatDoor
open Go.RowKit

/-- What Get answers. -/
def errU (key xs : List UInt8) : Int := if xs.length = 512 then (if macN key (xs.take 480) = xs.drop 480 then (if okU (xs.take 480) then 0 else 4) else 5) else 2
def getU (key xs : List UInt8) : Ub := if errU key xs = 0 then toldU (xs.take 480) else Ub.zero
theorem getU_wf (key xs : List UInt8) : (getU key xs).Wf := by unfold getU; split; (· exact toldU_wf _); (· exact Ub.zero_wf)
theorem errU_or (key xs : List UInt8) : errU key xs = 0 ∨ (errU key xs = 2 ∨ errU key xs = 4 ∨ errU key xs = 5) ∧ getU key xs = Ub.zero := by
  have h : ¬ errU key xs = 0 → getU key xs = Ub.zero := fun h => by unfold getU; rw [if_neg h]
  by_cases h0 : errU key xs = 0
  · exact .inl h0
  · refine .inr ⟨?_, h h0⟩
    unfold errU at h0 ⊢
    split
    · rename_i h1
      rw [if_pos h1] at h0
      split
      · rename_i h2
        rw [if_pos h2] at h0
        split
        · rename_i h3; rw [if_pos h3] at h0; exact absurd rfl h0
        · exact .inr (.inl rfl)
      · exact .inr (.inr rfl)
    · exact .inl rfl

theorem Sl.here {w : World} {a : Option Addr} {n c : Nat} {ys : List UInt8} (h : Sl w 1 (.slice a n c) n (ys.map Bv)) (hn : 0 < n) : ∃ g o, a = some ⟨g, o, none⟩ ∧ At w g o (ys.map Bv) := by
  obtain ⟨hl, a', cap, e, _, _, h4⟩ := h
  simp only [Value.slice.injEq, true_and] at e
  obtain ⟨rfl, -⟩ := e
  have hl' : ys.length = n := by simpa using hl
  obtain ⟨y, l, rfl⟩ : ∃ y l, ys = y :: l := by cases ys with | nil => simp at hl'; omega | cons y l => exact ⟨y, l, rfl⟩
  obtain ⟨g, o, rfl, _⟩ := h4 0 (Bv y) rfl
  refine ⟨g, o, rfl, fun i u hu => ?_⟩
  obtain ⟨g', o', e', hc⟩ := h4 i u hu
  simp only [Option.some.injEq, Addr.mk.injEq, and_true] at e'
  obtain ⟨rfl, rfl⟩ := e'
  exact hc

set_option maxRecDepth 100000 in
set_option maxHeartbeats 4000000 in
theorem ubGet_len (vk v : Value) (xs : List UInt8) (w : World) (h : Sl w 1 v xs.length (xs.map Bv)) (hl : ¬ xs.length = 512) :
    Calls Tryz.prog 7 #[vk, v] w fun e w' => e = .returned (.tuple #[.agg Ub.zero.arr, .int .i64 2]) ∧ Below w.heap.size w w' := by
  obtain ⟨a, c, rfl, hc⟩ := h.len
  have HZ := Lib.hid (heap_alloc_new w (.cells Ub.zero.arr 32))
  have HB := Lib.hid ((Below.refl _ w).alloc (Nat.le_refl _) (.cells Ub.zero.arr 32))
  obtain ⟨n, hn⟩ : ∃ n, n = xs.length := ⟨_, rfl⟩
  rw [← hn] at hl ⊢
  have hb : ((n : Int) != 512) = true := by simp; omega
  clear h hc hn hl
  go_enter Tryz.func7, Tryz.ntmps7
  go_wp2_with (refine store_ub rfl (.tmp 4) (.tmp 11) rfl rfl rfl HZ.out Ub.zero_wf.asize Ub.zero_wf ?_)
  intro w1 hg1 hf1 hs1
  have HG1 := Lib.hid hg1
  have HB1 := Lib.hid (HB.out.trans (hf1.below HB.out.size (fun k hk => by omega)))
  clear hg1 hf1 hs1
  go_wp2
  refine bodyPost_ret (ret_ub rfl rfl HG1.out Ub.zero_wf) rfl ?_
  exact ⟨rfl, HB1.out⟩

set_option maxRecDepth 100000 in
set_option maxHeartbeats 4000000 in
theorem ubGet_512 (vk v : Value) (key xs : List UInt8) (w : World) (hk : Sl w 1 vk key.length (key.map Bv)) (hr : key.length ≤ 140737488351232) (h : Sl w 1 v 512 (xs.map Bv)) :
    Calls Tryz.prog 7 #[vk, v] w fun e w' => e = .returned (.tuple #[.agg (getU key xs).arr, .int .i64 (errU key xs)]) ∧ Below w.heap.size w w' := by
  obtain ⟨a, c, rfl, hc⟩ := h.len
  have hlen : xs.length = 512 := by simpa using h.1
  have hb0 : Below w.heap.size w (w.alloc (.cells Ub.zero.arr 32)) := (Below.refl _ w).alloc (Nat.le_refl _) _
  have HZ := Lib.hid (heap_alloc_new w (.cells Ub.zero.arr 32))
  have HB := Lib.hid hb0
  obtain ⟨A, C, q1, hs1⟩ := cut_u8_hi h (show 480 ≤ 512 by decide)
  obtain ⟨A2, C2, q2, hs2, -⟩ := cut_u8_lo' h (show 480 ≤ 512 by decide)
  obtain ⟨g, o, rfl, hat⟩ := hs2.here (by decide)
  rw [show (512 : Nat) - 480 = 32 from rfl, show ((480 : Nat) : Int) = 480 from rfl] at q2
  rw [show ((480 : Nat) : Int) = 480 from rfl] at q1
  have q3 : ∀ w', (Instr.arrayAt 28 (.slice (some ⟨g, o, none⟩) 32 C2)).run Tryz.prog w' = .ok (.pointer (some ⟨g, o, none⟩)) w' := by
    intro w'; simp [Instr.arrayAt, run_underlying Tryz.underlying28]
  obtain ⟨hd, hhd⟩ : ∃ hd, hd = xs.take 480 := ⟨_, rfl⟩
  obtain ⟨tl, htl⟩ : ∃ tl, tl = xs.drop 480 := ⟨_, rfl⟩
  have hhl : hd.length = 480 := by rw [hhd, List.length_take, hlen]; rfl
  have htll : tl.length = 32 := by rw [htl, List.length_drop, hlen]
  rw [← hhd] at hs1
  rw [← htl] at hs2 hat
  obtain ⟨res, hres⟩ : ∃ res, res = getU key xs := ⟨_, rfl⟩
  obtain ⟨er, her⟩ : ∃ er, er = errU key xs := ⟨_, rfl⟩
  have he : er = if macN key hd = tl then (if okU hd then 0 else 4) else 5 := by rw [her, hhd, htl]; unfold errU; rw [if_pos hlen]
  have hg : res = if er = 0 then toldU hd else Ub.zero := by rw [hres, her, hhd]; rfl
  rw [← hres, ← her]
  obtain ⟨w0, hw0⟩ : ∃ w0, w0 = w.alloc (.cells Ub.zero.arr 32) := ⟨_, rfl⟩
  rw [← hw0] at HZ HB hb0
  rw [zero36] at hw0
  have hsh : Sl w0 1 (.slice A 480 C) hd.length (hd.map Bv) := by rw [hhl]; exact hs1.below hb0
  have hk0 := hk.below hb0
  have hat0 := hat.fr (Fr.of_below (S := fun _ => False) hb0) id
  have HFits := Lib.hid (fun (x : Wd w0.heap.size w0) => Calls.wd x (Nat.le_refl _) (fits_any vk (.slice A 480 C) key hd tl x.to (hk0.below x.hb) (hsh.below x.hb) hr (by rw [hhl]; decide) htll))
  have HUT := Lib.hid (fun w' (hw : ∃ x : Wd w0.heap.size w0, w' = x.to) => (by obtain ⟨x, rfl⟩ := hw; exact x.at hat0 : At w' g o (tl.map Bv)))
  have HE := Lib.hid he
  have HRes := Lib.hid hg
  have HTl := Lib.hid htll
  have HSh := Lib.hid (fun (w' : World) (hh : Below w.heap.size w w') => (hs1.below hh : Sl w' 1 (.slice A 480 C) 480 (hd.map Bv)))
  have HW0 := Lib.hid hw0
  clear h hk hb0 hs1 hs2 hat hhd htl hhl htll hres her he hg hw0 hsh hk0 hat0 hlen hr
  go_enter Tryz.func7, Tryz.ntmps7
  go_wp2_with fail
  have hw0 := HW0.out
  rw [← hw0]
  clear hw0
  refine wp_region_wd w0.heap.size (by kernel_rfl) (by kernel_rfl) ?_
  repeat (first
    | (refine wpQuiet_load_at rfl 28 (.tmp 17) rfl g o rfl (tl.map Bv) _ HUT.out Tryz.underlying28 rfl (by rw [info_hash', List.length_map, HTl.out]) ?_; simp only [Act.put, List.setIfInBounds_toArray, List.set_cons_succ, List.set_cons_zero])
    | go_big_quiet_step (with_reducible exact HFits.out _))
  refine wpQuiet_nil ?_
  rintro w1 ⟨⟨_, hb1⟩, rfl⟩
  have HB1 := Lib.hid (HB.out.trans (hb1.mono HB.out.size))
  have HZ1 := Lib.hid ((hb1.block w.heap.size (lt_of_block HZ.out)).trans HZ.out)
  clear hb1
  by_cases hm : macN key hd = tl
  · rw [decide_eq_true hm]
    have hE2 : er = if okU hd then 0 else 4 := by rw [HE.out, if_pos hm]
    clear hm q2 q3
    have hp := fun (w' : World) (h : Sl w' 1 (.slice A 480 C) 480 (hd.map Bv)) => ubParse_any _ hd w' h
    cases hok : okU hd with
    | true =>
      have hgt : gotU hd = toldU hd := by
        unfold gotU
        rw [if_pos]
        unfold okU at hok
        simp only [Bool.and_eq_true, decide_eq_true_eq] at hok
        exact hok.1.1
      rw [hok, hgt] at hp
      rw [hok, if_pos rfl] at hE2
      have hR := HRes.out
      rw [if_pos hE2] at hR
      rw [← hR] at hp
      have hwf := toldU_wf hd
      rw [← hR] at hwf
      have HU := Lib.hid hwf
      have HP := Lib.hid hp
      have HE2 := Lib.hid hE2
      clear hp hok hgt hR hE2 hwf
      go_wp2_with fail
      refine (HP.out _ (HSh.out _ HB1.out)).mono ?_
      rintro e w2 ⟨rfl, hb2⟩
      have HB2 := Lib.hid (HB1.out.trans (hb2.mono HB1.out.size))
      have HZ2 := Lib.hid ((hb2.block w.heap.size (lt_of_block HZ1.out)).trans HZ1.out)
      clear hb2
      go_wp2_with (refine store_ub rfl (.tmp 6) (.tmp 26) rfl rfl rfl (heap_alloc_new _ _) rfl HU.out ?_)
      intro w3 hg3 hf3 hs3
      have hbel3 : Below w2.heap.size w2 w3 := ((Below.refl _ w2).alloc (Nat.le_refl _) _).trans (hf3.below (by simp) (fun k hk => by omega))
      have HA3 := Lib.hid (show At w3 w2.heap.size 0 res.cells from At.of_row hg3)
      have HB3 := Lib.hid (HB2.out.trans (hbel3.mono HB2.out.size))
      have HZ3 := Lib.hid ((hbel3.block w.heap.size (lt_of_block HZ2.out)).trans HZ2.out)
      clear hg3 hf3 hs3 hbel3
      go_wp2_with (first | (refine load_ub rfl (.tmp 6) rfl rfl HA3.out HU.out ?_) | (refine store_ub rfl (.tmp 4) (.tmp 31) rfl rfl rfl HZ3.out Ub.zero_wf.asize HU.out ?_))
      intro w4 hg4 hf4 hs4
      have HG4 := Lib.hid hg4
      have HB4 := Lib.hid (HB3.out.trans (hf4.below HB3.out.size (fun k hk => by omega)))
      clear hg4 hf4 hs4
      go_wp2
      refine bodyPost_ret (ret_ub rfl rfl HG4.out HU.out) rfl ?_
      exact ⟨by rw [HE2.out]; rfl, HB4.out⟩
    | false =>
      rw [hok] at hp
      rw [hok, if_neg Bool.false_ne_true] at hE2
      have hR := HRes.out
      rw [if_neg (by rw [hE2]; decide)] at hR
      have HU := Lib.hid (gotU_wf hd)
      have HP := Lib.hid hp
      have HE2 := Lib.hid hE2
      have HR := Lib.hid hR
      clear hp hok hR hE2
      go_wp2_with fail
      refine (HP.out _ (HSh.out _ HB1.out)).mono ?_
      rintro e w2 ⟨rfl, hb2⟩
      have HB2 := Lib.hid (HB1.out.trans (hb2.mono HB1.out.size))
      have HZ2 := Lib.hid ((hb2.block w.heap.size (lt_of_block HZ1.out)).trans HZ1.out)
      clear hb2
      go_wp2_with (refine store_ub rfl (.tmp 6) (.tmp 26) rfl rfl rfl (heap_alloc_new _ _) rfl HU.out ?_)
      intro w3 hg3 hf3 hs3
      have hbel3 : Below w2.heap.size w2 w3 := ((Below.refl _ w2).alloc (Nat.le_refl _) _).trans (hf3.below (by simp) (fun k hk => by omega))
      have HB3 := Lib.hid (HB2.out.trans (hbel3.mono HB2.out.size))
      have HZ3 := Lib.hid ((hbel3.block w.heap.size (lt_of_block HZ2.out)).trans HZ2.out)
      clear hg3 hf3 hs3 hbel3
      go_wp2_with (refine store_ub rfl (.tmp 4) (.tmp 30) rfl rfl rfl HZ3.out Ub.zero_wf.asize Ub.zero_wf ?_)
      intro w4 hg4 hf4 hs4
      have HG4 := Lib.hid hg4
      have HB4 := Lib.hid (HB3.out.trans (hf4.below HB3.out.size (fun k hk => by omega)))
      clear hg4 hf4 hs4
      go_wp2
      refine bodyPost_ret (ret_ub rfl rfl HG4.out Ub.zero_wf) rfl ?_
      exact ⟨by rw [HE2.out, HR.out]; rfl, HB4.out⟩
  · rw [decide_eq_false hm]
    have hE2 : er = 5 := by rw [HE.out, if_neg hm]
    have hR := HRes.out
    rw [if_neg (by rw [hE2]; decide)] at hR
    have HE2 := Lib.hid hE2
    have HR := Lib.hid hR
    clear hm q2 q3 q1 hE2 hR
    go_wp2_with (refine store_ub rfl (.tmp 4) (.tmp 21) rfl rfl rfl HZ1.out Ub.zero_wf.asize Ub.zero_wf ?_)
    intro w4 hg4 hf4 hs4
    have HG4 := Lib.hid hg4
    have HB4 := Lib.hid (HB1.out.trans (hf4.below HB1.out.size (fun k hk => by omega)))
    clear hg4 hf4 hs4
    go_wp2
    refine bodyPost_ret (ret_ub rfl rfl HG4.out Ub.zero_wf) rfl ?_
    exact ⟨by rw [HE2.out, HR.out]; rfl, HB4.out⟩

theorem ubGet_any (vk v : Value) (key xs : List UInt8) (w : World) (hk : Sl w 1 vk key.length (key.map Bv)) (hr : key.length ≤ 140737488351232) (h : Sl w 1 v xs.length (xs.map Bv)) :
    Calls Tryz.prog 7 #[vk, v] w fun e w' => e = .returned (.tuple #[.agg (getU key xs).arr, .int .i64 (errU key xs)]) ∧ Below w.heap.size w w' := by
  by_cases hl : xs.length = 512
  · rw [hl] at h
    exact ubGet_512 vk v key xs w hk hr h
  · have h1 : errU key xs = 2 := by unfold errU; rw [if_neg hl]
    have h2 : getU key xs = Ub.zero := by unfold getU; rw [h1]; rfl
    rw [h1, h2]
    exact ubGet_len vk v xs w h hl

theorem index_twoU (v0 v1 : Value) (w : World) : (Instr.index 56 (.agg #[v0, v1]) (.int .i64 0)).run Tryz.prog w = .ok v0 w ∧ (Instr.index 56 (.agg #[v0, v1]) (.int .i64 1)).run Tryz.prog w = .ok v1 w := by
  have hsz : (sizeOf 22).run Tryz.prog w = .ok 1 w := by
    have : ∃ i, Tryz.prog.info? 22 = some i ∧ i.size = 1 := by
      have h1 : (Tryz.prog.info? 22).map (·.size) = some 1 := by kernel_rfl
      cases hq : Tryz.prog.info? 22 with
      | none => simp [hq] at h1
      | some i => exact ⟨i, rfl, by simpa [hq] using h1⟩
    obtain ⟨i, hi, hs⟩ := this
    simp [sizeOf, typeInfo, hi, hs]
  constructor <;> (simp [Instr.index, run_underlying Tryz.underlying56, asIntOf, part, Sem.run_bind, hsz])

/-- One round of Choose; the answer after so many rounds. -/
def chS (s : Ub × Int) (slot : Nat) (g : Ub × Int) : Ub × Int := if g.2 = 0 ∧ g.1.txg % 2 = slot ∧ s.1.txg < g.1.txg then (g.1, 0) else s
def chN (key xa xb : List UInt8) : Nat → Ub × Int
  | 0 => (Ub.zero, 8)
  | 1 => chS (Ub.zero, 8) 0 (getU key xa, errU key xa)
  | _ => chS (chS (Ub.zero, 8) 0 (getU key xa, errU key xa)) 1 (getU key xb, errU key xb)
theorem chS_wf {s : Ub × Int} {k : Nat} {g : Ub × Int} (h1 : s.1.Wf) (h2 : g.1.Wf) : (chS s k g).1.Wf := by unfold chS; split; (· exact h2); (· exact h1)

set_option maxRecDepth 100000 in
set_option maxHeartbeats 8000000 in
theorem ubChoose_any (vk va vb : Value) (key xa xb : List UInt8) (w : World) (hk : Sl w 1 vk key.length (key.map Bv)) (hr : key.length ≤ 140737488351232) (ha : Sl w 1 va xa.length (xa.map Bv)) (hb : Sl w 1 vb xb.length (xb.map Bv)) :
    Calls Tryz.prog 9 #[vk, va, vb] w fun e w' => e = .returned (.tuple #[.agg (chN key xa xb 2).1.arr, .int .i64 (chN key xa xb 2).2]) ∧ Below w.heap.size w w' := by
  obtain ⟨ka, kc, rfl, -⟩ := hk.len
  obtain ⟨aa, ac, rfl, -⟩ := ha.len
  obtain ⟨ba, bc, rfl, -⟩ := hb.len
  have HZ := Lib.hid (heap_alloc_new w (.cells Ub.zero.arr 32))
  have HB := Lib.hid ((Below.refl _ w).alloc (Nat.le_refl _) (.cells Ub.zero.arr 32))
  have HK := Lib.hid (fun (w' : World) (hh : Below w.heap.size w w') => (hk.below hh : Sl w' 1 (.slice ka key.length kc) key.length (key.map Bv)))
  have Hva := Lib.hid (fun (w' : World) (hh : Below w.heap.size w w') => (ha.below hh : Sl w' 1 (.slice aa xa.length ac) xa.length (xa.map Bv)))
  have Hvb := Lib.hid (fun (w' : World) (hh : Below w.heap.size w w') => (hb.below hh : Sl w' 1 (.slice ba xb.length bc) xb.length (xb.map Bv)))
  have HR := Lib.hid hr
  obtain ⟨fin, hfin⟩ : ∃ fin, fin = chN key xa xb 2 := ⟨_, rfl⟩
  rw [← hfin]
  have HFin := Lib.hid hfin
  obtain ⟨vk, hvk⟩ : ∃ vk, vk = Value.slice ka key.length kc := ⟨_, rfl⟩
  rw [← hvk] at HK ⊢
  clear hk ha hb hr hfin hvk
  go_enter Tryz.func9, Tryz.ntmps9
  go_wp2_with fail
  go_loopw [15, 7] (fun i ev wr => ∃ k : Nat, k ≤ 2 ∧ i = .int .i64 k ∧ ∃ (best : Ub) (er0 : Int), best.Wf ∧ chN key xa xb k = (best, er0) ∧ ev = .int .i64 er0 ∧ wr.heap[w.heap.size]? = some (.cells best.arr 32 (0, 0)) ∧ Below w.heap.size w wr) (fun i _ _ => 2 - (intOf i).toNat)
  case atStart => exact ⟨0, Nat.zero_le _, rfl, Ub.zero, 8, Ub.zero_wf, rfl, rfl, HZ.out, HB.out⟩
  case round =>
    obtain ⟨k, hk, rfl, best, er0, hbw, hch, rfl, hz, hbel⟩ := hrel
    have HBw := Lib.hid hbw
    have HZr := Lib.hid hz
    have HBr := Lib.hid hbel
    have HCh := Lib.hid hch
    have HBt := Lib.hid hbw.txg
    clear hbw hch hz hbel
    have ix0 := (index_twoU (.slice aa xa.length ac) (.slice ba xb.length bc) wr).1
    have ix1 := (index_twoU (.slice aa xa.length ac) (.slice ba xb.length bc) wr).2
    obtain rfl | rfl | rfl : k = 0 ∨ k = 1 ∨ k = 2 := by omega
    · obtain ⟨x, hx⟩ : ∃ x, x = getU key xa := ⟨_, rfl⟩
      obtain ⟨er, her⟩ : ∃ er, er = errU key xa := ⟨_, rfl⟩
      obtain ⟨m, hm⟩ : ∃ m, m = x.txg % 2 := ⟨_, rfl⟩
      have hxw : x.Wf := by rw [hx]; exact getU_wf _ _
      have hget := fun w' hk hs => ubGet_any vk (.slice aa xa.length ac) key xa w' hk HR.out hs
      rw [← hx, ← her] at hget
      have hslot := fun w' => ubSlot_any x.txg w' hxw.txg
      rw [← hm] at hslot
      have m2 : m < 2 := by omega
      have HM := Lib.hid hm
      have HV := Hva
      have HXw := Lib.hid hxw
      have HGet := Lib.hid hget
      have HSlot := Lib.hid hslot
      have HNx := Lib.hid (show chN key xa xb 1 = chS (chN key xa xb 0) 0 (x, er) by rw [hx, her]; rfl)
      have HXt := Lib.hid hxw.txg
      clear hx her hm hxw hget hslot
      rw [show ((0 : Nat) : Int) = 0 from rfl]
      go_wp2_with fail
      refine (HGet.out _ (HK.out _ HBr.out) (HV.out _ HBr.out)).mono ?_
      rintro e w2 ⟨rfl, hb2⟩
      have HB2 := Lib.hid (HBr.out.trans (hb2.mono HBr.out.size))
      have HZ2 := Lib.hid ((hb2.block w.heap.size (lt_of_block HZr.out)).trans HZr.out)
      clear hb2
      go_wp2_with (refine store_ub rfl (.tmp 10) (.tmp 23) rfl rfl rfl (heap_alloc_new _ _) rfl HXw.out ?_)
      intro w3 hg3 hf3 hs3
      have hbel3 : Below w2.heap.size w2 w3 := ((Below.refl _ w2).alloc (Nat.le_refl _) _).trans (hf3.below (by simp) (fun k hk => by omega))
      have hz3 := (hbel3.block w.heap.size (lt_of_block HZ2.out)).trans HZ2.out
      have HA3 := Lib.hid (show At w3 w2.heap.size 0 x.cells from At.of_row hg3)
      have HB3 := Lib.hid (HB2.out.trans (hbel3.mono HB2.out.size))
      have HZ3 := Lib.hid hz3
      have cx : w3.cell? ⟨w2.heap.size, 0, none⟩ = some (.int .u64 (x.txg : Int)) := (cell_of_row _ _ 0 _ _ _ hg3).trans x.get0
      have cb : w3.cell? ⟨w.heap.size, 0, none⟩ = some (.int .u64 (best.txg : Int)) := (cell_of_row _ _ 0 _ _ _ hz3).trans best.get0
      clear hg3 hf3 hs3 hbel3 hz3
      by_cases he : er = 0
      · have e0 : (er == 0) = true := by rw [he]; rfl
        by_cases hm : m = 0
        · have e1 : ((m : Int) == 0) = true := by rw [hm]; rfl
          by_cases ht : best.txg < x.txg
          · have e2 : (best.txg : Int) < (x.txg : Int) := by omega
            have HN := Lib.hid (show chS (best, er0) 0 (x, er) = (x, 0) by unfold chS; rw [if_pos ⟨he, by rw [← HM.out]; exact hm, ht⟩])
            clear he hm ht
            go_wp2_with fail
            refine (HSlot.out _).mono ?_
            rintro e w4 ⟨rfl, rfl⟩
            go_wp2_with (first | (refine load_ub rfl (.tmp 10) rfl rfl HA3.out HXw.out ?_) | (refine store_ub rfl (.tmp 6) (.tmp 42) rfl rfl rfl HZ3.out HBw.out.asize HXw.out ?_))
            intro w5 hg5 hf5 hs5
            have HG5 := Lib.hid hg5
            have HB5 := Lib.hid (HB3.out.trans (hf5.below HB3.out.size (fun k hk => by omega)))
            clear hg5 hf5 hs5
            go_wp2_with fail
            go_roundw
            case rel => exact ⟨0 + 1, by omega, by go_num, x, 0, HXw.out, (HNx.out.trans (congrArg (fun s => chS s 0 (x, er)) HCh.out)).trans HN.out, rfl, HG5.out, HB5.out⟩
            case measure => simp [intOf]
          · have e2 : ¬ (best.txg : Int) < (x.txg : Int) := by omega
            have HN := Lib.hid (show chS (best, er0) 0 (x, er) = (best, er0) by unfold chS; rw [if_neg (fun h => ht h.2.2)])
            clear he hm ht
            go_wp2_with fail
            refine (HSlot.out _).mono ?_
            rintro e w4 ⟨rfl, rfl⟩
            go_wp2_with fail
            go_roundw
            case rel => exact ⟨0 + 1, by omega, by go_num, best, er0, HBw.out, (HNx.out.trans (congrArg (fun s => chS s 0 (x, er)) HCh.out)).trans HN.out, rfl, HZ3.out, HB3.out⟩
            case measure => simp [intOf]
        · have e1 : ((m : Int) == 0) = false := by simp; omega
          have HN := Lib.hid (show chS (best, er0) 0 (x, er) = (best, er0) by unfold chS; rw [if_neg (fun h => hm (by rw [HM.out]; exact h.2.1))])
          clear he hm
          go_wp2_with fail
          refine (HSlot.out _).mono ?_
          rintro e w4 ⟨rfl, rfl⟩
          go_wp2_with fail
          go_roundw
          case rel => exact ⟨0 + 1, by omega, by go_num, best, er0, HBw.out, (HNx.out.trans (congrArg (fun s => chS s 0 (x, er)) HCh.out)).trans HN.out, rfl, HZ3.out, HB3.out⟩
          case measure => simp [intOf]
      · have e0 : (er == 0) = false := by rw [beq_eq_false_iff_ne]; exact he
        have HN := Lib.hid (show chS (best, er0) 0 (x, er) = (best, er0) by unfold chS; rw [if_neg (fun h => he h.1)])
        clear he
        go_wp2_with fail
        go_roundw
        case rel => exact ⟨0 + 1, by omega, by go_num, best, er0, HBw.out, (HNx.out.trans (congrArg (fun s => chS s 0 (x, er)) HCh.out)).trans HN.out, rfl, HZ3.out, HB3.out⟩
        case measure => simp [intOf]
    · obtain ⟨x, hx⟩ : ∃ x, x = getU key xb := ⟨_, rfl⟩
      obtain ⟨er, her⟩ : ∃ er, er = errU key xb := ⟨_, rfl⟩
      obtain ⟨m, hm⟩ : ∃ m, m = x.txg % 2 := ⟨_, rfl⟩
      have hxw : x.Wf := by rw [hx]; exact getU_wf _ _
      have hget := fun w' hk hs => ubGet_any vk (.slice ba xb.length bc) key xb w' hk HR.out hs
      rw [← hx, ← her] at hget
      have hslot := fun w' => ubSlot_any x.txg w' hxw.txg
      rw [← hm] at hslot
      have m2 : m < 2 := by omega
      have HM := Lib.hid hm
      have HV := Hvb
      have HXw := Lib.hid hxw
      have HGet := Lib.hid hget
      have HSlot := Lib.hid hslot
      have HNx := Lib.hid (show chN key xa xb 2 = chS (chN key xa xb 1) 1 (x, er) by rw [hx, her]; rfl)
      have HXt := Lib.hid hxw.txg
      clear hx her hm hxw hget hslot
      rw [show ((1 : Nat) : Int) = 1 from rfl]
      go_wp2_with fail
      refine (HGet.out _ (HK.out _ HBr.out) (HV.out _ HBr.out)).mono ?_
      rintro e w2 ⟨rfl, hb2⟩
      have HB2 := Lib.hid (HBr.out.trans (hb2.mono HBr.out.size))
      have HZ2 := Lib.hid ((hb2.block w.heap.size (lt_of_block HZr.out)).trans HZr.out)
      clear hb2
      go_wp2_with (refine store_ub rfl (.tmp 10) (.tmp 23) rfl rfl rfl (heap_alloc_new _ _) rfl HXw.out ?_)
      intro w3 hg3 hf3 hs3
      have hbel3 : Below w2.heap.size w2 w3 := ((Below.refl _ w2).alloc (Nat.le_refl _) _).trans (hf3.below (by simp) (fun k hk => by omega))
      have hz3 := (hbel3.block w.heap.size (lt_of_block HZ2.out)).trans HZ2.out
      have HA3 := Lib.hid (show At w3 w2.heap.size 0 x.cells from At.of_row hg3)
      have HB3 := Lib.hid (HB2.out.trans (hbel3.mono HB2.out.size))
      have HZ3 := Lib.hid hz3
      have cx : w3.cell? ⟨w2.heap.size, 0, none⟩ = some (.int .u64 (x.txg : Int)) := (cell_of_row _ _ 0 _ _ _ hg3).trans x.get0
      have cb : w3.cell? ⟨w.heap.size, 0, none⟩ = some (.int .u64 (best.txg : Int)) := (cell_of_row _ _ 0 _ _ _ hz3).trans best.get0
      clear hg3 hf3 hs3 hbel3 hz3
      by_cases he : er = 0
      · have e0 : (er == 0) = true := by rw [he]; rfl
        by_cases hm : m = 1
        · have e1 : ((m : Int) == 1) = true := by rw [hm]; rfl
          by_cases ht : best.txg < x.txg
          · have e2 : (best.txg : Int) < (x.txg : Int) := by omega
            have HN := Lib.hid (show chS (best, er0) 1 (x, er) = (x, 0) by unfold chS; rw [if_pos ⟨he, by rw [← HM.out]; exact hm, ht⟩])
            clear he hm ht
            go_wp2_with fail
            refine (HSlot.out _).mono ?_
            rintro e w4 ⟨rfl, rfl⟩
            go_wp2_with (first | (refine load_ub rfl (.tmp 10) rfl rfl HA3.out HXw.out ?_) | (refine store_ub rfl (.tmp 6) (.tmp 42) rfl rfl rfl HZ3.out HBw.out.asize HXw.out ?_))
            intro w5 hg5 hf5 hs5
            have HG5 := Lib.hid hg5
            have HB5 := Lib.hid (HB3.out.trans (hf5.below HB3.out.size (fun k hk => by omega)))
            clear hg5 hf5 hs5
            go_wp2_with fail
            go_roundw
            case rel => exact ⟨1 + 1, by omega, by go_num, x, 0, HXw.out, (HNx.out.trans (congrArg (fun s => chS s 1 (x, er)) HCh.out)).trans HN.out, rfl, HG5.out, HB5.out⟩
            case measure => simp [intOf]
          · have e2 : ¬ (best.txg : Int) < (x.txg : Int) := by omega
            have HN := Lib.hid (show chS (best, er0) 1 (x, er) = (best, er0) by unfold chS; rw [if_neg (fun h => ht h.2.2)])
            clear he hm ht
            go_wp2_with fail
            refine (HSlot.out _).mono ?_
            rintro e w4 ⟨rfl, rfl⟩
            go_wp2_with fail
            go_roundw
            case rel => exact ⟨1 + 1, by omega, by go_num, best, er0, HBw.out, (HNx.out.trans (congrArg (fun s => chS s 1 (x, er)) HCh.out)).trans HN.out, rfl, HZ3.out, HB3.out⟩
            case measure => simp [intOf]
        · have e1 : ((m : Int) == 1) = false := by simp; omega
          have HN := Lib.hid (show chS (best, er0) 1 (x, er) = (best, er0) by unfold chS; rw [if_neg (fun h => hm (by rw [HM.out]; exact h.2.1))])
          clear he hm
          go_wp2_with fail
          refine (HSlot.out _).mono ?_
          rintro e w4 ⟨rfl, rfl⟩
          go_wp2_with fail
          go_roundw
          case rel => exact ⟨1 + 1, by omega, by go_num, best, er0, HBw.out, (HNx.out.trans (congrArg (fun s => chS s 1 (x, er)) HCh.out)).trans HN.out, rfl, HZ3.out, HB3.out⟩
          case measure => simp [intOf]
      · have e0 : (er == 0) = false := by rw [beq_eq_false_iff_ne]; exact he
        have HN := Lib.hid (show chS (best, er0) 1 (x, er) = (best, er0) by unfold chS; rw [if_neg (fun h => he h.1)])
        clear he
        go_wp2_with fail
        go_roundw
        case rel => exact ⟨1 + 1, by omega, by go_num, best, er0, HBw.out, (HNx.out.trans (congrArg (fun s => chS s 1 (x, er)) HCh.out)).trans HN.out, rfl, HZ3.out, HB3.out⟩
        case measure => simp [intOf]
    · have HA := Lib.hid (show At wr w.heap.size 0 best.cells from At.of_row HZr.out)
      have HF := Lib.hid (HFin.out.trans HCh.out)
      go_wp2_with (first | (refine load_ub rfl (.tmp 6) rfl rfl HA.out HBw.out ?_) | (refine store_ub rfl (.tmp 6) (.tmp 44) rfl rfl rfl HZr.out HBw.out.asize HBw.out ?_))
      intro w5 hg5 hf5 hs5
      have HG5 := Lib.hid hg5
      have HB5 := Lib.hid (HBr.out.trans (hf5.below HBr.out.size (fun k hk => by omega)))
      clear hg5 hf5 hs5
      go_wp2
      refine bodyPost_ret (ret_ub rfl rfl HG5.out HBw.out) rfl ?_
      exact ⟨by rw [HF.out]; rfl, HB5.out⟩
end Go.Proofs.YtdmjnopjnaoepaaGreatDoor
