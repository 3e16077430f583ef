/- A node's bytes, as data; the walk of node's Put. A pool in memory; walks: pool.New, Begin, space, Keep, Taken, Left. Walks: banyanref11's New, is, Take, Free, Set, Taken, Same. Walks: Keep, of an empty slice that may lie anywhere, too. -/
import Derived.Test.YtkbnkdokcmpcgaaGreatDoorB12
import Derived.Test.YtkbnkdokcmpcgaaGreatDoorB13
import Derived.Test.YtkbnkdokcmpcgaaGreatDoorB14
namespace Go.Proofs.YtkbnkdokcmpcgaaGreatDoor
open Go.RowKit

def kvAt (n : Nd) (i : Nat) : List UInt8 := strB (n.keys.getD i ⟨#[]⟩) ++ (if n.leaf then strB (n.vals.getD i ⟨#[]⟩) else [])
def kvTo (n : Nd) (k : Nat) : List UInt8 := (List.range k).flatMap (kvAt n)
def kidsTo (n : Nd) (k : Nat) : List UInt8 := (n.kids.take k).flatMap ptrB
def headB (n : Nd) : List UInt8 := putB (if n.leaf then 1 else 2) 1 ++ putB n.keys.length 1
def bytesN (n : Nd) : List UInt8 := headB n ++ kvTo n n.keys.length ++ kidsTo n n.kids.length

theorem kvTo_succ (n : Nd) (k : Nat) : kvTo n (k + 1) = kvTo n k ++ kvAt n k := by
  unfold kvTo; rw [List.range_succ, List.flatMap_append]; simp
theorem kidsTo_succ (n : Nd) (k : Nat) (h : k < n.kids.length) : kidsTo n (k + 1) = kidsTo n k ++ ptrB n.kids[k] := by
  unfold kidsTo; rw [List.take_succ_eq_append_getElem h, List.flatMap_append]; simp
theorem headB_length (n : Nd) : (headB n).length = 2 := by unfold headB; simp [putB_length]

theorem kvTo_length_leaf (n : Nd) (hl : n.leaf = true) : ∀ k, k ≤ n.keys.length → k ≤ n.vals.length → (kvTo n k).length = strsN (n.keys.take k) + strsN (n.vals.take k) := by
  intro k
  induction k with
  | zero => intro _ _; simp [kvTo, strsN]
  | succ k ih =>
    intro h1 h2
    rw [kvTo_succ, List.length_append, ih (by omega) (by omega), strsN_step _ k (by omega), strsN_step _ k (by omega)]
    unfold kvAt
    rw [hl, if_pos rfl, List.length_append, strB_length, strB_length, List.getD_eq_getElem?_getD, List.getD_eq_getElem?_getD, List.getElem?_eq_getElem (by omega), List.getElem?_eq_getElem (by omega)]
    simp only [Option.getD_some]
    omega
theorem kvTo_length_inner (n : Nd) (hl : n.leaf = false) : ∀ k, k ≤ n.keys.length → (kvTo n k).length = strsN (n.keys.take k) := by
  intro k
  induction k with
  | zero => intro _; simp [kvTo, strsN]
  | succ k ih =>
    intro h1
    rw [kvTo_succ, List.length_append, ih (by omega), strsN_step _ k (by omega)]
    unfold kvAt
    rw [hl, List.length_append, strB_length, List.getD_eq_getElem?_getD, List.getElem?_eq_getElem (by omega)]
    simp only [Option.getD_some, Bool.false_eq_true, if_false, List.length_nil]
    omega
theorem kidsTo_length (n : Nd) (h : ∀ p ∈ n.kids, p.Wf) : ∀ k, k ≤ n.kids.length → (kidsTo n k).length = 44 * k := by
  intro k
  induction k with
  | zero => intro _; simp [kidsTo]
  | succ k ih =>
    intro hk
    rw [kidsTo_succ n k (by omega), List.length_append, ih (by omega), ptrB_length _ (h _ (List.getElem_mem (by omega)))]
    omega

structure FormOk (n : Nd) : Prop where
  kvLen : (kvTo n n.keys.length).length = strsN n.keys + strsN n.vals
  vals : n.leaf = true → n.vals.length = n.keys.length
  keyS : ∀ s ∈ n.keys, 1 ≤ s.size ∧ s.size ≤ 32
  valS : ∀ s ∈ n.vals, s.size ≤ 96
theorem keysB_pos {l : List ByteArray} (h : keysB l = true) : ∀ s ∈ l, 1 ≤ s.size := by
  intro s hs
  obtain ⟨i, hi, rfl⟩ := List.getElem_of_mem hs
  have h1 := List.all_eq_true.1 h i (by simpa using hi)
  unfold keyAt at h1
  rw [List.getElem?_eq_getElem hi] at h1
  simp only [Bool.and_eq_true, decide_eq_true_iff] at h1
  have := h1.1.1
  omega
theorem formB_ok {n : Nd} (h : formB n = true) : FormOk n := by
  have hv := formB_vals h
  have hk := formB_keys h
  have hks : ∀ s ∈ n.keys, 1 ≤ s.size ∧ s.size ≤ 32 := fun s hs => ⟨keysB_pos hk s hs, keysB_size hk s hs⟩
  unfold formB at h
  simp only [Bool.and_eq_true] at h
  cases hl : n.leaf with
  | true =>
    rw [hl] at h
    simp only [if_true, Bool.and_eq_true, decide_eq_true_iff] at h
    have e1 := h.2.1.1
    refine ⟨?_, fun _ => e1, hks, hv⟩
    rw [kvTo_length_leaf n hl _ (Nat.le_refl _) (by omega), List.take_length, List.take_of_length_le (by omega)]
  | false =>
    rw [hl] at h
    simp only [Bool.false_eq_true, if_false, Bool.and_eq_true, decide_eq_true_iff] at h
    have e1 : n.vals = [] := List.eq_nil_of_length_eq_zero h.2.1.1.1
    refine ⟨?_, fun h => (by rw [hl] at h; cases h), hks, hv⟩
    rw [kvTo_length_inner n hl _ (Nat.le_refl _), List.take_length, e1]
    simp [strsN]
theorem bytesN_length {n : Nd} (h : formB n = true) (hw : ∀ p ∈ n.kids, p.Wf) : (bytesN n).length = sizeN n := by
  unfold bytesN
  rw [List.length_append, List.length_append, headB_length, (formB_ok h).kvLen, kidsTo_length n hw _ (Nat.le_refl _)]
  unfold sizeN; omega
theorem strsN_ge (l : List ByteArray) (h : ∀ s ∈ l, 1 ≤ s.size) : 2 * l.length ≤ strsN l := by
  induction l with
  | nil => simp
  | cons a l ih =>
    have h1 := ih (fun s hs => h s (by simp [hs]))
    have h2 := h a (by simp)
    have e : strsN (a :: l) = (1 + a.size) + strsN l := by simp [strsN]
    rw [e, List.length_cons]; omega

set_option maxHeartbeats 1000000 in
theorem put_bad (arr : Array Value) (n : Nd) (w : World) (h : NdIs w arr n) (hf : n.Fits) (hc : checkE n ≠ 0) :
    Calls Tryz.prog 62 #[.agg arr] w fun e w' => e = .returned (.tuple #[.slice none 0 0, .int .i64 (checkE n)]) ∧ Below w.heap.size w w' := by
  have HN := Lib.hid h
  obtain ⟨ak, ck, av, cv, ap, cp, rfl, hk, hv, hp⟩ := h.get
  have hb0 : Below w.heap.size w (w.alloc (.cells #[.bool n.leaf, .slice ak n.keys.length ck, .slice av n.vals.length cv, .slice ap n.kids.length cp] 25)) := (Below.refl _ w).alloc (Nat.le_refl _) _
  have HB := Lib.hid hb0
  have HF := Lib.hid hf
  have HN0 := Lib.hid (HN.out.below hb0)
  have hbc : (checkE n != 0) = true := by simpa using hc
  clear h hk hv hp hb0 hf hc
  go_enter Tryz.func62, Tryz.ntmps62
  go_wp2_with fail
  refine (check_any _ n _ HN0.out HF.out).mono ?_
  rintro e w1 ⟨rfl, hb⟩
  have HB1 := Lib.hid (HB.out.trans (hb.mono HB.out.size))
  clear hb
  go_wp2
  go_ret2
  exact ⟨rfl, HB1.out⟩

def PutRel (w : World) (cs : Array Value) (B : Nat) (xs : List UInt8) (wr : World) : Prop :=
  ∃ row, Wr wr B B row xs ∧ Below w.heap.size w wr ∧ wr.heap[w.heap.size]? = some (.cells cs 25 (0, 0)) ∧ w.heap.size < B

theorem PutRel.laid {w : World} {cs : Array Value} {B : Nat} {xs ys : List UInt8} {wr w' : World} {row : Option Nat} (h1 : Wr wr B B row xs) (h2 : Below w.heap.size w wr) (h3 : wr.heap[w.heap.size]? = some (.cells cs 25 (0, 0))) (h4 : w.heap.size < B)
    (hl : Laid wr w' B B row ys) : PutRel w cs B ys w' := by
  obtain ⟨row', a1, a2, a3⟩ := hl
  have hlt := h1.lt
  refine ⟨row', a1, h2.trans (a2.below h2.size (fun j hj => ?_)), (a2.block _ (lt_of_block h3) (fun e => ?_)).trans h3, h4⟩
  · rcases hj with e | e
    · omega
    · have := (hlt.2 j e).1; omega
  · rcases e with e | e
    · omega
    · have := (hlt.2 _ e).1; omega

set_option maxRecDepth 100000 in
set_option maxHeartbeats 4000000 in
theorem put_ok (arr : Array Value) (n : Nd) (w : World) (h : NdIs w arr n) (hf : n.Fits) (hc : formB n = true) (hs : sizeN n ≤ 512) :
    Calls Tryz.prog 62 #[.agg arr] w fun e w' => ∃ aa cc, e = .returned (.tuple #[.slice aa 512 cc, .int .i64 0]) ∧ w'.ownsRow w.heap.size 5 1 (.slice aa 512 cc) 512 ((bytesN n ++ List.replicate (512 - sizeN n) 0).map Bv) ∧ Below w.heap.size w w' := by
  have HN := Lib.hid h
  obtain ⟨ak, ck, av, cv, ap, cp, rfl, hk, hv, hp⟩ := h.get
  have hb0 : Below w.heap.size w (w.alloc (.cells #[.bool n.leaf, .slice ak n.keys.length ck, .slice av n.vals.length cv, .slice ap n.kids.length cp] 25)) := (Below.refl _ w).alloc (Nat.le_refl _) _
  have HB := Lib.hid hb0
  have HF := Lib.hid hf
  have HN0 := Lib.hid (HN.out.below hb0)
  have HC0 := Lib.hid (checkE_ok hc (by omega))
  have hfo := formB_ok hc
  have HLn := Lib.hid (bytesN_length hc hp.wf)
  have hkl := strsN_ge n.keys (fun s hs => (hfo.keyS s hs).1)
  have hk255 : n.keys.length ≤ 255 := by unfold sizeN at hs; omega
  have hkd : n.kids.length ≤ 20 := by unfold sizeN at hs; omega
  have hfit : (1 : Nat) = 8 ∨ n.keys.length < 256 ^ 1 := Or.inr (by omega)
  have hvl : ∀ k, (kvTo n k).length ≤ 600 * k := by
    intro k
    induction k with
    | zero => simp [kvTo]
    | succ k ih =>
      rw [kvTo_succ, List.length_append]
      have h1 : (kvAt n k).length ≤ 600 := by
        unfold kvAt
        have e1 : (n.keys.getD k ⟨#[]⟩).size ≤ 32 := by
          rw [List.getD_eq_getElem?_getD]
          cases hq : n.keys[k]? with
          | none => simp; decide
          | some s => exact (hfo.keyS s (List.mem_of_getElem? hq)).2
        have e2 : (n.vals.getD k ⟨#[]⟩).size ≤ 96 := by
          rw [List.getD_eq_getElem?_getD]
          cases hq : n.vals[k]? with
          | none => simp; decide
          | some s => exact hfo.valS s (List.mem_of_getElem? hq)
        rw [List.length_append, strB_length]
        have e3 : (if n.leaf = true then strB (n.vals.getD k ⟨#[]⟩) else []).length ≤ 97 := by
          split
          · rw [strB_length]; omega
          · rw [List.length_nil]; omega
        omega
      omega
  have HVL := Lib.hid hvl
  have HFO := Lib.hid hfo
  have HK := Lib.hid hk
  have HV := Lib.hid hv
  have HP := Lib.hid hp
  have HKT := Lib.hid (kidsTo_length n hp.wf)
  have HFit := Lib.hid hfit
  have HSz := Lib.hid hs
  clear h hk hv hp hb0 hf hc hkl hvl hfo hfit hs
  go_enter Tryz.func62, Tryz.ntmps62
  go_wp2_with fail
  refine (check_any _ n _ HN0.out HF.out).mono ?_
  rw [HC0.out]
  rintro e w1 ⟨rfl, hb⟩
  have hg := (hb.block w.heap.size (by simp)).trans (heap_alloc_new w (.cells #[.bool n.leaf, .slice ak n.keys.length ck, .slice av n.vals.length cv, .slice ap n.kids.length cp] 25))
  have hb1 := HB.out.trans (hb.mono HB.out.size)
  have hlt1 := lt_of_block hg
  have HW1 := Lib.hid (Wr.new w1 w1.heap.size)
  have HB1 := Lib.hid (hb1.alloc (show w.heap.size ≤ w1.heap.size by omega) (.cells #[.slice none 0 0] 198))
  have HG1 := Lib.hid ((Below.heap_alloc w1 (.cells #[.slice none 0 0] 198) _ hlt1).trans hg)
  have HH := Lib.hid (show headB n = putB (if n.leaf then 1 else 2) 1 ++ putB n.keys.length 1 from rfl)
  have c0 : w1.cell? ⟨w.heap.size, 0, none⟩ = some (.bool n.leaf) := cell_of_row w1 _ 0 _ _ _ hg
  clear hb hg hb1
  cases hl : n.leaf with
  | true =>
    rw [hl] at c0 HG1 HH
    simp only [if_true] at HH
    have HL := Lib.hid hl
    clear hl
    go_wp2_with fail
    refine (wNum_ok w1.heap.size w1.heap.size none [] 1 1 _ HW1.out (by simp) (by omega) (Or.inr (by omega)) (by simp)).mono ?_
    rintro e w2 ⟨rfl, hl2⟩
    obtain ⟨row2, hW2, hB2, hG2, -⟩ := PutRel.laid HW1.out HB1.out HG1.out hlt1 hl2
    have c1 : w2.cell? ⟨w.heap.size, 1, none⟩ = some (.slice ak n.keys.length ck) := cell_of_row w2 _ 1 _ _ _ hG2
    have HW2 := Lib.hid hW2
    have HB2 := Lib.hid hB2
    have HG2 := Lib.hid hG2
    clear hl2 hW2 hB2 hG2 c0
    go_wp2_with fail
    refine (wNum_ok w1.heap.size w1.heap.size row2 _ n.keys.length 1 _ HW2.out (by have := HW2.out.lt.1; omega) (by omega) HFit.out (by rw [List.length_append, putB_length]; simp)).mono ?_
    rintro e w3 ⟨rfl, hl3⟩
    have hr3 := PutRel.laid HW2.out HB2.out HG2.out hlt1 hl3
    have e3 : [] ++ putB 1 1 ++ putB n.keys.length 1 = headB n ++ kvTo n 0 := by rw [HH.out]; simp [kvTo]
    rw [e3] at hr3
    have c1 : w3.cell? ⟨w.heap.size, 1, none⟩ = some (.slice ak n.keys.length ck) := by obtain ⟨_, _, _, hG3, _⟩ := hr3; exact cell_of_row w3 _ 1 _ _ _ hG3
    have HR3 := Lib.hid hr3
    clear hl3 hr3 e3
    go_wp2_with fail
    go_loopw [29, 7] (fun i u wr => ∃ k : Nat, k ≤ n.keys.length ∧ i = .int .i64 k ∧ PutRel w #[.bool true, .slice ak n.keys.length ck, .slice av n.vals.length cv, .slice ap n.kids.length cp] w1.heap.size (headB n ++ kvTo n k) wr) (fun i _ _ => n.keys.length - (intOf i).toNat)
    case atStart => exact ⟨0, Nat.zero_le _, rfl, HR3.out⟩
    case round =>
      obtain ⟨k, hk, rfl, row, hW, hB, hG, -⟩ := hrel
      have c0 : wr.cell? ⟨w.heap.size, 0, none⟩ = some (.bool true) := cell_of_row wr _ 0 _ _ _ hG
      have c2 : wr.cell? ⟨w.heap.size, 2, none⟩ = some (.slice av n.vals.length cv) := cell_of_row wr _ 2 _ _ _ hG
      have c3 : wr.cell? ⟨w.heap.size, 3, none⟩ = some (.slice ap n.kids.length cp) := cell_of_row wr _ 3 _ _ _ hG
      have HW := Lib.hid hW
      have HBr := Lib.hid hB
      have HG := Lib.hid hG
      have hvk := HVL.out k
      have hbs : w1.heap.size < wr.heap.size := hW.lt.1
      clear hW hB hG
      rcases Nat.lt_or_ge k n.keys.length with hlt | hge
      · obtain ⟨a', c', e', hel⟩ := (HK.out.below HBr.out).open
        simp only [Value.slice.injEq, true_and] at e'
        obtain ⟨rfl, rfl⟩ := e'
        obtain ⟨b, o, rfl, hc⟩ := hel k hlt
        have hvl' : n.vals.length = n.keys.length := HFO.out.vals HL.out
        obtain ⟨a2, c2', e2, hel2⟩ := HV.out.open
        simp only [Value.slice.injEq, true_and] at e2
        obtain ⟨rfl, rfl⟩ := e2
        have hlt2 : k < n.vals.length := by omega
        obtain ⟨b2, o2, rfl, hc2w⟩ := hel2 k hlt2
        clear hvl'
        have hsz := (HFO.out.keyS _ (List.getElem_mem hlt)).2
        obtain ⟨x, hx⟩ : ∃ x, x = n.keys[k]'hlt := ⟨_, rfl⟩
        rw [← hx] at hc hsz
        have hgx : n.keys.getD k ⟨#[]⟩ = x := by rw [hx, List.getD_eq_getElem?_getD, List.getElem?_eq_getElem hlt]; rfl
        have HX := Lib.hid hgx
        clear hel hx hgx
        go_wp2_with fail
        refine (wStr_ok w1.heap.size w1.heap.size row _ x _ HW.out (by omega) (by omega) (by rw [List.length_append, headB_length]; omega)).mono ?_
        rintro e w5 ⟨rfl, hl5⟩
        have hr5 := PutRel.laid HW.out HBr.out HG.out hlt1 hl5
        obtain ⟨row5, hW5, hB5, hG5, -⟩ := hr5
        have d0 : w5.cell? ⟨w.heap.size, 0, none⟩ = some (.bool true) := cell_of_row w5 _ 0 _ _ _ hG5
        have d2 := cell_of_row w5 w.heap.size 2 _ _ _ hG5
        simp only [List.getElem?_toArray, List.getElem?_cons_succ, List.getElem?_cons_zero] at d2
        have hc2 := (Below.cell hB5 (p := ⟨b2, o2 + k, none⟩) (World.block_lt_of_cell? w ⟨b2, o2 + k, none⟩ hc2w)).trans hc2w
        have hsz2 := HFO.out.valS _ (List.getElem_mem hlt2)
        obtain ⟨y, hy⟩ : ∃ y, y = n.vals[k]'hlt2 := ⟨_, rfl⟩
        rw [← hy] at hc2 hsz2 hc2w
        have hgy : n.vals.getD k ⟨#[]⟩ = y := by rw [hy, List.getD_eq_getElem?_getD, List.getElem?_eq_getElem hlt2]; rfl
        have HY := Lib.hid hgy
        have HW5 := Lib.hid hW5
        have HB5 := Lib.hid hB5
        have HG5 := Lib.hid hG5
        have hb5 := hB5.size
        clear hel2 hy hgy hl5 hW5 hB5 hG5 c0 c2 c3 hc hc2w
        go_wp2_with fail
        refine (wStr_ok w1.heap.size w1.heap.size row5 _ y _ HW5.out (by have := HW5.out.lt.1; omega) (by omega) (by rw [List.length_append, List.length_append, headB_length, strB_length]; omega)).mono ?_
        rintro e w6 ⟨rfl, hl6⟩
        have hr6 := PutRel.laid HW5.out HB5.out HG5.out hlt1 hl6
        have e6 : headB n ++ kvTo n k ++ strB x ++ strB y = headB n ++ kvTo n (k + 1) := by
          rw [kvTo_succ]; unfold kvAt; rw [HX.out, HY.out, HL.out]; simp
        rw [e6] at hr6
        have HR6 := Lib.hid hr6
        clear hl6 hr6 e6 d0 d2 hc2
        go_wp2
        go_roundw
        case rel => exact ⟨k + 1, by omega, by go_num, HR6.out⟩
        case measure => simp [intOf]; omega
      · obtain rfl : k = n.keys.length := by omega
        have HRk := Lib.hid (show PutRel w #[.bool true, .slice ak n.keys.length ck, .slice av n.vals.length cv, .slice ap n.kids.length cp] w1.heap.size (headB n ++ kvTo n n.keys.length ++ kidsTo n 0) wr from ⟨row, by have := HW.out; simpa [kidsTo] using this, HBr.out, HG.out, hlt1⟩)
        clear hge hvk
        go_wp2_with fail
        go_loopw [48, 10] (fun i u wr => ∃ k : Nat, k ≤ n.kids.length ∧ i = .int .i64 k ∧ PutRel w #[.bool true, .slice ak n.keys.length ck, .slice av n.vals.length cv, .slice ap n.kids.length cp] w1.heap.size (headB n ++ kvTo n n.keys.length ++ kidsTo n k) wr) (fun i _ _ => n.kids.length - (intOf i).toNat)
        case atStart => exact ⟨0, Nat.zero_le _, rfl, HRk.out⟩
        case round =>
          obtain ⟨j, hj, rfl, row7, hW7, hB7, hG7, -⟩ := hrel
          have HW7 := Lib.hid hW7
          have HB7 := Lib.hid hB7
          have HG7 := Lib.hid hG7
          have hbs7 : w1.heap.size < wr.heap.size := hW7.lt.1
          clear hW7 hB7 hG7
          rcases Nat.lt_or_ge j n.kids.length with hjl | hjl
          · obtain ⟨a', c', e', hel⟩ := (HP.out.below HB7.out).open
            simp only [Value.slice.injEq, true_and] at e'
            obtain ⟨rfl, rfl⟩ := e'
            obtain ⟨b, o, rfl, hat⟩ := hel j hjl
            have hpw := HP.out.wf _ (List.getElem_mem hjl)
            have hks := kidsTo_succ n j hjl
            obtain ⟨x, hx⟩ : ∃ x, x = n.kids[j]'hjl := ⟨_, rfl⟩
            rw [← hx] at hat hpw hks
            have HAT := Lib.hid hat
            have HPW := Lib.hid hpw
            have HKS := Lib.hid hks
            have HKL := Lib.hid (HKT.out j (by omega))
            clear hel hx hat hpw hks
            go_wp2_with (first | (refine load_ptr rfl (.tmp 50) rfl rfl HAT.out HPW.out ?_) | (refine store_ptr rfl (.tmp 10) (.tmp 51) rfl rfl rfl (heap_alloc_new _ _) rfl HPW.out ?_))
            intro w8 hb8 hf8 hs8
            have hfr8 : Fr (fun _ => False) wr w8 := by
              refine ⟨hf8.os, hf8.tape, hf8.output, by rw [hs8]; simp, fun k hk _ => ?_⟩
              exact (hf8.block k (Nat.lt_of_lt_of_le hk (by simp)) (by omega)).trans (Below.heap_alloc _ _ _ hk)
            have HA8 := Lib.hid (show At w8 wr.heap.size 0 x.cells from At.of_row hb8)
            have HW8 := Lib.hid (HW7.out.fr hfr8 id (fun _ _ => id))
            have HB8 := Lib.hid (HB7.out.trans (hfr8.below HB7.out.size (fun _ h => h.elim)))
            have HG8 := Lib.hid ((hfr8.block _ (lt_of_block HG7.out) id).trans HG7.out)
            clear hb8 hf8 hs8 hfr8
            go_wp2_with (refine load_ptr rfl (.tmp 10) rfl rfl HA8.out HPW.out ?_)
            refine (ptrPut_ok x w1.heap.size w1.heap.size row7 _ _ HW8.out (by have := HW8.out.lt.1; omega) HPW.out (by rw [List.length_append, List.length_append, headB_length, HKL.out]; have := HVL.out n.keys.length; omega)).mono ?_
            rintro e w9 ⟨rfl, hl9⟩
            have hr9 := PutRel.laid HW8.out HB8.out HG8.out hlt1 hl9
            rw [List.append_assoc, ← HKS.out] at hr9
            have HR9 := Lib.hid hr9
            clear hl9 hr9
            go_wp2
            go_roundw
            case rel => exact ⟨j + 1, by omega, by go_num, HR9.out⟩
            case measure => simp [intOf]; omega
          · obtain rfl : j = n.kids.length := by omega
            have hlen : (headB n ++ kvTo n n.keys.length ++ kidsTo n n.kids.length).length = sizeN n := HLn.out
            have hpad := wPad_ok w1.heap.size w1.heap.size 512 row7 (headB n ++ kvTo n n.keys.length ++ kidsTo n n.kids.length) wr HW7.out (by omega) (by omega) (by rw [hlen]; exact HSz.out)
            rw [hlen] at hpad
            have HPad := Lib.hid hpad
            clear hpad hlen
            go_wp2_with fail
            refine HPad.out.mono ?_
            rintro e w8 ⟨rfl, hl8⟩
            obtain ⟨row8, hW8, hB8, hG8, -⟩ := PutRel.laid HW7.out HB7.out HG7.out hlt1 hl8
            have HW8 := Lib.hid hW8
            have HB8 := Lib.hid hB8
            have hle : (headB n ++ kvTo n n.keys.length ++ kidsTo n n.kids.length ++ List.replicate (512 - sizeN n) 0).length = 512 := by
              rw [List.length_append, List.length_replicate]
              have h1 : (headB n ++ kvTo n n.keys.length ++ kidsTo n n.kids.length).length = sizeN n := HLn.out
              have := HSz.out
              omega
            have hby := wBytes_ok w1.heap.size w1.heap.size row8 _ w8 HW8.out (by rw [hle]; omega)
            rw [hle] at hby
            have HBy := Lib.hid hby
            clear hl8 hW8 hB8 hG8 hle hby
            go_wp2_with fail
            refine HBy.out.mono ?_
            rintro e w9 ⟨aa, cc, rfl, hown, hb9⟩
            have HO9 := Lib.hid (hown.base (show w.heap.size ≤ w8.heap.size from HB8.out.size))
            have HB9 := Lib.hid (HB8.out.trans (hb9.mono HB8.out.size))
            clear hown hb9
            go_wp2
            go_ret2
            exact ⟨aa, cc, rfl, HO9.out, HB9.out⟩
  | false =>
    rw [hl] at c0 HG1 HH
    simp only [Bool.false_eq_true, if_false] at HH
    have HL := Lib.hid hl
    clear hl
    go_wp2_with fail
    refine (wNum_ok w1.heap.size w1.heap.size none [] 2 1 _ HW1.out (by simp) (by omega) (Or.inr (by omega)) (by simp)).mono ?_
    rintro e w2 ⟨rfl, hl2⟩
    obtain ⟨row2, hW2, hB2, hG2, -⟩ := PutRel.laid HW1.out HB1.out HG1.out hlt1 hl2
    have c1 : w2.cell? ⟨w.heap.size, 1, none⟩ = some (.slice ak n.keys.length ck) := cell_of_row w2 _ 1 _ _ _ hG2
    have HW2 := Lib.hid hW2
    have HB2 := Lib.hid hB2
    have HG2 := Lib.hid hG2
    clear hl2 hW2 hB2 hG2 c0
    go_wp2_with fail
    refine (wNum_ok w1.heap.size w1.heap.size row2 _ n.keys.length 1 _ HW2.out (by have := HW2.out.lt.1; omega) (by omega) HFit.out (by rw [List.length_append, putB_length]; simp)).mono ?_
    rintro e w3 ⟨rfl, hl3⟩
    have hr3 := PutRel.laid HW2.out HB2.out HG2.out hlt1 hl3
    have e3 : [] ++ putB 2 1 ++ putB n.keys.length 1 = headB n ++ kvTo n 0 := by rw [HH.out]; simp [kvTo]
    rw [e3] at hr3
    have c1 : w3.cell? ⟨w.heap.size, 1, none⟩ = some (.slice ak n.keys.length ck) := by obtain ⟨_, _, _, hG3, _⟩ := hr3; exact cell_of_row w3 _ 1 _ _ _ hG3
    have HR3 := Lib.hid hr3
    clear hl3 hr3 e3
    go_wp2_with fail
    go_loopw [29, 7] (fun i u wr => ∃ k : Nat, k ≤ n.keys.length ∧ i = .int .i64 k ∧ PutRel w #[.bool false, .slice ak n.keys.length ck, .slice av n.vals.length cv, .slice ap n.kids.length cp] w1.heap.size (headB n ++ kvTo n k) wr) (fun i _ _ => n.keys.length - (intOf i).toNat)
    case atStart => exact ⟨0, Nat.zero_le _, rfl, HR3.out⟩
    case round =>
      obtain ⟨k, hk, rfl, row, hW, hB, hG, -⟩ := hrel
      have c0 : wr.cell? ⟨w.heap.size, 0, none⟩ = some (.bool false) := cell_of_row wr _ 0 _ _ _ hG
      have c2 : wr.cell? ⟨w.heap.size, 2, none⟩ = some (.slice av n.vals.length cv) := cell_of_row wr _ 2 _ _ _ hG
      have c3 : wr.cell? ⟨w.heap.size, 3, none⟩ = some (.slice ap n.kids.length cp) := cell_of_row wr _ 3 _ _ _ hG
      have HW := Lib.hid hW
      have HBr := Lib.hid hB
      have HG := Lib.hid hG
      have hvk := HVL.out k
      have hbs : w1.heap.size < wr.heap.size := hW.lt.1
      clear hW hB hG
      rcases Nat.lt_or_ge k n.keys.length with hlt | hge
      · obtain ⟨a', c', e', hel⟩ := (HK.out.below HBr.out).open
        simp only [Value.slice.injEq, true_and] at e'
        obtain ⟨rfl, rfl⟩ := e'
        obtain ⟨b, o, rfl, hc⟩ := hel k hlt
        have hsz := (HFO.out.keyS _ (List.getElem_mem hlt)).2
        obtain ⟨x, hx⟩ : ∃ x, x = n.keys[k]'hlt := ⟨_, rfl⟩
        rw [← hx] at hc hsz
        have hgx : n.keys.getD k ⟨#[]⟩ = x := by rw [hx, List.getD_eq_getElem?_getD, List.getElem?_eq_getElem hlt]; rfl
        have HX := Lib.hid hgx
        clear hel hx hgx
        go_wp2_with fail
        refine (wStr_ok w1.heap.size w1.heap.size row _ x _ HW.out (by omega) (by omega) (by rw [List.length_append, headB_length]; omega)).mono ?_
        rintro e w5 ⟨rfl, hl5⟩
        have hr5 := PutRel.laid HW.out HBr.out HG.out hlt1 hl5
        have d0 : w5.cell? ⟨w.heap.size, 0, none⟩ = some (.bool false) := by obtain ⟨_, _, _, hG5, _⟩ := hr5; exact cell_of_row w5 _ 0 _ _ _ hG5
        have e6 : headB n ++ kvTo n k ++ strB x = headB n ++ kvTo n (k + 1) := by
          rw [kvTo_succ]; unfold kvAt; rw [HX.out, HL.out]; simp
        rw [e6] at hr5
        have HR6 := Lib.hid hr5
        clear hl5 hr5 e6 c0 c2 c3 hc
        go_wp2
        go_roundw
        case rel => exact ⟨k + 1, by omega, by go_num, HR6.out⟩
        case measure => simp [intOf]; omega
      · obtain rfl : k = n.keys.length := by omega
        have HRk := Lib.hid (show PutRel w #[.bool false, .slice ak n.keys.length ck, .slice av n.vals.length cv, .slice ap n.kids.length cp] w1.heap.size (headB n ++ kvTo n n.keys.length ++ kidsTo n 0) wr from ⟨row, by have := HW.out; simpa [kidsTo] using this, HBr.out, HG.out, hlt1⟩)
        clear hge hvk
        go_wp2_with fail
        go_loopw [48, 10] (fun i u wr => ∃ k : Nat, k ≤ n.kids.length ∧ i = .int .i64 k ∧ PutRel w #[.bool false, .slice ak n.keys.length ck, .slice av n.vals.length cv, .slice ap n.kids.length cp] w1.heap.size (headB n ++ kvTo n n.keys.length ++ kidsTo n k) wr) (fun i _ _ => n.kids.length - (intOf i).toNat)
        case atStart => exact ⟨0, Nat.zero_le _, rfl, HRk.out⟩
        case round =>
          obtain ⟨j, hj, rfl, row7, hW7, hB7, hG7, -⟩ := hrel
          have HW7 := Lib.hid hW7
          have HB7 := Lib.hid hB7
          have HG7 := Lib.hid hG7
          have hbs7 : w1.heap.size < wr.heap.size := hW7.lt.1
          clear hW7 hB7 hG7
          rcases Nat.lt_or_ge j n.kids.length with hjl | hjl
          · obtain ⟨a', c', e', hel⟩ := (HP.out.below HB7.out).open
            simp only [Value.slice.injEq, true_and] at e'
            obtain ⟨rfl, rfl⟩ := e'
            obtain ⟨b, o, rfl, hat⟩ := hel j hjl
            have hpw := HP.out.wf _ (List.getElem_mem hjl)
            have hks := kidsTo_succ n j hjl
            obtain ⟨x, hx⟩ : ∃ x, x = n.kids[j]'hjl := ⟨_, rfl⟩
            rw [← hx] at hat hpw hks
            have HAT := Lib.hid hat
            have HPW := Lib.hid hpw
            have HKS := Lib.hid hks
            have HKL := Lib.hid (HKT.out j (by omega))
            clear hel hx hat hpw hks
            go_wp2_with (first | (refine load_ptr rfl (.tmp 50) rfl rfl HAT.out HPW.out ?_) | (refine store_ptr rfl (.tmp 10) (.tmp 51) rfl rfl rfl (heap_alloc_new _ _) rfl HPW.out ?_))
            intro w8 hb8 hf8 hs8
            have hfr8 : Fr (fun _ => False) wr w8 := by
              refine ⟨hf8.os, hf8.tape, hf8.output, by rw [hs8]; simp, fun k hk _ => ?_⟩
              exact (hf8.block k (Nat.lt_of_lt_of_le hk (by simp)) (by omega)).trans (Below.heap_alloc _ _ _ hk)
            have HA8 := Lib.hid (show At w8 wr.heap.size 0 x.cells from At.of_row hb8)
            have HW8 := Lib.hid (HW7.out.fr hfr8 id (fun _ _ => id))
            have HB8 := Lib.hid (HB7.out.trans (hfr8.below HB7.out.size (fun _ h => h.elim)))
            have HG8 := Lib.hid ((hfr8.block _ (lt_of_block HG7.out) id).trans HG7.out)
            clear hb8 hf8 hs8 hfr8
            go_wp2_with (refine load_ptr rfl (.tmp 10) rfl rfl HA8.out HPW.out ?_)
            refine (ptrPut_ok x w1.heap.size w1.heap.size row7 _ _ HW8.out (by have := HW8.out.lt.1; omega) HPW.out (by rw [List.length_append, List.length_append, headB_length, HKL.out]; have := HVL.out n.keys.length; omega)).mono ?_
            rintro e w9 ⟨rfl, hl9⟩
            have hr9 := PutRel.laid HW8.out HB8.out HG8.out hlt1 hl9
            rw [List.append_assoc, ← HKS.out] at hr9
            have HR9 := Lib.hid hr9
            clear hl9 hr9
            go_wp2
            go_roundw
            case rel => exact ⟨j + 1, by omega, by go_num, HR9.out⟩
            case measure => simp [intOf]; omega
          · obtain rfl : j = n.kids.length := by omega
            have hlen : (headB n ++ kvTo n n.keys.length ++ kidsTo n n.kids.length).length = sizeN n := HLn.out
            have hpad := wPad_ok w1.heap.size w1.heap.size 512 row7 (headB n ++ kvTo n n.keys.length ++ kidsTo n n.kids.length) wr HW7.out (by omega) (by omega) (by rw [hlen]; exact HSz.out)
            rw [hlen] at hpad
            have HPad := Lib.hid hpad
            clear hpad hlen
            go_wp2_with fail
            refine HPad.out.mono ?_
            rintro e w8 ⟨rfl, hl8⟩
            obtain ⟨row8, hW8, hB8, hG8, -⟩ := PutRel.laid HW7.out HB7.out HG7.out hlt1 hl8
            have HW8 := Lib.hid hW8
            have HB8 := Lib.hid hB8
            have hle : (headB n ++ kvTo n n.keys.length ++ kidsTo n n.kids.length ++ List.replicate (512 - sizeN n) 0).length = 512 := by
              rw [List.length_append, List.length_replicate]
              have h1 : (headB n ++ kvTo n n.keys.length ++ kidsTo n n.kids.length).length = sizeN n := HLn.out
              have := HSz.out
              omega
            have hby := wBytes_ok w1.heap.size w1.heap.size row8 _ w8 HW8.out (by rw [hle]; omega)
            rw [hle] at hby
            have HBy := Lib.hid hby
            clear hl8 hW8 hB8 hG8 hle hby
            go_wp2_with fail
            refine HBy.out.mono ?_
            rintro e w9 ⟨aa, cc, rfl, hown, hb9⟩
            have HO9 := Lib.hid (hown.base (show w.heap.size ≤ w8.heap.size from HB8.out.size))
            have HB9 := Lib.hid (HB8.out.trans (hb9.mono HB8.out.size))
            clear hown hb9
            go_wp2
            go_ret2
            exact ⟨aa, cc, rfl, HO9.out, HB9.out⟩

end Go.Proofs.YtkbnkdokcmpcgaaGreatDoor
namespace Go.Proofs.YtkbnkdokcmpcgaaGreatDoor
open Go.RowKit

def PoC (D S : Nat) (ks : List UInt8) (birth : Nat) : List Value := .pointer (some ⟨D, 0, none⟩) :: (ks.map Bv ++ [.pointer (some ⟨S, 0, none⟩), .int .u64 (birth : Int)])
structure PlAt (w : World) (P D S W : Nat) (size : Nat) (ks : List UInt8) (t : Nat → Bool) (birth : Nat) : Prop where
  row : w.heap[P]? = some (.cells (PoC D S ks birth).toArray 135 (0, 0))
  sp : SpAt w S W size t
  ks : ks.length = 64
  birth : birth < 18446744073709551616
  nPS : P ≠ S
  nPW : P ≠ W
def PlF (P S W : Nat) (k : Nat) : Prop := k = P ∨ k = S ∨ k = W
theorem PlAt.fr {F : Nat → Prop} {w w' : World} {P D S W size birth : Nat} {ks : List UInt8} {t : Nat → Bool} (h : PlAt w P D S W size ks t birth) (hf : Fr F w w') (hs : ∀ k, PlF P S W k → ¬ F k) : PlAt w' P D S W size ks t birth :=
  ⟨(hf.block _ (lt_of_block h.row) (hs _ (Or.inl rfl))).trans h.row, h.sp.fr hf (hs _ (Or.inr (Or.inl rfl))) (hs _ (Or.inr (Or.inr rfl))), h.ks, h.birth, h.nPS, h.nPW⟩
theorem PlAt.below {w w' : World} {P D S W size birth : Nat} {ks : List UInt8} {t : Nat → Bool} (h : PlAt w P D S W size ks t birth) (hf : Below w.heap.size w w') : PlAt w' P D S W size ks t birth := h.fr (Fr.of_below (S := fun _ => False) hf) (fun _ _ => id)
theorem PlAt.lt {w : World} {P D S W size birth : Nat} {ks : List UInt8} {t : Nat → Bool} (h : PlAt w P D S W size ks t birth) : ∀ k, PlF P S W k → k < w.heap.size := by
  rintro k (rfl | rfl | rfl)
  · exact lt_of_block h.row
  · exact h.sp.lt.1
  · exact h.sp.lt.2
theorem PlAt.cells {w : World} {P D S W size birth : Nat} {ks : List UInt8} {t : Nat → Bool} (h : PlAt w P D S W size ks t birth) : w.cell? ⟨P, 0, none⟩ = some (.pointer (some ⟨D, 0, none⟩)) ∧ At w P 1 (ks.map Bv) ∧ w.cell? ⟨P, 65, none⟩ = some (.pointer (some ⟨S, 0, none⟩)) ∧ w.cell? ⟨P, 66, none⟩ = some (.int .u64 (birth : Int)) ∧ (∀ i, w.frozen? ⟨P, i, none⟩ = false) := by
  have e := h.row
  have hl : (ks.map Bv).length = 64 := by rw [List.length_map, h.ks]
  refine ⟨(cell_of_row _ _ 0 _ _ _ e).trans rfl, fun i u hi => ?_, ?_, ?_, fun i => by simp [World.frozen?, e]⟩
  · have hil : i < 64 := by rw [← hl]; exact (List.getElem?_eq_some_iff.1 hi).1
    rw [cell_of_row _ _ _ _ _ _ e, List.getElem?_toArray]
    show (Value.pointer (some ⟨D, 0, none⟩) :: (ks.map Bv ++ _))[1 + i]? = _
    rw [Nat.add_comm, List.getElem?_cons_succ, List.getElem?_append_left (by omega)]; exact hi
  · rw [cell_of_row _ _ _ _ _ _ e, List.getElem?_toArray]
    show (Value.pointer (some ⟨D, 0, none⟩) :: (ks.map Bv ++ _))[64 + 1]? = _
    rw [List.getElem?_cons_succ, List.getElem?_append_right (by omega), hl]; rfl
  · rw [cell_of_row _ _ _ _ _ _ e, List.getElem?_toArray]
    show (Value.pointer (some ⟨D, 0, none⟩) :: (ks.map Bv ++ _))[65 + 1]? = _
    rw [List.getElem?_cons_succ, List.getElem?_append_right (by omega), hl]; rfl
theorem PoC_set (D S : Nat) (ks : List UInt8) (b c : Nat) (h : ks.length = 64) : (PoC D S ks b).set 66 (.int .u64 (c : Int)) = PoC D S ks c := by
  have hl : (ks.map Bv).length = 64 := by rw [List.length_map, h]
  unfold PoC
  rw [List.set_cons_succ, List.set_append_right _ _ (by omega), hl]; rfl

theorem und_pool : Tryz.prog.underlying 135 = some (.struct (Tryz.prog.fieldsOf 135)) := by
  unfold Program.fieldsOf; rw [Tryz.underlying135]
theorem places_pool (w : World) : (placesOf (Tryz.prog.fieldsOf 135)).run Tryz.prog w = .ok #[(0, 1), (1, 64), (65, 1), (66, 1)] w := by kernel_rfl
theorem zero_pool (w : World) : (zeroValue 135).run Tryz.prog w = .ok (.agg (.pointer none :: ((zB 64).map Bv ++ [.pointer none, .int .u64 0])).toArray) w := by kernel_rfl
theorem build_pool {ops : Array Oper} {rest : List Oper} {o : Oper} {a : Act} {w : World} {Q : Exit → Act → World → Prop} (hgd : o.guard = none) (x y z : Operand) (ho : o.op = .build 135 #[(0, x), (1, y), (2, z)])
    {D S : Nat} {ks : List UInt8} (hx : a.eval x = .pointer (some ⟨D, 0, none⟩)) (hy : a.eval y = .agg (ks.map Bv).toArray) (hz : a.eval z = .pointer (some ⟨S, 0, none⟩)) (hl : ks.length = 64)
    (hK : wpList Tryz.prog ops Q rest (a.put o.dst (.agg (PoC D S ks 0).toArray)) w) : wpList Tryz.prog ops Q (o :: rest) a w := by
  have e1 : (ks.map Bv).toArray.size = 64 := by simp [hl]
  refine build_first hgd 135 _ ho [.pointer (some ⟨D, 0, none⟩), .agg (ks.map Bv).toArray, .pointer (some ⟨S, 0, none⟩)] (by simp [hx, hy, hz]) _ und_pool _ (zero_pool w) _ (places_pool w) ?_ ?_ ?_
  · simp only [List.map_cons, List.map_nil, Value.cells, e1]; exact ⟨[(66, 1)], rfl⟩
  · simp only [List.map_cons, List.map_nil, Value.cells, e1]; exact Nat.le_succ 66
  · simp only [List.map_cons, List.map_nil, Value.cells, e1]
    have e2 : ((Value.pointer none :: ((zB 64).map Bv ++ [.pointer none, .int .u64 0])).toArray.toList.drop (sumL [(#[Value.pointer (some ⟨D, 0, none⟩)] : Array Value).size, 64, (#[Value.pointer (some ⟨S, 0, none⟩)] : Array Value).size])) = [.int .u64 0] := rfl
    rw [e2]
    simpa [flatL, Value.cells, PoC] using hK

set_option maxRecDepth 100000 in
set_option maxHeartbeats 1000000 in
theorem poNew_ok (D size : Nat) (ks : List UInt8) (w : World) (c0 : w.cell? ⟨D, 0, none⟩ = some (.int .i64 (size : Int))) (h1 : 16 ≤ size) (h2 : size ≤ 4096) (hk : ks.length = 64) :
    Calls Tryz.prog 21 #[.pointer (some ⟨D, 0, none⟩), .agg (ks.map Bv).toArray] w fun e w' => ∃ P S W, e = .returned (.tuple #[.pointer (some ⟨P, 0, none⟩), .int .i64 0]) ∧ PlAt w' P D S W size ks noneT 0 ∧ (∀ k, PlF P S W k → w.heap.size ≤ k) ∧ Below w.heap.size w w' := by
  have HKl := Lib.hid hk
  have hb1 : Below w.heap.size w (w.alloc (.cells (ks.map Bv).toArray 35)) := (Below.refl _ w).alloc (Nat.le_refl _) _
  have hKa := heap_alloc_new w (.cells (ks.map Bv).toArray 35)
  obtain ⟨w1, hw1⟩ : ∃ w1, w1 = w.alloc (.cells (ks.map Bv).toArray 35) := ⟨_, rfl⟩
  have hs1 : w1.heap.size = w.heap.size + 1 := by rw [hw1]; simp
  rw [← hw1] at hb1 hKa
  have hD := World.block_lt_of_cell? w ⟨D, 0, none⟩ c0
  have HSz := Lib.hid (dvSize_any D size w1 ((hb1.cell (p := ⟨D, 0, none⟩) hD).trans c0))
  have HNew := Lib.hid (spNew_ok size w1 h1 h2)
  have HW1 := Lib.hid hw1
  have HB1 := Lib.hid hb1
  have HKa := Lib.hid hKa
  have HS1 := Lib.hid hs1
  clear hk hb1 hKa hs1 hw1 c0 hD
  go_enter Tryz.func21, Tryz.ntmps21
  go_wp2_with fail
  rw [← HW1.out]
  refine HSz.out.mono ?_
  rintro e w2 ⟨rfl, rfl⟩
  go_wp2_with fail
  refine HNew.out.mono ?_
  rintro e w2 ⟨S, W, rfl, hS, hW, hsp, hb2⟩
  have HSp := Lib.hid hsp
  have HB2 := Lib.hid (HB1.out.trans (hb2.mono (by rw [HS1.out]; omega)))
  have HAt := Lib.hid (At.of_row ((hb2.block _ (lt_of_block HKa.out)).trans HKa.out))
  have HSW := Lib.hid (show w.heap.size ≤ S ∧ w.heap.size ≤ W by rw [HS1.out] at hS hW; omega)
  clear hsp hb2 hS hW HNew HSz
  go_wp2_with (first | (refine wpList_load_at rfl _ (.tmp 3) rfl w.heap.size 0 rfl (ks.map Bv) _ HAt.out Tryz.underlying35 rfl (by rw [info_keys, List.length_map, HKl.out]) ?_) | (refine build_pool rfl (.tmp 19) (.tmp 20) (.tmp 21) rfl rfl rfl rfl HKl.out ?_))
  go_ret2
  have hsz2 := HB2.out.size
  have hlt := HSp.out.lt
  refine ⟨_, S, W, rfl, ⟨heap_alloc_new _ _, HSp.out.below ((Below.refl _ w2).alloc (Nat.le_refl _) _), HKl.out, by decide, by omega, by omega⟩, ?_, HB2.out.alloc (by omega) _⟩
  rintro k (rfl | rfl | rfl)
  · exact hsz2
  · exact HSW.out.1
  · exact HSW.out.2

theorem poBegin_zero (P : Nat) (w : World) : Calls Tryz.prog 18 #[.pointer (some ⟨P, 0, none⟩), .int .u64 0] w fun e w' => e = .returned (.int .i64 2) ∧ w = w' := by
  go_enter Tryz.func18, Tryz.ntmps18
  go_wp2
  go_ret
  exact ⟨rfl, rfl⟩
theorem poBegin_ok (P D S W size birth b : Nat) (ks : List UInt8) (t : Nat → Bool) (w : World) (h : PlAt w P D S W size ks t birth) (h0 : 0 < b) (hb : b < 18446744073709551616) :
    Calls Tryz.prog 18 #[.pointer (some ⟨P, 0, none⟩), .int .u64 (b : Int)] w fun e w' => e = .returned (.int .i64 0) ∧ PlAt w' P D S W size ks t b ∧ Fr (fun k => k = P) w w' := by
  obtain ⟨_, _, _, c66, fz⟩ := h.cells
  have f66 := fz 66
  have bz : ((b : Int) == 0) = false := by simp; omega
  have HEnd := Lib.hid (show PlAt (w.setCell ⟨P, 66, none⟩ (.int .u64 (b : Int))) P D S W size ks t b ∧ Fr (fun k => k = P) w (w.setCell ⟨P, 66, none⟩ (.int .u64 (b : Int))) from by
    have hf := (Fr.refl (fun k => k = P) w).set P 66 rfl (.int .u64 (b : Int))
    have hr := heap_setCell_same w P 66 _ _ (.int .u64 (b : Int)) h.row
    rw [List.setIfInBounds_toArray, PoC_set _ _ _ _ _ h.ks] at hr
    exact ⟨⟨hr, h.sp.fr hf (fun e => h.nPS e.symm) (fun e => h.nPW e.symm), h.ks, hb, h.nPS, h.nPW⟩, hf⟩)
  clear h fz hb h0
  go_enter Tryz.func18, Tryz.ntmps18
  go_wp2
  go_ret
  exact ⟨rfl, HEnd.out.1, HEnd.out.2⟩

theorem poSpace_any (P S : Nat) (w : World) (c : w.cell? ⟨P, 65, none⟩ = some (.pointer (some ⟨S, 0, none⟩))) :
    Calls Tryz.prog 73 #[.pointer (some ⟨P, 0, none⟩)] w fun e w' => e = .returned (.pointer (some ⟨S, 0, none⟩)) ∧ w = w' := by
  go_enter Tryz.func73, Tryz.ntmps73
  go_wp2
  go_ret
  exact ⟨rfl, rfl⟩

def KpPost (w : World) (P D S W size : Nat) (ks : List UInt8) (birth : Nat) (l : List Nat) (e : Ending) (w' : World) : Prop :=
  ((∀ a ∈ l, 2 ≤ a ∧ a < size) → e = .returned (.int .i64 0) ∧ PlAt w' P D S W size ks (ofL l) birth ∧ Fr (fun k => k = S ∨ k = W) w w') ∧ (¬ (∀ a ∈ l, 2 ≤ a ∧ a < size) → e = .returned (.int .i64 2) ∧ w = w')
theorem poLeft_any (P D S W size birth : Nat) (ks : List UInt8) (t : Nat → Bool) (w : World) (h : PlAt w P D S W size ks t birth) :
    Calls Tryz.prog 25 #[.pointer (some ⟨P, 0, none⟩)] w fun e w' => e = .returned (.int .i64 ((size : Int) - 2 - (cntT t size : Int))) ∧ ∃ n, w' = w.drewN n := by
  have HSp := Lib.hid (poSpace_any P S w h.cells.2.2.1)
  have HL := Lib.hid (spLeft_any S W size t w h.sp)
  clear h
  go_enter Tryz.func25, Tryz.ntmps25
  go_wp2_with fail
  refine HSp.out.mono ?_
  rintro e w1 ⟨rfl, rfl⟩
  go_wp2_with fail
  refine HL.out.mono ?_
  rintro e w1 ⟨rfl, n, rfl⟩
  go_wp2
  go_ret
  exact ⟨rfl, n, rfl⟩
theorem poTaken_any (P D S W size birth : Nat) (ks : List UInt8) (t : Nat → Bool) (w : World) (h : PlAt w P D S W size ks t birth) (hT : Tz w) :
    Calls Tryz.prog 42 #[.pointer (some ⟨P, 0, none⟩)] w fun e w' => ∃ aa cc, e = .returned (.slice aa (cntT t size) cc) ∧ w'.ownsRow w.heap.size 41 1 (.slice aa (cntT t size) cc) (cntT t size) ((listT t size).map U32) ∧ Below w.heap.size w w' := by
  have HSp := Lib.hid (poSpace_any P S w h.cells.2.2.1)
  have HL := Lib.hid (spTaken_any S W size t w h.sp hT)
  clear h hT
  go_enter Tryz.func42, Tryz.ntmps42
  go_wp2_with fail
  refine HSp.out.mono ?_
  rintro e w1 ⟨rfl, rfl⟩
  go_wp2_with fail
  refine HL.out.mono ?_
  rintro e w1 ⟨aa, cc, rfl, h1, h2⟩
  have H1 := Lib.hid h1
  have H2 := Lib.hid h2
  clear h1 h2 HL HSp
  go_wp2
  go_ret
  exact ⟨aa, cc, rfl, H1.out, H2.out⟩

end Go.Proofs.YtkbnkdokcmpcgaaGreatDoor
namespace Go.Proofs.YtkbnkdokcmpcgaaGreatDoor
open Go.RowKit

def boolsT (t : Nat → Bool) (size : Nat) : List Value := (List.range size).map fun i => .bool (t i)
theorem boolsT_get (t : Nat → Bool) {size i : Nat} (h : i < size) : (boolsT t size)[i]? = some (.bool (t i)) := by unfold boolsT; simp [h]
theorem boolsT_set (t : Nat → Bool) (size a : Nat) (b : Bool) : (boolsT t size).set a (.bool b) = boolsT (updT t a b) size := by
  apply List.ext_getElem?
  intro i
  rw [List.getElem?_set]
  unfold boolsT updT
  simp only [List.length_map, List.length_range, List.getElem?_map]
  by_cases e : a = i
  · subst e
    rw [if_pos rfl]
    by_cases h : a < size
    · simp [h]
    · simp [h]
  · rw [if_neg e]
    by_cases h : i < size
    · simp [h, Ne.symm e]
    · simp [h]
def RsAt (w : World) (S V size : Nat) (t : Nat → Bool) : Prop :=
  S ≠ V ∧ 16 ≤ size ∧ size ≤ 4096 ∧ TOk size t ∧ w.heap[S]? = some (.cells #[.slice (some ⟨V, 0, none⟩) size size] 171 (0, 0)) ∧ w.heap[V]? = some (.cells (boolsT t size).toArray 4 (0, 0))
theorem RsAt.fr {F : Nat → Prop} {w w' : World} {S V size : Nat} {t : Nat → Bool} (h : RsAt w S V size t) (hf : Fr F w w') (h1 : ¬ F S) (h2 : ¬ F V) : RsAt w' S V size t := by
  obtain ⟨a, b, c, d, e, f⟩ := h
  exact ⟨a, b, c, d, (hf.block _ (lt_of_block e) h1).trans e, (hf.block _ (lt_of_block f) h2).trans f⟩
theorem RsAt.below {w w' : World} {S V size : Nat} {t : Nat → Bool} (h : RsAt w S V size t) (hf : Below w.heap.size w w') : RsAt w' S V size t := h.fr (Fr.of_below (S := fun _ => False) hf) id id
theorem RsAt.lt {w : World} {S V size : Nat} {t : Nat → Bool} (h : RsAt w S V size t) : S < w.heap.size ∧ V < w.heap.size := ⟨lt_of_block h.2.2.2.2.1, lt_of_block h.2.2.2.2.2⟩
theorem RsAt.c0 {w : World} {S V size : Nat} {t : Nat → Bool} (h : RsAt w S V size t) : w.cell? ⟨S, 0, none⟩ = some (.slice (some ⟨V, 0, none⟩) size size) := cell_of_row _ S 0 _ _ _ h.2.2.2.2.1
theorem RsAt.bit {w : World} {S V size : Nat} {t : Nat → Bool} (h : RsAt w S V size t) {a : Nat} (ha : a < size) : w.cell? ⟨V, a, none⟩ = some (.bool (t a)) := by
  rw [cell_of_row _ V a _ _ _ h.2.2.2.2.2, List.getElem?_toArray, boolsT_get t ha]
theorem RsAt.free {w : World} {S V size : Nat} {t : Nat → Bool} (h : RsAt w S V size t) (a : Nat) : w.frozen? ⟨V, a, none⟩ = false := frozen_of_row _ V a _ _ h.2.2.2.2.2
theorem RsAt.turned {w : World} {S V size a : Nat} {t : Nat → Bool} (h : RsAt w S V size t) (b : Bool) (h2 : TOk size (updT t a b)) : RsAt (w.setCell ⟨V, a, none⟩ (.bool b)) S V size (updT t a b) ∧ Fr (fun k => k = V) w (w.setCell ⟨V, a, none⟩ (.bool b)) := by
  have hf := (Fr.refl (fun k => k = V) w).set V a rfl (.bool b)
  obtain ⟨h0, h1, h3, h4, h5, h6⟩ := h
  refine ⟨⟨h0, h1, h3, h2, (hf.block S (lt_of_block h5) h0).trans h5, ?_⟩, hf⟩
  rw [heap_setCell_same w V a _ _ (.bool b) h6, List.setIfInBounds_toArray, boolsT_set]

theorem info_bool : (Tryz.prog.info? 4).map (fun i => (i.zero, i.size, i.bytes)) = some (some (.bool false), 1, 1) := by kernel_rfl
theorem make_bool {w : World} {ops : Array Oper} {rest : List Oper} {o : Oper} {a : Act} {Q : Exit → Act → World → Prop}
    (hg : o.guard = none) (l c : Operand) (hop : o.op = Op.makeSlice 169 l c) (n : Nat) (hl : a.eval l = .int .i64 (n : Int)) (hc : a.eval c = .int .i64 (n : Int)) (hn : n ≤ 4096) (h0 : 0 < n)
    (hK : ∀ w', w'.heap[w.heap.size]? = some (.cells (boolsT noneT n).toArray 4 (0, 0)) → Below w.heap.size w w' → wpList Tryz.prog ops Q rest (a.put o.dst (.slice (some ⟨w.heap.size, 0, none⟩) n n)) w') :
    wpList Tryz.prog ops Q (o :: rest) a w := by
  obtain ⟨i0, hi, hz0, hz1, hz2⟩ := info_parts info_bool
  refine wpList_make_full w hg l c 169 hop w.heap.size 4 i0 (.bool false) 1 Tryz.underlying169 hi hz0 hz1 .i64 .i64 n n n hl hc rfl rfl (by rw [hz2]; omega) (by unfold maxLen; omega) (Nat.le_refl _) ?_
  intro w1 hown hg
  have e : (madeCells (Value.cells (.bool false)) (n * 1)).toList = boolsT noneT n := by
    rw [Nat.mul_one]
    refine (toList_madeCells_one (.bool false) n).trans ?_
    apply List.ext_getElem?
    intro i
    unfold boolsT noneT
    by_cases h : i < n <;> simp [h]
  rw [e] at hown
  rcases hown.2 with ⟨_, h⟩ | ⟨g, cap, cur, hv, _, hgg, _, _, hcs, ht⟩
  · omega
  · simp only [Value.slice.injEq, Option.some.injEq, Addr.mk.injEq, true_and, and_true] at hv
    obtain ⟨rfl, rfl⟩ := hv
    rw [List.take_of_length_le (by rw [Array.length_toList]; omega)] at ht
    refine hK w1 ?_ ((Below.refl _ _).grown hg (Nat.le_refl _) (fun k h => by cases h))
    rw [hgg, ← ht]
def RnPost (w : World) (size : Nat) (e : Ending) (w' : World) : Prop := ∃ S V, e = .returned (.tuple #[.pointer (some ⟨S, 0, none⟩), .bool true]) ∧ RsAt w' S V size noneT ∧ w.heap.size ≤ S ∧ w.heap.size ≤ V ∧ Below w.heap.size w w'
theorem rsNew_ok (size : Nat) (w : World) (h1 : 16 ≤ size) (h2 : size ≤ 4096) :
    Calls Tryz.prog 85 #[.int .i64 (size : Int)] w (RnPost w size) := by
  have a1 : ¬ (size : Int) < 16 := by omega
  have a2 : ¬ (4096 : Int) < (size : Int) := by omega
  go_enter Tryz.func85, Tryz.ntmps85
  go_wp2_with (refine make_bool rfl (.tmp 10) (.tmp 10) rfl size rfl rfl h2 (by omega) ?_; intro w1 hg hb; have HG := Lib.hid hg; have HB := Lib.hid hb; clear hg hb)
  go_ret2
  have hlt := lt_of_block HG.out
  refine ⟨_, _, rfl, ⟨?_, h1, h2, TOk.none size, heap_alloc_new _ _, (Below.heap_alloc _ _ _ hlt).trans HG.out⟩, ?_, Nat.le_refl _, HB.out.alloc (Nat.le_of_lt hlt) _⟩
  · omega
  · omega

theorem rsIs_any (S V size a : Nat) (t : Nat → Bool) (w : World) (h : RsAt w S V size t) (ha : a < 4294967296) :
    Calls Tryz.prog 86 #[.pointer (some ⟨S, 0, none⟩), .int .u32 (a : Int)] w fun e w' => e = .returned (.bool (decide (2 ≤ a ∧ a < size))) ∧ w = w' := by
  have c0 := h.c0
  have hs := h.2.2.1
  obtain ⟨b, hb⟩ : ∃ b, b = decide (2 ≤ a ∧ a < size) := ⟨_, rfl⟩
  rw [← hb]
  have HB := Lib.hid hb
  clear h hb
  go_enter Tryz.func86, Tryz.ntmps86
  by_cases h2 : (2 : Int) ≤ (a : Int)
  · go_wp2
    go_ret
    rw [HB.out, show decide (2 ≤ a ∧ a < size) = decide (a < size) by rw [decide_eq_decide]; omega]
    exact ⟨rfl, rfl⟩
  · go_wp2
    go_ret
    rw [HB.out, show decide (2 ≤ a ∧ a < size) = false by rw [decide_eq_false_iff_not]; omega]
    exact ⟨rfl, rfl⟩

def RtPost (w : World) (S V size : Nat) (t : Nat → Bool) (e : Ending) (w' : World) : Prop :=
  match lowT t size with
  | some a => e = .returned (.tuple #[.int .u32 (a : Int), .int .i64 0]) ∧ RsAt w' S V size (updT t a true) ∧ Fr (fun k => k = V) w w'
  | none => e = .returned (.tuple #[.int .u32 0, .int .i64 6]) ∧ w = w'
theorem rsTake_any (S V size : Nat) (t : Nat → Bool) (w : World) (h : RsAt w S V size t) :
    Calls Tryz.prog 88 #[.pointer (some ⟨S, 0, none⟩)] w (RtPost w S V size t) := by
  have c0 := h.c0
  have hs := h.2.2.1
  have HH := Lib.hid h
  have hs16 := h.2.1
  clear h
  go_enter Tryz.func88, Tryz.ntmps88
  go_wp2
  go_loop [4] (fun i => ∃ k : Nat, 2 ≤ k ∧ k ≤ size ∧ i = .int .i64 k ∧ ∀ c, 2 ≤ c → c < k → t c = true) (fun i => size - (intOf i).toNat)
  case atStart => exact ⟨2, Nat.le_refl _, by omega, rfl, fun c h1 h2 => by omega⟩
  case round =>
    obtain ⟨k, hk2, hk, rfl, hall⟩ := hrel
    have HA := Lib.hid hall
    clear hall
    rcases Nat.lt_or_ge k size with hlt | hge
    · have gv := HH.out.bit hlt
      have fv := HH.out.free k
      cases hb : t k with
      | true =>
        rw [hb] at gv
        go_wp2
        refine ⟨⟨k + 1, by omega, by omega, by go_num, fun c h1 h2 => ?_⟩, by simp [intOf]; omega⟩
        by_cases e : c = k
        · rw [e, hb]
        · exact HA.out c h1 (by omega)
      | false =>
        rw [hb] at gv
        have HL := Lib.hid (lowT_some hk2 hlt hb HA.out)
        have HT := Lib.hid (HH.out.turned (a := k) true (HH.out.2.2.2.1.mark hk2 hlt))
        clear hb
        go_wp2
        go_ret2
        unfold RtPost
        rw [HL.out]
        exact ⟨rfl, HT.out⟩
    · obtain rfl : k = size := by omega
      have HL := Lib.hid (lowT_none (t := t) (size := k) (fun c h1 h2 => HA.out c h1 h2))
      go_wp2
      go_ret2
      unfold RtPost
      rw [HL.out]
      exact ⟨rfl, rfl⟩

theorem rsFree_ok (S V size a : Nat) (t : Nat → Bool) (w : World) (h : RsAt w S V size t) (ha : 2 ≤ a ∧ a < size) (hb : t a = true) :
    Calls Tryz.prog 38 #[.pointer (some ⟨S, 0, none⟩), .int .u32 (a : Int)] w fun e w' => e = .returned (.int .i64 0) ∧ RsAt w' S V size (updT t a false) ∧ Fr (fun k => k = V) w w' := by
  have c0 := h.c0
  have hs := h.2.2.1
  have gv := h.bit ha.2
  have fv := h.free a
  rw [hb] at gv
  have his := rsIs_any S V size a t w h (by omega)
  rw [show decide (2 ≤ a ∧ a < size) = true by simpa using ha] at his
  have HI := Lib.hid his
  have HT := Lib.hid (h.turned (a := a) false (h.2.2.2.1.free a))
  clear h his hb
  go_enter Tryz.func38, Tryz.ntmps38
  go_wp2_with fail
  refine HI.out.mono ?_
  rintro e w1 ⟨rfl, rfl⟩
  go_wp2
  go_ret
  exact ⟨rfl, HT.out⟩

end Go.Proofs.YtkbnkdokcmpcgaaGreatDoor
namespace Go.Proofs.YtkbnkdokcmpcgaaGreatDoor
open Go.RowKit

theorem Sl.fr0 {S : Nat → Prop} {w w' : World} {size n : Nat} {v : Value} {xs : List Value} (h : Sl w size v n xs) (hf : Fr S w w') (hs : 0 < n → ∀ a m c, v = .slice (some a) m c → ¬ S a.block) : Sl w' size v n xs := by
  rcases Nat.eq_zero_or_pos n with h0 | h0
  · obtain ⟨hl, a, cap, rfl, h2, h3, h4⟩ := h
    subst h0
    rw [Nat.zero_mul] at hl
    obtain rfl := List.eq_nil_of_length_eq_zero hl
    exact ⟨by simp, a, cap, rfl, h2, h3, fun i u hu => by simp at hu⟩
  · exact h.fr hf (hs h0)
set_option maxHeartbeats 2000000 in
set_option maxRecDepth 100000 in
theorem spSet_any0 (S W size n : Nat) (t : Nat → Bool) (l : List Nat) (v : Value) (w : World) (h : SpAt w S W size t) (hv : Sl w 1 v n (l.map U32)) (hl : ∀ a ∈ l, a < 4294967296) (hn : n ≤ 140737488351232)
    (hno : 0 < n → ∀ a m c, v = .slice (some a) m c → ¬ (a.block = S ∨ a.block = W)) :
    Calls Tryz.prog 74 #[.pointer (some ⟨S, 0, none⟩), v] w (StPost w S W size l) := by
  have hln : l.length = n := by simpa using hv.1
  obtain ⟨av, cv, rfl, _⟩ := hv.len
  have HH := Lib.hid h
  have HV := Lib.hid hv
  have HL := Lib.hid hl
  have HLn := Lib.hid hln
  have HNo := Lib.hid hno
  have hs := h.2.2.1
  clear h hv hl hln hno
  go_enter Tryz.func74, Tryz.ntmps74
  go_wp2_with fail
  go_loop [14, 6, 7] (fun ii _ _ => ∃ i : Nat, i ≤ n ∧ ii = .int .i64 i ∧ ∀ a ∈ l.take i, 2 ≤ a ∧ a < size) (fun ii _ _ => n - (intOf ii).toNat)
  case atStart => exact ⟨0, Nat.zero_le _, rfl, fun a h => by simp at h⟩
  case round =>
    obtain ⟨i, hi, rfl, hok⟩ := hrel
    have HOk := Lib.hid hok
    clear hok
    rcases Nat.lt_or_ge i n with hlt | hge
    · obtain ⟨a, ha⟩ : ∃ a, l[i]? = some a := ⟨_, List.getElem?_eq_getElem (by rw [HLn.out]; exact hlt)⟩
      have hal := HL.out a (List.mem_of_getElem? ha)
      obtain ⟨_, a', c', e', _, _, hcv⟩ := HV.out
      simp only [Value.slice.injEq, true_and] at e'
      obtain ⟨rfl, rfl⟩ := e'
      obtain ⟨vb, vo, rfl, gv⟩ := hcv i (U32 a) (by rw [List.getElem?_map, ha]; rfl)
      unfold U32 at gv
      have his := spIs_any S W size a t w HH.out hal
      have HTk := Lib.hid (show l.take (i + 1) = l.take i ++ [a] by rw [List.take_succ_eq_append_getElem (by rw [HLn.out]; exact hlt), (List.getElem?_eq_some_iff.1 ha).2])
      have HMem := Lib.hid (List.mem_of_getElem? ha)
      clear hcv ha
      rcases Classical.em (2 ≤ a ∧ a < size) with hr | hr
      · rw [isE_ok hr] at his
        have HNext := Lib.hid (show ∀ c ∈ l.take (i + 1), 2 ≤ c ∧ c < size from fun c hc => by
          rw [HTk.out, List.mem_append, List.mem_singleton] at hc
          rcases hc with hc | rfl
          · exact HOk.out c hc
          · exact hr)
        have HIs := Lib.hid his
        clear his hr
        go_wp2_with fail
        refine HIs.out.mono ?_
        rintro e w1 ⟨rfl, rfl⟩
        go_wp2_with fail
        exact ⟨⟨i + 1, by omega, by go_num, HNext.out⟩, by simp [intOf]; omega⟩
      · rw [isE_bad hr] at his
        have HBad := Lib.hid (show ¬ ∀ c ∈ l, 2 ≤ c ∧ c < size from fun hh => hr (hh a HMem.out))
        have HIs := Lib.hid his
        clear his hr
        go_wp2_with fail
        refine HIs.out.mono ?_
        rintro e w1 ⟨rfl, rfl⟩
        go_wp2
        go_ret
        exact ⟨fun hh => absurd hh HBad.out, fun _ => ⟨rfl, rfl⟩⟩
    · obtain rfl : n = i := by omega
      have hok := HOk.out
      rw [List.take_of_length_le (by rw [HLn.out]; exact Nat.le_refl _)] at hok
      obtain ⟨ws, hws, hW, c1, c2, -, -, fs, -⟩ := HH.out.parts (a := 2) (by have := HH.out.2.1; omega)
      have hS := HH.out.2.2.2.2.1
      have HAll := Lib.hid hok
      have HWl := Lib.hid (show (ws.map UV).toArray.size = (size + 63) / 64 by simp [hws.1])
      have HW := Lib.hid hW
      have HS := Lib.hid hS
      clear hok hws hW hS HOk
      have hn0 : 0 < (size + 63) / 64 := by have := HH.out.2.1; omega
      obtain ⟨nw, hnw⟩ : ∃ k, k = (size + 63) / 64 := ⟨_, rfl⟩
      rw [← hnw] at c1 hn0 HWl HS
      have HN := Lib.hid hnw
      clear hnw c2 fs
      go_wp2_with (first | (refine clear_u64 rfl (.tmp 28) rfl rfl hn0 HW.out HWl.out ?_; intro w2 hg2 hf2; have HW2 := Lib.hid hg2; have HF2 := Lib.hid hf2; have HS2 := Lib.hid ((hf2.block S (lt_of_block HS.out) HH.out.1).trans HS.out); have d2 : w2.cell? ⟨S, 2, none⟩ = some (.int .i64 (cntT t size : Int)) := (cell_of_row _ _ 2 _ _ _ HS2.out).trans rfl; have e2 : w2.frozen? ⟨S, 2, none⟩ = false := (by simp [World.frozen?, HS2.out]); clear hg2 hf2))
      have HSt := Lib.hid (show SpAt (w2.setCell ⟨S, 2, none⟩ (.int .i64 0)) S W size (ofL (l.take 0)) ∧ Fr (fun k => k = S ∨ k = W) w (w2.setCell ⟨S, 2, none⟩ (.int .i64 0)) from by
        have f1 := (HF2.out.mono (T := fun k => k = S ∨ k = W) (fun k _ e => Or.inr e)).set S 2 (Or.inl rfl) (.int .i64 0)
        refine ⟨⟨HH.out.1, HH.out.2.1, HH.out.2.2.1, TOk.none size, ?_, _, WsOk.none size, ?_⟩, f1⟩
        · rw [← HN.out, show cntT (ofL (l.take 0)) size = 0 from cntT_none size]
          exact heap_setCell_same w2 S 2 _ _ _ HS2.out
        · rw [← HN.out]
          exact (((Fr.refl (fun k => k = S) w2).set S 2 rfl (.int .i64 0)).block W (lt_of_block HW2.out) (Ne.symm HH.out.1)).trans HW2.out)
      clear d2 e2 HW2 HF2 HS2
      go_loopw [34, 9] (fun ii _ wr => ∃ i : Nat, i ≤ n ∧ ii = .int .i64 i ∧ SpAt wr S W size (ofL (l.take i)) ∧ Fr (fun k => k = S ∨ k = W) w wr) (fun ii _ _ => n - (intOf ii).toNat)
      case atStart => exact ⟨0, Nat.zero_le _, rfl, HSt.out.1, HSt.out.2⟩
      case round =>
        clear HSt HW HWl HS
        obtain ⟨i, hi, rfl, hsp, hf⟩ := hrel
        have HSp := Lib.hid hsp
        have HF := Lib.hid hf
        have HVr := Lib.hid (HV.out.fr0 hf HNo.out)
        clear hsp hf
        rcases Nat.lt_or_ge i n with hlt | hge
        · obtain ⟨a, ha⟩ : ∃ a, l[i]? = some a := ⟨_, List.getElem?_eq_getElem (by rw [HLn.out]; exact hlt)⟩
          have hr := HAll.out a (List.mem_of_getElem? ha)
          obtain ⟨_, a', c', e', _, _, hcv⟩ := HVr.out
          simp only [Value.slice.injEq, true_and] at e'
          obtain ⟨rfl, rfl⟩ := e'
          obtain ⟨vb, vo, rfl, gv⟩ := hcv i (U32 a) (by rw [List.getElem?_map, ha]; rfl)
          unfold U32 at gv
          have HSu := Lib.hid (ofL_succ l i a ha)
          have hal : a < 4294967296 := by omega
          have HR := Lib.hid hr
          clear hcv ha hr
          go_wp2_with fail
          cases ht : ofL (l.take i) a with
          | true =>
            refine (spMark_there S W size a _ wr HSp.out hal ht).mono ?_
            rintro e w3 ⟨rfl, rfl⟩
            have HRel := Lib.hid (show SpAt wr S W size (ofL (l.take (i + 1))) by rw [HSu.out, updT_same _ _ _ ht]; exact HSp.out)
            clear ht
            go_wp2_with fail
            exact ⟨⟨i + 1, by omega, by go_num, HRel.out, HF.out⟩, by simp [intOf]; omega⟩
          | false =>
            refine (spMark_ok S W size a _ wr HSp.out HR.out ht).mono ?_
            rintro e w3 ⟨rfl, hs3, hf3⟩
            rw [← HSu.out] at hs3
            have HS3 := Lib.hid hs3
            have HF3 := Lib.hid (HF.out.trans hf3)
            clear ht hs3 hf3
            go_wp2_with fail
            exact ⟨⟨i + 1, by omega, by go_num, HS3.out, HF3.out⟩, by simp [intOf]; omega⟩
        · obtain rfl : n = i := by omega
          have hsp := HSp.out
          rw [List.take_of_length_le (by rw [HLn.out]; exact Nat.le_refl _)] at hsp
          have HSp2 := Lib.hid hsp
          clear hsp HSp
          go_wp2
          go_ret
          exact ⟨fun _ => ⟨rfl, HSp2.out, HF.out⟩, fun hh => absurd HAll.out hh⟩

theorem poKeep_any0 (P D S W size birth n : Nat) (ks : List UInt8) (t : Nat → Bool) (l : List Nat) (v : Value) (w : World) (h : PlAt w P D S W size ks t birth) (hv : Sl w 1 v n (l.map U32)) (hl : ∀ a ∈ l, a < 4294967296) (hn : n ≤ 140737488351232)
    (hno : 0 < n → ∀ a m c, v = .slice (some a) m c → ¬ (a.block = S ∨ a.block = W)) :
    Calls Tryz.prog 24 #[.pointer (some ⟨P, 0, none⟩), v] w (KpPost w P D S W size ks birth l) := by
  have HSp := Lib.hid (poSpace_any P S w h.cells.2.2.1)
  have HSet := Lib.hid (spSet_any0 S W size n t l v w h.sp hv hl hn hno)
  have HH := Lib.hid h
  clear h hv hl hn hno
  go_enter Tryz.func24, Tryz.ntmps24
  go_wp2_with fail
  refine HSp.out.mono ?_
  rintro e w1 ⟨rfl, rfl⟩
  go_wp2_with fail
  refine HSet.out.mono ?_
  rintro e w1 hp
  have HP := Lib.hid hp
  clear hp HSet HSp
  rcases Classical.em (∀ a ∈ l, 2 ≤ a ∧ a < size) with hg | hg
  · obtain ⟨rfl, h1, h2⟩ := HP.out.1 hg
    have HE := Lib.hid (show PlAt w1 P D S W size ks (ofL l) birth ∧ Fr (fun k => k = S ∨ k = W) w w1 from
      ⟨⟨(h2.block P (lt_of_block HH.out.row) (by rintro (e | e); exact HH.out.nPS e; exact HH.out.nPW e)).trans HH.out.row, h1, HH.out.ks, HH.out.birth, HH.out.nPS, HH.out.nPW⟩, h2⟩)
    have HG := Lib.hid hg
    clear h1 h2 HP hg
    go_wp2
    go_ret
    exact ⟨fun _ => ⟨rfl, HE.out.1, HE.out.2⟩, fun hh => absurd HG.out hh⟩
  · obtain ⟨rfl, rfl⟩ := HP.out.2 hg
    have HG := Lib.hid hg
    clear HP hg
    go_wp2
    go_ret
    exact ⟨fun hh => absurd hh HG.out, fun _ => ⟨rfl, rfl⟩⟩


end Go.Proofs.YtkbnkdokcmpcgaaGreatDoor
