/- A node's bytes, as data; the walk of node's Put. -/
import Derived.Test.YtdmgmpagnmmehaaDoorNodeD
namespace Go.Proofs.YtdmgmpagnmmehaaDoor
open Go.RowKit

/-- What is laid for the i-th key. -/
def kvAt (n : Nd) (i : Nat) : List UInt8 := strB (n.keys.getD i ⟨#[]⟩) ++ (if n.leaf then strB (n.vals.getD i ⟨#[]⟩) else [])
def kvTo (n : Nd) (k : Nat) : List UInt8 := (List.range k).flatMap (kvAt n)
def kidsTo (n : Nd) (k : Nat) : List UInt8 := (n.kids.take k).flatMap ptrB
def headB (n : Nd) : List UInt8 := putB (if n.leaf then 1 else 2) 1 ++ putB n.keys.length 1
def bytesN (n : Nd) : List UInt8 := headB n ++ kvTo n n.keys.length ++ kidsTo n n.kids.length

theorem kvTo_succ (n : Nd) (k : Nat) : kvTo n (k + 1) = kvTo n k ++ kvAt n k := by
  unfold kvTo; rw [List.range_succ, List.flatMap_append]; simp
theorem kidsTo_succ (n : Nd) (k : Nat) (h : k < n.kids.length) : kidsTo n (k + 1) = kidsTo n k ++ ptrB n.kids[k] := by
  unfold kidsTo; rw [List.take_succ_eq_append_getElem h, List.flatMap_append]; simp
theorem headB_length (n : Nd) : (headB n).length = 2 := by unfold headB; simp [putB_length]

theorem kvTo_length_leaf (n : Nd) (hl : n.leaf = true) : ∀ k, k ≤ n.keys.length → k ≤ n.vals.length → (kvTo n k).length = strsN (n.keys.take k) + strsN (n.vals.take k) := by
  intro k
  induction k with
  | zero => intro _ _; simp [kvTo, strsN]
  | succ k ih =>
    intro h1 h2
    rw [kvTo_succ, List.length_append, ih (by omega) (by omega), strsN_step _ k (by omega), strsN_step _ k (by omega)]
    unfold kvAt
    rw [hl, if_pos rfl, List.length_append, strB_length, strB_length, List.getD_eq_getElem?_getD, List.getD_eq_getElem?_getD, List.getElem?_eq_getElem (by omega), List.getElem?_eq_getElem (by omega)]
    simp only [Option.getD_some]
    omega
theorem kvTo_length_inner (n : Nd) (hl : n.leaf = false) : ∀ k, k ≤ n.keys.length → (kvTo n k).length = strsN (n.keys.take k) := by
  intro k
  induction k with
  | zero => intro _; simp [kvTo, strsN]
  | succ k ih =>
    intro h1
    rw [kvTo_succ, List.length_append, ih (by omega), strsN_step _ k (by omega)]
    unfold kvAt
    rw [hl, List.length_append, strB_length, List.getD_eq_getElem?_getD, List.getElem?_eq_getElem (by omega)]
    simp only [Option.getD_some, Bool.false_eq_true, if_false, List.length_nil]
    omega
theorem kidsTo_length (n : Nd) (h : ∀ p ∈ n.kids, p.Wf) : ∀ k, k ≤ n.kids.length → (kidsTo n k).length = 44 * k := by
  intro k
  induction k with
  | zero => intro _; simp [kidsTo]
  | succ k ih =>
    intro hk
    rw [kidsTo_succ n k (by omega), List.length_append, ih (by omega), ptrB_length _ (h _ (List.getElem_mem (by omega)))]
    omega

structure FormOk (n : Nd) : Prop where
  kvLen : (kvTo n n.keys.length).length = strsN n.keys + strsN n.vals
  vals : n.leaf = true → n.vals.length = n.keys.length
  keyS : ∀ s ∈ n.keys, 1 ≤ s.size ∧ s.size ≤ 32
  valS : ∀ s ∈ n.vals, s.size ≤ 96
theorem keysB_pos {l : List ByteArray} (h : keysB l = true) : ∀ s ∈ l, 1 ≤ s.size := by
  intro s hs
  obtain ⟨i, hi, rfl⟩ := List.getElem_of_mem hs
  have h1 := List.all_eq_true.1 h i (by simpa using hi)
  unfold keyAt at h1
  rw [List.getElem?_eq_getElem hi] at h1
  simp only [Bool.and_eq_true, decide_eq_true_iff] at h1
  have := h1.1.1
  omega
theorem formB_ok {n : Nd} (h : formB n = true) : FormOk n := by
  have hv := formB_vals h
  have hk := formB_keys h
  have hks : ∀ s ∈ n.keys, 1 ≤ s.size ∧ s.size ≤ 32 := fun s hs => ⟨keysB_pos hk s hs, keysB_size hk s hs⟩
  unfold formB at h
  simp only [Bool.and_eq_true] at h
  cases hl : n.leaf with
  | true =>
    rw [hl] at h
    simp only [if_true, Bool.and_eq_true, decide_eq_true_iff] at h
    have e1 := h.2.1.1
    refine ⟨?_, fun _ => e1, hks, hv⟩
    rw [kvTo_length_leaf n hl _ (Nat.le_refl _) (by omega), List.take_length, List.take_of_length_le (by omega)]
  | false =>
    rw [hl] at h
    simp only [Bool.false_eq_true, if_false, Bool.and_eq_true, decide_eq_true_iff] at h
    have e1 : n.vals = [] := List.eq_nil_of_length_eq_zero h.2.1.1.1
    refine ⟨?_, fun h => (by rw [hl] at h; cases h), hks, hv⟩
    rw [kvTo_length_inner n hl _ (Nat.le_refl _), List.take_length, e1]
    simp [strsN]
theorem bytesN_length {n : Nd} (h : formB n = true) (hw : ∀ p ∈ n.kids, p.Wf) : (bytesN n).length = sizeN n := by
  unfold bytesN
  rw [List.length_append, List.length_append, headB_length, (formB_ok h).kvLen, kidsTo_length n hw _ (Nat.le_refl _)]
  unfold sizeN; omega
theorem strsN_ge (l : List ByteArray) (h : ∀ s ∈ l, 1 ≤ s.size) : 2 * l.length ≤ strsN l := by
  induction l with
  | nil => simp
  | cons a l ih =>
    have h1 := ih (fun s hs => h s (by simp [hs]))
    have h2 := h a (by simp)
    have e : strsN (a :: l) = (1 + a.size) + strsN l := by simp [strsN]
    rw [e, List.length_cons]; omega

set_option maxHeartbeats 1000000 in
theorem put_bad (arr : Array Value) (n : Nd) (w : World) (h : NdIs w arr n) (hf : n.Fits) (hc : checkE n ≠ 0) :
    Calls Tryd.prog 10 #[.agg arr] w fun e w' => e = .returned (.tuple #[.slice none 0 0, .int .i64 (checkE n)]) ∧ Below w.heap.size w w' := by
  have HN := Lib.hid h
  obtain ⟨ak, ck, av, cv, ap, cp, rfl, hk, hv, hp⟩ := h.get
  have hb0 : Below w.heap.size w (w.alloc (.cells #[.bool n.leaf, .slice ak n.keys.length ck, .slice av n.vals.length cv, .slice ap n.kids.length cp] 25)) := (Below.refl _ w).alloc (Nat.le_refl _) _
  have HB := Lib.hid hb0
  have HF := Lib.hid hf
  have HN0 := Lib.hid (HN.out.below hb0)
  have hbc : (checkE n != 0) = true := by simpa using hc
  clear h hk hv hp hb0 hf hc
  go_enter Tryd.func10, Tryd.ntmps10
  go_wp2_with fail
  refine (check_any _ n _ HN0.out HF.out).mono ?_
  rintro e w1 ⟨rfl, hb⟩
  have HB1 := Lib.hid (HB.out.trans (hb.mono HB.out.size))
  clear hb
  go_wp2
  go_ret2
  exact ⟨rfl, HB1.out⟩

/-- What stands while Put lays. -/
def PutRel (w : World) (cs : Array Value) (B : Nat) (xs : List UInt8) (wr : World) : Prop :=
  ∃ row, Wr wr B B row xs ∧ Below w.heap.size w wr ∧ wr.heap[w.heap.size]? = some (.cells cs 25 (0, 0)) ∧ w.heap.size < B

theorem PutRel.laid {w : World} {cs : Array Value} {B : Nat} {xs ys : List UInt8} {wr w' : World} {row : Option Nat} (h1 : Wr wr B B row xs) (h2 : Below w.heap.size w wr) (h3 : wr.heap[w.heap.size]? = some (.cells cs 25 (0, 0))) (h4 : w.heap.size < B)
    (hl : Laid wr w' B B row ys) : PutRel w cs B ys w' := by
  obtain ⟨row', a1, a2, a3⟩ := hl
  have hlt := h1.lt
  refine ⟨row', a1, h2.trans (a2.below h2.size (fun j hj => ?_)), (a2.block _ (lt_of_block h3) (fun e => ?_)).trans h3, h4⟩
  · rcases hj with e | e
    · omega
    · have := (hlt.2 j e).1; omega
  · rcases e with e | e
    · omega
    · have := (hlt.2 _ e).1; omega

set_option maxRecDepth 100000 in
set_option maxHeartbeats 4000000 in
theorem put_ok (arr : Array Value) (n : Nd) (w : World) (h : NdIs w arr n) (hf : n.Fits) (hc : formB n = true) (hs : sizeN n ≤ 512) :
    Calls Tryd.prog 10 #[.agg arr] w fun e w' => ∃ aa cc, e = .returned (.tuple #[.slice aa 512 cc, .int .i64 0]) ∧ w'.ownsRow w.heap.size 5 1 (.slice aa 512 cc) 512 ((bytesN n ++ List.replicate (512 - sizeN n) 0).map Bv) ∧ Below w.heap.size w w' := by
  have HN := Lib.hid h
  obtain ⟨ak, ck, av, cv, ap, cp, rfl, hk, hv, hp⟩ := h.get
  have hb0 : Below w.heap.size w (w.alloc (.cells #[.bool n.leaf, .slice ak n.keys.length ck, .slice av n.vals.length cv, .slice ap n.kids.length cp] 25)) := (Below.refl _ w).alloc (Nat.le_refl _) _
  have HB := Lib.hid hb0
  have HF := Lib.hid hf
  have HN0 := Lib.hid (HN.out.below hb0)
  have HC0 := Lib.hid (checkE_ok hc (by omega))
  have hfo := formB_ok hc
  have HLn := Lib.hid (bytesN_length hc hp.wf)
  have hkl := strsN_ge n.keys (fun s hs => (hfo.keyS s hs).1)
  have hk255 : n.keys.length ≤ 255 := by unfold sizeN at hs; omega
  have hkd : n.kids.length ≤ 20 := by unfold sizeN at hs; omega
  have hfit : (1 : Nat) = 8 ∨ n.keys.length < 256 ^ 1 := Or.inr (by omega)
  have hvl : ∀ k, (kvTo n k).length ≤ 600 * k := by
    intro k
    induction k with
    | zero => simp [kvTo]
    | succ k ih =>
      rw [kvTo_succ, List.length_append]
      have h1 : (kvAt n k).length ≤ 600 := by
        unfold kvAt
        have e1 : (n.keys.getD k ⟨#[]⟩).size ≤ 32 := by
          rw [List.getD_eq_getElem?_getD]
          cases hq : n.keys[k]? with
          | none => simp; decide
          | some s => exact (hfo.keyS s (List.mem_of_getElem? hq)).2
        have e2 : (n.vals.getD k ⟨#[]⟩).size ≤ 96 := by
          rw [List.getD_eq_getElem?_getD]
          cases hq : n.vals[k]? with
          | none => simp; decide
          | some s => exact hfo.valS s (List.mem_of_getElem? hq)
        rw [List.length_append, strB_length]
        have e3 : (if n.leaf = true then strB (n.vals.getD k ⟨#[]⟩) else []).length ≤ 97 := by
          split
          · rw [strB_length]; omega
          · rw [List.length_nil]; omega
        omega
      omega
  have HVL := Lib.hid hvl
  have HFO := Lib.hid hfo
  have HK := Lib.hid hk
  have HV := Lib.hid hv
  have HP := Lib.hid hp
  have HKT := Lib.hid (kidsTo_length n hp.wf)
  have HFit := Lib.hid hfit
  have HSz := Lib.hid hs
  clear h hk hv hp hb0 hf hc hkl hvl hfo hfit hs
  go_enter Tryd.func10, Tryd.ntmps10
  go_wp2_with fail
  refine (check_any _ n _ HN0.out HF.out).mono ?_
  rw [HC0.out]
  rintro e w1 ⟨rfl, hb⟩
  have hg := (hb.block w.heap.size (by simp)).trans (heap_alloc_new w (.cells #[.bool n.leaf, .slice ak n.keys.length ck, .slice av n.vals.length cv, .slice ap n.kids.length cp] 25))
  have hb1 := HB.out.trans (hb.mono HB.out.size)
  have hlt1 := lt_of_block hg
  have HW1 := Lib.hid (Wr.new w1 w1.heap.size)
  have HB1 := Lib.hid (hb1.alloc (show w.heap.size ≤ w1.heap.size by omega) (.cells #[.slice none 0 0] 69))
  have HG1 := Lib.hid ((Below.heap_alloc w1 (.cells #[.slice none 0 0] 69) _ hlt1).trans hg)
  have HH := Lib.hid (show headB n = putB (if n.leaf then 1 else 2) 1 ++ putB n.keys.length 1 from rfl)
  have c0 : w1.cell? ⟨w.heap.size, 0, none⟩ = some (.bool n.leaf) := cell_of_row w1 _ 0 _ _ _ hg
  clear hb hg hb1
  cases hl : n.leaf with
  | true =>
    rw [hl] at c0 HG1 HH
    simp only [if_true, Bool.false_eq_true, if_false] at HH
    have HL := Lib.hid hl
    clear hl
    go_wp2_with fail
    refine (wNum_ok w1.heap.size w1.heap.size none [] 1 1 _ HW1.out (by simp) (by omega) (Or.inr (by omega)) (by simp)).mono ?_
    rintro e w2 ⟨rfl, hl2⟩
    obtain ⟨row2, hW2, hB2, hG2, -⟩ := PutRel.laid HW1.out HB1.out HG1.out hlt1 hl2
    have c1 : w2.cell? ⟨w.heap.size, 1, none⟩ = some (.slice ak n.keys.length ck) := cell_of_row w2 _ 1 _ _ _ hG2
    have HW2 := Lib.hid hW2
    have HB2 := Lib.hid hB2
    have HG2 := Lib.hid hG2
    clear hl2 hW2 hB2 hG2 c0
    go_wp2_with fail
    refine (wNum_ok w1.heap.size w1.heap.size row2 _ n.keys.length 1 _ HW2.out (by have := HW2.out.lt.1; omega) (by omega) HFit.out (by rw [List.length_append, putB_length]; simp)).mono ?_
    rintro e w3 ⟨rfl, hl3⟩
    have hr3 := PutRel.laid HW2.out HB2.out HG2.out hlt1 hl3
    have e3 : [] ++ putB 1 1 ++ putB n.keys.length 1 = headB n ++ kvTo n 0 := by rw [HH.out]; simp [kvTo]
    rw [e3] at hr3
    have c1 : w3.cell? ⟨w.heap.size, 1, none⟩ = some (.slice ak n.keys.length ck) := by obtain ⟨_, _, _, hG3, _⟩ := hr3; exact cell_of_row w3 _ 1 _ _ _ hG3
    have HR3 := Lib.hid hr3
    clear hl3 hr3 e3
    go_wp2_with fail
    go_loopw [29, 7] (fun i u wr => ∃ k : Nat, k ≤ n.keys.length ∧ i = .int .i64 k ∧ PutRel w #[.bool true, .slice ak n.keys.length ck, .slice av n.vals.length cv, .slice ap n.kids.length cp] w1.heap.size (headB n ++ kvTo n k) wr) (fun i _ _ => n.keys.length - (intOf i).toNat)
    case atStart => exact ⟨0, Nat.zero_le _, rfl, HR3.out⟩
    case round =>
      obtain ⟨k, hk, rfl, row, hW, hB, hG, -⟩ := hrel
      have c0 : wr.cell? ⟨w.heap.size, 0, none⟩ = some (.bool true) := cell_of_row wr _ 0 _ _ _ hG
      have c2 : wr.cell? ⟨w.heap.size, 2, none⟩ = some (.slice av n.vals.length cv) := cell_of_row wr _ 2 _ _ _ hG
      have c3 : wr.cell? ⟨w.heap.size, 3, none⟩ = some (.slice ap n.kids.length cp) := cell_of_row wr _ 3 _ _ _ hG
      have HW := Lib.hid hW
      have HBr := Lib.hid hB
      have HG := Lib.hid hG
      have hvk := HVL.out k
      have hbs : w1.heap.size < wr.heap.size := hW.lt.1
      clear hW hB hG
      rcases Nat.lt_or_ge k n.keys.length with hlt | hge
      · obtain ⟨a', c', e', hel⟩ := (HK.out.below HBr.out).open
        simp only [Value.slice.injEq, true_and] at e'
        obtain ⟨rfl, rfl⟩ := e'
        obtain ⟨b, o, rfl, hc⟩ := hel k hlt
        have hvl' : n.vals.length = n.keys.length := HFO.out.vals HL.out
        obtain ⟨a2, c2', e2, hel2⟩ := HV.out.open
        simp only [Value.slice.injEq, true_and] at e2
        obtain ⟨rfl, rfl⟩ := e2
        have hlt2 : k < n.vals.length := by omega
        obtain ⟨b2, o2, rfl, hc2w⟩ := hel2 k hlt2
        clear hvl'
        have hsz := (HFO.out.keyS _ (List.getElem_mem hlt)).2
        obtain ⟨x, hx⟩ : ∃ x, x = n.keys[k]'hlt := ⟨_, rfl⟩
        rw [← hx] at hc hsz
        have hgx : n.keys.getD k ⟨#[]⟩ = x := by rw [hx, List.getD_eq_getElem?_getD, List.getElem?_eq_getElem hlt]; rfl
        have HX := Lib.hid hgx
        clear hel hx hgx
        go_wp2_with fail
        refine (wStr_ok w1.heap.size w1.heap.size row _ x _ HW.out (by omega) (by omega) (by rw [List.length_append, headB_length]; omega)).mono ?_
        rintro e w5 ⟨rfl, hl5⟩
        have hr5 := PutRel.laid HW.out HBr.out HG.out hlt1 hl5
        obtain ⟨row5, hW5, hB5, hG5, -⟩ := hr5
        have d0 : w5.cell? ⟨w.heap.size, 0, none⟩ = some (.bool true) := cell_of_row w5 _ 0 _ _ _ hG5
        have d2 := cell_of_row w5 w.heap.size 2 _ _ _ hG5
        simp only [List.getElem?_toArray, List.getElem?_cons_succ, List.getElem?_cons_zero] at d2
        have hc2 := (Below.cell hB5 (p := ⟨b2, o2 + k, none⟩) (World.block_lt_of_cell? w ⟨b2, o2 + k, none⟩ hc2w)).trans hc2w
        have hsz2 := HFO.out.valS _ (List.getElem_mem hlt2)
        obtain ⟨y, hy⟩ : ∃ y, y = n.vals[k]'hlt2 := ⟨_, rfl⟩
        rw [← hy] at hc2 hsz2 hc2w
        have hgy : n.vals.getD k ⟨#[]⟩ = y := by rw [hy, List.getD_eq_getElem?_getD, List.getElem?_eq_getElem hlt2]; rfl
        have HY := Lib.hid hgy
        have HW5 := Lib.hid hW5
        have HB5 := Lib.hid hB5
        have HG5 := Lib.hid hG5
        have hb5 := hB5.size
        clear hel2 hy hgy hl5 hW5 hB5 hG5 c0 c2 c3 hc hc2w
        go_wp2_with fail
        refine (wStr_ok w1.heap.size w1.heap.size row5 _ y _ HW5.out (by have := HW5.out.lt.1; omega) (by omega) (by rw [List.length_append, List.length_append, headB_length, strB_length]; omega)).mono ?_
        rintro e w6 ⟨rfl, hl6⟩
        have hr6 := PutRel.laid HW5.out HB5.out HG5.out hlt1 hl6
        have e6 : headB n ++ kvTo n k ++ strB x ++ strB y = headB n ++ kvTo n (k + 1) := by
          rw [kvTo_succ]; unfold kvAt; rw [HX.out, HY.out, HL.out]; simp
        rw [e6] at hr6
        have HR6 := Lib.hid hr6
        clear hl6 hr6 e6 d0 d2 hc2
        go_wp2
        go_roundw
        case rel => exact ⟨k + 1, by omega, by go_num, HR6.out⟩
        case measure => simp [intOf]; omega
      · obtain rfl : k = n.keys.length := by omega
        have HRk := Lib.hid (show PutRel w #[.bool true, .slice ak n.keys.length ck, .slice av n.vals.length cv, .slice ap n.kids.length cp] w1.heap.size (headB n ++ kvTo n n.keys.length ++ kidsTo n 0) wr from ⟨row, by have := HW.out; simpa [kidsTo] using this, HBr.out, HG.out, hlt1⟩)
        clear hge hvk
        go_wp2_with fail
        go_loopw [48, 10] (fun i u wr => ∃ k : Nat, k ≤ n.kids.length ∧ i = .int .i64 k ∧ PutRel w #[.bool true, .slice ak n.keys.length ck, .slice av n.vals.length cv, .slice ap n.kids.length cp] w1.heap.size (headB n ++ kvTo n n.keys.length ++ kidsTo n k) wr) (fun i _ _ => n.kids.length - (intOf i).toNat)
        case atStart => exact ⟨0, Nat.zero_le _, rfl, HRk.out⟩
        case round =>
          obtain ⟨j, hj, rfl, row7, hW7, hB7, hG7, -⟩ := hrel
          have HW7 := Lib.hid hW7
          have HB7 := Lib.hid hB7
          have HG7 := Lib.hid hG7
          have hbs7 : w1.heap.size < wr.heap.size := hW7.lt.1
          clear hW7 hB7 hG7
          rcases Nat.lt_or_ge j n.kids.length with hjl | hjl
          · obtain ⟨a', c', e', hel⟩ := (HP.out.below HB7.out).open
            simp only [Value.slice.injEq, true_and] at e'
            obtain ⟨rfl, rfl⟩ := e'
            obtain ⟨b, o, rfl, hat⟩ := hel j hjl
            have hpw := HP.out.wf _ (List.getElem_mem hjl)
            have hks := kidsTo_succ n j hjl
            obtain ⟨x, hx⟩ : ∃ x, x = n.kids[j]'hjl := ⟨_, rfl⟩
            rw [← hx] at hat hpw hks
            have HAT := Lib.hid hat
            have HPW := Lib.hid hpw
            have HKS := Lib.hid hks
            have HKL := Lib.hid (HKT.out j (by omega))
            clear hel hx hat hpw hks
            go_wp2_with (first | (refine load_ptr rfl (.tmp 50) rfl rfl HAT.out HPW.out ?_) | (refine store_ptr rfl (.tmp 10) (.tmp 51) rfl rfl rfl (heap_alloc_new _ _) rfl HPW.out ?_))
            intro w8 hb8 hf8 hs8
            have hfr8 : Fr (fun _ => False) wr w8 := by
              refine ⟨hf8.os, hf8.tape, hf8.output, by rw [hs8]; simp, fun k hk _ => ?_⟩
              exact (hf8.block k (Nat.lt_of_lt_of_le hk (by simp)) (by omega)).trans (Below.heap_alloc _ _ _ hk)
            have HA8 := Lib.hid (show At w8 wr.heap.size 0 x.cells from At.of_row hb8)
            have HW8 := Lib.hid (HW7.out.fr hfr8 id (fun _ _ => id))
            have HB8 := Lib.hid (HB7.out.trans (hfr8.below HB7.out.size (fun _ h => h.elim)))
            have HG8 := Lib.hid ((hfr8.block _ (lt_of_block HG7.out) id).trans HG7.out)
            clear hb8 hf8 hs8 hfr8
            go_wp2_with (refine load_ptr rfl (.tmp 10) rfl rfl HA8.out HPW.out ?_)
            refine (ptrPut_ok x w1.heap.size w1.heap.size row7 _ _ HW8.out (by have := HW8.out.lt.1; omega) HPW.out (by rw [List.length_append, List.length_append, headB_length, HKL.out]; have := HVL.out n.keys.length; omega)).mono ?_
            rintro e w9 ⟨rfl, hl9⟩
            have hr9 := PutRel.laid HW8.out HB8.out HG8.out hlt1 hl9
            rw [List.append_assoc, ← HKS.out] at hr9
            have HR9 := Lib.hid hr9
            clear hl9 hr9
            go_wp2
            go_roundw
            case rel => exact ⟨j + 1, by omega, by go_num, HR9.out⟩
            case measure => simp [intOf]; omega
          · obtain rfl : j = n.kids.length := by omega
            have hlen : (headB n ++ kvTo n n.keys.length ++ kidsTo n n.kids.length).length = sizeN n := HLn.out
            have hpad := wPad_ok w1.heap.size w1.heap.size 512 row7 (headB n ++ kvTo n n.keys.length ++ kidsTo n n.kids.length) wr HW7.out (by omega) (by omega) (by rw [hlen]; exact HSz.out)
            rw [hlen] at hpad
            have HPad := Lib.hid hpad
            clear hpad hlen
            go_wp2_with fail
            refine HPad.out.mono ?_
            rintro e w8 ⟨rfl, hl8⟩
            obtain ⟨row8, hW8, hB8, hG8, -⟩ := PutRel.laid HW7.out HB7.out HG7.out hlt1 hl8
            have HW8 := Lib.hid hW8
            have HB8 := Lib.hid hB8
            have hle : (headB n ++ kvTo n n.keys.length ++ kidsTo n n.kids.length ++ List.replicate (512 - sizeN n) 0).length = 512 := by
              rw [List.length_append, List.length_replicate]
              have h1 : (headB n ++ kvTo n n.keys.length ++ kidsTo n n.kids.length).length = sizeN n := HLn.out
              have := HSz.out
              omega
            have hby := wBytes_ok w1.heap.size w1.heap.size row8 _ w8 HW8.out (by rw [hle]; omega)
            rw [hle] at hby
            have HBy := Lib.hid hby
            clear hl8 hW8 hB8 hG8 hle hby
            go_wp2_with fail
            refine HBy.out.mono ?_
            rintro e w9 ⟨aa, cc, rfl, hown, hb9⟩
            have HO9 := Lib.hid (hown.base (show w.heap.size ≤ w8.heap.size from HB8.out.size))
            have HB9 := Lib.hid (HB8.out.trans (hb9.mono HB8.out.size))
            clear hown hb9
            go_wp2
            go_ret2
            exact ⟨aa, cc, rfl, HO9.out, HB9.out⟩
  | false =>
    rw [hl] at c0 HG1 HH
    simp only [if_true, Bool.false_eq_true, if_false] at HH
    have HL := Lib.hid hl
    clear hl
    go_wp2_with fail
    refine (wNum_ok w1.heap.size w1.heap.size none [] 2 1 _ HW1.out (by simp) (by omega) (Or.inr (by omega)) (by simp)).mono ?_
    rintro e w2 ⟨rfl, hl2⟩
    obtain ⟨row2, hW2, hB2, hG2, -⟩ := PutRel.laid HW1.out HB1.out HG1.out hlt1 hl2
    have c1 : w2.cell? ⟨w.heap.size, 1, none⟩ = some (.slice ak n.keys.length ck) := cell_of_row w2 _ 1 _ _ _ hG2
    have HW2 := Lib.hid hW2
    have HB2 := Lib.hid hB2
    have HG2 := Lib.hid hG2
    clear hl2 hW2 hB2 hG2 c0
    go_wp2_with fail
    refine (wNum_ok w1.heap.size w1.heap.size row2 _ n.keys.length 1 _ HW2.out (by have := HW2.out.lt.1; omega) (by omega) HFit.out (by rw [List.length_append, putB_length]; simp)).mono ?_
    rintro e w3 ⟨rfl, hl3⟩
    have hr3 := PutRel.laid HW2.out HB2.out HG2.out hlt1 hl3
    have e3 : [] ++ putB 2 1 ++ putB n.keys.length 1 = headB n ++ kvTo n 0 := by rw [HH.out]; simp [kvTo]
    rw [e3] at hr3
    have c1 : w3.cell? ⟨w.heap.size, 1, none⟩ = some (.slice ak n.keys.length ck) := by obtain ⟨_, _, _, hG3, _⟩ := hr3; exact cell_of_row w3 _ 1 _ _ _ hG3
    have HR3 := Lib.hid hr3
    clear hl3 hr3 e3
    go_wp2_with fail
    go_loopw [29, 7] (fun i u wr => ∃ k : Nat, k ≤ n.keys.length ∧ i = .int .i64 k ∧ PutRel w #[.bool false, .slice ak n.keys.length ck, .slice av n.vals.length cv, .slice ap n.kids.length cp] w1.heap.size (headB n ++ kvTo n k) wr) (fun i _ _ => n.keys.length - (intOf i).toNat)
    case atStart => exact ⟨0, Nat.zero_le _, rfl, HR3.out⟩
    case round =>
      obtain ⟨k, hk, rfl, row, hW, hB, hG, -⟩ := hrel
      have c0 : wr.cell? ⟨w.heap.size, 0, none⟩ = some (.bool false) := cell_of_row wr _ 0 _ _ _ hG
      have c2 : wr.cell? ⟨w.heap.size, 2, none⟩ = some (.slice av n.vals.length cv) := cell_of_row wr _ 2 _ _ _ hG
      have c3 : wr.cell? ⟨w.heap.size, 3, none⟩ = some (.slice ap n.kids.length cp) := cell_of_row wr _ 3 _ _ _ hG
      have HW := Lib.hid hW
      have HBr := Lib.hid hB
      have HG := Lib.hid hG
      have hvk := HVL.out k
      have hbs : w1.heap.size < wr.heap.size := hW.lt.1
      clear hW hB hG
      rcases Nat.lt_or_ge k n.keys.length with hlt | hge
      · obtain ⟨a', c', e', hel⟩ := (HK.out.below HBr.out).open
        simp only [Value.slice.injEq, true_and] at e'
        obtain ⟨rfl, rfl⟩ := e'
        obtain ⟨b, o, rfl, hc⟩ := hel k hlt
        have hsz := (HFO.out.keyS _ (List.getElem_mem hlt)).2
        obtain ⟨x, hx⟩ : ∃ x, x = n.keys[k]'hlt := ⟨_, rfl⟩
        rw [← hx] at hc hsz
        have hgx : n.keys.getD k ⟨#[]⟩ = x := by rw [hx, List.getD_eq_getElem?_getD, List.getElem?_eq_getElem hlt]; rfl
        have HX := Lib.hid hgx
        clear hel hx hgx
        go_wp2_with fail
        refine (wStr_ok w1.heap.size w1.heap.size row _ x _ HW.out (by omega) (by omega) (by rw [List.length_append, headB_length]; omega)).mono ?_
        rintro e w5 ⟨rfl, hl5⟩
        have hr5 := PutRel.laid HW.out HBr.out HG.out hlt1 hl5
        have d0 : w5.cell? ⟨w.heap.size, 0, none⟩ = some (.bool false) := by obtain ⟨_, _, _, hG5, _⟩ := hr5; exact cell_of_row w5 _ 0 _ _ _ hG5
        have e6 : headB n ++ kvTo n k ++ strB x = headB n ++ kvTo n (k + 1) := by
          rw [kvTo_succ]; unfold kvAt; rw [HX.out, HL.out]; simp
        rw [e6] at hr5
        have HR6 := Lib.hid hr5
        clear hl5 hr5 e6 c0 c2 c3 hc
        go_wp2
        go_roundw
        case rel => exact ⟨k + 1, by omega, by go_num, HR6.out⟩
        case measure => simp [intOf]; omega
      · obtain rfl : k = n.keys.length := by omega
        have HRk := Lib.hid (show PutRel w #[.bool false, .slice ak n.keys.length ck, .slice av n.vals.length cv, .slice ap n.kids.length cp] w1.heap.size (headB n ++ kvTo n n.keys.length ++ kidsTo n 0) wr from ⟨row, by have := HW.out; simpa [kidsTo] using this, HBr.out, HG.out, hlt1⟩)
        clear hge hvk
        go_wp2_with fail
        go_loopw [48, 10] (fun i u wr => ∃ k : Nat, k ≤ n.kids.length ∧ i = .int .i64 k ∧ PutRel w #[.bool false, .slice ak n.keys.length ck, .slice av n.vals.length cv, .slice ap n.kids.length cp] w1.heap.size (headB n ++ kvTo n n.keys.length ++ kidsTo n k) wr) (fun i _ _ => n.kids.length - (intOf i).toNat)
        case atStart => exact ⟨0, Nat.zero_le _, rfl, HRk.out⟩
        case round =>
          obtain ⟨j, hj, rfl, row7, hW7, hB7, hG7, -⟩ := hrel
          have HW7 := Lib.hid hW7
          have HB7 := Lib.hid hB7
          have HG7 := Lib.hid hG7
          have hbs7 : w1.heap.size < wr.heap.size := hW7.lt.1
          clear hW7 hB7 hG7
          rcases Nat.lt_or_ge j n.kids.length with hjl | hjl
          · obtain ⟨a', c', e', hel⟩ := (HP.out.below HB7.out).open
            simp only [Value.slice.injEq, true_and] at e'
            obtain ⟨rfl, rfl⟩ := e'
            obtain ⟨b, o, rfl, hat⟩ := hel j hjl
            have hpw := HP.out.wf _ (List.getElem_mem hjl)
            have hks := kidsTo_succ n j hjl
            obtain ⟨x, hx⟩ : ∃ x, x = n.kids[j]'hjl := ⟨_, rfl⟩
            rw [← hx] at hat hpw hks
            have HAT := Lib.hid hat
            have HPW := Lib.hid hpw
            have HKS := Lib.hid hks
            have HKL := Lib.hid (HKT.out j (by omega))
            clear hel hx hat hpw hks
            go_wp2_with (first | (refine load_ptr rfl (.tmp 50) rfl rfl HAT.out HPW.out ?_) | (refine store_ptr rfl (.tmp 10) (.tmp 51) rfl rfl rfl (heap_alloc_new _ _) rfl HPW.out ?_))
            intro w8 hb8 hf8 hs8
            have hfr8 : Fr (fun _ => False) wr w8 := by
              refine ⟨hf8.os, hf8.tape, hf8.output, by rw [hs8]; simp, fun k hk _ => ?_⟩
              exact (hf8.block k (Nat.lt_of_lt_of_le hk (by simp)) (by omega)).trans (Below.heap_alloc _ _ _ hk)
            have HA8 := Lib.hid (show At w8 wr.heap.size 0 x.cells from At.of_row hb8)
            have HW8 := Lib.hid (HW7.out.fr hfr8 id (fun _ _ => id))
            have HB8 := Lib.hid (HB7.out.trans (hfr8.below HB7.out.size (fun _ h => h.elim)))
            have HG8 := Lib.hid ((hfr8.block _ (lt_of_block HG7.out) id).trans HG7.out)
            clear hb8 hf8 hs8 hfr8
            go_wp2_with (refine load_ptr rfl (.tmp 10) rfl rfl HA8.out HPW.out ?_)
            refine (ptrPut_ok x w1.heap.size w1.heap.size row7 _ _ HW8.out (by have := HW8.out.lt.1; omega) HPW.out (by rw [List.length_append, List.length_append, headB_length, HKL.out]; have := HVL.out n.keys.length; omega)).mono ?_
            rintro e w9 ⟨rfl, hl9⟩
            have hr9 := PutRel.laid HW8.out HB8.out HG8.out hlt1 hl9
            rw [List.append_assoc, ← HKS.out] at hr9
            have HR9 := Lib.hid hr9
            clear hl9 hr9
            go_wp2
            go_roundw
            case rel => exact ⟨j + 1, by omega, by go_num, HR9.out⟩
            case measure => simp [intOf]; omega
          · obtain rfl : j = n.kids.length := by omega
            have hlen : (headB n ++ kvTo n n.keys.length ++ kidsTo n n.kids.length).length = sizeN n := HLn.out
            have hpad := wPad_ok w1.heap.size w1.heap.size 512 row7 (headB n ++ kvTo n n.keys.length ++ kidsTo n n.kids.length) wr HW7.out (by omega) (by omega) (by rw [hlen]; exact HSz.out)
            rw [hlen] at hpad
            have HPad := Lib.hid hpad
            clear hpad hlen
            go_wp2_with fail
            refine HPad.out.mono ?_
            rintro e w8 ⟨rfl, hl8⟩
            obtain ⟨row8, hW8, hB8, hG8, -⟩ := PutRel.laid HW7.out HB7.out HG7.out hlt1 hl8
            have HW8 := Lib.hid hW8
            have HB8 := Lib.hid hB8
            have hle : (headB n ++ kvTo n n.keys.length ++ kidsTo n n.kids.length ++ List.replicate (512 - sizeN n) 0).length = 512 := by
              rw [List.length_append, List.length_replicate]
              have h1 : (headB n ++ kvTo n n.keys.length ++ kidsTo n n.kids.length).length = sizeN n := HLn.out
              have := HSz.out
              omega
            have hby := wBytes_ok w1.heap.size w1.heap.size row8 _ w8 HW8.out (by rw [hle]; omega)
            rw [hle] at hby
            have HBy := Lib.hid hby
            clear hl8 hW8 hB8 hG8 hle hby
            go_wp2_with fail
            refine HBy.out.mono ?_
            rintro e w9 ⟨aa, cc, rfl, hown, hb9⟩
            have HO9 := Lib.hid (hown.base (show w.heap.size ≤ w8.heap.size from HB8.out.size))
            have HB9 := Lib.hid (HB8.out.trans (hb9.mono HB8.out.size))
            clear hown hb9
            go_wp2
            go_ret2
            exact ⟨aa, cc, rfl, HO9.out, HB9.out⟩

end Go.Proofs.YtdmgmpagnmmehaaDoor
