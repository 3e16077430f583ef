/- Walks: two slices of strings, two of pointers, two nodes: are they the same? The program's own. Walk: banyanlaw13.heavy. Walk: banyanlaw13.PoolKeys. How this program's arguments read: bytes, hashes, texts, acts. Helpers: how the cells of what came in read. How an api.Node reads that came in. -/
import Derived.Test.YtkbnkdokcmpcgaaGreatDoorB0
import Derived.Test.YtkbnkdokcmpcgaaGreatDoorB1
import Derived.Test.YtkbnkdokcmpcgaaGreatDoorB6
import Derived.Test.YtkbnkdokcmpcgaaGreatDoorB14
import Derived.Test.YtkbnkdokcmpcgaaGreatDoorB15
import Derived.Test.YtkbnkdokcmpcgaaGreatDoorB16
import Derived.Test.YtkbnkdokcmpcgaaGreatDoorB18
import Derived.Test.YtkbnkdokcmpcgaaGreatDoorB22
import Derived.Deep.Slices
import Derived.SizedLaws
namespace Go.Proofs.YtkbnkdokcmpcgaaGreatDoor
open Go.RowKit

def eqAt {α : Type} (p : α → α → Bool) (a b : List α) (i : Nat) : Bool := match a[i]?, b[i]? with | some x, some y => p x y | _, _ => true
def eqv {α : Type} (p : α → α → Bool) (a b : List α) : Bool := decide (a.length = b.length) && (List.range a.length).all (eqAt p a b)
theorem eqv_len {α : Type} {p : α → α → Bool} {a b : List α} (h : ¬ a.length = b.length) : eqv p a b = false := by unfold eqv; rw [decide_eq_false h]; rfl
theorem eqv_false {α : Type} {p : α → α → Bool} {a b : List α} (hl : a.length = b.length) {i : Nat} (hi : i < a.length) (h : p a[i] (b[i]'(by omega)) = false) : eqv p a b = false := by
  rw [Bool.eq_false_iff]
  intro he
  unfold eqv at he
  simp only [Bool.and_eq_true] at he
  have := List.all_eq_true.1 he.2 i (by simpa using hi)
  unfold eqAt at this
  rw [List.getElem?_eq_getElem hi, List.getElem?_eq_getElem (by omega)] at this
  simp only at this
  rw [h] at this
  cases this
theorem eqv_true {α : Type} {p : α → α → Bool} {a b : List α} (hl : a.length = b.length) (h : ∀ i (h1 : i < a.length) (h2 : i < b.length), p a[i] b[i] = true) : eqv p a b = true := by
  unfold eqv
  rw [decide_eq_true hl, Bool.true_and]
  refine List.all_eq_true.2 fun i hi => ?_
  have hi' : i < a.length := by simpa using hi
  unfold eqAt
  rw [List.getElem?_eq_getElem hi', List.getElem?_eq_getElem (by omega)]
  exact h i hi' (by omega)
theorem eqv_refl {α : Type} {p : α → α → Bool} (hp : ∀ x, p x x = true) (a : List α) : eqv p a a = true := eqv_true rfl (fun _ _ _ => hp _)

def ptEq (p q : Pt) : Bool := decide (p = q)
def sameN (n m : Nd) : Bool := (n.leaf == m.leaf) && eqv sEq n.keys m.keys && eqv sEq n.vals m.vals && eqv ptEq n.kids m.kids
theorem sameN_leaf {n m : Nd} (h : ¬ n.leaf = m.leaf) : sameN n m = false := by unfold sameN; rw [show (n.leaf == m.leaf) = false by simpa using h]; rfl
theorem sameN_keys {n m : Nd} (h : eqv sEq n.keys m.keys = false) : sameN n m = false := by unfold sameN; rw [h]; simp
theorem sameN_vals {n m : Nd} (h : eqv sEq n.vals m.vals = false) : sameN n m = false := by unfold sameN; rw [h]; simp
theorem sameN_kids {n m : Nd} (h0 : n.leaf = m.leaf) (h1 : eqv sEq n.keys m.keys = true) (h2 : eqv sEq n.vals m.vals = true) : sameN n m = eqv ptEq n.kids m.kids := by unfold sameN; rw [h0, h1, h2]; simp
theorem sameN_refl (n : Nd) : sameN n n = true := by
  have hs : ∀ x : ByteArray, sEq x x = true := fun x => (sEq_iff _ _).2 rfl
  rw [sameN_kids rfl (eqv_refl hs _) (eqv_refl hs _)]
  exact eqv_refl (fun x => by unfold ptEq; simp) _

theorem wpQuiet_neq_ptr {ops : Array Oper} {C : World → Prop} {Q : Act → Prop} {rest : List Oper} {o : Oper} {a : Act} (hw : Region.wanted o (yielded ops a.tmps) = true) (x y : Operand) (yt : TypeId) (ho : o.op = .binOp .neq 43 x y yt)
    {p q : Pt} (hx : a.eval x = .agg p.arr) (hy : a.eval y = .agg q.arr) (h1 : p.Wf) (h2 : q.Wf)
    (h : wpQuiet Tryz.prog ops C Q rest (a.put o.dst (.bool (!decide (p = q))))) : wpQuiet Tryz.prog ops C Q (o :: rest) a :=
  BigFrame.wpQuiet_want hw fun K hK => ⟨.bool (!decide (p = q)), fun w _ => by
    unfold Oper.quietAt execOp
    simp only [ho, hx, hy, Sem.run_bind, run_eqGuard_agg w _ _ _ _ _ _ guard_ptr, Result.andThen_ok, run_neq_struct, run_equalIn_ptr p q h1 h2 w]
    exact ⟨rfl, rfl⟩, hK _ h⟩

set_option maxRecDepth 100000 in
set_option maxHeartbeats 2000000 in
theorem eqStrs_any (v1 v2 : Value) (l1 l2 : List ByteArray) (w : World) (h1 : StrsIn w v1 l1) (h2 : StrsIn w v2 l2) (hr : l1.length ≤ 140737488351232) :
    Calls Tryz.prog 71 #[v1, v2] w fun e w' => e = .returned (.bool (eqv sEq l1 l2)) ∧ Below w.heap.size w w' := by
  obtain ⟨a1, c1, rfl, hel1⟩ := h1.open
  obtain ⟨a2, c2, rfl, hel2⟩ := h2.open
  have HE1 := Lib.hid hel1
  have HE2 := Lib.hid hel2
  clear h1 h2 hel1 hel2
  by_cases hl : l1.length = l2.length
  case neg =>
    have HQ := Lib.hid (eqv_len (p := sEq) hl)
    have b1 : ((l1.length : Int) == (l2.length : Int)) = false := by rw [beq_nat]; exact decide_eq_false hl
    have b2 : ¬ (l1.length : Int) = (l2.length : Int) := by omega
    clear hl
    go_enter Tryz.func71, Tryz.ntmps71
    go_wp2
    go_ret
    exact ⟨by rw [HQ.out]; rfl, Below.refl _ _⟩
  case pos =>
    have HL := Lib.hid hl
    rw [← hl]
    clear hl
    go_enter Tryz.func71, Tryz.ntmps71
    go_wp2_with fail
    go_loopw [13, 5] (fun i u wr => ∃ k : Nat, k ≤ l1.length ∧ i = .int .i64 k ∧ (∀ j (h1 : j < l1.length) (h2 : j < l2.length), j < k → sEq l1[j] l2[j] = true) ∧ Below w.heap.size w wr) (fun i _ _ => l1.length - (intOf i).toNat)
    case atStart => exact ⟨0, Nat.zero_le _, rfl, fun j _ _ hj => by omega, Below.refl _ _⟩
    case round =>
      obtain ⟨k, hk, rfl, hz, hb⟩ := hrel
      have HZ := Lib.hid hz
      have HB := Lib.hid hb
      clear hz hb
      rcases Nat.lt_or_ge k l1.length with hlt | hge
      · obtain ⟨b1, o1, rfl, hc1⟩ := HE1.out k hlt
        obtain ⟨b2, o2, rfl, hc2⟩ := HE2.out k (by have := HL.out; omega)
        obtain ⟨s, hs⟩ : ∃ s, s = l1[k]'hlt := ⟨_, rfl⟩
        obtain ⟨t, ht⟩ : ∃ t, t = l2[k]'(by have := HL.out; omega) := ⟨_, rfl⟩
        rw [← hs] at hc1
        rw [← ht] at hc2
        have g1 : wr.cell? ⟨b1, o1 + k, none⟩ = some (.string s) := (HB.out.cell (p := ⟨b1, o1 + k, none⟩) (World.block_lt_of_cell? w _ hc1)).trans hc1
        have g2 : wr.cell? ⟨b2, o2 + k, none⟩ = some (.string t) := (HB.out.cell (p := ⟨b2, o2 + k, none⟩) (World.block_lt_of_cell? w _ hc2)).trans hc2
        clear hc1 hc2
        have HS := Lib.hid hs
        have HT := Lib.hid ht
        clear hs ht
        cases hE : sEq s t with
        | true =>
          have HE := Lib.hid hE
          obtain rfl : s = t := (sEq_iff _ _).1 hE
          clear hE
          go_wp2_with fail
          go_quiet (fail)
          go_wp2
          go_roundw
          case rel =>
            refine ⟨k + 1, by omega, by go_num, fun j h1 h2 hj => ?_, Below_drewN HB.out _⟩
            rcases Nat.lt_or_ge j k with h | h
            · exact HZ.out j h1 h2 h
            · obtain rfl : j = k := by omega
              rw [← HS.out, ← HT.out]; exact HE.out
          case measure => simp [intOf]; omega
        | false =>
          have HQ := Lib.hid (show eqv sEq l1 l2 = false from eqv_false HL.out hlt (by rw [← HS.out, ← HT.out]; exact hE))
          have e1 : (s.toList == t.toList) = false := hE
          have e2 : ¬ s.toList = t.toList := by simpa using e1
          clear hE
          go_wp2_with fail
          go_quiet (fail)
          go_wp2
          go_ret
          exact ⟨by rw [HQ.out]; rfl, Below_drewN HB.out _⟩
      · obtain rfl : k = l1.length := by omega
        have HQ := Lib.hid (show eqv sEq l1 l2 = true from eqv_true HL.out (fun i h1 h2 => HZ.out i h1 h2 h1))
        go_wp2
        go_ret
        exact ⟨by rw [HQ.out]; rfl, HB.out⟩

set_option maxRecDepth 100000 in
set_option maxHeartbeats 2000000 in
theorem eqPtrs_any (v1 v2 : Value) (l1 l2 : List Pt) (w : World) (h1 : PtsIn w v1 l1) (h2 : PtsIn w v2 l2) (hr : l1.length ≤ 4139337892682) :
    Calls Tryz.prog 72 #[v1, v2] w fun e w' => e = .returned (.bool (eqv ptEq l1 l2)) ∧ Below w.heap.size w w' := by
  have HW1 := Lib.hid h1.wf
  have HW2 := Lib.hid h2.wf
  obtain ⟨a1, c1, rfl, hel1⟩ := h1.open
  obtain ⟨a2, c2, rfl, hel2⟩ := h2.open
  have HE1 := Lib.hid hel1
  have HE2 := Lib.hid hel2
  clear h1 h2 hel1 hel2
  by_cases hl : l1.length = l2.length
  case neg =>
    have HQ := Lib.hid (eqv_len (p := ptEq) hl)
    have b1 : ((l1.length : Int) == (l2.length : Int)) = false := by rw [beq_nat]; exact decide_eq_false hl
    have b2 : ¬ (l1.length : Int) = (l2.length : Int) := by omega
    clear hl
    go_enter Tryz.func72, Tryz.ntmps72
    go_wp2
    go_ret
    exact ⟨by rw [HQ.out]; rfl, Below.refl _ _⟩
  case pos =>
    have HL := Lib.hid hl
    rw [← hl]
    clear hl
    go_enter Tryz.func72, Tryz.ntmps72
    go_wp2_with fail
    go_loopw [13, 5] (fun i u wr => ∃ k : Nat, k ≤ l1.length ∧ i = .int .i64 k ∧ (∀ j (h1 : j < l1.length) (h2 : j < l2.length), j < k → ptEq l1[j] l2[j] = true) ∧ Below w.heap.size w wr) (fun i _ _ => l1.length - (intOf i).toNat)
    case atStart => exact ⟨0, Nat.zero_le _, rfl, fun j _ _ hj => by omega, Below.refl _ _⟩
    case round =>
      obtain ⟨k, hk, rfl, hz, hb⟩ := hrel
      have HZ := Lib.hid hz
      have HB := Lib.hid hb
      clear hz hb
      rcases Nat.lt_or_ge k l1.length with hlt | hge
      · obtain ⟨b1, o1, rfl, hc1⟩ := HE1.out k hlt
        obtain ⟨b2, o2, rfl, hc2⟩ := HE2.out k (by have := HL.out; omega)
        obtain ⟨s, hs⟩ : ∃ s, s = l1[k]'hlt := ⟨_, rfl⟩
        obtain ⟨t, ht⟩ : ∃ t, t = l2[k]'(by have := HL.out; omega) := ⟨_, rfl⟩
        rw [← hs] at hc1
        rw [← ht] at hc2
        have HU1 := Lib.hid (fun w' (hw : ∃ u : Wd wr.heap.size wr, w' = u.to) => (by obtain ⟨u, rfl⟩ := hw; exact u.at (hc1.fr (Fr.of_below (S := fun _ => False) HB.out) id) : At w' b1 (o1 + k * 34) s.cells))
        have HU2 := Lib.hid (fun w' (hw : ∃ u : Wd wr.heap.size wr, w' = u.to) => (by obtain ⟨u, rfl⟩ := hw; exact u.at (hc2.fr (Fr.of_below (S := fun _ => False) HB.out) id) : At w' b2 (o2 + k * 34) t.cells))
        have HWs := Lib.hid (show s.Wf by rw [hs]; exact HW1.out _ (List.getElem_mem _))
        have HWt := Lib.hid (show t.Wf by rw [ht]; exact HW2.out _ (List.getElem_mem _))
        clear hc1 hc2
        have HS := Lib.hid hs
        have HT := Lib.hid ht
        clear hs ht
        go_wp2_with fail
        refine wp_region_wd wr.heap.size (by kernel_rfl) (by kernel_rfl) ?_
        repeat (first
          | (refine wpQuiet_load_at rfl 43 (.tmp 18) rfl b1 (o1 + k * 34) rfl _ _ HU1.out Tryz.underlying43 rfl (by rw [info_ptr, HWs.out.len]) ?_; simp only [Act.put, List.setIfInBounds_toArray, List.set_cons_succ, List.set_cons_zero])
          | (refine wpQuiet_load_at rfl 43 (.tmp 22) rfl b2 (o2 + k * 34) rfl _ _ HU2.out Tryz.underlying43 rfl (by rw [info_ptr, HWt.out.len]) ?_; simp only [Act.put, List.setIfInBounds_toArray, List.set_cons_succ, List.set_cons_zero])
          | (refine wpQuiet_neq_ptr rfl (.tmp 19) (.tmp 23) _ rfl rfl rfl HWs.out HWt.out ?_; simp only [Act.put, List.setIfInBounds_toArray, List.set_cons_succ, List.set_cons_zero])
          | go_big_quiet_step (fail))
        refine wpQuiet_nil ?_
        rintro _ ⟨⟨w2, hb2⟩, rfl⟩
        have HB2 := Lib.hid (HB.out.trans (hb2.mono HB.out.size))
        clear hb2
        cases hE : ptEq s t with
        | true =>
          have HE := Lib.hid hE
          rw [show (!decide (s = t)) = false by unfold ptEq at hE; rw [hE]; rfl]
          clear hE
          go_wp2
          go_roundw
          case rel =>
            refine ⟨k + 1, by omega, by go_num, fun j h1 h2 hj => ?_, HB2.out⟩
            rcases Nat.lt_or_ge j k with h | h
            · exact HZ.out j h1 h2 h
            · obtain rfl : j = k := by omega
              rw [← HS.out, ← HT.out]; exact HE.out
          case measure => simp [intOf]; omega
        | false =>
          have HQ := Lib.hid (show eqv ptEq l1 l2 = false from eqv_false HL.out hlt (by rw [← HS.out, ← HT.out]; exact hE))
          rw [show (!decide (s = t)) = true by unfold ptEq at hE; rw [hE]; rfl]
          clear hE
          go_wp2
          go_ret
          exact ⟨by rw [HQ.out]; rfl, HB2.out⟩
      · obtain rfl : k = l1.length := by omega
        have HQ := Lib.hid (show eqv ptEq l1 l2 = true from eqv_true HL.out (fun i h1 h2 => HZ.out i h1 h2 h1))
        go_wp2
        go_ret
        exact ⟨by rw [HQ.out]; rfl, HB.out⟩

set_option maxRecDepth 100000 in
set_option maxHeartbeats 4000000 in
theorem nodeSame_any (arr1 arr2 : Array Value) (n m : Nd) (w : World) (h1 : NdIs w arr1 n) (h2 : NdIs w arr2 m) (hf : n.Fits) (_hg : m.Fits) :
    Calls Tryz.prog 23 #[.agg arr1, .agg arr2] w fun e w' => e = .returned (.bool (sameN n m)) ∧ Below w.heap.size w w' := by
  obtain ⟨ak, ck, av, cv, ap, cp, rfl, hk, hv, hp⟩ := h1.get
  obtain ⟨bk, dk, bv, dv, bp, dp, rfl, jk, jv, jp⟩ := h2.get
  have hb0 : Below w.heap.size w ((w.alloc (.cells #[.bool n.leaf, .slice ak n.keys.length ck, .slice av n.vals.length cv, .slice ap n.kids.length cp] 25)).alloc (.cells #[.bool m.leaf, .slice bk m.keys.length dk, .slice bv m.vals.length dv, .slice bp m.kids.length dp] 25)) := ((Below.refl _ w).alloc (Nat.le_refl _) _).alloc (by simp) _
  have HB := Lib.hid hb0
  have HK := Lib.hid (fun (w' : World) (hb : Below w.heap.size w w') => (hk.below hb : StrsIn w' (.slice ak n.keys.length ck) n.keys))
  have HV := Lib.hid (fun (w' : World) (hb : Below w.heap.size w w') => (hv.below hb : StrsIn w' (.slice av n.vals.length cv) n.vals))
  have HP := Lib.hid (fun (w' : World) (hb : Below w.heap.size w w') => (hp.below hb : PtsIn w' (.slice ap n.kids.length cp) n.kids))
  have JK := Lib.hid (fun (w' : World) (hb : Below w.heap.size w w') => (jk.below hb : StrsIn w' (.slice bk m.keys.length dk) m.keys))
  have JV := Lib.hid (fun (w' : World) (hb : Below w.heap.size w w') => (jv.below hb : StrsIn w' (.slice bv m.vals.length dv) m.vals))
  have JP := Lib.hid (fun (w' : World) (hb : Below w.heap.size w w') => (jp.below hb : PtsIn w' (.slice bp m.kids.length dp) m.kids))
  have HT := Lib.hid (At_nd (heap_alloc2_old w (.cells #[.bool n.leaf, .slice ak n.keys.length ck, .slice av n.vals.length cv, .slice ap n.kids.length cp] 25) (.cells #[.bool m.leaf, .slice bk m.keys.length dk, .slice bv m.vals.length dv, .slice bp m.kids.length dp] 25)))
  have HT' := Lib.hid (At_nd (heap_alloc2_new w (.cells #[.bool n.leaf, .slice ak n.keys.length ck, .slice av n.vals.length cv, .slice ap n.kids.length cp] 25) (.cells #[.bool m.leaf, .slice bk m.keys.length dk, .slice bv m.vals.length dv, .slice bp m.kids.length dp] 25)))
  have HF := Lib.hid hf
  clear h1 h2 hk hv hp jk jv jp hb0 hf _hg
  go_enter Tryz.func23, Tryz.ntmps23
  by_cases hL : n.leaf = m.leaf
  case neg =>
    have HQ := Lib.hid (sameN_leaf hL)
    have e1 : (n.leaf == m.leaf) = false := by simpa using hL
    clear hL
    go_wp2
    go_ret
    exact ⟨by rw [HQ.out]; rfl, HB.out⟩
  case pos =>
    have HL := Lib.hid hL
    have e1 : (n.leaf == m.leaf) = true := by simpa using hL
    clear hL
    go_wp2_with fail
    refine (eqStrs_any _ _ _ _ _ (HK.out _ HB.out) (JK.out _ HB.out) HF.out.keys).mono ?_
    rintro e w1 ⟨rfl, hb1⟩
    have HB1 := Lib.hid (HB.out.trans (hb1.mono HB.out.size))
    have HT1 := HT.out.fr (Fr.of_below (S := fun _ => False) hb1) id
    have HT1' := HT'.out.fr (Fr.of_below (S := fun _ => False) hb1) id
    have c2 : w1.cell? ⟨w.heap.size, 2, none⟩ = some (.slice av n.vals.length cv) := by simpa using HT1 2 _ rfl
    have d2 : w1.cell? ⟨w.heap.size + 1, 2, none⟩ = some (.slice bv m.vals.length dv) := by simpa using HT1' 2 _ rfl
    replace HT1 := Lib.hid HT1
    replace HT1' := Lib.hid HT1'
    clear hb1
    cases hE : eqv sEq n.keys m.keys with
    | false =>
      have HQ := Lib.hid (sameN_keys hE)
      clear hE
      go_wp2
      go_ret
      exact ⟨by rw [HQ.out]; rfl, HB1.out⟩
    | true =>
      have HE := Lib.hid hE
      clear hE
      go_wp2_with fail
      refine (eqStrs_any _ _ _ _ _ (HV.out _ HB1.out) (JV.out _ HB1.out) HF.out.vals).mono ?_
      rintro e w2 ⟨rfl, hb2⟩
      have HB2 := Lib.hid (HB1.out.trans (hb2.mono HB1.out.size))
      have HT2 := HT1.out.fr (Fr.of_below (S := fun _ => False) hb2) id
      have HT2' := HT1'.out.fr (Fr.of_below (S := fun _ => False) hb2) id
      have c3 : w2.cell? ⟨w.heap.size, 3, none⟩ = some (.slice ap n.kids.length cp) := by simpa using HT2 3 _ rfl
      have d3 : w2.cell? ⟨w.heap.size + 1, 3, none⟩ = some (.slice bp m.kids.length dp) := by simpa using HT2' 3 _ rfl
      replace HT2 := Lib.hid HT2
      replace HT2' := Lib.hid HT2'
      clear hb2 c2 d2
      cases hE : eqv sEq n.vals m.vals with
      | false =>
        have HQ := Lib.hid (sameN_vals hE)
        clear hE
        go_wp2
        go_ret
        exact ⟨by rw [HQ.out]; rfl, HB2.out⟩
      | true =>
        have HE' := Lib.hid hE
        clear hE
        go_wp2_with fail
        refine (eqPtrs_any _ _ _ _ _ (HP.out _ HB2.out) (JP.out _ HB2.out) HF.out.kids).mono ?_
        rintro e w3 ⟨rfl, hb3⟩
        have HB3 := Lib.hid (HB2.out.trans (hb3.mono HB2.out.size))
        have HQ := Lib.hid (sameN_kids HL.out HE.out HE'.out)
        clear hb3 c3 d3
        go_wp2
        go_ret
        exact ⟨by rw [HQ.out]; rfl, HB3.out⟩

end Go.Proofs.YtkbnkdokcmpcgaaGreatDoor

namespace Go.Proofs.YtkbnkdokcmpcgaaGreatDoor
open Go.RowKit

end Go.Proofs.YtkbnkdokcmpcgaaGreatDoor
namespace Go.Proofs.YtkbnkdokcmpcgaaGreatDoor
open Go.RowKit

def heavy13 (n : Nd) : Bool := decide (3000 < wrap64 (costN n)) || decide (200 < (n.keys.length : Int)) || decide (200 < (n.vals.length : Int))

set_option maxRecDepth 100000 in
set_option maxHeartbeats 2000000 in
theorem heavy_any (arr : Array Value) (n : Nd) (w : World) (h : NdIs w arr n) (hf : n.Fits) :
    Calls Tryz.prog 16 #[.agg arr] w fun e w' => e = .returned (.bool (heavy13 n)) ∧ Below w.heap.size w w' := by
  obtain ⟨ak, ck, av, cv, ap, cp, rfl, hk, hv, hp⟩ := h.get
  have hb0 : Below w.heap.size w (w.alloc (.cells #[.bool n.leaf, .slice ak n.keys.length ck, .slice av n.vals.length cv, .slice ap n.kids.length cp] 25)) := (Below.refl _ w).alloc (Nat.le_refl _) _
  have HK := Lib.hid (hk.below hb0)
  have HV := Lib.hid (hv.below hb0)
  have HB := Lib.hid hb0
  have b1 := hf.keys
  have b2 := hf.vals
  have b3 := hf.kids
  obtain ⟨A0, hA0⟩ : ∃ A0 : Int, A0 = 44 * (n.kids.length : Int) := ⟨_, rfl⟩
  have ew : (n.kids.length : Int) * 44 = A0 := by omega
  have ew2 : wrap64 A0 = A0 := by unfold wrap64; omega
  obtain ⟨A1, hA1⟩ : ∃ A1 : Int, A1 = A0 + lenS n.keys := ⟨_, rfl⟩
  have HA0 := Lib.hid hA0
  have HA1 := Lib.hid hA1
  clear h hk hv hp hb0 hf hA0 hA1
  go_enter Tryz.func16, Tryz.ntmps16
  go_wp2_with fail
  go_loop [3, 15] (fun x i => ∃ k : Nat, k ≤ n.keys.length ∧ i = .int .i64 k ∧ x = .int .i64 (wrap64 (A0 + lenS (n.keys.take k)))) (fun _ i => n.keys.length - (intOf i).toNat)
  case atStart => exact ⟨0, Nat.zero_le _, rfl, by simp [lenS, ew2]⟩
  case round =>
    obtain ⟨k, hk, rfl, rfl⟩ := hrel
    rcases Nat.lt_or_ge k n.keys.length with hlt | hge
    · obtain ⟨a', c', e', hel⟩ := HK.out.open
      simp only [Value.slice.injEq, true_and] at e'
      obtain ⟨rfl, rfl⟩ := e'
      obtain ⟨b, o, rfl, hc⟩ := hel k hlt
      have HS := Lib.hid (lenS_step n.keys k hlt)
      clear hel
      go_wp2
      go_round
      case rel => exact ⟨k + 1, by omega, by go_num, by rw [HS.out]; simp only [wrap64_add', Int.add_assoc]⟩
      case measure => simp [intOf]; omega
    · obtain rfl : k = n.keys.length := by omega
      have e1 : A0 + lenS (n.keys.take n.keys.length) = A1 := by rw [List.take_length, HA1.out]
      rw [e1]
      clear e1
      go_wp2_with fail
      go_loop [3, 27] (fun x i => ∃ k : Nat, k ≤ n.vals.length ∧ i = .int .i64 k ∧ x = .int .i64 (wrap64 (A1 + lenS (n.vals.take k)))) (fun _ i => n.vals.length - (intOf i).toNat)
      case atStart => exact ⟨0, Nat.zero_le _, rfl, by simp [lenS]⟩
      case round =>
        obtain ⟨k, hk, rfl, rfl⟩ := hrel
        rcases Nat.lt_or_ge k n.vals.length with hlt | hge
        · obtain ⟨a', c', e', hel⟩ := HV.out.open
          simp only [Value.slice.injEq, true_and] at e'
          obtain ⟨rfl, rfl⟩ := e'
          obtain ⟨b, o, rfl, hc⟩ := hel k hlt
          have HS := Lib.hid (lenS_step n.vals k hlt)
          clear hel
          go_wp2
          go_round
          case rel => exact ⟨k + 1, by omega, by go_num, by rw [HS.out]; simp only [wrap64_add', Int.add_assoc]⟩
          case measure => simp [intOf]; omega
        · obtain rfl : k = n.vals.length := by omega
          have e2 : A1 + lenS (n.vals.take n.vals.length) = costN n := by rw [List.take_length, HA1.out, HA0.out]; rfl
          rw [e2]
          clear e2
          obtain ⟨Z, hZ⟩ : ∃ Z, Z = wrap64 (costN n) := ⟨_, rfl⟩
          rw [← hZ]
          have HZ := Lib.hid (show heavy13 n = (decide (3000 < Z) || decide (200 < (n.keys.length : Int)) || decide (200 < (n.vals.length : Int))) by rw [hZ]; rfl)
          clear hZ
          by_cases z1 : 3000 < Z
          · go_wp2
            go_ret
            exact ⟨by rw [HZ.out]; simp [z1], HB.out⟩
          · by_cases z2 : (200 : Int) < (n.keys.length : Int)
            · go_wp2
              go_ret
              exact ⟨by rw [HZ.out]; simp [z2], HB.out⟩
            · by_cases z3 : (200 : Int) < (n.vals.length : Int)
              · go_wp2
                go_ret
                exact ⟨by rw [HZ.out]; simp [z3], HB.out⟩
              · go_wp2
                go_ret
                exact ⟨by rw [HZ.out]; simp [z1, z2, z3], HB.out⟩

end Go.Proofs.YtkbnkdokcmpcgaaGreatDoor
namespace Go.Proofs.YtkbnkdokcmpcgaaGreatDoor
open Go.RowKit

theorem getE_cases {xs : List UInt8} (h : xs.length = 512) : getE xs = 0 ∨ getE xs = 4 := by
  unfold getE; rw [if_pos h]; split; (· exact Or.inl rfl); (· exact Or.inr rfl)
theorem run_eql_key (xs ys : List UInt8) (h1 : xs.length = 32) (h2 : ys.length = 32) (w : World) :
    (binOp .eql 32 (.agg (xs.map Bv).toArray) (.agg (ys.map Bv).toArray)).run Tryz.prog w = .ok (.bool (decide (xs = ys))) w := by
  obtain ⟨i0, hi, hz0, hz1, hz2⟩ := info_parts info_u8
  rw [run_eql_struct, run_equalIn_array w 9999 _ _ Tryz.underlying32 hi]
  have hc : Tryz.prog.cellsOf 5 = 1 := by kernel_rfl
  rw [hc, run_eqItems_u8 9998 xs ys w _ (fun i hi => by have := List.mem_range.1 hi; omega)]
  simp [Result.andThen, all_same xs ys 32 h1 h2]
theorem guard_key : Tryz.prog.eqGuardType Tryz.prog.depth 32 = false := by kernel_rfl
theorem eql_key {ops : Array Oper} {rest : List Oper} {o : Oper} {a : Act} {w : World} {Q : Exit → Act → World → Prop} (hgd : o.guard = none) (x y : Operand) (yt : TypeId) (ho : o.op = .binOp .eql 32 x y yt)
    {xs ys : List UInt8} (hx : a.eval x = .agg (xs.map Bv).toArray) (hy : a.eval y = .agg (ys.map Bv).toArray) (h1 : xs.length = 32) (h2 : ys.length = 32)
    (hK : wpList Tryz.prog ops Q rest (a.put o.dst (.bool (decide (xs = ys)))) w) : wpList Tryz.prog ops Q (o :: rest) a w := by
  refine wpList_plain hgd fun K hKK => ?_
  unfold Oper.wp execOp
  simp only [ho, hx, hy, Sem.run_bind, run_eqGuard_agg w _ _ _ _ _ _ guard_key, Result.andThen_ok, run_eql_key xs ys h1 h2 w]
  exact hKK _ _ hK
theorem checkE_le {n : Nd} (h : formB n = true) (hs : sizeN n ≤ 512) : n.keys.length ≤ 255 := by
  have hfo := formB_ok h
  have hkl := strsN_ge n.keys (fun s hs => (hfo.keyS s hs).1)
  unfold sizeN at hs; omega

set_option maxRecDepth 100000 in
set_option maxHeartbeats 8000000 in
theorem poolKeys_any (arr : Array Value) (n : Nd) (v : Value) (bs : List UInt8) (w : World) (h : NdIs w arr n) (hf : n.Fits) (hb : Sl w 1 v bs.length (bs.map Bv)) (hT : Tz w) :
    Calls Tryz.prog 3 #[.agg arr, v] w fun e w' => e = .returned (.bool true) ∧ Below w.heap.size w w' := by
  obtain ⟨a1, c1, rfl, _⟩ := hb.len
  have hb0 : Below w.heap.size w (w.alloc (.cells arr 25)) := (Below.refl _ w).alloc (Nat.le_refl _) _
  have HB0 := Lib.hid hb0
  have HN0 := Lib.hid (h.below hb0)
  have HS0 := Lib.hid (hb.below hb0)
  have HT0 := Lib.hid (hT.below hb0)
  have HSZ := Lib.hid h.size
  have HF := Lib.hid hf
  have HWf := Lib.hid (show ∀ p ∈ n.kids, p.Wf by obtain ⟨_, _, _, _, _, _, _, _, _, hp⟩ := h.get; exact hp.wf)
  have HA0 := Lib.hid (heap_alloc_new w (.cells arr 25))
  clear h hf hb hT hb0
  go_enter Tryz.func3, Tryz.ntmps3
  go_wp2_with fail
  refine (alive13 _ HT0.out).mono ?_
  rintro e w1 ⟨rfl, hb1⟩
  have HB1 := Lib.hid (HB0.out.trans (hb1.mono HB0.out.size))
  have HN1 := Lib.hid (HN0.out.below hb1)
  have HS1 := Lib.hid (HS0.out.below hb1)
  have HT1 := Lib.hid (HT0.out.below hb1)
  have HA1 := Lib.hid ((hb1.block _ (lt_of_block HA0.out)).trans HA0.out)
  clear hb1 HB0 HN0 HS0 HT0 HA0
  go_wp2_with (refine load_nd rfl (.tmp 2) rfl rfl (At_nd HA1.out) HSZ.out ?_)
  refine (heavy_any _ n w1 HN1.out HF.out).mono ?_
  rintro e w2 ⟨rfl, hb2⟩
  have HB2 := Lib.hid (HB1.out.trans (hb2.mono HB1.out.size))
  have HN2 := Lib.hid (HN1.out.below hb2)
  have HS2 := Lib.hid (HS1.out.below hb2)
  have HT2 := Lib.hid (HT1.out.below hb2)
  have HA2 := Lib.hid ((hb2.block _ (lt_of_block HA1.out)).trans HA1.out)
  clear hb2 HB1 HN1 HS1 HT1 HA1
  cases hhv : heavy13 n with
  | true =>
    clear hhv
    go_wp2
    go_ret
    exact ⟨rfl, HB2.out⟩
  | false =>
    clear hhv
    by_cases hl : (100 : Int) < (bs.length : Int)
    · go_wp2
      go_ret
      exact ⟨rfl, HB2.out⟩
    · have HLn := Lib.hid (show bs.length ≤ 100 by omega)
      go_wp2_with fail
      refine (made_ps 16 w2 (by decide) (by decide)).mono ?_
      rintro e w3 ⟨P, D, S, W, lo, rfl, hps, hb3⟩
      obtain ⟨ks, hks⟩ : ∃ ks, ks = MK := ⟨_, rfl⟩
      rw [← hks] at hps ⊢
      have HKs := Lib.hid hks
      have HKl := Lib.hid (show ks.length = 64 by rw [hks]; exact MK_length)
      have HP3 := Lib.hid (hps w2.heap.size (Nat.le_refl _))
      have HX3 := Lib.hid hb3
      clear hks hps hb3 hl
      go_wp2_with (refine wpList_store_row rfl _ (.tmp 7) (.tmp 29) rfl w3.heap.size rfl (ks.map Bv) rfl _ _ (heap_alloc_new w3 (.cells ((zB 64).map Bv).toArray 35)) (by rw [List.length_map, HKl.out]; rfl) (Bv_oneCell _) (by rw [info_keys, List.length_map, HKl.out]) ?_; intro w4 hg hf hs; have HGw4 := Lib.hid hg; have HBww4 := Lib.hid (show Below w3.heap.size w3 w4 from ((Below.refl _ w3).alloc (Nat.le_refl _) _).trans (hf.below (by simp) (fun j hj => by omega))); clear hg hf hs)
      have HP4 := Lib.hid (HP3.out.add HBww4.out HGw4.out (Nat.le_refl _))
      have HX4 := Lib.hid (HX3.out.trans (HBww4.out.mono HX3.out.size))
      clear HP3 HX3 HGw4 HBww4
      refine (begin_ps w2.heap.size P D S W lo 0 ks noneT _ _ w4 1 HP4.out HX4.out.size (by decide) (by decide)).mono ?_
      rintro e w5 ⟨rfl, hp5, hx5⟩
      have HP5 := Lib.hid hp5
      have HX5 := Lib.hid (HX4.out.trans hx5)
      clear hp5 hx5 HP4 HX4
      have HA5 := Lib.hid ((HX5.out.block _ (lt_of_block HA2.out)).trans HA2.out)
      go_wp2_with (refine load_nd rfl (.tmp 2) rfl rfl (At_nd HA5.out) HSZ.out ?_)
      by_cases hc : checkE n = 0
      · obtain ⟨hfo, hsz⟩ := checkE_split.1 hc
        clear hc
        have HFo := Lib.hid hfo
        have HSi := Lib.hid hsz
        clear hfo hsz
        refine (write_ps_ok w2.heap.size P D S W lo 1 ks noneT _ _ w5 arr n HP5.out HX5.out.size (HN2.out.below HX5.out) (HT2.out.below HX5.out) (by decide) HF.out HFo.out HSi.out 2 (by decide) rfl (step_up (d := Dv.new 16) rfl).1 (by decide)).mono ?_
        rintro e w6 ⟨rfl, hp6, hx6⟩
        obtain ⟨c, hc⟩ : ∃ c, c = cryptB (ks.take 32) (nonceB 1 2) (nodeB n) := ⟨_, rfl⟩
        obtain ⟨p, hp⟩ : ∃ p, p = sealP ks 1 2 (nodeB n) := ⟨_, rfl⟩
        have HPv := Lib.hid (show p.addr = 2 ∧ p.birth = 1 ∧ p.sum = hashN c by rw [hp, hc]; exact ⟨rfl, rfl, rfl⟩)
        have HPw := Lib.hid (show p.Wf by rw [hp]; exact sealP_wf _ _ _ _ (by decide) (by decide))
        rw [← hc] at hp6
        obtain ⟨d1, hd1⟩ : ∃ d, d = (Dv.new 16).step.wrote 2 c := ⟨_, rfl⟩
        rw [← hd1] at hp6
        have H1 := Lib.hid (show d1.size = 16 ∧ d1.down = false ∧ d1.waits.length = 1 ∧ d1.cur 2 = c by
          refine ⟨by rw [hd1]; rfl, ?_, by rw [hd1]; rfl, by rw [hd1, Dv.cur_wrote, if_pos rfl]⟩
          rw [hd1]; exact (step_up (d := Dv.new 16) rfl).1)
        rw [← hp]
        have HCv := Lib.hid hc
        have HP6 := Lib.hid hp6
        have HX6 := Lib.hid (HX5.out.trans hx6)
        clear hp hc hd1 hp6 hx6 HP5 HX5 HA5
        go_wp2_with (refine store_ptr rfl (.tmp 9) (.tmp 42) rfl rfl (p := p) rfl (heap_alloc_new w6 (.cells Pt.zero.arr 43)) Pt.zero_wf.size HPw.out ?_; intro w7 hg hf hs; have HGw7 := Lib.hid hg; have HBww7 := Lib.hid (show Below w6.heap.size w6 w7 from ((Below.refl _ w6).alloc (Nat.le_refl _) _).trans (hf.below (by simp) (fun j hj => by omega))); clear hg hf hs)
        have HP7 := Lib.hid (HP6.out.add HBww7.out HGw7.out (Nat.le_refl _))
        have HX7 := Lib.hid (HX6.out.trans (HBww7.out.mono HX6.out.size))
        clear HP6 HX6 HGw7 HBww7
        refine (derive_any (.slice a1 bs.length c1) bs w7 (HS2.out.below HX7.out) (by have := HLn.out; omega)).mono ?_
        rintro e w8 ⟨rfl, hb8⟩
        obtain ⟨ot, hot⟩ : ∃ ot, ot = keysOf bs := ⟨_, rfl⟩
        rw [← hot]
        have HOl := Lib.hid (show ot.length = 64 by rw [hot]; exact keysOf_length _)
        have HP8 := Lib.hid (HP7.out.below hb8)
        have HX8 := Lib.hid (HX7.out.trans (hb8.mono HX7.out.size))
        clear hot hb8 HP7 HX7
        go_wp2_with (first | (refine wpList_store_row rfl _ (.tmp 11) (.tmp 47) rfl w8.heap.size rfl (ot.map Bv) rfl _ _ (heap_alloc_new w8 (.cells ((zB 64).map Bv).toArray 35)) (by rw [List.length_map, HOl.out]; rfl) (Bv_oneCell _) (by rw [info_keys, List.length_map, HOl.out]) ?_; intro w9 hg hf hs; have HGw9 := Lib.hid hg; have HBww9 := Lib.hid (show Below w8.heap.size w8 w9 from ((Below.refl _ w8).alloc (Nat.le_refl _) _).trans (hf.below (by simp) (fun j hj => by omega))); clear hg hf hs) | (refine wpList_load_at rfl _ (.tmp 11) rfl w8.heap.size 0 rfl (ot.map Bv) _ (At.of_row HGw9.out) Tryz.underlying35 rfl (by rw [info_keys, List.length_map, HOl.out]) ?_))
        have HP9 := Lib.hid (HP8.out.add HBww9.out HGw9.out (Nat.le_refl _))
        have HX9 := Lib.hid (HX8.out.trans (HBww9.out.mono HX8.out.size))
        clear HP8 HX8 HGw9 HBww9
        have hD0 : w9.cell? ⟨D, 0, none⟩ = some (.int .i64 ((16 : Nat) : Int)) := by
          obtain ⟨F, L, T, wv, h1, _⟩ := HP9.out.dv
          have := h1.cells.1
          rwa [H1.out.1] at this
        refine (poNew_ok D 16 ot w9 hD0 (by decide) (by decide) HOl.out).mono ?_
        rintro e w10 ⟨P2, S2, W2, rfl, hq10, hge10, hb10⟩
        have HQ10 := Lib.hid (show PlAt w10 P2 D S2 W2 d1.size ot noneT 0 by rw [H1.out.1]; exact hq10)
        have HP10 := Lib.hid (HP9.out.below hb10)
        have HX10 := Lib.hid (HX9.out.trans (hb10.mono HX9.out.size))
        have HG10 := Lib.hid (show w10.heap[w6.heap.size]? = some (.cells p.cells.toArray 43 (0, 0)) from HP10.out.row (List.mem_cons_of_mem _ List.mem_cons_self))
        clear hq10 hge10 hb10 hD0 HP9 HX9
        go_wp2_with (refine load_ptr rfl (.tmp 9) rfl rfl (At.of_row HG10.out) HPw.out ?_)
        have hpe : ptrE p d1.size = 0 := by
          rw [H1.out.1]
          refine ptrE_ok ?_
          unfold ptrOk
          rw [if_neg (by rw [HPv.out.1]; decide), HPv.out.1, HPv.out.2.1]; decide
        have hcur : hashN (d1.cur p.addr) = p.sum := by rw [HPv.out.1, H1.out.2.2.2, HPv.out.2.2]
        obtain ⟨F, hdv⟩ := HP10.out.dv
        have hrd := poRead_any P2 D S2 W2 0 lo ot noneT F d1 p w10 HQ10.out hdv HPw.out (by rw [HPv.out.1]; decide) hpe (by rw [H1.out.2.2.1]; decide)
        refine hrd.mono ?_
        clear hrd
        rintro e w11 hpost
        obtain ⟨arr2, rfl, hnd, hb11⟩ := hpost.get H1.out.2.1 hcur
        obtain ⟨xs, hxs⟩ : ∃ xs, xs = openB ot d1 p := ⟨_, rfl⟩
        rw [← hxs] at hnd
        rw [← hxs]
        have hxo : xs = cryptB (ot.take 32) (nonceB 1 2) c := by rw [hxs]; unfold openB; rw [HPv.out.1, HPv.out.2.1, H1.out.2.2.2]
        have hcl : c.length = 512 := by rw [HCv.out, cryptB_length _ _ _ (by rw [List.length_take, HKl.out]; rfl) (nonceB_length _ _)]; exact nodeB_length HFo.out HWf.out HSi.out
        have HXl := Lib.hid (show xs.length = 512 by rw [hxo, cryptB_length _ _ _ (by rw [List.length_take, HOl.out]; rfl) (nonceB_length _ _), hcl])
        have HXo := Lib.hid hxo
        have HNd := Lib.hid hnd
        have HP11 := Lib.hid (HP10.out.below hb11)
        have HX11 := Lib.hid (HX10.out.trans (hb11.mono HX10.out.size))
        have HSz2 := Lib.hid hnd.size
        clear hnd hb11 hxo hxs hcl hcur hpe hpost hdv HQ10 HP10 HX10 HG10
        obtain ⟨ex, hex⟩ : ∃ ex, ex = getE xs := ⟨_, rfl⟩
        rw [← hex]
        have HEx := Lib.hid hex
        clear hex
        obtain ⟨oe, hoe⟩ : ∃ x, x = ot.take 32 := ⟨_, rfl⟩
        obtain ⟨ke, hke⟩ : ∃ x, x = ks.take 32 := ⟨_, rfl⟩
        have HOe := Lib.hid (show oe.length = 32 by rw [hoe, List.length_take, HOl.out]; rfl)
        have HKe := Lib.hid (show ke.length = 32 by rw [hke, List.length_take, HKl.out]; rfl)
        rw [← hoe] at HXo
        rw [← hke] at HCv
        have HOt := Lib.hid hoe
        have HKt := Lib.hid hke
        clear hoe hke
        have HC := Lib.hid (show oe = ke → ex = 0 ∧ getN xs = n from fun hk => by
          have hxo := HXo.out
          rw [hk, HCv.out, cryptB_twice _ _ _ HKe.out (nonceB_length _ _)] at hxo
          have := nodeB_get HFo.out HSi.out (checkE_le HFo.out HSi.out) HWf.out
          rw [HEx.out, hxo]
          exact this)
        have HC2 := Lib.hid (show ex = 0 ∨ ex = 4 by rw [HEx.out]; exact getE_cases HXl.out)
        by_cases hk : oe = ke
        · have hdk : decide (oe = ke) = true := decide_eq_true hk
          obtain ⟨he0, hgn⟩ := HC.out hk
          rw [hgn] at HNd
          rw [he0]
          clear hk hgn HC HC2 HEx he0
          go_wp2_with (first | (refine store_nd rfl (.tmp 14) (.tmp 60) rfl rfl (arr := arr2) rfl (heap_alloc_new w11 (.cells zeroArr 25)) rfl HSz2.out HNd.out.one ?_; intro w12 hg hf hs; have HGw12 := Lib.hid hg; have HBww12 := Lib.hid (show Below w11.heap.size w11 w12 from ((Below.refl _ w11).alloc (Nat.le_refl _) _).trans (hf.below (by simp) (fun j hj => by omega))); clear hg hf hs; have HP12 := Lib.hid (HP11.out.below HBww12.out); have HX12 := Lib.hid (HX11.out.trans (HBww12.out.mono HX11.out.size)); have HA12 := Lib.hid ((HX12.out.block _ (lt_of_block HA2.out)).trans HA2.out); have HK8 := Lib.hid (At_part8 (HP12.out.row List.mem_cons_self) 0 32); have HK3 := Lib.hid (At_part8 (HP12.out.row (List.mem_cons_of_mem _ (List.mem_cons_of_mem _ List.mem_cons_self))) 0 32); rw [List.drop_zero, ← HOt.out] at HK8; rw [List.drop_zero, ← HKt.out] at HK3) | (refine wpList_load_at rfl _ (.tmp 62) rfl w8.heap.size 0 rfl (oe.map Bv) _ HK8.out Tryz.underlying32 rfl (by rw [info_key, List.length_map, HOe.out]) ?_) | (refine wpList_load_at rfl _ (.tmp 64) rfl w3.heap.size 0 rfl (ke.map Bv) _ HK3.out Tryz.underlying32 rfl (by rw [info_key, List.length_map, HKe.out]) ?_) | (refine eql_key rfl (.tmp 63) (.tmp 65) _ rfl rfl rfl HOe.out HKe.out ?_; rw [hdk]) | (refine gload_nd rfl (.tmp 14) rfl rfl (At_nd HGw12.out) HSz2.out ?_) | (refine gload_nd rfl (.tmp 2) rfl rfl (At_nd HA12.out) HSZ.out ?_))
          have hx := HX12.out
          refine (nodeSame_any arr2 arr n n w12 (HNd.out.below HBww12.out) (HN2.out.below HX12.out) HF.out HF.out).mono ?_
          rw [sameN_refl]
          rintro e w13 ⟨rfl, hb13⟩
          go_wp2
          go_ret
          exact ⟨rfl, HB2.out.trans ((hx.trans (hb13.mono hx.size)).mono HB2.out.size)⟩
        · have hdk : decide (oe = ke) = false := decide_eq_false hk
          have hec := HC2.out
          clear hk HC HC2 HEx
          rcases hec with hec | hec
          · rw [hec]
            go_wp2_with (first | (refine store_nd rfl (.tmp 14) (.tmp 60) rfl rfl (arr := arr2) rfl (heap_alloc_new w11 (.cells zeroArr 25)) rfl HSz2.out HNd.out.one ?_; intro w12 hg hf hs; have HGw12 := Lib.hid hg; have HBww12 := Lib.hid (show Below w11.heap.size w11 w12 from ((Below.refl _ w11).alloc (Nat.le_refl _) _).trans (hf.below (by simp) (fun j hj => by omega))); clear hg hf hs; have HP12 := Lib.hid (HP11.out.below HBww12.out); have HX12 := Lib.hid (HX11.out.trans (HBww12.out.mono HX11.out.size)); have HA12 := Lib.hid ((HX12.out.block _ (lt_of_block HA2.out)).trans HA2.out); have HK8 := Lib.hid (At_part8 (HP12.out.row List.mem_cons_self) 0 32); have HK3 := Lib.hid (At_part8 (HP12.out.row (List.mem_cons_of_mem _ (List.mem_cons_of_mem _ List.mem_cons_self))) 0 32); rw [List.drop_zero, ← HOt.out] at HK8; rw [List.drop_zero, ← HKt.out] at HK3) | (refine wpList_load_at rfl _ (.tmp 62) rfl w8.heap.size 0 rfl (oe.map Bv) _ HK8.out Tryz.underlying32 rfl (by rw [info_key, List.length_map, HOe.out]) ?_) | (refine wpList_load_at rfl _ (.tmp 64) rfl w3.heap.size 0 rfl (ke.map Bv) _ HK3.out Tryz.underlying32 rfl (by rw [info_key, List.length_map, HKe.out]) ?_) | (refine eql_key rfl (.tmp 63) (.tmp 65) _ rfl rfl rfl HOe.out HKe.out ?_; rw [hdk]))
            go_ret
            exact ⟨rfl, HB2.out.trans (HX12.out.mono HB2.out.size)⟩
          · rw [hec]
            go_wp2_with (first | (refine store_nd rfl (.tmp 14) (.tmp 60) rfl rfl (arr := arr2) rfl (heap_alloc_new w11 (.cells zeroArr 25)) rfl HSz2.out HNd.out.one ?_; intro w12 hg hf hs; have HGw12 := Lib.hid hg; have HBww12 := Lib.hid (show Below w11.heap.size w11 w12 from ((Below.refl _ w11).alloc (Nat.le_refl _) _).trans (hf.below (by simp) (fun j hj => by omega))); clear hg hf hs; have HP12 := Lib.hid (HP11.out.below HBww12.out); have HX12 := Lib.hid (HX11.out.trans (HBww12.out.mono HX11.out.size)); have HA12 := Lib.hid ((HX12.out.block _ (lt_of_block HA2.out)).trans HA2.out); have HK8 := Lib.hid (At_part8 (HP12.out.row List.mem_cons_self) 0 32); have HK3 := Lib.hid (At_part8 (HP12.out.row (List.mem_cons_of_mem _ (List.mem_cons_of_mem _ List.mem_cons_self))) 0 32); rw [List.drop_zero, ← HOt.out] at HK8; rw [List.drop_zero, ← HKt.out] at HK3) | (refine wpList_load_at rfl _ (.tmp 62) rfl w8.heap.size 0 rfl (oe.map Bv) _ HK8.out Tryz.underlying32 rfl (by rw [info_key, List.length_map, HOe.out]) ?_) | (refine wpList_load_at rfl _ (.tmp 64) rfl w3.heap.size 0 rfl (ke.map Bv) _ HK3.out Tryz.underlying32 rfl (by rw [info_key, List.length_map, HKe.out]) ?_) | (refine eql_key rfl (.tmp 63) (.tmp 65) _ rfl rfl rfl HOe.out HKe.out ?_; rw [hdk]))
            go_ret
            exact ⟨rfl, HB2.out.trans (HX12.out.mono HB2.out.size)⟩
      · have hcb : (checkE n != 0) = true := by simpa using hc
        refine (write_ps_bad w2.heap.size P D S W lo 1 ks noneT _ _ w5 arr n HP5.out (HN2.out.below HX5.out) (by decide) HF.out hc).mono ?_
        rintro e w6 ⟨rfl, hp6, hb6⟩
        have HX6 := Lib.hid (HX5.out.trans (hb6.mono HX5.out.size))
        clear hp6 hb6 hc HP5 HX5 HA5
        go_wp2_with (refine store_ptr rfl (.tmp 9) (.tmp 42) rfl rfl (p := Pt.zero) rfl (heap_alloc_new w6 (.cells Pt.zero.arr 43)) Pt.zero_wf.size Pt.zero_wf ?_; intro w7 hg hf hs; have HGw7 := Lib.hid hg; have HBww7 := Lib.hid (show Below w6.heap.size w6 w7 from ((Below.refl _ w6).alloc (Nat.le_refl _) _).trans (hf.below (by simp) (fun j hj => by omega))); clear hg hf hs)
        go_ret
        exact ⟨rfl, HB2.out.trans ((HX6.out.trans (HBww7.out.mono HX6.out.size)).mono HB2.out.size)⟩

end Go.Proofs.YtkbnkdokcmpcgaaGreatDoor
namespace Go.Proofs.YtkbnkdokcmpcgaaGreatDoor
open Go.ChangeShapes Go.WideShapes Go.ChangeAt Go.RowKit Go.Deep

theorem cells_u8 : Tryz.prog.cellsOf 5 = 1 := by kernel_rfl
theorem cells_bytes : Tryz.prog.cellsOf 26 = 1 := by kernel_rfl
theorem cells_string : Tryz.prog.cellsOf 9 = 1 := by kernel_rfl
theorem cells_int : Tryz.prog.cellsOf 3 = 1 := by kernel_rfl
theorem cells_u64 : Tryz.prog.cellsOf 40 = 1 := by kernel_rfl
theorem cells_hash : Tryz.prog.cellsOf 33 = 32 := by kernel_rfl
theorem bytes_u8 : Tryz.prog.bytesOf 5 = 1 := by kernel_rfl

/-- Every weight of what is read is within the reach. -/
def Light {H : Type} (t : TypeId) (d : DataW H) : Prop := ∀ n ∈ d.weights Tryz.prog t, n ≤ reachBytes

section
variable {H : Type} {enc : TypeId × Value → H} {W : World} {fuel : Nat} {cs : List Value} {x : DataW H × List MemPlace}

theorem open_u8 (h : DataW.trod enc Tryz.prog W 0 (fun _ => true) true fuel 5 cs = some x) : ∃ c : UInt8, cs = [Bv c] := by
  obtain ⟨n, rfl, _, hn⟩ := DataW.trod_int Tryz.underlying5 h
  have b := bounds_u8 hn
  refine ⟨UInt8.ofNat n.toNat, ?_⟩
  rw [Bv, UInt8.toNat_ofNat', Nat.mod_eq_of_lt (by omega), Int.toNat_of_nonneg b.1]

theorem open_bytes (h : DataW.trod enc Tryz.prog W 0 (fun _ => true) true fuel 26 cs = some x) (hl : Light 26 x.1) :
    ∃ (v : Value) (bs : List UInt8), cs = [v] ∧ Sl W 1 v bs.length (bs.map Bv) ∧ bs.length ≤ 140737488351232 := by
  rcases open_ints Tryz.underlying26 Tryz.underlying5 cells_u8 h with ⟨rfl, _⟩ | ⟨a, len, cap, zs, rfl, _, hlc, hm, hz, hx, hcell, hwf⟩
  · exact ⟨_, [], rfl, Sl.nil W 1, by simp⟩
  · simp only [if_true] at hz
    have hreach : len ≤ 140737488351232 := by
      have := hl ((zs.take len).length + (zs.drop len).length) (by
        rw [hx]; simp [DataW.weights, Tryz.underlying26, bytes_u8, lits])
      simp only [List.length_take, List.length_drop, reachBytes] at this
      omega
    refine ⟨_, (zs.take len).map (fun n => UInt8.ofNat n.toNat), rfl, ?_, by simp; omega⟩
    have hll : ((zs.take len).map (fun n => UInt8.ofNat n.toNat)).length = len := by simp; omega
    rw [hll]
    refine ⟨by simp [hz]; omega, some a, cap, rfl, hlc, fun h => (by cases h), fun i u hu => ?_⟩
    have hi : i < len := by have := (List.getElem?_eq_some_iff.1 hu).1; simp at this; omega
    have hzi : i < zs.length := by omega
    have hc := hcell i hzi
    have hsp : a.spot = none := by
      have h0 := hcell 0 (by omega)
      have e0 : a.add 0 = a := by simp [Addr.add]
      rw [e0] at h0
      unfold World.cell? at h0
      split at h0
      · split at h0
        · cases h0
        · rename_i hs; simpa using hs
      · cases h0
    obtain ⟨b, o, sp⟩ := a
    simp only at hsp
    subst hsp
    refine ⟨b, o, rfl, ?_⟩
    rw [Addr.add_lit] at hc
    rw [hc]
    have e : (((zs.take len).map (fun n => UInt8.ofNat n.toNat)).map Bv)[i]? = some (Bv (UInt8.ofNat zs[i].toNat)) := by simp [hi, hzi]
    rw [e] at hu
    rw [← hu]
    have hw := bounds_u8 (hwf zs[i] (List.getElem_mem hzi))
    congr 1
    simp only [List.getD, List.getElem?_eq_getElem hzi, Option.getD_some]
    rw [Bv, UInt8.toNat_ofNat', Nat.mod_eq_of_lt (by omega), Int.toNat_of_nonneg hw.1]

theorem open_hash (h : DataW.trod enc Tryz.prog W 0 (fun _ => true) true fuel 33 cs = some x) : ∃ hs : List UInt8, hs.length = 32 ∧ cs = hs.map Bv := by
  obtain ⟨xs, m, rfl, _, hl, hxl, hi⟩ := DataW.trod_array Tryz.underlying33 h
  rw [cells_hash] at hl
  have each : ∀ i, i < 32 → ∃ c : UInt8, cs[i]? = some (Bv c) := by
    intro i hi'
    have h1 := hi i hi'
    rw [cells_u8, List.getElem?_eq_getElem (by omega)] at h1
    obtain ⟨c, hc⟩ := open_u8 h1
    refine ⟨c, ?_⟩
    have : (List.take 1 (List.drop (i * 1) cs))[0]? = some (Bv c) := by rw [hc]; rfl
    simpa using this
  obtain ⟨f, hf⟩ := choose_lt each
  refine ⟨(List.range 32).map f, by simp, ?_⟩
  apply List.ext_getElem?
  intro i
  by_cases h32 : i < 32
  · rw [hf i h32]; simp [h32]
  · rw [List.getElem?_eq_none (by omega)]; simp [h32]
end

end Go.Proofs.YtkbnkdokcmpcgaaGreatDoor
namespace Go.Proofs.YtkbnkdokcmpcgaaGreatDoor
open Go.ChangeShapes Go.WideShapes Go.ChangeAt Go.RowKit Go.Deep

section
variable {H : Type} {enc : TypeId × Value → H} {W : World} {fuel : Nat} {cs : List Value} {x : DataW H × List MemPlace}

theorem drop_take_one {α : Type} {cs : List α} {i : Nat} {v : α} (h : (cs.drop i).take 1 = [v]) : cs[i]? = some v := by
  have : ((cs.drop i).take 1)[0]? = some v := by rw [h]; rfl
  simpa using this

theorem weights_part {d : DataW H} {t : TypeId} {fs : List TypeId} {ds : List (DataW H)} (hl : ∀ n ∈ DataW.weightsEach Tryz.prog fs ds, n ≤ reachBytes) {j : Nat} (ht : fs[j]? = some t) (hd : ds[j]? = some d) : Light t d :=
  fun n hn => hl n (DataW.weights_mem_each ht hd n hn)

theorem cells?_at {w : World} {b o : Nat} {n : Nat} {cs : List Value} (h : w.cells? 0 ⟨b, o, none⟩ n = some cs) : At w b o cs := by
  obtain ⟨_, hl, hc⟩ := World.cells?_some h
  intro i u hu
  have hi : i < n := by have := (List.getElem?_eq_some_iff.1 hu).1; omega
  have := hc i hi
  rw [Addr.add_lit] at this
  rw [this, hu]

theorem weightsAll_mem {P : Program} {e : TypeId} : ∀ {ds : List (DataW H)} {d : DataW H}, d ∈ ds → ∀ {n : Nat}, n ∈ d.weights P e → n ∈ DataW.weightsAll P e ds
  | d0 :: ds, d, hd, n, hn => by
    simp only [DataW.weightsAll, List.mem_append]
    rcases List.mem_cons.1 hd with rfl | hd
    · exact Or.inl hn
    · exact Or.inr (weightsAll_mem hd hn)

/-- A slice that has an element begins at a plain address. -/
theorem cells?_spot {P : Program} {w : World} {a : Addr} {m n k : Nat} {e : TypeId} {D : Nat → DataW H} {Pl : Nat → List MemPlace}
    (hel : ∀ i, i < m → ∃ cs', w.cells? 0 (a.add (i * k)) k = some cs' ∧ DataW.trod enc P w 0 (fun _ => true) true n e cs' = some (D i, Pl i)) (hm : 0 < m) (hk : 0 < k := by decide) : a.spot = none := by
  obtain ⟨cs', hc, _⟩ := hel 0 hm
  obtain ⟨_, hl, hx⟩ := World.cells?_some hc
  have h0 := hx 0 hk
  have e0 : (a.add (0 * k)).add 0 = a := by simp [Addr.add]
  rw [e0, List.getElem?_eq_getElem (by omega)] at h0
  unfold World.cell? at h0
  split at h0
  · split at h0
    · cases h0
    · rename_i hs; simpa using hs
  · cases h0

end
end Go.Proofs.YtkbnkdokcmpcgaaGreatDoor
namespace Go.Proofs.YtkbnkdokcmpcgaaGreatDoor
open Go.ChangeShapes Go.WideShapes Go.ChangeAt Go.RowKit Go.Deep

theorem cells_ptr : Tryz.prog.cellsOf 43 = 34 := by kernel_rfl
theorem bytes_ptr : Tryz.prog.bytesOf 43 = 48 := by kernel_rfl
theorem bytes_str : Tryz.prog.bytesOf 9 = 16 := by kernel_rfl
theorem cells_node : Tryz.prog.cellsOf 25 = 4 := by kernel_rfl
theorem cells_bool : Tryz.prog.cellsOf 4 = 1 := by kernel_rfl
theorem cells_u32 : Tryz.prog.cellsOf 41 = 1 := by kernel_rfl
theorem cells_strs : Tryz.prog.cellsOf 22 = 1 := by kernel_rfl
theorem cells_ptrs : Tryz.prog.cellsOf 23 = 1 := by kernel_rfl

section
variable {H : Type} {enc : TypeId × Value → H} {W : World} {fuel : Nat} {cs : List Value} {x : DataW H × List MemPlace}

theorem open_str (h : DataW.trod enc Tryz.prog W 0 (fun _ => true) true fuel 9 cs = some x) (hl : Light 9 x.1) : ∃ s : ByteArray, cs = [.string s] ∧ s.size ≤ 140737488351232 := by
  obtain ⟨s, c3, h3, -⟩ := DataW.trod_string Tryz.underlying9 h
  refine ⟨s, c3, ?_⟩
  have := hl s.data.toList.length (by rw [h3]; simp [DataW.weights])
  simpa [reachBytes] using this

theorem open_strs (h : DataW.trod enc Tryz.prog W 0 (fun _ => true) true fuel 22 cs = some x) (hl : Light 22 x.1) :
    ∃ (v : Value) (l : List ByteArray), cs = [v] ∧ StrsIn W v l ∧ l.length ≤ 140737488351232 ∧ ∀ s ∈ l, s.size ≤ 140737488351232 := by
  rcases open_slice Tryz.underlying22 h with ⟨rfl, _⟩ | ⟨a, len, cap, m, n, D, Pl, rfl, _, hlc, hm, hmm, hx, hel⟩
  · exact ⟨_, [], rfl, Sl.nil W 1, by simp, by simp⟩
  · simp only [if_true] at hmm
    subst hmm
    have hw : ∀ n ∈ ((len + (m - len)) * 16 :: (DataW.weightsAll Tryz.prog 9 ((List.range len).map D) ++ DataW.weightsAll Tryz.prog 9 ((List.range (m - len)).map fun j => D (len + j)))), n ≤ reachBytes := by
      intro n hn
      refine hl n ?_
      rw [hx]
      simpa [DataW.weights, Tryz.underlying22, bytes_str] using hn
    have hreach : len ≤ 140737488351232 := by
      have := hw _ (List.mem_cons_self ..)
      simp only [reachBytes] at this
      omega
    have hD : ∀ i, i < len → Light 9 (D i) := by
      intro i hi n hn
      refine hw n (List.mem_cons_of_mem _ (List.mem_append_left _ ?_))
      exact weightsAll_mem (List.mem_map.2 ⟨i, List.mem_range.2 hi, rfl⟩) hn
    have each : ∀ i, i < len → ∃ p : ByteArray × Nat × Nat, a = ⟨p.2.1, p.2.2, none⟩ ∧ W.cell? ⟨p.2.1, p.2.2 + i, none⟩ = some (.string p.1) ∧ p.1.size ≤ 140737488351232 := by
      intro i hi
      obtain ⟨cs', hc, ht⟩ := hel i (by omega)
      obtain ⟨s, rfl, hbd⟩ := open_str ht (hD i hi)
      have hsp := cells?_spot hel (by omega : 0 < m) (by rw [cells_string]; decide)
      obtain ⟨b, o, sp⟩ := a
      simp only at hsp
      subst hsp
      rw [cells_string, Addr.add_lit, Nat.mul_one] at hc
      exact ⟨(s, b, o), rfl, by simpa using cells?_at hc 0 _ rfl, hbd⟩
    have : Inhabited (ByteArray × Nat × Nat) := ⟨(ByteArray.empty, 0, 0)⟩
    obtain ⟨f, hf⟩ := choose_lt each
    refine ⟨_, (List.range len).map (fun i => (f i).1), rfl, ?_, by simpa using hreach, ?_⟩
    · unfold StrsIn
      have hll : ((List.range len).map (fun i => (f i).1)).length = len := by simp
      rw [hll]
      refine ⟨by simp, some a, _, rfl, hlc, fun h => (by cases h), fun i u hu => ?_⟩
      have hi : i < len := by have := (List.getElem?_eq_some_iff.1 hu).1; simpa using this
      obtain ⟨h1, h2, _⟩ := hf i hi
      refine ⟨_, _, by rw [h1], h2.trans ?_⟩
      rw [← hu]; simp [hi]
    · intro s hs
      obtain ⟨i, hi, rfl⟩ := List.mem_map.1 hs
      exact (hf i (List.mem_range.1 hi)).2.2

set_option maxRecDepth 100000 in
theorem open_pt (h : DataW.trod enc Tryz.prog W 0 (fun _ => true) true fuel 43 cs = some x) : ∃ p : Pt, p.Wf ∧ cs = p.cells := by
  obtain ⟨xs, n, rfl, hx, hlen, hxl, hf⟩ := DataW.trod_struct Tryz.underlying43 h
  rw [cells_ptr] at hlen
  have hxl' : xs.length = 3 := hxl
  have e0 : DataW.trod enc Tryz.prog W 0 (fun _ => true) true n 41 ((cs.drop 0).take (Tryz.prog.cellsOf 41)) = xs[0]? := hf 0 _ rfl
  have e1 : DataW.trod enc Tryz.prog W 0 (fun _ => true) true n 40 ((cs.drop 1).take (Tryz.prog.cellsOf 40)) = xs[1]? := hf 1 _ rfl
  have e2 : DataW.trod enc Tryz.prog W 0 (fun _ => true) true n 33 ((cs.drop 2).take (Tryz.prog.cellsOf 33)) = xs[2]? := hf 2 _ rfl
  rw [cells_u32] at e0
  rw [cells_u64] at e1
  rw [cells_hash] at e2
  match xs, hxl' with
  | [x0, x1, x2], _ =>
  obtain ⟨k0, c0, -, w0⟩ := DataW.trod_int Tryz.underlying41 e0
  obtain ⟨k1, c1, -, w1⟩ := DataW.trod_int Tryz.underlying40 e1
  obtain ⟨hs, hh, c2⟩ := open_hash e2
  have b0 := bounds_u32 w0
  have b1 := bounds_u64 w1
  obtain ⟨n0, rfl⟩ := Int.eq_ofNat_of_zero_le b0.1
  obtain ⟨n1, rfl⟩ := Int.eq_ofNat_of_zero_le b1.1
  refine ⟨⟨n0, n1, hs⟩, ⟨by simp only; omega, by simp only; omega, hh⟩, ?_⟩
  have g0 := drop_take_one c0
  have g1 := drop_take_one c1
  unfold Pt.cells
  apply List.ext_getElem?
  intro i
  rcases i with _ | _ | i
  · simpa using g0
  · simpa using g1
  · simp only [List.getElem?_cons_succ]
    rw [← c2]
    by_cases hi : i < 32
    · rw [List.getElem?_take, if_pos hi, List.getElem?_drop]; congr 1; omega
    · rw [List.getElem?_eq_none (by omega), List.getElem?_eq_none (by simp; omega)]

theorem open_pts (h : DataW.trod enc Tryz.prog W 0 (fun _ => true) true fuel 23 cs = some x) (hl : Light 23 x.1) :
    ∃ (v : Value) (l : List Pt), cs = [v] ∧ PtsIn W v l ∧ l.length ≤ 4139337892682 := by
  rcases open_slice Tryz.underlying23 h with ⟨rfl, _⟩ | ⟨a, len, cap, m, n, D, Pl, rfl, _, hlc, hm, hmm, hx, hel⟩
  · exact ⟨_, [], rfl, ⟨Sl.nil W 34, by simp⟩, by simp⟩
  · simp only [if_true] at hmm
    subst hmm
    have hw : ∀ n ∈ ((len + (m - len)) * 48 :: (DataW.weightsAll Tryz.prog 43 ((List.range len).map D) ++ DataW.weightsAll Tryz.prog 43 ((List.range (m - len)).map fun j => D (len + j)))), n ≤ reachBytes := by
      intro n hn
      refine hl n ?_
      rw [hx]
      simpa [DataW.weights, Tryz.underlying23, bytes_ptr] using hn
    have hreach : len ≤ 4139337892682 := by
      have := hw _ (List.mem_cons_self ..)
      simp only [reachBytes] at this
      omega
    have each : ∀ i, i < len → ∃ p : Pt × Nat × Nat, a = ⟨p.2.1, p.2.2, none⟩ ∧ At W p.2.1 (p.2.2 + i * 34) p.1.cells ∧ p.1.Wf := by
      intro i hi
      obtain ⟨cs', hc, ht⟩ := hel i (by omega)
      obtain ⟨p, hp, rfl⟩ := open_pt ht
      have hsp := cells?_spot hel (by omega : 0 < m) (by rw [cells_ptr]; decide)
      obtain ⟨b, o, sp⟩ := a
      simp only at hsp
      subst hsp
      rw [cells_ptr, Addr.add_lit] at hc
      exact ⟨(p, b, o), rfl, by simpa using cells?_at hc, hp⟩
    have : Inhabited (Pt × Nat × Nat) := ⟨(Pt.zero, 0, 0)⟩
    obtain ⟨f, hf⟩ := choose_lt each
    have hwf : ∀ p ∈ (List.range len).map (fun i => (f i).1), p.Wf := by
      intro p hp
      obtain ⟨i, hi, rfl⟩ := List.mem_map.1 hp
      exact (hf i (List.mem_range.1 hi)).2.2
    refine ⟨_, (List.range len).map (fun i => (f i).1), rfl, ⟨?_, hwf⟩, by simpa using hreach⟩
    have hll : ((List.range len).map (fun i => (f i).1)).length = len := by simp
    have hlen34 : ∀ l ∈ ((List.range len).map (fun i => (f i).1)).map Pt.cells, l.length = 34 := by
      intro l hl
      obtain ⟨p, hp, rfl⟩ := List.mem_map.1 hl
      exact (hwf p hp).len
    have hfl : ∀ (ls : List (List Value)), (∀ l ∈ ls, l.length = 34) → ls.flatten.length = ls.length * 34 := by
      intro ls
      induction ls with
      | nil => intro _; simp
      | cons l ls ih =>
        intro h
        rw [List.flatten_cons, List.length_append, ih (fun x hx => h x (by simp [hx])), h l (by simp), List.length_cons]; omega
    rw [hll]
    have hfl2 := hfl _ hlen34
    rw [List.length_map, hll] at hfl2
    refine ⟨hfl2, some a, _, rfl, hlc, fun h => (by cases h), fun i u hu => ?_⟩
    have hi : i < len * 34 := by have := (List.getElem?_eq_some_iff.1 hu).1; omega
    have hq : i / 34 < len := by omega
    have hr : i % 34 < 34 := Nat.mod_lt _ (by decide)
    have hi2 : i = i / 34 * 34 + i % 34 := by omega
    obtain ⟨h1, h2, _⟩ := hf (i / 34) hq
    rw [hi2, flat_get 34 _ hlen34 (i / 34) (by simpa using hq) (i % 34) hr] at hu
    have := h2 (i % 34) u (by simpa using hu)
    refine ⟨_, _, by rw [h1], ?_⟩
    rw [← this]
    congr 2
    omega

/-- A node that came in. -/
theorem open_node (h : DataW.trod enc Tryz.prog W 0 (fun _ => true) true fuel 25 cs = some x) (hl : Light 25 x.1) : ∃ n : Nd, NdIs W cs.toArray n ∧ n.Fits := by
  obtain ⟨xs, k, rfl, hx, hlen, hxl, hf⟩ := DataW.trod_struct Tryz.underlying25 h
  rw [cells_node] at hlen
  have hxl' : xs.length = 4 := hxl
  have e0 : DataW.trod enc Tryz.prog W 0 (fun _ => true) true k 4 ((cs.drop 0).take (Tryz.prog.cellsOf 4)) = xs[0]? := hf 0 _ rfl
  have e1 : DataW.trod enc Tryz.prog W 0 (fun _ => true) true k 22 ((cs.drop 1).take (Tryz.prog.cellsOf 22)) = xs[1]? := hf 1 _ rfl
  have e2 : DataW.trod enc Tryz.prog W 0 (fun _ => true) true k 22 ((cs.drop 2).take (Tryz.prog.cellsOf 22)) = xs[2]? := hf 2 _ rfl
  have e3 : DataW.trod enc Tryz.prog W 0 (fun _ => true) true k 23 ((cs.drop 3).take (Tryz.prog.cellsOf 23)) = xs[3]? := hf 3 _ rfl
  rw [cells_bool] at e0
  rw [cells_strs] at e1 e2
  rw [cells_ptrs] at e3
  match xs, hxl' with
  | [x0, x1, x2, x3], _ =>
  have hlw : ∀ n ∈ DataW.weightsEach Tryz.prog [4, 22, 22, 23] [x0.1, x1.1, x2.1, x3.1], n ≤ reachBytes := by
    intro n hn
    refine hl n ?_
    rw [hx]
    simpa [DataW.weights, Tryz.underlying25] using hn
  obtain ⟨b, c0, -⟩ := DataW.trod_bool Tryz.underlying4 e0
  obtain ⟨v1, l1, c1, s1, n1, m1⟩ := open_strs e1 (weights_part hlw (j := 1) rfl rfl)
  obtain ⟨v2, l2, c2, s2, n2, m2⟩ := open_strs e2 (weights_part hlw (j := 2) rfl rfl)
  obtain ⟨v3, l3, c3, s3, n3⟩ := open_pts e3 (weights_part hlw (j := 3) rfl rfl)
  have g0 := drop_take_one c0
  have g1 := drop_take_one c1
  have g2 := drop_take_one c2
  have g3 := drop_take_one c3
  refine ⟨⟨b, l1, l2, l3⟩, ⟨v1, v2, v3, ?_, s1, s2, s3⟩, ⟨n1, n2, n3, m1, m2⟩⟩
  apply Array.toList_inj.1
  apply List.ext_getElem?
  intro i
  rcases i with _ | _ | _ | _ | i
  · simpa using g0
  · simpa using g1
  · simpa using g2
  · simpa using g3
  · rw [List.getElem?_eq_none (by simp; omega), List.getElem?_eq_none (by simp)]

end
end Go.Proofs.YtkbnkdokcmpcgaaGreatDoor
