/- Walks: two slices of strings, two of pointers, two nodes: are they the same? The program's own. -/
import Derived.Test.YtdmgmpagnmmehaaDoorNd
import Derived.Test.YtdmgmpagnmmehaaDoorWd
namespace Go.Proofs.YtdmgmpagnmmehaaDoor
open Go.RowKit

def eqAt {α : Type} (p : α → α → Bool) (a b : List α) (i : Nat) : Bool := match a[i]?, b[i]? with | some x, some y => p x y | _, _ => true
def eqv {α : Type} (p : α → α → Bool) (a b : List α) : Bool := decide (a.length = b.length) && (List.range a.length).all (eqAt p a b)
theorem eqv_len {α : Type} {p : α → α → Bool} {a b : List α} (h : ¬ a.length = b.length) : eqv p a b = false := by unfold eqv; rw [decide_eq_false h]; rfl
theorem eqv_false {α : Type} {p : α → α → Bool} {a b : List α} (hl : a.length = b.length) {i : Nat} (hi : i < a.length) (h : p a[i] (b[i]'(by omega)) = false) : eqv p a b = false := by
  rw [Bool.eq_false_iff]
  intro he
  unfold eqv at he
  simp only [Bool.and_eq_true] at he
  have := List.all_eq_true.1 he.2 i (by simpa using hi)
  unfold eqAt at this
  rw [List.getElem?_eq_getElem hi, List.getElem?_eq_getElem (by omega)] at this
  simp only at this
  rw [h] at this
  cases this
theorem eqv_true {α : Type} {p : α → α → Bool} {a b : List α} (hl : a.length = b.length) (h : ∀ i (h1 : i < a.length) (h2 : i < b.length), p a[i] b[i] = true) : eqv p a b = true := by
  unfold eqv
  rw [decide_eq_true hl, Bool.true_and]
  refine List.all_eq_true.2 fun i hi => ?_
  have hi' : i < a.length := by simpa using hi
  unfold eqAt
  rw [List.getElem?_eq_getElem hi', List.getElem?_eq_getElem (by omega)]
  exact h i hi' (by omega)
theorem eqv_refl {α : Type} {p : α → α → Bool} (hp : ∀ x, p x x = true) (a : List α) : eqv p a a = true := eqv_true rfl (fun _ _ _ => hp _)

def ptEq (p q : Pt) : Bool := decide (p = q)
def sameN (n m : Nd) : Bool := (n.leaf == m.leaf) && eqv sEq n.keys m.keys && eqv sEq n.vals m.vals && eqv ptEq n.kids m.kids
theorem sameN_leaf {n m : Nd} (h : ¬ n.leaf = m.leaf) : sameN n m = false := by unfold sameN; rw [show (n.leaf == m.leaf) = false by simpa using h]; rfl
theorem sameN_keys {n m : Nd} (h : eqv sEq n.keys m.keys = false) : sameN n m = false := by unfold sameN; rw [h]; simp
theorem sameN_vals {n m : Nd} (h : eqv sEq n.vals m.vals = false) : sameN n m = false := by unfold sameN; rw [h]; simp
theorem sameN_kids {n m : Nd} (h0 : n.leaf = m.leaf) (h1 : eqv sEq n.keys m.keys = true) (h2 : eqv sEq n.vals m.vals = true) : sameN n m = eqv ptEq n.kids m.kids := by unfold sameN; rw [h0, h1, h2]; simp
theorem sameN_refl (n : Nd) : sameN n n = true := by
  have hs : ∀ x : ByteArray, sEq x x = true := fun x => (sEq_iff _ _).2 rfl
  rw [sameN_kids rfl (eqv_refl hs _) (eqv_refl hs _)]
  exact eqv_refl (fun x => by unfold ptEq; simp) _

theorem wpQuiet_neq_ptr {ops : Array Oper} {C : World → Prop} {Q : Act → Prop} {rest : List Oper} {o : Oper} {a : Act} (hw : Region.wanted o (yielded ops a.tmps) = true) (x y : Operand) (yt : TypeId) (ho : o.op = .binOp .neq 47 x y yt)
    {p q : Pt} (hx : a.eval x = .agg p.arr) (hy : a.eval y = .agg q.arr) (h1 : p.Wf) (h2 : q.Wf)
    (h : wpQuiet Tryd.prog ops C Q rest (a.put o.dst (.bool (!decide (p = q))))) : wpQuiet Tryd.prog ops C Q (o :: rest) a :=
  BigFrame.wpQuiet_want hw fun K hK => ⟨.bool (!decide (p = q)), fun w _ => by
    unfold Oper.quietAt execOp
    simp only [ho, hx, hy, Sem.run_bind, run_eqGuard_agg w _ _ _ _ _ _ guard_ptr, Result.andThen_ok, run_neq_struct, run_equalIn_ptr p q h1 h2 w]
    exact ⟨rfl, rfl⟩, hK _ h⟩

set_option maxRecDepth 100000 in
set_option maxHeartbeats 2000000 in
theorem eqStrs_any (v1 v2 : Value) (l1 l2 : List ByteArray) (w : World) (h1 : StrsIn w v1 l1) (h2 : StrsIn w v2 l2) (hr : l1.length ≤ 140737488351232) :
    Calls Tryd.prog 39 #[v1, v2] w fun e w' => e = .returned (.bool (eqv sEq l1 l2)) ∧ Below w.heap.size w w' := by
  obtain ⟨a1, c1, rfl, hel1⟩ := h1.open
  obtain ⟨a2, c2, rfl, hel2⟩ := h2.open
  have HE1 := Lib.hid hel1
  have HE2 := Lib.hid hel2
  clear h1 h2 hel1 hel2
  by_cases hl : l1.length = l2.length
  case neg =>
    have HQ := Lib.hid (eqv_len (p := sEq) hl)
    have b1 : ((l1.length : Int) == (l2.length : Int)) = false := by rw [beq_nat]; exact decide_eq_false hl
    have b2 : ¬ (l1.length : Int) = (l2.length : Int) := by omega
    clear hl
    go_enter Tryd.func39, Tryd.ntmps39
    go_wp2
    go_ret
    exact ⟨by rw [HQ.out]; rfl, Below.refl _ _⟩
  case pos =>
    have HL := Lib.hid hl
    rw [← hl]
    clear hl
    go_enter Tryd.func39, Tryd.ntmps39
    go_wp2_with fail
    go_loopw [13, 5] (fun i u wr => ∃ k : Nat, k ≤ l1.length ∧ i = .int .i64 k ∧ (∀ j (h1 : j < l1.length) (h2 : j < l2.length), j < k → sEq l1[j] l2[j] = true) ∧ Below w.heap.size w wr) (fun i _ _ => l1.length - (intOf i).toNat)
    case atStart => exact ⟨0, Nat.zero_le _, rfl, fun j _ _ hj => by omega, Below.refl _ _⟩
    case round =>
      obtain ⟨k, hk, rfl, hz, hb⟩ := hrel
      have HZ := Lib.hid hz
      have HB := Lib.hid hb
      clear hz hb
      rcases Nat.lt_or_ge k l1.length with hlt | hge
      · obtain ⟨b1, o1, rfl, hc1⟩ := HE1.out k hlt
        obtain ⟨b2, o2, rfl, hc2⟩ := HE2.out k (by have := HL.out; omega)
        obtain ⟨s, hs⟩ : ∃ s, s = l1[k]'hlt := ⟨_, rfl⟩
        obtain ⟨t, ht⟩ : ∃ t, t = l2[k]'(by have := HL.out; omega) := ⟨_, rfl⟩
        rw [← hs] at hc1
        rw [← ht] at hc2
        have g1 : wr.cell? ⟨b1, o1 + k, none⟩ = some (.string s) := (HB.out.cell (p := ⟨b1, o1 + k, none⟩) (World.block_lt_of_cell? w _ hc1)).trans hc1
        have g2 : wr.cell? ⟨b2, o2 + k, none⟩ = some (.string t) := (HB.out.cell (p := ⟨b2, o2 + k, none⟩) (World.block_lt_of_cell? w _ hc2)).trans hc2
        clear hc1 hc2
        have HS := Lib.hid hs
        have HT := Lib.hid ht
        clear hs ht
        cases hE : sEq s t with
        | true =>
          have HE := Lib.hid hE
          obtain rfl : s = t := (sEq_iff _ _).1 hE
          clear hE
          go_wp2_with fail
          go_quiet (fail)
          go_wp2
          go_roundw
          case rel =>
            refine ⟨k + 1, by omega, by go_num, fun j h1 h2 hj => ?_, Below_drewN HB.out _⟩
            rcases Nat.lt_or_ge j k with h | h
            · exact HZ.out j h1 h2 h
            · obtain rfl : j = k := by omega
              rw [← HS.out, ← HT.out]; exact HE.out
          case measure => simp [intOf]; omega
        | false =>
          have HQ := Lib.hid (show eqv sEq l1 l2 = false from eqv_false HL.out hlt (by rw [← HS.out, ← HT.out]; exact hE))
          have e1 : (s.toList == t.toList) = false := hE
          have e2 : ¬ s.toList = t.toList := by simpa using e1
          clear hE
          go_wp2_with fail
          go_quiet (fail)
          go_wp2
          go_ret
          exact ⟨by rw [HQ.out]; rfl, Below_drewN HB.out _⟩
      · obtain rfl : k = l1.length := by omega
        have HQ := Lib.hid (show eqv sEq l1 l2 = true from eqv_true HL.out (fun i h1 h2 => HZ.out i h1 h2 h1))
        go_wp2
        go_ret
        exact ⟨by rw [HQ.out]; rfl, HB.out⟩

set_option maxRecDepth 100000 in
set_option maxHeartbeats 2000000 in
theorem eqPtrs_any (v1 v2 : Value) (l1 l2 : List Pt) (w : World) (h1 : PtsIn w v1 l1) (h2 : PtsIn w v2 l2) (hr : l1.length ≤ 4139337892682) :
    Calls Tryd.prog 40 #[v1, v2] w fun e w' => e = .returned (.bool (eqv ptEq l1 l2)) ∧ Below w.heap.size w w' := by
  have HW1 := Lib.hid h1.wf
  have HW2 := Lib.hid h2.wf
  obtain ⟨a1, c1, rfl, hel1⟩ := h1.open
  obtain ⟨a2, c2, rfl, hel2⟩ := h2.open
  have HE1 := Lib.hid hel1
  have HE2 := Lib.hid hel2
  clear h1 h2 hel1 hel2
  by_cases hl : l1.length = l2.length
  case neg =>
    have HQ := Lib.hid (eqv_len (p := ptEq) hl)
    have b1 : ((l1.length : Int) == (l2.length : Int)) = false := by rw [beq_nat]; exact decide_eq_false hl
    have b2 : ¬ (l1.length : Int) = (l2.length : Int) := by omega
    clear hl
    go_enter Tryd.func40, Tryd.ntmps40
    go_wp2
    go_ret
    exact ⟨by rw [HQ.out]; rfl, Below.refl _ _⟩
  case pos =>
    have HL := Lib.hid hl
    rw [← hl]
    clear hl
    go_enter Tryd.func40, Tryd.ntmps40
    go_wp2_with fail
    go_loopw [13, 5] (fun i u wr => ∃ k : Nat, k ≤ l1.length ∧ i = .int .i64 k ∧ (∀ j (h1 : j < l1.length) (h2 : j < l2.length), j < k → ptEq l1[j] l2[j] = true) ∧ Below w.heap.size w wr) (fun i _ _ => l1.length - (intOf i).toNat)
    case atStart => exact ⟨0, Nat.zero_le _, rfl, fun j _ _ hj => by omega, Below.refl _ _⟩
    case round =>
      obtain ⟨k, hk, rfl, hz, hb⟩ := hrel
      have HZ := Lib.hid hz
      have HB := Lib.hid hb
      clear hz hb
      rcases Nat.lt_or_ge k l1.length with hlt | hge
      · obtain ⟨b1, o1, rfl, hc1⟩ := HE1.out k hlt
        obtain ⟨b2, o2, rfl, hc2⟩ := HE2.out k (by have := HL.out; omega)
        obtain ⟨s, hs⟩ : ∃ s, s = l1[k]'hlt := ⟨_, rfl⟩
        obtain ⟨t, ht⟩ : ∃ t, t = l2[k]'(by have := HL.out; omega) := ⟨_, rfl⟩
        rw [← hs] at hc1
        rw [← ht] at hc2
        have HU1 := Lib.hid (fun w' (hw : ∃ u : Wd wr.heap.size wr, w' = u.to) => (by obtain ⟨u, rfl⟩ := hw; exact u.at (hc1.fr (Fr.of_below (S := fun _ => False) HB.out) id) : At w' b1 (o1 + k * 34) s.cells))
        have HU2 := Lib.hid (fun w' (hw : ∃ u : Wd wr.heap.size wr, w' = u.to) => (by obtain ⟨u, rfl⟩ := hw; exact u.at (hc2.fr (Fr.of_below (S := fun _ => False) HB.out) id) : At w' b2 (o2 + k * 34) t.cells))
        have HWs := Lib.hid (show s.Wf by rw [hs]; exact HW1.out _ (List.getElem_mem _))
        have HWt := Lib.hid (show t.Wf by rw [ht]; exact HW2.out _ (List.getElem_mem _))
        clear hc1 hc2
        have HS := Lib.hid hs
        have HT := Lib.hid ht
        clear hs ht
        go_wp2_with fail
        refine wp_region_wd wr.heap.size (by kernel_rfl) (by kernel_rfl) ?_
        repeat (first
          | (refine wpQuiet_load_at rfl 47 (.tmp 18) rfl b1 (o1 + k * 34) rfl _ _ HU1.out Tryd.underlying47 rfl (by rw [info_ptr, HWs.out.len]) ?_; simp only [Act.put, List.setIfInBounds_toArray, List.set_cons_succ, List.set_cons_zero])
          | (refine wpQuiet_load_at rfl 47 (.tmp 22) rfl b2 (o2 + k * 34) rfl _ _ HU2.out Tryd.underlying47 rfl (by rw [info_ptr, HWt.out.len]) ?_; simp only [Act.put, List.setIfInBounds_toArray, List.set_cons_succ, List.set_cons_zero])
          | (refine wpQuiet_neq_ptr rfl (.tmp 19) (.tmp 23) _ rfl rfl rfl HWs.out HWt.out ?_; simp only [Act.put, List.setIfInBounds_toArray, List.set_cons_succ, List.set_cons_zero])
          | go_big_quiet_step (fail))
        refine wpQuiet_nil ?_
        rintro _ ⟨⟨w2, hb2⟩, rfl⟩
        have HB2 := Lib.hid (HB.out.trans (hb2.mono HB.out.size))
        clear hb2
        cases hE : ptEq s t with
        | true =>
          have HE := Lib.hid hE
          rw [show (!decide (s = t)) = false by unfold ptEq at hE; rw [hE]; rfl]
          clear hE
          go_wp2
          go_roundw
          case rel =>
            refine ⟨k + 1, by omega, by go_num, fun j h1 h2 hj => ?_, HB2.out⟩
            rcases Nat.lt_or_ge j k with h | h
            · exact HZ.out j h1 h2 h
            · obtain rfl : j = k := by omega
              rw [← HS.out, ← HT.out]; exact HE.out
          case measure => simp [intOf]; omega
        | false =>
          have HQ := Lib.hid (show eqv ptEq l1 l2 = false from eqv_false HL.out hlt (by rw [← HS.out, ← HT.out]; exact hE))
          rw [show (!decide (s = t)) = true by unfold ptEq at hE; rw [hE]; rfl]
          clear hE
          go_wp2
          go_ret
          exact ⟨by rw [HQ.out]; rfl, HB2.out⟩
      · obtain rfl : k = l1.length := by omega
        have HQ := Lib.hid (show eqv ptEq l1 l2 = true from eqv_true HL.out (fun i h1 h2 => HZ.out i h1 h2 h1))
        go_wp2
        go_ret
        exact ⟨by rw [HQ.out]; rfl, HB.out⟩

set_option maxRecDepth 100000 in
set_option maxHeartbeats 4000000 in
theorem nodeSame_any (arr1 arr2 : Array Value) (n m : Nd) (w : World) (h1 : NdIs w arr1 n) (h2 : NdIs w arr2 m) (hf : n.Fits) (hg : m.Fits) :
    Calls Tryd.prog 14 #[.agg arr1, .agg arr2] w fun e w' => e = .returned (.bool (sameN n m)) ∧ Below w.heap.size w w' := by
  obtain ⟨ak, ck, av, cv, ap, cp, rfl, hk, hv, hp⟩ := h1.get
  obtain ⟨bk, dk, bv, dv, bp, dp, rfl, jk, jv, jp⟩ := h2.get
  have hb0 : Below w.heap.size w ((w.alloc (.cells #[.bool n.leaf, .slice ak n.keys.length ck, .slice av n.vals.length cv, .slice ap n.kids.length cp] 25)).alloc (.cells #[.bool m.leaf, .slice bk m.keys.length dk, .slice bv m.vals.length dv, .slice bp m.kids.length dp] 25)) := ((Below.refl _ w).alloc (Nat.le_refl _) _).alloc (by simp) _
  have HB := Lib.hid hb0
  have HK := Lib.hid (fun (w' : World) (hb : Below w.heap.size w w') => (hk.below hb : StrsIn w' (.slice ak n.keys.length ck) n.keys))
  have HV := Lib.hid (fun (w' : World) (hb : Below w.heap.size w w') => (hv.below hb : StrsIn w' (.slice av n.vals.length cv) n.vals))
  have HP := Lib.hid (fun (w' : World) (hb : Below w.heap.size w w') => (hp.below hb : PtsIn w' (.slice ap n.kids.length cp) n.kids))
  have JK := Lib.hid (fun (w' : World) (hb : Below w.heap.size w w') => (jk.below hb : StrsIn w' (.slice bk m.keys.length dk) m.keys))
  have JV := Lib.hid (fun (w' : World) (hb : Below w.heap.size w w') => (jv.below hb : StrsIn w' (.slice bv m.vals.length dv) m.vals))
  have JP := Lib.hid (fun (w' : World) (hb : Below w.heap.size w w') => (jp.below hb : PtsIn w' (.slice bp m.kids.length dp) m.kids))
  have HT := Lib.hid (At_nd (heap_alloc2_old w (.cells #[.bool n.leaf, .slice ak n.keys.length ck, .slice av n.vals.length cv, .slice ap n.kids.length cp] 25) (.cells #[.bool m.leaf, .slice bk m.keys.length dk, .slice bv m.vals.length dv, .slice bp m.kids.length dp] 25)))
  have HT' := Lib.hid (At_nd (heap_alloc2_new w (.cells #[.bool n.leaf, .slice ak n.keys.length ck, .slice av n.vals.length cv, .slice ap n.kids.length cp] 25) (.cells #[.bool m.leaf, .slice bk m.keys.length dk, .slice bv m.vals.length dv, .slice bp m.kids.length dp] 25)))
  have HF := Lib.hid hf
  clear h1 h2 hk hv hp jk jv jp hb0 hf hg
  go_enter Tryd.func14, Tryd.ntmps14
  by_cases hL : n.leaf = m.leaf
  case neg =>
    have HQ := Lib.hid (sameN_leaf hL)
    have e1 : (n.leaf == m.leaf) = false := by simpa using hL
    clear hL
    go_wp2
    go_ret
    exact ⟨by rw [HQ.out]; rfl, HB.out⟩
  case pos =>
    have HL := Lib.hid hL
    have e1 : (n.leaf == m.leaf) = true := by simpa using hL
    clear hL
    go_wp2_with fail
    refine (eqStrs_any _ _ _ _ _ (HK.out _ HB.out) (JK.out _ HB.out) HF.out.keys).mono ?_
    rintro e w1 ⟨rfl, hb1⟩
    have HB1 := Lib.hid (HB.out.trans (hb1.mono HB.out.size))
    have HT1 := HT.out.fr (Fr.of_below (S := fun _ => False) hb1) id
    have HT1' := HT'.out.fr (Fr.of_below (S := fun _ => False) hb1) id
    have c2 : w1.cell? ⟨w.heap.size, 2, none⟩ = some (.slice av n.vals.length cv) := by simpa using HT1 2 _ rfl
    have d2 : w1.cell? ⟨w.heap.size + 1, 2, none⟩ = some (.slice bv m.vals.length dv) := by simpa using HT1' 2 _ rfl
    replace HT1 := Lib.hid HT1
    replace HT1' := Lib.hid HT1'
    clear hb1
    cases hE : eqv sEq n.keys m.keys with
    | false =>
      have HQ := Lib.hid (sameN_keys hE)
      clear hE
      go_wp2
      go_ret
      exact ⟨by rw [HQ.out]; rfl, HB1.out⟩
    | true =>
      have HE := Lib.hid hE
      clear hE
      go_wp2_with fail
      refine (eqStrs_any _ _ _ _ _ (HV.out _ HB1.out) (JV.out _ HB1.out) HF.out.vals).mono ?_
      rintro e w2 ⟨rfl, hb2⟩
      have HB2 := Lib.hid (HB1.out.trans (hb2.mono HB1.out.size))
      have HT2 := HT1.out.fr (Fr.of_below (S := fun _ => False) hb2) id
      have HT2' := HT1'.out.fr (Fr.of_below (S := fun _ => False) hb2) id
      have c3 : w2.cell? ⟨w.heap.size, 3, none⟩ = some (.slice ap n.kids.length cp) := by simpa using HT2 3 _ rfl
      have d3 : w2.cell? ⟨w.heap.size + 1, 3, none⟩ = some (.slice bp m.kids.length dp) := by simpa using HT2' 3 _ rfl
      replace HT2 := Lib.hid HT2
      replace HT2' := Lib.hid HT2'
      clear hb2 c2 d2
      cases hE : eqv sEq n.vals m.vals with
      | false =>
        have HQ := Lib.hid (sameN_vals hE)
        clear hE
        go_wp2
        go_ret
        exact ⟨by rw [HQ.out]; rfl, HB2.out⟩
      | true =>
        have HE' := Lib.hid hE
        clear hE
        go_wp2_with fail
        refine (eqPtrs_any _ _ _ _ _ (HP.out _ HB2.out) (JP.out _ HB2.out) HF.out.kids).mono ?_
        rintro e w3 ⟨rfl, hb3⟩
        have HB3 := Lib.hid (HB2.out.trans (hb3.mono HB2.out.size))
        have HQ := Lib.hid (sameN_kids HL.out HE.out HE'.out)
        clear hb3 c3 d3
        go_wp2
        go_ret
        exact ⟨by rw [HQ.out]; rfl, HB3.out⟩

end Go.Proofs.YtdmgmpagnmmehaaDoor

namespace Go.Proofs.YtdmgmpagnmmehaaDoor
open Go.RowKit

end Go.Proofs.YtdmgmpagnmmehaaDoor
