/- A pool over its device, with what else must stand: what each act leaves. And heavy. Walks: two slices of strings, two of pointers, two nodes: are they the same? The program's own. Walk: banyanlaw13.heavy. Walk: banyanlaw13.PoolKeys. Walk: banyanlaw13.PoolTwice. Walk: banyanlaw13.PoolTurns. Walk: banyanlaw13.PoolDown. Plain: what is taken, counted. A map's length. Walk: banyanlaw13.PoolFills. A region that draws its order, with two chains of operations that write: any order of the two, by what stands behind x of the first and y of the second. Over any program. 'a, b = append(a, x), append(b, y)' of structs, in whatever order: each chain is a slice literal and an append. Over any program. Walk: banyanlaw13.PoolBack. Walks: banyanref13's New, Write: a pool of the reference, in memory. Walk: banyanlaw13's reads. -/
import Derived.Test.YtkbnkdokcmpcgaaGreatDoorB0
import Derived.Test.YtkbnkdokcmpcgaaGreatDoorB9
import Derived.Test.YtkbnkdokcmpcgaaGreatDoorB10
import Derived.Test.YtkbnkdokcmpcgaaGreatDoorB13
import Derived.Test.YtkbnkdokcmpcgaaGreatDoorB15
import Derived.Test.YtkbnkdokcmpcgaaGreatDoorB16
import Derived.Test.YtkbnkdokcmpcgaaGreatDoorB17
import Derived.Test.YtkbnkdokcmpcgaaGreatDoorB22
namespace Go.Proofs.YtkbnkdokcmpcgaaGreatDoor
open Go.RowKit

def PS (B : Nat) (w : World) (P D S W lo : Nat) (ks : List UInt8) (t : Nat → Bool) (birth : Nat) (d : Dv) (L : List (Nat × Obj)) : Prop :=
  ∃ F, PlAt w P D S W d.size ks t birth ∧ DvIn w lo D F d ∧ (∀ k, F k → B ≤ k ∧ k < w.heap.size) ∧ (∀ k, PlF P S W k → B ≤ k ∧ ¬ F k) ∧ ∀ b o, (b, o) ∈ L → w.heap[b]? = some o ∧ ¬ F b ∧ ¬ PlF P S W b

section
variable {B P D S W lo birth : Nat} {w w' : World} {ks : List UInt8} {t : Nat → Bool} {d : Dv} {L : List (Nat × Obj)}
theorem PS.below (h : PS B w P D S W lo ks t birth d L) (hb : Below w.heap.size w w') : PS B w' P D S W lo ks t birth d L := by
  obtain ⟨F, h1, h2, h3, h4, h5⟩ := h
  exact ⟨F, h1.below hb, h2.below hb, fun k hk => ⟨(h3 k hk).1, Nat.lt_of_lt_of_le (h3 k hk).2 hb.size⟩, h4, fun b o hm => ⟨(hb.block b (lt_of_block (h5 b o hm).1)).trans (h5 b o hm).1, (h5 b o hm).2⟩⟩
theorem PS.add (h : PS B w P D S W lo ks t birth d L) (hb : Below w.heap.size w w') {g : Nat} {o : Obj} (hg : w'.heap[g]? = some o) (hw : w.heap.size ≤ g) : PS B w' P D S W lo ks t birth d ((g, o) :: L) := by
  have hlt := (show PlAt w P D S W d.size ks t birth from h.choose_spec.1).lt
  obtain ⟨F, h1, h2, h3, h4, h5⟩ := h
  refine ⟨F, h1.below hb, h2.below hb, fun k hk => ⟨(h3 k hk).1, Nat.lt_of_lt_of_le (h3 k hk).2 hb.size⟩, h4, fun b o' hm => ?_⟩
  rcases List.mem_cons.1 hm with e | hm
  · injection e with e1 e2
    subst e1 e2
    exact ⟨hg, fun hF => by have := (h3 _ hF).2; omega, fun hp => by have := hlt _ hp; omega⟩
  · exact ⟨(hb.block b (lt_of_block (h5 b o' hm).1)).trans (h5 b o' hm).1, (h5 b o' hm).2⟩
theorem PS.row (h : PS B w P D S W lo ks t birth d L) {g : Nat} {o : Obj} (hm : (g, o) ∈ L) : w.heap[g]? = some o := by
  obtain ⟨F, _, _, _, _, h5⟩ := h; exact (h5 g o hm).1
theorem PS.pl (h : PS B w P D S W lo ks t birth d L) : PlAt w P D S W d.size ks t birth := by obtain ⟨F, h1, _⟩ := h; exact h1
theorem PS.dv (h : PS B w P D S W lo ks t birth d L) : ∃ F, DvIn w lo D F d := by obtain ⟨F, _, h2, _⟩ := h; exact ⟨F, h2⟩
theorem PS.wf (h : PS B w P D S W lo ks t birth d L) : d.Wf := by obtain ⟨F, _, ⟨L, T, wv, h2, _⟩, _⟩ := h; exact h2.wf
end

theorem made_ps (size : Nat) (w : World) (h1 : 16 ≤ size) (h2 : size ≤ 4096) :
    Calls Tryz.prog 17 #[.int .i64 (size : Int)] w fun e w' => ∃ P D S W lo, e = .returned (.tuple #[.pointer (some ⟨P, 0, none⟩), .pointer (some ⟨D, 0, none⟩), .agg (MK.map Bv).toArray, .bool true]) ∧
      (∀ B, B ≤ w.heap.size → PS B w' P D S W lo MK noneT 0 (Dv.new size) []) ∧ Below w.heap.size w w' := by
  refine (made_ok size w h1 h2).mono ?_
  rintro e w' ⟨P, D, S, W, lo, F, rfl, hp, hd, hF, hPF, hb⟩
  obtain ⟨Fs, hds, hFs, -⟩ := hd.small
  refine ⟨P, D, S, W, lo, rfl, fun B hB => ⟨Fs, hp, hds, fun k hk => ⟨Nat.le_trans hB (hF k (hFs k hk).1), (hFs k hk).2⟩, fun k hk => ⟨Nat.le_trans hB (hPF k hk).1, fun h => (hPF k hk).2 (hFs k h).1⟩, fun b o hm => by simp at hm⟩, hb⟩

section
variable (B P D S W lo birth : Nat) (ks : List UInt8) (t : Nat → Bool) (d : Dv) (L : List (Nat × Obj)) (w : World)
theorem begin_ps (b : Nat) (h : PS B w P D S W lo ks t birth d L) (hB : B ≤ w.heap.size) (h0 : 0 < b) (hb : b < 18446744073709551616) :
    Calls Tryz.prog 18 #[.pointer (some ⟨P, 0, none⟩), .int .u64 (b : Int)] w fun e w' => e = .returned (.int .i64 0) ∧ PS B w' P D S W lo ks t b d L ∧ Below B w w' := by
  obtain ⟨F, h1, h2, h3, h4, h5⟩ := h
  refine (poBegin_ok P D S W d.size birth b ks t w h1 h0 hb).mono ?_
  rintro e w' ⟨rfl, hp, hf⟩
  exact ⟨rfl, ⟨F, hp, h2.fr hf (fun k hk e => (h4 k (Or.inl e)).2 hk), fun k hk => ⟨(h3 k hk).1, Nat.lt_of_lt_of_le (h3 k hk).2 hf.size⟩, h4, fun b o hm => ⟨(hf.block b (lt_of_block (h5 b o hm).1) (fun e => (h5 b o hm).2.2 (Or.inl e))).trans (h5 b o hm).1, (h5 b o hm).2⟩⟩, hf.below hB (fun k e => (h4 k (Or.inl e)).1)⟩

theorem PS.after {w' : World} {F F' : Nat → Prop} {t' : Nat → Bool} {d' : Dv} (hB : B ≤ w.heap.size) (h1 : PlAt w P D S W d.size ks t birth) (h3 : ∀ k, F k → B ≤ k ∧ k < w.heap.size) (h4 : ∀ k, PlF P S W k → B ≤ k ∧ ¬ F k)
    (h5 : ∀ b o, (b, o) ∈ L → w.heap[b]? = some o ∧ ¬ F b ∧ ¬ PlF P S W b) (hs : d'.size = d.size) (hp : PlAt w' P D S W d.size ks t' birth) (hd : DvIn w' lo D F' d') (hF : ∀ k, F' k → F k ∨ w.heap.size ≤ k) (hf : Fr (fun k => F k ∨ k = S ∨ k = W) w w') :
    PS B w' P D S W lo ks t' birth d' L ∧ Below B w w' := by
  obtain ⟨Fs, hds, hFs, -⟩ := hd.small
  have hnot : ∀ b o, (b, o) ∈ L → ¬ (F b ∨ b = S ∨ b = W) := fun b o hm => by
    rintro (e | e | e)
    · exact (h5 b o hm).2.1 e
    · exact (h5 b o hm).2.2 (Or.inr (Or.inl e))
    · exact (h5 b o hm).2.2 (Or.inr (Or.inr e))
  refine ⟨⟨Fs, by rw [hs]; exact hp, hds, fun k hk => ⟨?_, (hFs k hk).2⟩, fun k hk => ⟨(h4 k hk).1, fun hF' => ?_⟩, fun b o hm => ⟨(hf.block b (lt_of_block (h5 b o hm).1) (hnot b o hm)).trans (h5 b o hm).1, fun hF' => ?_, (h5 b o hm).2.2⟩⟩, hf.below hB ?_⟩
  · rcases hF k (hFs k hk).1 with e | e
    · exact (h3 k e).1
    · omega
  · rcases hF k (hFs k hF').1 with e | e
    · exact (h4 k hk).2 e
    · have := h1.lt k hk; omega
  · rcases hF b (hFs b hF').1 with e | e
    · exact (h5 b o hm).2.1 e
    · have := lt_of_block (h5 b o hm).1; omega
  · rintro k (e | e | e)
    · exact (h3 k e).1
    · exact (h4 k (Or.inr (Or.inl e))).1
    · exact (h4 k (Or.inr (Or.inr e))).1

variable (arr : Array Value) (n : Nd)
theorem write_ps_bad (h : PS B w P D S W lo ks t birth d L) (hn : NdIs w arr n) (h0 : 0 < birth) (hf : n.Fits) (hc : checkE n ≠ 0) :
    Calls Tryz.prog 19 #[.pointer (some ⟨P, 0, none⟩), .agg arr] w fun e w' => e = .returned (.tuple #[.agg Pt.zero.arr, .int .i64 (checkE n)]) ∧ PS B w' P D S W lo ks t birth d L ∧ Below w.heap.size w w' := by
  refine (poWrite_bad P D S W d.size birth ks t arr n w h.pl hn h0 hf hc).mono ?_
  rintro e w' ⟨rfl, hf'⟩
  have hb : Below w.heap.size w w' := hf'.below (Nat.le_refl _) (fun k e => e.elim)
  exact ⟨rfl, h.below hb, hb⟩
theorem write_ps_full (h : PS B w P D S W lo ks t birth d L) (hn : NdIs w arr n) (hT : Tz w) (h0 : 0 < birth) (hf : n.Fits) (hfo : formB n = true) (hsz : sizeN n ≤ 512) (hl : lowT t d.size = none) :
    Calls Tryz.prog 19 #[.pointer (some ⟨P, 0, none⟩), .agg arr] w fun e w' => e = .returned (.tuple #[.agg Pt.zero.arr, .int .i64 6]) ∧ PS B w' P D S W lo ks t birth d L ∧ Below w.heap.size w w' := by
  refine (poWrite_full P D S W birth ks t d arr n w h.pl hn hT h0 hf hfo hsz hl).mono ?_
  rintro e w' ⟨rfl, hf'⟩
  have hb : Below w.heap.size w w' := hf'.below (Nat.le_refl _) (fun k e => e.elim)
  exact ⟨rfl, h.below hb, hb⟩
theorem write_ps_ok (h : PS B w P D S W lo ks t birth d L) (hB : B ≤ w.heap.size) (hn : NdIs w arr n) (hT : Tz w) (h0 : 0 < birth) (hf : n.Fits) (hfo : formB n = true) (hsz : sizeN n ≤ 512) (a : Nat) (hl : lowT t d.size = some a)
    (hdn : d.down = false) (hst : d.step.down = false) (hw : d.waits.length ≤ 1000000) :
    Calls Tryz.prog 19 #[.pointer (some ⟨P, 0, none⟩), .agg arr] w fun e w' => e = .returned (.tuple #[.agg (sealP ks birth a (nodeB n)).arr, .int .i64 0]) ∧
      PS B w' P D S W lo ks (updT t a true) birth (d.step.wrote a (cryptB (ks.take 32) (nonceB birth a) (nodeB n))) L ∧ Below B w w' := by
  obtain ⟨F, h1, h2, h3, h4, h5⟩ := h
  refine (poWrite_ok P D S W birth lo ks t F d arr n w h1 h2 (fun k hk => (h4 k hk).2) hn hT h0 hf hfo hsz a hl hdn hst hw).mono ?_
  rintro e w' ⟨F', rfl, hp, hd, hF, hfr⟩
  exact ⟨rfl, PS.after B P D S W lo birth ks t d L w hB h1 h3 h4 h5 rfl hp hd hF hfr⟩
theorem write_ps_down (h : PS B w P D S W lo ks t birth d L) (hB : B ≤ w.heap.size) (hn : NdIs w arr n) (hT : Tz w) (h0 : 0 < birth) (hf : n.Fits) (hfo : formB n = true) (hsz : sizeN n ≤ 512) (a : Nat) (hl : lowT t d.size = some a)
    (hno : d.down = true ∨ d.step.down = true) :
    Calls Tryz.prog 19 #[.pointer (some ⟨P, 0, none⟩), .agg arr] w fun e w' => e = .returned (.tuple #[.agg Pt.zero.arr, .int .i64 7]) ∧ PS B w' P D S W lo ks t birth d.miss L ∧ Below B w w' := by
  obtain ⟨F, h1, h2, h3, h4, h5⟩ := h
  refine (poWrite_down P D S W birth lo ks t F d arr n w h1 h2 (fun k hk => (h4 k hk).2) hn hT h0 hf hfo hsz a hl hno).mono ?_
  rintro e w' ⟨rfl, hp, hd, hfr⟩
  exact ⟨rfl, PS.after B P D S W lo birth ks t d L w hB h1 h3 h4 h5 d.miss_size hp hd (fun k hk => Or.inl hk) hfr⟩
end

end Go.Proofs.YtkbnkdokcmpcgaaGreatDoor
namespace Go.Proofs.YtkbnkdokcmpcgaaGreatDoor
open Go.RowKit

def eqAt {α : Type} (p : α → α → Bool) (a b : List α) (i : Nat) : Bool := match a[i]?, b[i]? with | some x, some y => p x y | _, _ => true
def eqv {α : Type} (p : α → α → Bool) (a b : List α) : Bool := decide (a.length = b.length) && (List.range a.length).all (eqAt p a b)
theorem eqv_len {α : Type} {p : α → α → Bool} {a b : List α} (h : ¬ a.length = b.length) : eqv p a b = false := by unfold eqv; rw [decide_eq_false h]; rfl
theorem eqv_false {α : Type} {p : α → α → Bool} {a b : List α} (hl : a.length = b.length) {i : Nat} (hi : i < a.length) (h : p a[i] (b[i]'(by omega)) = false) : eqv p a b = false := by
  rw [Bool.eq_false_iff]
  intro he
  unfold eqv at he
  simp only [Bool.and_eq_true] at he
  have := List.all_eq_true.1 he.2 i (by simpa using hi)
  unfold eqAt at this
  rw [List.getElem?_eq_getElem hi, List.getElem?_eq_getElem (by omega)] at this
  simp only at this
  rw [h] at this
  cases this
theorem eqv_true {α : Type} {p : α → α → Bool} {a b : List α} (hl : a.length = b.length) (h : ∀ i (h1 : i < a.length) (h2 : i < b.length), p a[i] b[i] = true) : eqv p a b = true := by
  unfold eqv
  rw [decide_eq_true hl, Bool.true_and]
  refine List.all_eq_true.2 fun i hi => ?_
  have hi' : i < a.length := by simpa using hi
  unfold eqAt
  rw [List.getElem?_eq_getElem hi', List.getElem?_eq_getElem (by omega)]
  exact h i hi' (by omega)
theorem eqv_refl {α : Type} {p : α → α → Bool} (hp : ∀ x, p x x = true) (a : List α) : eqv p a a = true := eqv_true rfl (fun _ _ _ => hp _)

def ptEq (p q : Pt) : Bool := decide (p = q)
def sameN (n m : Nd) : Bool := (n.leaf == m.leaf) && eqv sEq n.keys m.keys && eqv sEq n.vals m.vals && eqv ptEq n.kids m.kids
theorem sameN_leaf {n m : Nd} (h : ¬ n.leaf = m.leaf) : sameN n m = false := by unfold sameN; rw [show (n.leaf == m.leaf) = false by simpa using h]; rfl
theorem sameN_keys {n m : Nd} (h : eqv sEq n.keys m.keys = false) : sameN n m = false := by unfold sameN; rw [h]; simp
theorem sameN_vals {n m : Nd} (h : eqv sEq n.vals m.vals = false) : sameN n m = false := by unfold sameN; rw [h]; simp
theorem sameN_kids {n m : Nd} (h0 : n.leaf = m.leaf) (h1 : eqv sEq n.keys m.keys = true) (h2 : eqv sEq n.vals m.vals = true) : sameN n m = eqv ptEq n.kids m.kids := by unfold sameN; rw [h0, h1, h2]; simp
theorem sameN_refl (n : Nd) : sameN n n = true := by
  have hs : ∀ x : ByteArray, sEq x x = true := fun x => (sEq_iff _ _).2 rfl
  rw [sameN_kids rfl (eqv_refl hs _) (eqv_refl hs _)]
  exact eqv_refl (fun x => by unfold ptEq; simp) _

theorem wpQuiet_neq_ptr {ops : Array Oper} {C : World → Prop} {Q : Act → Prop} {rest : List Oper} {o : Oper} {a : Act} (hw : Region.wanted o (yielded ops a.tmps) = true) (x y : Operand) (yt : TypeId) (ho : o.op = .binOp .neq 43 x y yt)
    {p q : Pt} (hx : a.eval x = .agg p.arr) (hy : a.eval y = .agg q.arr) (h1 : p.Wf) (h2 : q.Wf)
    (h : wpQuiet Tryz.prog ops C Q rest (a.put o.dst (.bool (!decide (p = q))))) : wpQuiet Tryz.prog ops C Q (o :: rest) a :=
  BigFrame.wpQuiet_want hw fun K hK => ⟨.bool (!decide (p = q)), fun w _ => by
    unfold Oper.quietAt execOp
    simp only [ho, hx, hy, Sem.run_bind, run_eqGuard_agg w _ _ _ _ _ _ guard_ptr, Result.andThen_ok, run_neq_struct, run_equalIn_ptr p q h1 h2 w]
    exact ⟨rfl, rfl⟩, hK _ h⟩

set_option maxRecDepth 100000 in
set_option maxHeartbeats 2000000 in
theorem eqStrs_any (v1 v2 : Value) (l1 l2 : List ByteArray) (w : World) (h1 : StrsIn w v1 l1) (h2 : StrsIn w v2 l2) (hr : l1.length ≤ 140737488351232) :
    Calls Tryz.prog 71 #[v1, v2] w fun e w' => e = .returned (.bool (eqv sEq l1 l2)) ∧ Below w.heap.size w w' := by
  obtain ⟨a1, c1, rfl, hel1⟩ := h1.open
  obtain ⟨a2, c2, rfl, hel2⟩ := h2.open
  have HE1 := Lib.hid hel1
  have HE2 := Lib.hid hel2
  clear h1 h2 hel1 hel2
  by_cases hl : l1.length = l2.length
  case neg =>
    have HQ := Lib.hid (eqv_len (p := sEq) hl)
    have b1 : ((l1.length : Int) == (l2.length : Int)) = false := by rw [beq_nat]; exact decide_eq_false hl
    have b2 : ¬ (l1.length : Int) = (l2.length : Int) := by omega
    clear hl
    go_enter Tryz.func71, Tryz.ntmps71
    go_wp2
    go_ret
    exact ⟨by rw [HQ.out]; rfl, Below.refl _ _⟩
  case pos =>
    have HL := Lib.hid hl
    rw [← hl]
    clear hl
    go_enter Tryz.func71, Tryz.ntmps71
    go_wp2_with fail
    go_loopw [13, 5] (fun i u wr => ∃ k : Nat, k ≤ l1.length ∧ i = .int .i64 k ∧ (∀ j (h1 : j < l1.length) (h2 : j < l2.length), j < k → sEq l1[j] l2[j] = true) ∧ Below w.heap.size w wr) (fun i _ _ => l1.length - (intOf i).toNat)
    case atStart => exact ⟨0, Nat.zero_le _, rfl, fun j _ _ hj => by omega, Below.refl _ _⟩
    case round =>
      obtain ⟨k, hk, rfl, hz, hb⟩ := hrel
      have HZ := Lib.hid hz
      have HB := Lib.hid hb
      clear hz hb
      rcases Nat.lt_or_ge k l1.length with hlt | hge
      · obtain ⟨b1, o1, rfl, hc1⟩ := HE1.out k hlt
        obtain ⟨b2, o2, rfl, hc2⟩ := HE2.out k (by have := HL.out; omega)
        obtain ⟨s, hs⟩ : ∃ s, s = l1[k]'hlt := ⟨_, rfl⟩
        obtain ⟨t, ht⟩ : ∃ t, t = l2[k]'(by have := HL.out; omega) := ⟨_, rfl⟩
        rw [← hs] at hc1
        rw [← ht] at hc2
        have g1 : wr.cell? ⟨b1, o1 + k, none⟩ = some (.string s) := (HB.out.cell (p := ⟨b1, o1 + k, none⟩) (World.block_lt_of_cell? w _ hc1)).trans hc1
        have g2 : wr.cell? ⟨b2, o2 + k, none⟩ = some (.string t) := (HB.out.cell (p := ⟨b2, o2 + k, none⟩) (World.block_lt_of_cell? w _ hc2)).trans hc2
        clear hc1 hc2
        have HS := Lib.hid hs
        have HT := Lib.hid ht
        clear hs ht
        cases hE : sEq s t with
        | true =>
          have HE := Lib.hid hE
          obtain rfl : s = t := (sEq_iff _ _).1 hE
          clear hE
          go_wp2_with fail
          go_quiet (fail)
          go_wp2
          go_roundw
          case rel =>
            refine ⟨k + 1, by omega, by go_num, fun j h1 h2 hj => ?_, Below_drewN HB.out _⟩
            rcases Nat.lt_or_ge j k with h | h
            · exact HZ.out j h1 h2 h
            · obtain rfl : j = k := by omega
              rw [← HS.out, ← HT.out]; exact HE.out
          case measure => simp [intOf]; omega
        | false =>
          have HQ := Lib.hid (show eqv sEq l1 l2 = false from eqv_false HL.out hlt (by rw [← HS.out, ← HT.out]; exact hE))
          have e1 : (s.toList == t.toList) = false := hE
          have e2 : ¬ s.toList = t.toList := by simpa using e1
          clear hE
          go_wp2_with fail
          go_quiet (fail)
          go_wp2
          go_ret
          exact ⟨by rw [HQ.out]; rfl, Below_drewN HB.out _⟩
      · obtain rfl : k = l1.length := by omega
        have HQ := Lib.hid (show eqv sEq l1 l2 = true from eqv_true HL.out (fun i h1 h2 => HZ.out i h1 h2 h1))
        go_wp2
        go_ret
        exact ⟨by rw [HQ.out]; rfl, HB.out⟩

set_option maxRecDepth 100000 in
set_option maxHeartbeats 2000000 in
theorem eqPtrs_any (v1 v2 : Value) (l1 l2 : List Pt) (w : World) (h1 : PtsIn w v1 l1) (h2 : PtsIn w v2 l2) (hr : l1.length ≤ 4139337892682) :
    Calls Tryz.prog 72 #[v1, v2] w fun e w' => e = .returned (.bool (eqv ptEq l1 l2)) ∧ Below w.heap.size w w' := by
  have HW1 := Lib.hid h1.wf
  have HW2 := Lib.hid h2.wf
  obtain ⟨a1, c1, rfl, hel1⟩ := h1.open
  obtain ⟨a2, c2, rfl, hel2⟩ := h2.open
  have HE1 := Lib.hid hel1
  have HE2 := Lib.hid hel2
  clear h1 h2 hel1 hel2
  by_cases hl : l1.length = l2.length
  case neg =>
    have HQ := Lib.hid (eqv_len (p := ptEq) hl)
    have b1 : ((l1.length : Int) == (l2.length : Int)) = false := by rw [beq_nat]; exact decide_eq_false hl
    have b2 : ¬ (l1.length : Int) = (l2.length : Int) := by omega
    clear hl
    go_enter Tryz.func72, Tryz.ntmps72
    go_wp2
    go_ret
    exact ⟨by rw [HQ.out]; rfl, Below.refl _ _⟩
  case pos =>
    have HL := Lib.hid hl
    rw [← hl]
    clear hl
    go_enter Tryz.func72, Tryz.ntmps72
    go_wp2_with fail
    go_loopw [13, 5] (fun i u wr => ∃ k : Nat, k ≤ l1.length ∧ i = .int .i64 k ∧ (∀ j (h1 : j < l1.length) (h2 : j < l2.length), j < k → ptEq l1[j] l2[j] = true) ∧ Below w.heap.size w wr) (fun i _ _ => l1.length - (intOf i).toNat)
    case atStart => exact ⟨0, Nat.zero_le _, rfl, fun j _ _ hj => by omega, Below.refl _ _⟩
    case round =>
      obtain ⟨k, hk, rfl, hz, hb⟩ := hrel
      have HZ := Lib.hid hz
      have HB := Lib.hid hb
      clear hz hb
      rcases Nat.lt_or_ge k l1.length with hlt | hge
      · obtain ⟨b1, o1, rfl, hc1⟩ := HE1.out k hlt
        obtain ⟨b2, o2, rfl, hc2⟩ := HE2.out k (by have := HL.out; omega)
        obtain ⟨s, hs⟩ : ∃ s, s = l1[k]'hlt := ⟨_, rfl⟩
        obtain ⟨t, ht⟩ : ∃ t, t = l2[k]'(by have := HL.out; omega) := ⟨_, rfl⟩
        rw [← hs] at hc1
        rw [← ht] at hc2
        have HU1 := Lib.hid (fun w' (hw : ∃ u : Wd wr.heap.size wr, w' = u.to) => (by obtain ⟨u, rfl⟩ := hw; exact u.at (hc1.fr (Fr.of_below (S := fun _ => False) HB.out) id) : At w' b1 (o1 + k * 34) s.cells))
        have HU2 := Lib.hid (fun w' (hw : ∃ u : Wd wr.heap.size wr, w' = u.to) => (by obtain ⟨u, rfl⟩ := hw; exact u.at (hc2.fr (Fr.of_below (S := fun _ => False) HB.out) id) : At w' b2 (o2 + k * 34) t.cells))
        have HWs := Lib.hid (show s.Wf by rw [hs]; exact HW1.out _ (List.getElem_mem _))
        have HWt := Lib.hid (show t.Wf by rw [ht]; exact HW2.out _ (List.getElem_mem _))
        clear hc1 hc2
        have HS := Lib.hid hs
        have HT := Lib.hid ht
        clear hs ht
        go_wp2_with fail
        refine wp_region_wd wr.heap.size (by kernel_rfl) (by kernel_rfl) ?_
        repeat (first
          | (refine wpQuiet_load_at rfl 43 (.tmp 18) rfl b1 (o1 + k * 34) rfl _ _ HU1.out Tryz.underlying43 rfl (by rw [info_ptr, HWs.out.len]) ?_; simp only [Act.put, sA, sB, sC])
          | (refine wpQuiet_load_at rfl 43 (.tmp 22) rfl b2 (o2 + k * 34) rfl _ _ HU2.out Tryz.underlying43 rfl (by rw [info_ptr, HWt.out.len]) ?_; simp only [Act.put, sA, sB, sC])
          | (refine wpQuiet_neq_ptr rfl (.tmp 19) (.tmp 23) _ rfl rfl rfl HWs.out HWt.out ?_; simp only [Act.put, sA, sB, sC])
          | go_big_quiet_step (fail))
        refine wpQuiet_nil ?_
        rintro _ ⟨⟨w2, hb2⟩, rfl⟩
        have HB2 := Lib.hid (HB.out.trans (hb2.mono HB.out.size))
        clear hb2
        cases hE : ptEq s t with
        | true =>
          have HE := Lib.hid hE
          rw [show (!decide (s = t)) = false by unfold ptEq at hE; rw [hE]; rfl]
          clear hE
          go_wp2
          go_roundw
          case rel =>
            refine ⟨k + 1, by omega, by go_num, fun j h1 h2 hj => ?_, HB2.out⟩
            rcases Nat.lt_or_ge j k with h | h
            · exact HZ.out j h1 h2 h
            · obtain rfl : j = k := by omega
              rw [← HS.out, ← HT.out]; exact HE.out
          case measure => simp [intOf]; omega
        | false =>
          have HQ := Lib.hid (show eqv ptEq l1 l2 = false from eqv_false HL.out hlt (by rw [← HS.out, ← HT.out]; exact hE))
          rw [show (!decide (s = t)) = true by unfold ptEq at hE; rw [hE]; rfl]
          clear hE
          go_wp2
          go_ret
          exact ⟨by rw [HQ.out]; rfl, HB2.out⟩
      · obtain rfl : k = l1.length := by omega
        have HQ := Lib.hid (show eqv ptEq l1 l2 = true from eqv_true HL.out (fun i h1 h2 => HZ.out i h1 h2 h1))
        go_wp2
        go_ret
        exact ⟨by rw [HQ.out]; rfl, HB.out⟩

set_option maxRecDepth 100000 in
set_option maxHeartbeats 4000000 in
theorem nodeSame_any (arr1 arr2 : Array Value) (n m : Nd) (w : World) (h1 : NdIs w arr1 n) (h2 : NdIs w arr2 m) (hf : n.Fits) (_hg : m.Fits) :
    Calls Tryz.prog 23 #[.agg arr1, .agg arr2] w fun e w' => e = .returned (.bool (sameN n m)) ∧ Below w.heap.size w w' := by
  obtain ⟨ak, ck, av, cv, ap, cp, rfl, hk, hv, hp⟩ := h1.get
  obtain ⟨bk, dk, bv, dv, bp, dp, rfl, jk, jv, jp⟩ := h2.get
  have hb0 : Below w.heap.size w ((w.alloc (.cells #[.bool n.leaf, .slice ak n.keys.length ck, .slice av n.vals.length cv, .slice ap n.kids.length cp] 25)).alloc (.cells #[.bool m.leaf, .slice bk m.keys.length dk, .slice bv m.vals.length dv, .slice bp m.kids.length dp] 25)) := ((Below.refl _ w).alloc (Nat.le_refl _) _).alloc (by simp) _
  have HB := Lib.hid hb0
  have HK := Lib.hid (fun (w' : World) (hb : Below w.heap.size w w') => (hk.below hb : StrsIn w' (.slice ak n.keys.length ck) n.keys))
  have HV := Lib.hid (fun (w' : World) (hb : Below w.heap.size w w') => (hv.below hb : StrsIn w' (.slice av n.vals.length cv) n.vals))
  have HP := Lib.hid (fun (w' : World) (hb : Below w.heap.size w w') => (hp.below hb : PtsIn w' (.slice ap n.kids.length cp) n.kids))
  have JK := Lib.hid (fun (w' : World) (hb : Below w.heap.size w w') => (jk.below hb : StrsIn w' (.slice bk m.keys.length dk) m.keys))
  have JV := Lib.hid (fun (w' : World) (hb : Below w.heap.size w w') => (jv.below hb : StrsIn w' (.slice bv m.vals.length dv) m.vals))
  have JP := Lib.hid (fun (w' : World) (hb : Below w.heap.size w w') => (jp.below hb : PtsIn w' (.slice bp m.kids.length dp) m.kids))
  have HT := Lib.hid (At_nd (heap_alloc2_old w (.cells #[.bool n.leaf, .slice ak n.keys.length ck, .slice av n.vals.length cv, .slice ap n.kids.length cp] 25) (.cells #[.bool m.leaf, .slice bk m.keys.length dk, .slice bv m.vals.length dv, .slice bp m.kids.length dp] 25)))
  have HT' := Lib.hid (At_nd (heap_alloc2_new w (.cells #[.bool n.leaf, .slice ak n.keys.length ck, .slice av n.vals.length cv, .slice ap n.kids.length cp] 25) (.cells #[.bool m.leaf, .slice bk m.keys.length dk, .slice bv m.vals.length dv, .slice bp m.kids.length dp] 25)))
  have HF := Lib.hid hf
  clear h1 h2 hk hv hp jk jv jp hb0 hf _hg
  go_enter Tryz.func23, Tryz.ntmps23
  by_cases hL : n.leaf = m.leaf
  case neg =>
    have HQ := Lib.hid (sameN_leaf hL)
    have e1 : (n.leaf == m.leaf) = false := by simpa using hL
    clear hL
    go_wp2
    go_ret
    exact ⟨by rw [HQ.out]; rfl, HB.out⟩
  case pos =>
    have HL := Lib.hid hL
    have e1 : (n.leaf == m.leaf) = true := by simpa using hL
    clear hL
    go_wp2_with fail
    refine (eqStrs_any _ _ _ _ _ (HK.out _ HB.out) (JK.out _ HB.out) HF.out.keys).mono ?_
    rintro e w1 ⟨rfl, hb1⟩
    have HB1 := Lib.hid (HB.out.trans (hb1.mono HB.out.size))
    have HT1 := HT.out.fr (Fr.of_below (S := fun _ => False) hb1) id
    have HT1' := HT'.out.fr (Fr.of_below (S := fun _ => False) hb1) id
    have c2 : w1.cell? ⟨w.heap.size, 2, none⟩ = some (.slice av n.vals.length cv) := by simpa using HT1 2 _ rfl
    have d2 : w1.cell? ⟨w.heap.size + 1, 2, none⟩ = some (.slice bv m.vals.length dv) := by simpa using HT1' 2 _ rfl
    replace HT1 := Lib.hid HT1
    replace HT1' := Lib.hid HT1'
    clear hb1
    cases hE : eqv sEq n.keys m.keys with
    | false =>
      have HQ := Lib.hid (sameN_keys hE)
      clear hE
      go_wp2
      go_ret
      exact ⟨by rw [HQ.out]; rfl, HB1.out⟩
    | true =>
      have HE := Lib.hid hE
      clear hE
      go_wp2_with fail
      refine (eqStrs_any _ _ _ _ _ (HV.out _ HB1.out) (JV.out _ HB1.out) HF.out.vals).mono ?_
      rintro e w2 ⟨rfl, hb2⟩
      have HB2 := Lib.hid (HB1.out.trans (hb2.mono HB1.out.size))
      have HT2 := HT1.out.fr (Fr.of_below (S := fun _ => False) hb2) id
      have HT2' := HT1'.out.fr (Fr.of_below (S := fun _ => False) hb2) id
      have c3 : w2.cell? ⟨w.heap.size, 3, none⟩ = some (.slice ap n.kids.length cp) := by simpa using HT2 3 _ rfl
      have d3 : w2.cell? ⟨w.heap.size + 1, 3, none⟩ = some (.slice bp m.kids.length dp) := by simpa using HT2' 3 _ rfl
      replace HT2 := Lib.hid HT2
      replace HT2' := Lib.hid HT2'
      clear hb2 c2 d2
      cases hE : eqv sEq n.vals m.vals with
      | false =>
        have HQ := Lib.hid (sameN_vals hE)
        clear hE
        go_wp2
        go_ret
        exact ⟨by rw [HQ.out]; rfl, HB2.out⟩
      | true =>
        have HE' := Lib.hid hE
        clear hE
        go_wp2_with fail
        refine (eqPtrs_any _ _ _ _ _ (HP.out _ HB2.out) (JP.out _ HB2.out) HF.out.kids).mono ?_
        rintro e w3 ⟨rfl, hb3⟩
        have HB3 := Lib.hid (HB2.out.trans (hb3.mono HB2.out.size))
        have HQ := Lib.hid (sameN_kids HL.out HE.out HE'.out)
        clear hb3 c3 d3
        go_wp2
        go_ret
        exact ⟨by rw [HQ.out]; rfl, HB3.out⟩

end Go.Proofs.YtkbnkdokcmpcgaaGreatDoor

namespace Go.Proofs.YtkbnkdokcmpcgaaGreatDoor
open Go.RowKit

end Go.Proofs.YtkbnkdokcmpcgaaGreatDoor
namespace Go.Proofs.YtkbnkdokcmpcgaaGreatDoor
open Go.RowKit

def heavy13 (n : Nd) : Bool := decide (3000 < wrap64 (costN n)) || decide (200 < (n.keys.length : Int)) || decide (200 < (n.vals.length : Int))

set_option maxRecDepth 100000 in
set_option maxHeartbeats 2000000 in
theorem heavy_any (arr : Array Value) (n : Nd) (w : World) (h : NdIs w arr n) (hf : n.Fits) :
    Calls Tryz.prog 16 #[.agg arr] w fun e w' => e = .returned (.bool (heavy13 n)) ∧ Below w.heap.size w w' := by
  obtain ⟨ak, ck, av, cv, ap, cp, rfl, hk, hv, hp⟩ := h.get
  have hb0 : Below w.heap.size w (w.alloc (.cells #[.bool n.leaf, .slice ak n.keys.length ck, .slice av n.vals.length cv, .slice ap n.kids.length cp] 25)) := (Below.refl _ w).alloc (Nat.le_refl _) _
  have HK := Lib.hid (hk.below hb0)
  have HV := Lib.hid (hv.below hb0)
  have HB := Lib.hid hb0
  have b1 := hf.keys
  have b2 := hf.vals
  have b3 := hf.kids
  obtain ⟨A0, hA0⟩ : ∃ A0 : Int, A0 = 44 * (n.kids.length : Int) := ⟨_, rfl⟩
  have ew : (n.kids.length : Int) * 44 = A0 := by omega
  have ew2 : wrap64 A0 = A0 := by unfold wrap64; omega
  obtain ⟨A1, hA1⟩ : ∃ A1 : Int, A1 = A0 + lenS n.keys := ⟨_, rfl⟩
  have HA0 := Lib.hid hA0
  have HA1 := Lib.hid hA1
  clear h hk hv hp hb0 hf hA0 hA1
  go_enter Tryz.func16, Tryz.ntmps16
  go_wp2_with fail
  go_loop [3, 15] (fun x i => ∃ k : Nat, k ≤ n.keys.length ∧ i = .int .i64 k ∧ x = .int .i64 (wrap64 (A0 + lenS (n.keys.take k)))) (fun _ i => n.keys.length - (intOf i).toNat)
  case atStart => exact ⟨0, Nat.zero_le _, rfl, by simp [lenS, ew2]⟩
  case round =>
    obtain ⟨k, hk, rfl, rfl⟩ := hrel
    rcases Nat.lt_or_ge k n.keys.length with hlt | hge
    · obtain ⟨a', c', e', hel⟩ := HK.out.open
      simp only [Value.slice.injEq, true_and] at e'
      obtain ⟨rfl, rfl⟩ := e'
      obtain ⟨b, o, rfl, hc⟩ := hel k hlt
      have HS := Lib.hid (lenS_step n.keys k hlt)
      clear hel
      go_wp2
      go_round
      case rel => exact ⟨k + 1, by omega, by go_num, by rw [HS.out]; simp only [wrap64_add', Int.add_assoc]⟩
      case measure => simp [intOf]; omega
    · obtain rfl : k = n.keys.length := by omega
      have e1 : A0 + lenS (n.keys.take n.keys.length) = A1 := by rw [List.take_length, HA1.out]
      rw [e1]
      clear e1
      go_wp2_with fail
      go_loop [3, 27] (fun x i => ∃ k : Nat, k ≤ n.vals.length ∧ i = .int .i64 k ∧ x = .int .i64 (wrap64 (A1 + lenS (n.vals.take k)))) (fun _ i => n.vals.length - (intOf i).toNat)
      case atStart => exact ⟨0, Nat.zero_le _, rfl, by simp [lenS]⟩
      case round =>
        obtain ⟨k, hk, rfl, rfl⟩ := hrel
        rcases Nat.lt_or_ge k n.vals.length with hlt | hge
        · obtain ⟨a', c', e', hel⟩ := HV.out.open
          simp only [Value.slice.injEq, true_and] at e'
          obtain ⟨rfl, rfl⟩ := e'
          obtain ⟨b, o, rfl, hc⟩ := hel k hlt
          have HS := Lib.hid (lenS_step n.vals k hlt)
          clear hel
          go_wp2
          go_round
          case rel => exact ⟨k + 1, by omega, by go_num, by rw [HS.out]; simp only [wrap64_add', Int.add_assoc]⟩
          case measure => simp [intOf]; omega
        · obtain rfl : k = n.vals.length := by omega
          have e2 : A1 + lenS (n.vals.take n.vals.length) = costN n := by rw [List.take_length, HA1.out, HA0.out]; rfl
          rw [e2]
          clear e2
          obtain ⟨Z, hZ⟩ : ∃ Z, Z = wrap64 (costN n) := ⟨_, rfl⟩
          rw [← hZ]
          have HZ := Lib.hid (show heavy13 n = (decide (3000 < Z) || decide (200 < (n.keys.length : Int)) || decide (200 < (n.vals.length : Int))) by rw [hZ]; rfl)
          clear hZ
          by_cases z1 : 3000 < Z
          · go_wp2
            go_ret
            exact ⟨by rw [HZ.out]; simp [z1], HB.out⟩
          · by_cases z2 : (200 : Int) < (n.keys.length : Int)
            · go_wp2
              go_ret
              exact ⟨by rw [HZ.out]; simp [z2], HB.out⟩
            · by_cases z3 : (200 : Int) < (n.vals.length : Int)
              · go_wp2
                go_ret
                exact ⟨by rw [HZ.out]; simp [z3], HB.out⟩
              · go_wp2
                go_ret
                exact ⟨by rw [HZ.out]; simp [z1, z2, z3], HB.out⟩

end Go.Proofs.YtkbnkdokcmpcgaaGreatDoor
namespace Go.Proofs.YtkbnkdokcmpcgaaGreatDoor
open Go.RowKit

theorem getE_cases {xs : List UInt8} (h : xs.length = 512) : getE xs = 0 ∨ getE xs = 4 := by
  unfold getE; rw [if_pos h]; split; (· exact Or.inl rfl); (· exact Or.inr rfl)
theorem checkE_le {n : Nd} (h : formB n = true) (hs : sizeN n ≤ 512) : n.keys.length ≤ 255 := by
  have hfo := formB_ok h
  have hkl := strsN_ge n.keys (fun s hs => (hfo.keyS s hs).1)
  unfold sizeN at hs; omega

end Go.Proofs.YtkbnkdokcmpcgaaGreatDoor
namespace Go.Proofs.YtkbnkdokcmpcgaaGreatDoor
open Go.RowKit

theorem bytes_back (ks : List UInt8) (birth a : Nat) (b : List UInt8) (hk : ks.length = 64) : cryptB (ks.take 32) (nonceB birth a) (cryptB (ks.take 32) (nonceB birth a) b) = b :=
  cryptB_twice _ _ _ (by rw [List.length_take, hk]; rfl) (nonceB_length _ _)
theorem RdPost.back {w w' : World} {ks : List UInt8} {d : Dv} {e : Ending} {n : Nd} {birth a : Nat} (h : RdPost w ks d (sealP ks birth a (nodeB n)) e w') (h1 : d.down = false) (hk : ks.length = 64) (hc : d.cur a = cryptB (ks.take 32) (nonceB birth a) (nodeB n))
    (hfo : formB n = true) (hsz : sizeN n ≤ 512) (hw : ∀ p ∈ n.kids, p.Wf) : ∃ arr, e = .returned (.tuple #[.agg arr, .int .i64 0]) ∧ NdIs w' arr n ∧ Below w.heap.size w w' := by
  obtain ⟨arr, rfl, hnd, hb⟩ := h.get h1 (by show hashN (d.cur a) = _; rw [hc]; rfl)
  have ho : openB ks d (sealP ks birth a (nodeB n)) = nodeB n := by
    unfold openB
    show cryptB _ (nonceB birth a) (d.cur a) = _
    rw [hc, bytes_back _ _ _ _ hk]
  have hg := nodeB_get hfo hsz (checkE_le hfo hsz) hw
  rw [ho, hg.2] at hnd
  rw [ho, hg.1]
  exact ⟨arr, rfl, hnd, hb⟩

end Go.Proofs.YtkbnkdokcmpcgaaGreatDoor
namespace Go.Proofs.YtkbnkdokcmpcgaaGreatDoor
open Go.RowKit

section
variable (B P D S W lo birth : Nat) (ks : List UInt8) (t : Nat → Bool) (d : Dv) (L : List (Nat × Obj)) (w : World)
end

theorem geql_hash {ops : Array Oper} {rest : List Oper} {o : Oper} {a : Act} {w : World} {Q : Exit → Act → World → Prop} (hw : Region.wanted o (yielded ops a.tmps) = true) (x y : Operand) (yt : TypeId) (ho : o.op = .binOp .eql 33 x y yt)
    {xs ys : List UInt8} (hx : a.eval x = .agg (xs.map Bv).toArray) (hy : a.eval y = .agg (ys.map Bv).toArray) (h1 : xs.length = 32) (h2 : ys.length = 32)
    (hK : wpList Tryz.prog ops Q rest (a.put o.dst (.bool (decide (xs = ys)))) w) : wpList Tryz.prog ops Q (o :: rest) a w := by
  refine BigFrame.wpList_want hw fun K hKK => ?_
  unfold Oper.wp execOp
  simp only [ho, hx, hy, Sem.run_bind, run_eqGuard_agg w _ _ _ _ _ _ guard_hash, Result.andThen_ok, run_eql_hash xs ys h1 h2 w]
  exact hKK _ _ hK
theorem zero_fits : Nd.zero.Fits := ⟨by decide, by decide, by decide, by simp [Nd.zero], by simp [Nd.zero]⟩
theorem PS.turn {B P D S W lo birth : Nat} {w w' : World} {ks : List UInt8} {t : Nat → Bool} {d : Dv} {L : List (Nat × Obj)} {g : Nat} {o o' : Obj} (h : PS B w P D S W lo ks t birth d ((g, o) :: L)) (hf : Fr (fun k => k = g) w w') (hg : w'.heap[g]? = some o') (hn : ∀ b o, (b, o) ∈ L → b ≠ g) :
    PS B w' P D S W lo ks t birth d ((g, o') :: L) := by
  obtain ⟨F, h1, h2, h3, h4, h5⟩ := h
  have hg5 := h5 g o List.mem_cons_self
  refine ⟨F, h1.fr hf (fun k hk e => hg5.2.2 (e ▸ hk)), h2.fr hf (fun k hk e => hg5.2.1 (e ▸ hk)), fun k hk => ⟨(h3 k hk).1, Nat.lt_of_lt_of_le (h3 k hk).2 hf.size⟩, h4, fun b o2 hm => ?_⟩
  rcases List.mem_cons.1 hm with e | hm
  · injection e with e1 e2
    subst e1 e2
    exact ⟨hg, hg5.2⟩
  · have h6 := h5 b o2 (List.mem_cons_of_mem _ hm)
    exact ⟨(hf.block b (lt_of_block h6.1) (hn b o2 hm)).trans h6.1, h6.2⟩

end Go.Proofs.YtkbnkdokcmpcgaaGreatDoor
namespace Go.Proofs.YtkbnkdokcmpcgaaGreatDoor
open Go.RowKit

section
variable (B P D S W lo birth : Nat) (ks : List UInt8) (t : Nat → Bool) (d : Dv) (L : List (Nat × Obj)) (w : World)
theorem limit_ps (n : Int) (h : PS B w P D S W lo ks t birth d L) (hB : B ≤ w.heap.size) (hn : -9223372036854775808 ≤ n ∧ n ≤ 9223372036854775807) :
    Calls Tryz.prog 26 #[.pointer (some ⟨D, 0, none⟩), .int .i64 n] w fun e w' => e = .returned (.tuple #[]) ∧ PS B w' P D S W lo ks t birth (d.limit n) L ∧ Below B w w' := by
  obtain ⟨F, h1, h2, h3, h4, h5⟩ := h
  refine (dvLimit_any D lo F d n w h2 hn).mono ?_
  rintro e w' ⟨rfl, hdv, hfr⟩
  exact ⟨rfl, PS.after B P D S W lo birth ks t d L w hB h1 h3 h4 h5 rfl (h1.fr hfr (fun k hk => (h4 k hk).2)) hdv (fun k hk => Or.inl hk) (hfr.mono (fun k _ hk => Or.inl hk))⟩
theorem crash_ps (keep : Nat) (torn : Int) (h : PS B w P D S W lo ks t birth d L) (hB : B ≤ w.heap.size) (hk : keep < 18446744073709551616) (hn : d.waits.length ≤ 1000000) (ht : -9223372036854775808 ≤ torn ∧ torn ≤ 9223372036854775807) :
    Calls Tryz.prog 28 #[.pointer (some ⟨D, 0, none⟩), .int .u64 (keep : Int), .int .i64 torn] w fun e w' => e = .returned (.tuple #[]) ∧ PS B w' P D S W lo ks t birth (d.crashed keep torn) L ∧ Below B w w' := by
  obtain ⟨F, h1, h2, h3, h4, h5⟩ := h
  refine (dvCrash_any D lo keep torn F d w h2 hk hn ht).mono ?_
  rintro e w' ⟨F', rfl, hdv, hfr, hF⟩
  exact ⟨rfl, PS.after B P D S W lo birth ks t d L w hB h1 h3 h4 h5 rfl (h1.fr hfr (fun k hk => (h4 k hk).2)) hdv hF (hfr.mono (fun k _ hk => Or.inl hk))⟩
end

end Go.Proofs.YtkbnkdokcmpcgaaGreatDoor
namespace Go.Proofs.YtkbnkdokcmpcgaaGreatDoor
open Go.RowKit

end Go.Proofs.YtkbnkdokcmpcgaaGreatDoor
namespace Go.Proofs.YtkbnkdokcmpcgaaGreatDoor
open Go.RowKit

theorem PS.none {B P D S W lo birth : Nat} {w : World} {ks : List UInt8} {t : Nat → Bool} {d : Dv} {L : List (Nat × Obj)} (h : PS B w P D S W lo ks t birth d L) : PS B w P D S W lo ks t birth d [] := by
  obtain ⟨F, h1, h2, h3, h4, h5⟩ := h
  exact ⟨F, h1, h2, h3, h4, fun b o hm => by simp at hm⟩
end Go.Proofs.YtkbnkdokcmpcgaaGreatDoor
namespace Go.Proofs.YtkbnkdokcmpcgaaGreatDoor
open Go.RowKit

section
variable {P : Program} {md : Region.Mode} {ops : Array Oper} {C : World → Prop} {Q : Exit → Act → World → Prop}
end

end Go.Proofs.YtkbnkdokcmpcgaaGreatDoor
namespace Go.Proofs.YtkbnkdokcmpcgaaGreatDoor
open Go.RowKit

section
variable {P : Program} {Q : Exit → Act → World → Prop}
end
end Go.Proofs.YtkbnkdokcmpcgaaGreatDoor
namespace Go.Proofs.YtkbnkdokcmpcgaaGreatDoor
open Go.RowKit

theorem info_nd4 : (Tryz.prog.info? 25).map (·.size) = some 4 := by kernel_rfl
theorem infoz_ptr : ∃ i z, Tryz.prog.info? 43 = some i ∧ i.zero = some z ∧ i.size = 34 ∧ i.bytes = 48 ∧ z.cells.size = 34 := by
  have h : (Tryz.prog.info? 43).map (fun i => (i.zero.map (·.cells.size), i.size, i.bytes)) = some (some 34, 34, 48) := by kernel_rfl
  cases hq : Tryz.prog.info? 43 with
  | none => rw [hq] at h; cases h
  | some i =>
    rw [hq] at h
    simp only [Option.map_some, Option.some.injEq, Prod.mk.injEq] at h
    obtain ⟨h1, h2, h3⟩ := h
    obtain ⟨z, hz, hzs⟩ := Option.map_eq_some_iff.1 h1
    exact ⟨i, z, rfl, hz, h2, h3, hzs⟩
theorem PS.keep {B P D S W lo birth : Nat} {w w' : World} {ks : List UInt8} {t : Nat → Bool} {d : Dv} {L L' : List (Nat × Obj)} {F : Nat → Prop} (h : PS B w P D S W lo ks t birth d L) (hf : Fr F w w') (hF : ∀ k, F k → ∃ o, (k, o) ∈ L)
    (hL : ∀ b o, (b, o) ∈ L' → w'.heap[b]? = some o ∧ ((∃ o', (b, o') ∈ L) ∨ w.heap.size ≤ b)) : PS B w' P D S W lo ks t birth d L' := by
  obtain ⟨F2, h1, h2, h3, h4, h5⟩ := h
  have hlt := h1.lt
  refine ⟨F2, h1.fr hf (fun k hk e => by obtain ⟨o, ho⟩ := hF k e; exact (h5 k o ho).2.2 hk), h2.fr hf (fun k hk e => by obtain ⟨o, ho⟩ := hF k e; exact (h5 k o ho).2.1 hk), fun k hk => ⟨(h3 k hk).1, Nat.lt_of_lt_of_le (h3 k hk).2 hf.size⟩, h4, fun b o hm => ?_⟩
  obtain ⟨e1, e2⟩ := hL b o hm
  refine ⟨e1, ?_⟩
  rcases e2 with ⟨o', ho'⟩ | e2
  · exact (h5 b o' ho').2
  · exact ⟨fun hk => by have := (h3 b hk).2; omega, fun hk => by have := hlt b hk; omega⟩
theorem _root_.Go.World.ownsRow.blocks {w w' : World} {base e size n : Nat} {v : Value} {xs : List Value} (h : w.ownsRow base e size v n xs) (hb : ∀ b, v.ownBlock = some b → w'.heap[b]? = w.heap[b]?) : w'.ownsRow base e size v n xs := by
  refine ⟨h.1, ?_⟩
  rcases h.2 with hn | ⟨g, cap, cur, rfl, hg0, hg, rest⟩
  · exact .inl hn
  · exact .inr ⟨g, cap, cur, rfl, hg0, (hb g rfl).trans hg, rest⟩
theorem _root_.Go.World.ownsRow.has {w : World} {base e size n : Nat} {v : Value} {xs : List Value} (h : w.ownsRow base e size v n xs) {b : Nat} (hb : v.ownBlock = some b) : ∃ o, w.heap[b]? = some o := by
  have := (h.lt b hb).2
  exact ⟨_, Array.getElem?_eq_getElem this⟩
theorem _root_.Go.World.ownsRow.not_at {w : World} {base e e2 size n : Nat} {v : Value} {xs : List Value} {cs : Array Value} {fz : Nat × Nat} (h : w.ownsRow base e size v n xs) {b : Nat} (hb : v.ownBlock = some b) (hc : w.heap[b]? = some (.cells cs e2 fz)) (hne : e ≠ e2) : False := by
  rcases h.2 with ⟨rfl, _⟩ | ⟨g, cap, cur, rfl, _, hg, _⟩
  · cases hb
  · obtain rfl : g = b := by simpa [Value.ownBlock] using hb
    rw [hg] at hc
    simp only [Option.some.injEq, Obj.cells.injEq] at hc
    exact hne hc.2.1
theorem PS.rows {B P D S W lo birth B2 P2 D2 S2 W2 lo2 birth2 : Nat} {w w' : World} {ks ks2 : List UInt8} {t t2 : Nat → Bool} {d d2 : Dv} {L : List (Nat × Obj)} (h : PS B w P D S W lo ks t birth d L) (h' : PS B2 w' P2 D2 S2 W2 lo2 ks2 t2 birth2 d2 L) {base e size n : Nat} {v : Value} {xs : List Value}
    (ho : w.ownsRow base e size v n xs) (hL : ∀ b, v.ownBlock = some b → ∃ o, (b, o) ∈ L) : w'.ownsRow base e size v n xs :=
  ho.blocks fun b hb => by obtain ⟨o, hm⟩ := hL b hb; rw [h.row hm, h'.row hm]

theorem own_at {w : World} {base e sz : Nat} {v : Value} {ls : List (List Value)} (h : w.ownsRow base e sz v ls.length ls.flatten) (hl : ∀ l ∈ ls, l.length = sz) (j : Nat) (hj : j < ls.length) :
    ∃ g cap, v = .slice (some ⟨g, 0, none⟩) ls.length cap ∧ At w g (j * sz) ls[j] ∧ g < w.heap.size := by
  rcases h.2 with ⟨rfl, h0⟩ | ⟨g, cap, cur, rfl, _, hg, _, _, _, ht⟩
  · omega
  · refine ⟨g, cap, rfl, fun i u hu => ?_, lt_of_block hg⟩
    have hi : i < sz := by rw [← hl _ (List.getElem_mem hj)]; exact (List.getElem?_eq_some_iff.1 hu).1
    have hf := flat_get sz ls hl j hj i hi
    rw [cell_of_row _ g _ _ _ _ hg, ← Array.getElem?_toList, ← hu, ← hf, ← ht, List.getElem?_take, if_pos]
    have := Nat.mul_le_mul_right sz (show j + 1 ≤ ls.length by omega)
    rw [Nat.add_mul, Nat.one_mul] at this
    omega
end Go.Proofs.YtkbnkdokcmpcgaaGreatDoor
namespace Go.Proofs.YtkbnkdokcmpcgaaGreatDoor
open Go.RowKit

def BlkL (p : Pt) (arr : Array Value) : List Value := p.cells ++ arr.toList
abbrev Lies := Nat → Option (Pt × Array Value × Nd)
def LiM (ml : List (Nat × Value)) (lies : Lies) : Prop := ∀ a, getU ml a = (lies a).map fun z => .agg (BlkL z.1 z.2.1).toArray
structure RpAt (w : World) (R S V M size : Nat) (t : Nat → Bool) (birth : Nat) (lies : Lies) : Prop where
  row : w.heap[R]? = some (.cells #[.int .i64 (size : Int), .pointer (some ⟨S, 0, none⟩), .int .u64 (birth : Int), .map (some M)] 82 (0, 0))
  sp : RsAt w S V size t
  lm : ∃ ml, UM w M ml ∧ LiM ml lies
  nRS : R ≠ S
  nRV : R ≠ V
def RpF (R S V M : Nat) (k : Nat) : Prop := k = R ∨ k = S ∨ k = V ∨ k = M
theorem RpAt.fr {F : Nat → Prop} {w w' : World} {R S V M size birth : Nat} {t : Nat → Bool} {lies : Lies} (h : RpAt w R S V M size t birth lies) (hf : Fr F w w') (hF : ∀ k, RpF R S V M k → ¬ F k) : RpAt w' R S V M size t birth lies := by
  obtain ⟨ml, h1, h2⟩ := h.lm
  exact ⟨(hf.block _ (lt_of_block h.row) (hF _ (Or.inl rfl))).trans h.row, h.sp.fr hf (hF _ (Or.inr (Or.inl rfl))) (hF _ (Or.inr (Or.inr (Or.inl rfl)))), ⟨ml, h1.fr hf (hF _ (Or.inr (Or.inr (Or.inr rfl)))), h2⟩, h.nRS, h.nRV⟩
theorem RpAt.below {w w' : World} {R S V M size birth : Nat} {t : Nat → Bool} {lies : Lies} (h : RpAt w R S V M size t birth lies) (hf : Below w.heap.size w w') : RpAt w' R S V M size t birth lies := h.fr (Fr.of_below (S := fun _ => False) hf) (fun _ _ => id)
theorem RpAt.lt {w : World} {R S V M size birth : Nat} {t : Nat → Bool} {lies : Lies} (h : RpAt w R S V M size t birth lies) : ∀ k, RpF R S V M k → k < w.heap.size := by
  obtain ⟨ml, h1, h2⟩ := h.lm
  rintro k (rfl | rfl | rfl | rfl)
  · exact lt_of_block h.row
  · exact h.sp.lt.1
  · exact h.sp.lt.2
  · exact h1.lt
theorem RpAt.cells {w : World} {R S V M size birth : Nat} {t : Nat → Bool} {lies : Lies} (h : RpAt w R S V M size t birth lies) : w.cell? ⟨R, 1, none⟩ = some (.pointer (some ⟨S, 0, none⟩)) ∧ w.cell? ⟨R, 2, none⟩ = some (.int .u64 (birth : Int)) ∧ w.cell? ⟨R, 3, none⟩ = some (.map (some M)) ∧ ∀ i, w.frozen? ⟨R, i, none⟩ = false :=
  ⟨cell_of_row _ R 1 _ _ _ h.row, cell_of_row _ R 2 _ _ _ h.row, cell_of_row _ R 3 _ _ _ h.row, fun i => frozen_of_row _ R i _ _ h.row⟩

def NrPost (w : World) (size : Nat) (e : Ending) (w' : World) : Prop := ∃ R S V M, e = .returned (.pointer (some ⟨R, 0, none⟩)) ∧ RpAt w' R S V M size noneT 0 (fun _ => none) ∧ (∀ k, RpF R S V M k → w.heap.size ≤ k) ∧ Below w.heap.size w w'
theorem rpNew_ok (size : Nat) (w : World) (h1 : 16 ≤ size) (h2 : size ≤ 4096) :
    Calls Tryz.prog 34 #[.int .i64 (size : Int)] w (NrPost w size) := by
  have hmm := @run_makeMap Tryz.prog
  go_enter Tryz.func34, Tryz.ntmps34
  go_wp2_with fail
  refine (rsNew_ok size w h1 h2).mono ?_
  rintro e w1 ⟨S, V, rfl, hr, hS, hV, hb⟩
  have HR := Lib.hid hr
  have HB := Lib.hid hb
  have HSV := Lib.hid (show w.heap.size ≤ S ∧ w.heap.size ≤ V from ⟨hS, hV⟩)
  have HM := Lib.hid (UM.made w1)
  clear hr hb hS hV
  go_wp2_with fail
  go_ret
  have hlt := HR.out.lt
  have hsz := HB.out.size
  refine ⟨w1.heap.size + 1, S, V, w1.heap.size, by simp, ⟨?_, ?_, ⟨[], ?_, fun a => rfl⟩, by omega, by omega⟩, ?_, ?_⟩
  · have := heap_alloc_new (w1.alloc (.map #[] 0)) (.cells #[.int .i64 (size : Int), .pointer (some ⟨S, 0, none⟩), .int .u64 0, .map (some w1.heap.size)] 82)
    simpa using this
  · exact (HR.out.below (((Below.refl _ w1).alloc (Nat.le_refl _) _).alloc (by simp) _))
  · exact HM.out.of_block (Below.heap_alloc _ _ _ HM.out.lt)
  · rintro k (rfl | rfl | rfl | rfl)
    · omega
    · exact HSV.out.1
    · exact HSV.out.2
    · exact hsz
  · exact (HB.out.alloc hsz _).alloc (by simp; omega) _

def RqPost (w : World) (R S V M size : Nat) (t : Nat → Bool) (birth : Nat) (lies : Lies) (n : Nd) (e : Ending) (w' : World) : Prop :=
  if birth = 0 then e = .returned (.tuple #[.int .u32 0, .int .i64 2]) ∧ Below w.heap.size w w'
  else if checkE n ≠ 0 then e = .returned (.tuple #[.int .u32 0, .int .i64 (checkE n)]) ∧ Below w.heap.size w w'
  else match lowT t size with
  | some a => e = .returned (.tuple #[.int .u32 (a : Int), .int .i64 0]) ∧ RpAt w' R S V M size (updT t a true) birth lies ∧ Fr (fun k => k = V) w w'
  | none => e = .returned (.tuple #[.int .u32 0, .int .i64 6]) ∧ Below w.heap.size w w'
set_option maxHeartbeats 1000000 in
theorem rpWrite_any (R S V M size birth : Nat) (t : Nat → Bool) (lies : Lies) (arr : Array Value) (n : Nd) (w : World) (h : RpAt w R S V M size t birth lies) (hn : NdIs w arr n) (hf : n.Fits) (hk : n.keys.length ≤ 255) :
    Calls Tryz.prog 37 #[.pointer (some ⟨R, 0, none⟩), .agg arr] w (RqPost w R S V M size t birth lies n) := by
  have hb0 : Below w.heap.size w (w.alloc (.cells arr 25)) := (Below.refl _ w).alloc (Nat.le_refl _) _
  have HB0 := Lib.hid hb0
  have HP0 := Lib.hid (h.below hb0)
  have HN0 := Lib.hid (hn.below hb0)
  have HSz := Lib.hid hn.size
  have HA0 := Lib.hid (heap_alloc_new w (.cells arr 25))
  have hc := (h.below hb0).cells
  obtain ⟨c1, c2, -, -⟩ := hc
  clear h hn hb0
  go_enter Tryz.func37, Tryz.ntmps37
  by_cases hb : birth = 0
  · subst hb
    have c2 : (w.alloc (.cells arr 25)).cell? ⟨R, 2, none⟩ = some (.int .u64 0) := c2
    go_wp2_with fail
    go_ret2
    unfold RqPost
    rw [if_pos rfl]
    exact ⟨rfl, HB0.out⟩
  · have hbb : ((birth : Int) == 0) = false := by simpa using hb
    have HBn := Lib.hid hb
    clear hb
    go_wp2_with (refine load_nd rfl (.tmp 3) rfl rfl (At_nd HA0.out) HSz.out ?_)
    refine (refCheck_any arr n _ HN0.out hf hk).mono ?_
    rintro e w1 ⟨rfl, hb1⟩
    have HP1 := Lib.hid (HP0.out.below hb1)
    have HB1 := Lib.hid (HB0.out.trans (hb1.mono HB0.out.size))
    have hc := HP1.out.cells
    obtain ⟨c1', -, -, -⟩ := hc
    clear hb1 HP0 HN0 HA0 c1 c2
    by_cases hce : checkE n = 0
    · have HCe := Lib.hid hce
      rw [hce]
      clear hce
      go_wp2_with fail
      refine (rsTake_any S V size t w1 HP1.out.sp).mono ?_
      intro e w2 hp
      have HT := Lib.hid hp
      clear hp
      have hT := HT.out
      unfold RtPost at hT
      cases hl : lowT t size with
      | some a =>
        rw [hl] at hT
        obtain ⟨rfl, hr, hfr⟩ := hT
        have HR := Lib.hid hr
        have HFr := Lib.hid hfr
        have HLw := Lib.hid hl
        clear hr hfr hl HT
        go_wp2_with fail
        go_ret2
        unfold RqPost
        rw [if_neg HBn.out, if_neg (by rw [HCe.out]; simp), HLw.out]
        refine ⟨rfl, ?_, (Fr.of_below (S := fun k => k = V) HB1.out).trans HFr.out⟩
        have hrow := HP1.out.row
        have hlm := HP1.out.lm
        obtain ⟨ml, h1, h2⟩ := hlm
        refine ⟨(HFr.out.block _ (lt_of_block hrow) HP1.out.nRV).trans hrow, HR.out, ⟨ml, h1.fr HFr.out ?_, h2⟩, HP1.out.nRS, HP1.out.nRV⟩
        rintro rfl
        obtain ⟨es, cl, hmap, _⟩ := h1
        rw [HP1.out.sp.2.2.2.2.2] at hmap
        cases hmap
      | none =>
        rw [hl] at hT
        obtain ⟨rfl, rfl⟩ := hT
        have HLw := Lib.hid hl
        clear hl HT
        go_wp2_with fail
        go_ret2
        unfold RqPost
        rw [if_neg HBn.out, if_neg (by rw [HCe.out]; simp), HLw.out]
        exact ⟨rfl, HB1.out⟩
    · have hcb : (checkE n != 0) = true := by simpa using hce
      have HCe := Lib.hid hce
      clear hce
      go_wp2_with fail
      go_ret2
      unfold RqPost
      rw [if_neg HBn.out, if_pos HCe.out]
      exact ⟨rfl, HB1.out⟩

end Go.Proofs.YtkbnkdokcmpcgaaGreatDoor
namespace Go.Proofs.YtkbnkdokcmpcgaaGreatDoor
open Go.RowKit

section
variable {ops : Array Oper} {rest : List Oper} {o : Oper} {a : Act} {w : World} {Q : Exit → Act → World → Prop}
theorem quiet_eql_hash {C : World → Prop} {Q : Act → Prop} (hw : Region.wanted o (yielded ops a.tmps) = true) (x y : Operand) (yt : TypeId) (ho : o.op = .binOp .eql 33 x y yt)
    {xs ys : List UInt8} (hx : a.eval x = .agg (xs.map Bv).toArray) (hy : a.eval y = .agg (ys.map Bv).toArray) (h1 : xs.length = 32) (h2 : ys.length = 32)
    (h : wpQuiet Tryz.prog ops C Q rest (a.put o.dst (.bool (decide (xs = ys))))) : wpQuiet Tryz.prog ops C Q (o :: rest) a :=
  BigFrame.wpQuiet_want hw fun K hK => ⟨.bool (decide (xs = ys)), fun w' hw' => by
    unfold Oper.quietAt execOp
    simp only [ho, hx, hy, Sem.run_bind, run_eqGuard_agg w' _ _ _ _ _ _ guard_hash, Result.andThen_ok, run_eql_hash xs ys h1 h2 w']
    exact ⟨rfl, rfl⟩, hK _ h⟩
theorem quiet_neq_hash {C : World → Prop} {Q : Act → Prop} (hw : Region.wanted o (yielded ops a.tmps) = true) (x y : Operand) (yt : TypeId) (ho : o.op = .binOp .neq 33 x y yt)
    {xs ys : List UInt8} (hx : a.eval x = .agg (xs.map Bv).toArray) (hy : a.eval y = .agg (ys.map Bv).toArray) (h1 : xs.length = 32) (h2 : ys.length = 32)
    (h : wpQuiet Tryz.prog ops C Q rest (a.put o.dst (.bool (!decide (xs = ys))))) : wpQuiet Tryz.prog ops C Q (o :: rest) a :=
  BigFrame.wpQuiet_want hw fun K hK => ⟨.bool (!decide (xs = ys)), fun w' hw' => by
    unfold Oper.quietAt execOp
    simp only [ho, hx, hy, Sem.run_bind, run_eqGuard_agg w' _ _ _ _ _ _ guard_hash, Result.andThen_ok, run_neq_hash xs ys h1 h2 w']
    exact ⟨rfl, rfl⟩, hK _ h⟩
end

def zeroBlk : List Value := BlkL Pt.zero zeroArr
set_option maxRecDepth 100000 in
theorem zero_blk (w : World) : (zeroValue 88).run Tryz.prog w = .ok (.agg zeroBlk.toArray) w := by kernel_rfl
theorem info_blk13 : (Tryz.prog.info? 88).map (·.size) = some 38 := by kernel_rfl
set_option maxRecDepth 100000 in
theorem step_alloc_blk {w : World} {o : Oper} {a : Act} {K : Act → World → Prop} {Q : Exit → Act → World → Prop} (ho : o.op = .alloc 88)
    (h : K (a.put o.dst (.pointer (some ⟨w.heap.size, 0, none⟩))) (w.alloc (.cells zeroBlk.toArray 88))) : Oper.wp Tryz.prog o a w K Q := by
  have hr : (execOp a.eval o).run Tryz.prog w = .ok (.value (.pointer (some ⟨w.heap.size, 0, none⟩))) (w.alloc (.cells zeroBlk.toArray 88)) := by
    unfold execOp
    rw [ho]
    kernel_rfl
  unfold Oper.wp
  rw [hr]
  exact h
def lieOf (lies : Lies) (a : Nat) : Pt × Array Value × Nd := (lies a).getD (Pt.zero, zeroArr, Nd.zero)
theorem yields_lookup_blk {ops : Array Oper} {C : World → Prop} {o : Oper} {a : Act} (hw : Region.wanted o (yielded ops a.tmps) = true) (m x : Operand) (ho : o.op = .lookup 80 m x false) {M n : Nat} {ml : List (Nat × Value)} {lies : Lies}
    (hm : a.eval m = .map (some M)) (hx : a.eval x = .int .u32 (n : Int)) (hu : ∀ w, C w → UM w M ml) (hl : LiM ml lies) : YieldsC Tryz.prog ops C o (.agg (BlkL (lieOf lies n).1 (lieOf lies n).2.1).toArray) a :=
  .inl ⟨hw, fun w' hw' => by
    have hr := run_lookup_um (P := Tryz.prog) (hu w' hw') Tryz.underlying80 Tryz.underlying41 (zero_blk w') false (n := n)
    rw [if_neg (by decide), hl n] at hr
    unfold kU at hr
    unfold execOp
    simp only [ho, hm, hx, Sem.run_bind, hr, Result.andThen_ok]
    unfold lieOf
    cases lies n <;> rfl⟩

def readE (ks : List UInt8) (d : Dv) (p : Pt) : Int × Nd :=
  if p.addr = 0 ∨ ptrE p d.size ≠ 0 then (2, Nd.zero) else if d.down = true then (7, Nd.zero) else if hashN (d.cur p.addr) = p.sum then (getE (openB ks d p), getN (openB ks d p)) else (5, Nd.zero)
theorem getE_zero {xs : List UInt8} (h : getE xs ≠ 0) : getN xs = Nd.zero := by
  unfold getE at h
  unfold getN
  split
  · rename_i hl
    rw [if_pos hl] at h
    split
    · rename_i hg; rw [if_pos hg] at h; exact absurd rfl h
    · rfl
  · rfl
theorem readE_zero {ks : List UInt8} {d : Dv} {p : Pt} (h : (readE ks d p).1 ≠ 0) : (readE ks d p).2 = Nd.zero := by
  unfold readE at h ⊢
  split
  · rfl
  · rename_i h1
    rw [if_neg h1] at h
    split
    · rfl
    · rename_i h2
      rw [if_neg h2] at h
      split
      · rename_i h3; rw [if_pos h3] at h; exact getE_zero h
      · rfl
def RdAll (w : World) (ks : List UInt8) (d : Dv) (p : Pt) (e : Ending) (w' : World) : Prop := ∃ arr, e = .returned (.tuple #[.agg arr, .int .i64 (readE ks d p).1]) ∧ NdIs w' arr (readE ks d p).2 ∧ Below w.heap.size w w'
theorem poRead_all (P D S W birth lo : Nat) (ks : List UInt8) (t : Nat → Bool) (Fd : Nat → Prop) (d : Dv) (p : Pt) (w : World) (h : PlAt w P D S W d.size ks t birth) (hd : DvIn w lo D Fd d) (hp : p.Wf) (hn : d.waits.length ≤ 1000000) :
    Calls Tryz.prog 22 #[.pointer (some ⟨P, 0, none⟩), .agg p.arr] w (RdAll w ks d p) := by
  by_cases h0 : p.addr = 0
  · refine (poRead_null P D S W birth lo ks t Fd d p w h hd hp h0).mono ?_
    rintro e w' ⟨rfl, hb⟩
    unfold RdAll readE
    rw [if_pos (Or.inl h0)]
    exact ⟨_, rfl, zero_is _, hb⟩
  · by_cases h1 : ptrE p d.size = 0
    · refine (poRead_any P D S W birth lo ks t Fd d p w h hd hp h0 h1 hn).mono ?_
      intro e w' hr
      unfold RdPost at hr
      unfold RdAll readE
      rw [if_neg (by rintro (e | e); exact h0 e; exact e h1)]
      split at hr
      · rename_i h2
        rw [if_pos h2]
        exact ⟨_, hr.1, zero_is _, hr.2⟩
      · rename_i h2
        rw [if_neg h2]
        split at hr
        · rename_i h3
          rw [if_pos h3]
          exact hr
        · rename_i h3
          rw [if_neg h3]
          exact ⟨_, hr.1, zero_is _, hr.2⟩
    · refine (poRead_form P D S W birth lo ks t Fd d p w h hd hp h0 h1).mono ?_
      rintro e w' ⟨rfl, hb⟩
      unfold RdAll readE
      rw [if_pos (Or.inr h1)]
      exact ⟨_, rfl, zero_is _, hb⟩

structure LieOk (w : World) (ks : List UInt8) (d : Dv) (lies : Lies) : Prop where
  ok : ∀ a z, lies a = some z → ∃ b, b < 18446744073709551616 ∧ a < d.size ∧ z.1 = sealP ks b a (nodeB z.2.2) ∧ d.cur a = cryptB (ks.take 32) (nonceB b a) (nodeB z.2.2) ∧ formB z.2.2 = true ∧ sizeN z.2.2 ≤ 512 ∧ NdIs w z.2.1 z.2.2 ∧ z.2.2.Fits
theorem LieOk.get {w : World} {ks : List UInt8} {d : Dv} {lies : Lies} (h : LieOk w ks d lies) (hs : d.size ≤ 4096) (a : Nat) : (lieOf lies a).1.Wf ∧ NdIs w (lieOf lies a).2.1 (lieOf lies a).2.2 ∧ (lieOf lies a).2.2.Fits ∧ ((lieOf lies a).1.addr = 0 ∨ (lieOf lies a).1.addr = a) := by
  unfold lieOf
  cases hl : lies a with
  | none => exact ⟨Pt.zero_wf, zero_is _, zero_fits, Or.inl rfl⟩
  | some z =>
    obtain ⟨b, h1, h2, h3, h4, h5, h6, h7, h8⟩ := h.ok a z hl
    refine ⟨?_, h7, h8, Or.inr ?_⟩
    · show z.1.Wf
      rw [h3]; exact sealP_wf _ _ _ _ h1 (by omega)
    · show z.1.addr = a
      rw [h3]; rfl
theorem LieOk.back {w : World} {ks : List UInt8} {d : Dv} {lies : Lies} (h : LieOk w ks d lies) (hk : ks.length = 64) {p : Pt} (h0 : p.addr ≠ 0) (h1 : ptrE p d.size = 0) (hd : d.down = false) (he : (lieOf lies p.addr).1 = p) : readE ks d p = (0, (lieOf lies p.addr).2.2) := by
  unfold lieOf at he ⊢
  cases hl : lies p.addr with
  | none => rw [hl] at he; simp at he; rw [← he] at h0; exact absurd rfl h0
  | some z =>
    rw [hl] at he
    simp only [Option.getD_some] at he ⊢
    obtain ⟨b, _, _, h3, h4, h5, h6, h7, h8⟩ := h.ok _ z hl
    have hw : ∀ q ∈ z.2.2.kids, q.Wf := by obtain ⟨_, _, _, _, _, _, _, _, _, hq⟩ := h7.get; exact hq.wf
    have hpe : p = sealP ks b p.addr (nodeB z.2.2) := by rw [← he] at h3 ⊢; exact h3
    unfold readE
    rw [if_neg (by rintro (e | e); exact h0 e; exact e h1), if_neg (by rw [hd]; simp), if_pos (by rw [h4]; rw [hpe]; rfl)]
    have ho : openB ks d p = nodeB z.2.2 := by
      unfold openB
      rw [h4, show p.birth = b by rw [hpe]; rfl, bytes_back _ _ _ _ hk]
    have hg := nodeB_get h5 h6 (checkE_le h5 h6) hw
    rw [ho, hg.1, hg.2]

end Go.Proofs.YtkbnkdokcmpcgaaGreatDoor
