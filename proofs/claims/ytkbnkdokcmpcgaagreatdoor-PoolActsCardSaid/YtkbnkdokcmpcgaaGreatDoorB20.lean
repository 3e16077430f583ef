/- What bytes tell, as data; rows of strings and of pointers that grow; a node that is made. Walks: banyanlaw09's alive. Walk: node.Get. -/
import Derived.Test.YtkbnkdokcmpcgaaGreatDoorB10
import Derived.Test.YtkbnkdokcmpcgaaGreatDoorB13
import Derived.Test.YtkbnkdokcmpcgaaGreatDoorB15
import Derived.Test.YtkbnkdokcmpcgaaGreatDoorB16
import Derived.Test.YtkbnkdokcmpcgaaGreatDoorB19
namespace Go.Proofs.YtkbnkdokcmpcgaaGreatDoor
open Go.RowKit

structure Tk where
  keys : List ByteArray
  vals : List ByteArray
  rest : List UInt8
  ok : Bool
def stepKV (leaf : Bool) (s : Tk) : Tk :=
  if leaf then ⟨s.keys ++ [(strOf s.rest).1], s.vals ++ [(strOf (strOf s.rest).2.2).1], (strOf (strOf s.rest).2.2).2.2, (s.ok && ((strOf s.rest).2.1 == 0)) && ((strOf (strOf s.rest).2.2).2.1 == 0)⟩
  else ⟨s.keys ++ [(strOf s.rest).1], s.vals, (strOf s.rest).2.2, s.ok && ((strOf s.rest).2.1 == 0)⟩
def tellKV (leaf : Bool) : Nat → Tk → Tk
  | 0, s => s
  | k + 1, s => stepKV leaf (tellKV leaf k s)
structure Tp where
  kids : List Pt
  rest : List UInt8
  ok : Bool
def stepP (s : Tp) : Tp := ⟨s.kids ++ [(ptrOf s.rest).1], (ptrOf s.rest).2.2, s.ok && ((ptrOf s.rest).2.1 == 0)⟩
def tellP : Nat → Tp → Tp
  | 0, s => s
  | k + 1, s => stepP (tellP k s)

def kind (xs : List UInt8) : Nat := (numOf 1 xs).1
def count (xs : List UInt8) : Nat := (numOf 1 (numOf 1 xs).2.2).1
def tell1 (xs : List UInt8) : Tk := tellKV (kind xs == 1) (count xs) ⟨[], [], (numOf 1 (numOf 1 xs).2.2).2.2, kind xs == 1 || kind xs == 2⟩
def tell2 (xs : List UInt8) : Tp := if kind xs == 1 then ⟨[], (tell1 xs).rest, (tell1 xs).ok⟩ else tellP (count xs + 1) ⟨[], (tell1 xs).rest, (tell1 xs).ok⟩
def toldN (xs : List UInt8) : Nd := ⟨kind xs == 1, (tell1 xs).keys, (tell1 xs).vals, (tell2 xs).kids⟩
def getOk (xs : List UInt8) : Bool := (tell2 xs).ok && (endE (tell2 xs).rest == 0) && (checkE (toldN xs) == 0)

theorem kind_le (xs : List UInt8) : kind xs ≤ 255 := by
  unfold kind numOf
  split
  · simp
  · split
    · simp
    · have h1 := getB_lt (xs.take (1 : Int).toNat)
      have h2 : (xs.take (1 : Int).toNat).length ≤ 1 := by rw [List.length_take]; simp; omega
      have h3 : 256 ^ (xs.take (1 : Int).toNat).length ≤ 256 ^ 1 := Nat.pow_le_pow_right (by decide) h2
      simp only
      omega
theorem count_le (xs : List UInt8) : count xs ≤ 255 := kind_le (numOf 1 xs).2.2

theorem tellKV_keys (leaf : Bool) (s : Tk) : ∀ k, (tellKV leaf k s).keys.length = s.keys.length + k
  | 0 => rfl
  | k + 1 => by
    have := tellKV_keys leaf s k
    unfold tellKV stepKV
    cases leaf <;> simp [this] <;> omega
theorem tellKV_vals (s : Tk) : ∀ k, (tellKV true k s).vals.length = s.vals.length + k
  | 0 => rfl
  | k + 1 => by
    have := tellKV_vals s k
    unfold tellKV stepKV
    simp [this]; omega
theorem tellKV_novals (s : Tk) : ∀ k, (tellKV false k s).vals = s.vals
  | 0 => rfl
  | k + 1 => by
    have := tellKV_novals s k
    unfold tellKV stepKV
    simpa using this
theorem tellP_kids (s : Tp) : ∀ k, (tellP k s).kids.length = s.kids.length + k
  | 0 => rfl
  | k + 1 => by
    have := tellP_kids s k
    unfold tellP stepP
    simp [this]; omega
theorem tellKV_rest (leaf : Bool) (s : Tk) : ∀ k, (tellKV leaf k s).rest.length ≤ s.rest.length
  | 0 => Nat.le_refl _
  | k + 1 => by
    have h1 := tellKV_rest leaf s k
    have h2 := strOf_le (tellKV leaf k s).rest
    have h3 := strOf_le (strOf (tellKV leaf k s).rest).2.2
    unfold tellKV stepKV
    cases leaf <;> simp only [if_true, Bool.false_eq_true, if_false] <;> omega
theorem ptrOf_le (xs : List UInt8) : (ptrOf xs).2.2.length ≤ xs.length := by
  unfold ptrOf; split
  · exact Nat.le_refl _
  · simp only [List.length_drop]; omega
theorem tellP_rest (s : Tp) : ∀ k, (tellP k s).rest.length ≤ s.rest.length
  | 0 => Nat.le_refl _
  | k + 1 => by
    have h1 := tellP_rest s k
    have h2 := ptrOf_le (tellP k s).rest
    unfold tellP stepP
    simp only
    omega

/-! ### Rows that grow -/

theorem info_str : (Tryz.prog.info? 9).map (fun i => (i.zero, i.size, i.bytes)) = some (some (.string ⟨#[]⟩), 1, 16) := by kernel_rfl
theorem append_strs {w : World} {ops : Array Oper} {rest : List Oper} {o : Oper} {a : Act} {Q : Exit → Act → World → Prop} (hgd : o.guard = none) (s x : Operand)
    (ho : o.op = .call { callee := .builtin .append, args := #[s, x], argTypes := #[22, 22] })
    {base : Nat} {v : Value} {l : List ByteArray} (hown : w.ownsRow base 9 1 v l.length (l.map Value.string)) {vx : Value} {t : ByteArray} (hx : Sl w 1 vx 1 [Value.string t])
    (hs : a.eval s = v) (hxe : a.eval x = vx) (hr : l.length ≤ 1000000) (hbase : base ≤ w.heap.size)
    (h : ∀ aa cc w', w'.ownsRow base 9 1 (.slice aa (l.length + 1) cc) (l.length + 1) ((l ++ [t]).map Value.string) → Fr (fun k => v.ownBlock = some k) w w' → ((Value.slice aa (l.length + 1) cc).ownBlock = v.ownBlock ∨ (Value.slice aa (l.length + 1) cc).ownBlock = some w.heap.size) →
      wpList Tryz.prog ops Q rest (a.put o.dst (.slice aa (l.length + 1) cc)) w') : wpList Tryz.prog ops Q (o :: rest) a w := by
  obtain ⟨i0, hi, hz0, hz1, hz2⟩ := info_parts info_str
  refine wpList_append_sl hgd s x 22 ho base 9 i0 (.string ⟨#[]⟩) 1 16 Tryz.underlying22 hi hz0 hz1 hz2 rfl (by decide) v l.length _ hs hown vx 1 _ hxe hx (by intro u hu; simp at hu; subst hu; rfl) (by unfold maxLen; omega) (by omega) hbase ?_
  intro aa cc w' h2 hg h3
  refine h aa cc w' ?_ ((Fr.refl _ w).grown hg (fun k hk => Or.inl hk)) h3
  rw [List.map_append]; exact h2

theorem info_ptrz : ((Tryz.prog.info? 43).map (fun i => (i.zero.isSome, i.size, i.bytes))) = some (true, 34, 48) := by kernel_rfl
theorem zero_ptrz : ((Tryz.prog.info? 43).bind (·.zero)).map (·.cells.size) = some 34 := by kernel_rfl
theorem info_ptrs : ∃ i0 z, Tryz.prog.info? 43 = some i0 ∧ i0.zero = some z ∧ i0.size = 34 ∧ i0.bytes = 48 ∧ z.cells.size = 34 := by
  have e1 := info_ptrz
  have e2 := zero_ptrz
  cases hq : Tryz.prog.info? 43 with
  | none => rw [hq] at e1; simp at e1
  | some i =>
    rw [hq] at e1 e2
    simp only [Option.map_some, Option.some.injEq, Prod.mk.injEq, Option.isSome_iff_exists] at e1
    obtain ⟨⟨z, hz⟩, e3, e4⟩ := e1
    simp only [Option.bind_some, hz, Option.map_some, Option.some.injEq] at e2
    exact ⟨i, z, rfl, hz, e3, e4, e2⟩
theorem append_ptrs {w : World} {ops : Array Oper} {rest : List Oper} {o : Oper} {a : Act} {Q : Exit → Act → World → Prop} (hgd : o.guard = none) (s x : Operand)
    (ho : o.op = .call { callee := .builtin .append, args := #[s, x], argTypes := #[23, 23] })
    {base : Nat} {v : Value} {l : List Pt} (hown : w.ownsRow base 43 34 v l.length (l.map Pt.cells).flatten) {vx : Value} {p : Pt} (_hp : p.Wf) (hx : Sl w 34 vx 1 p.cells)
    (hs : a.eval s = v) (hxe : a.eval x = vx) (hr : l.length ≤ 1000000) (hbase : base ≤ w.heap.size)
    (h : ∀ aa cc w', w'.ownsRow base 43 34 (.slice aa (l.length + 1) cc) (l.length + 1) ((l ++ [p]).map Pt.cells).flatten → Fr (fun k => v.ownBlock = some k) w w' → ((Value.slice aa (l.length + 1) cc).ownBlock = v.ownBlock ∨ (Value.slice aa (l.length + 1) cc).ownBlock = some w.heap.size) →
      wpList Tryz.prog ops Q rest (a.put o.dst (.slice aa (l.length + 1) cc)) w') : wpList Tryz.prog ops Q (o :: rest) a w := by
  obtain ⟨i0, z, hi, hz0, hz1, hz2, hz3⟩ := info_ptrs
  refine wpList_append_sl hgd s x 23 ho base 43 i0 z 34 48 Tryz.underlying23 hi hz0 hz1 hz2 hz3 (by decide) v l.length _ hs hown vx 1 _ hxe hx (by have := p.one; rwa [Pt.arr_toList] at this) (by unfold maxLen; omega) (by omega) hbase ?_
  intro aa cc w' h2 hg h3
  refine h aa cc w' ?_ ((Fr.refl _ w).grown hg (fun k hk => Or.inl hk)) h3
  rw [List.map_append, List.flatten_append]; simpa using h2

/-! ### A node that is made -/

def NodeRel (wr : World) (B0 N : Nat) (leaf : Bool) (keys vals : List ByteArray) (kids : List Pt) (vk vv vp : Value) : Prop :=
  wr.heap[N]? = some (.cells #[.bool leaf, vk, vv, vp] 25 (0, 0)) ∧ wr.ownsRow B0 9 1 vk keys.length (keys.map Value.string) ∧ wr.ownsRow B0 9 1 vv vals.length (vals.map Value.string) ∧
    wr.ownsRow B0 43 34 vp kids.length (kids.map Pt.cells).flatten ∧ (∀ j, vk.ownBlock = some j → vv.ownBlock ≠ some j) ∧ (∀ j, vk.ownBlock = some j → vp.ownBlock ≠ some j) ∧ (∀ j, vv.ownBlock = some j → vp.ownBlock ≠ some j) ∧ (∀ p ∈ kids, p.Wf)

theorem NodeRel.fr {S : Nat → Prop} {w w' : World} {B0 N : Nat} {leaf : Bool} {keys vals : List ByteArray} {kids : List Pt} {vk vv vp : Value} (h : NodeRel w B0 N leaf keys vals kids vk vv vp) (hf : Fr S w w') (hN : ¬ S N) (hs : ∀ k, B0 ≤ k → k < w.heap.size → ¬ S k) :
    NodeRel w' B0 N leaf keys vals kids vk vv vp := by
  obtain ⟨h1, h2, h3, h4, h5⟩ := h
  exact ⟨(hf.block N (lt_of_block h1) hN).trans h1, h2.fr hf (fun k hk => hs k (h2.lt k hk).1 (h2.lt k hk).2), h3.fr hf (fun k hk => hs k (h3.lt k hk).1 (h3.lt k hk).2), h4.fr hf (fun k hk => hs k (h4.lt k hk).1 (h4.lt k hk).2), h5⟩
theorem NodeRel.is {w : World} {B0 N : Nat} {leaf : Bool} {keys vals : List ByteArray} {kids : List Pt} {vk vv vp : Value} (h : NodeRel w B0 N leaf keys vals kids vk vv vp) : NdIs w #[.bool leaf, vk, vv, vp] ⟨leaf, keys, vals, kids⟩ := by
  obtain ⟨h1, h2, h3, h4, _, _, _, h5⟩ := h
  exact ⟨vk, vv, vp, rfl, Sl.own h2, Sl.own h3, ⟨Sl.own h4, h5⟩⟩

section
variable {wr w1 w2 : World} {B0 N : Nat} {leaf : Bool} {keys vals : List ByteArray} {kids : List Pt} {vk vv vp : Value} {aa : Option Addr} {cc : Nat} {ob : Obj}
theorem NodeRel.key {s : ByteArray} (h : NodeRel wr B0 N leaf keys vals kids vk vv vp) (hN : N < B0) (_hB : B0 ≤ wr.heap.size) (hw1 : w1 = wr.alloc ob)
    (ho : w2.ownsRow B0 9 1 (.slice aa (keys.length + 1) cc) (keys.length + 1) ((keys ++ [s]).map Value.string)) (hf : Fr (fun k => vk.ownBlock = some k) w1 w2) (h3 : (Value.slice aa (keys.length + 1) cc).ownBlock = vk.ownBlock ∨ (Value.slice aa (keys.length + 1) cc).ownBlock = some w1.heap.size) :
    NodeRel (w2.setCell ⟨N, 1, none⟩ (.slice aa (keys.length + 1) cc)) B0 N leaf (keys ++ [s]) vals kids (.slice aa (keys.length + 1) cc) vv vp ∧ Fr (fun k => k = N ∨ B0 ≤ k) wr (w2.setCell ⟨N, 1, none⟩ (.slice aa (keys.length + 1) cc)) := by
  obtain ⟨g1, g2, g3, g4, g5, g6, g7, g8⟩ := h
  have hF1 : Fr (fun k => k = N ∨ B0 ≤ k) wr w1 := by rw [hw1]; exact (Fr.refl _ wr).alloc _
  have hs1 : w1.heap.size = wr.heap.size + 1 := by rw [hw1]; simp
  have hF2 : Fr (fun k => k = N ∨ B0 ≤ k) wr w2 := hF1.trans (hf.mono (fun k _ hk => Or.inr (g2.lt k hk).1))
  have hF3 := hF2.setCell (p := ⟨N, 1, none⟩) (Or.inl (Or.inl rfl)) (.slice aa (keys.length + 1) cc)
  have hN2 : w2.heap[N]? = some (.cells #[.bool leaf, vk, vv, vp] 25 (0, 0)) :=
    (hf.block N (by rw [hs1]; have := lt_of_block g1; omega) (fun e => by have := (g2.lt N e).1; omega)).trans (by rw [hw1]; exact (((Below.refl _ wr).alloc (Nat.le_refl _) _).block N (lt_of_block g1)).trans g1)
  have alloc_own : ∀ {t sz : Nat} {v : Value} {n : Nat} {l : List Value}, wr.ownsRow B0 t sz v n l → w1.ownsRow B0 t sz v n l := fun h => by rw [hw1]; exact h.fr ((Fr.refl (fun _ => False) wr).alloc _) (fun _ _ => id)
  have k3 := (alloc_own g3).fr hf (fun k hk e => g5 k e hk)
  have k4 := (alloc_own g4).fr hf (fun k hk e => g6 k e hk)
  have hown : ∀ j, (Value.slice aa (keys.length + 1) cc).ownBlock = some j → j ≠ N := fun j hj e => by have := (ho.lt j hj).1; omega
  refine ⟨⟨by have := heap_setCell_same _ N 1 _ _ (.slice aa (keys.length + 1) cc) hN2; simpa using this, by rw [List.length_append]; exact ho.set_other (fun e => hown N e rfl) 1 _, k3.set_other (fun e => by have := (k3.lt N e).1; omega) 1 _, k4.set_other (fun e => by have := (k4.lt N e).1; omega) 1 _, ?_, ?_, g7, g8⟩, hF3⟩
  · intro j hj hv
    rcases h3 with e | e
    · exact g5 j (e ▸ hj) hv
    · have h1 : j = w1.heap.size := by rw [hj] at e; exact Option.some.inj e
      have h2 := (g3.lt j hv).2
      omega
  · intro j hj hv
    rcases h3 with e | e
    · exact g6 j (e ▸ hj) hv
    · have h1 : j = w1.heap.size := by rw [hj] at e; exact Option.some.inj e
      have h2 := (g4.lt j hv).2
      omega
theorem NodeRel.val {s : ByteArray} (h : NodeRel wr B0 N leaf keys vals kids vk vv vp) (hN : N < B0) (_hB : B0 ≤ wr.heap.size) (hw1 : w1 = wr.alloc ob)
    (ho : w2.ownsRow B0 9 1 (.slice aa (vals.length + 1) cc) (vals.length + 1) ((vals ++ [s]).map Value.string)) (hf : Fr (fun k => vv.ownBlock = some k) w1 w2) (h3 : (Value.slice aa (vals.length + 1) cc).ownBlock = vv.ownBlock ∨ (Value.slice aa (vals.length + 1) cc).ownBlock = some w1.heap.size) :
    NodeRel (w2.setCell ⟨N, 2, none⟩ (.slice aa (vals.length + 1) cc)) B0 N leaf keys (vals ++ [s]) kids vk (.slice aa (vals.length + 1) cc) vp ∧ Fr (fun k => k = N ∨ B0 ≤ k) wr (w2.setCell ⟨N, 2, none⟩ (.slice aa (vals.length + 1) cc)) := by
  obtain ⟨g1, g2, g3, g4, g5, g6, g7, g8⟩ := h
  have hF1 : Fr (fun k => k = N ∨ B0 ≤ k) wr w1 := by rw [hw1]; exact (Fr.refl _ wr).alloc _
  have hs1 : w1.heap.size = wr.heap.size + 1 := by rw [hw1]; simp
  have hF2 : Fr (fun k => k = N ∨ B0 ≤ k) wr w2 := hF1.trans (hf.mono (fun k _ hk => Or.inr (g3.lt k hk).1))
  have hF3 := hF2.setCell (p := ⟨N, 2, none⟩) (Or.inl (Or.inl rfl)) (.slice aa (vals.length + 1) cc)
  have hN2 : w2.heap[N]? = some (.cells #[.bool leaf, vk, vv, vp] 25 (0, 0)) :=
    (hf.block N (by rw [hs1]; have := lt_of_block g1; omega) (fun e => by have := (g3.lt N e).1; omega)).trans (by rw [hw1]; exact (((Below.refl _ wr).alloc (Nat.le_refl _) _).block N (lt_of_block g1)).trans g1)
  have alloc_own : ∀ {t sz : Nat} {v : Value} {n : Nat} {l : List Value}, wr.ownsRow B0 t sz v n l → w1.ownsRow B0 t sz v n l := fun h => by rw [hw1]; exact h.fr ((Fr.refl (fun _ => False) wr).alloc _) (fun _ _ => id)
  have k2 := (alloc_own g2).fr hf (fun k hk e => g5 k hk e)
  have k4 := (alloc_own g4).fr hf (fun k hk e => g7 k e hk)
  have hown : ∀ j, (Value.slice aa (vals.length + 1) cc).ownBlock = some j → j ≠ N := fun j hj e => by have := (ho.lt j hj).1; omega
  refine ⟨⟨by have := heap_setCell_same _ N 2 _ _ (.slice aa (vals.length + 1) cc) hN2; simpa using this, k2.set_other (fun e => by have := (k2.lt N e).1; omega) 2 _, by rw [List.length_append]; exact ho.set_other (fun e => hown N e rfl) 2 _, k4.set_other (fun e => by have := (k4.lt N e).1; omega) 2 _, ?_, g6, ?_, g8⟩, hF3⟩
  · intro j hj hv
    rcases h3 with e | e
    · exact g5 j hj (e ▸ hv)
    · have h1 : j = w1.heap.size := by rw [hv] at e; exact Option.some.inj e
      have h2 := (g2.lt j hj).2
      omega
  · intro j hj hv
    rcases h3 with e | e
    · exact g7 j (e ▸ hj) hv
    · have h1 : j = w1.heap.size := by rw [hj] at e; exact Option.some.inj e
      have h2 := (g4.lt j hv).2
      omega
theorem NodeRel.kid {p : Pt} (h : NodeRel wr B0 N leaf keys vals kids vk vv vp) (hp : p.Wf) (hN : N < B0) (_hB : B0 ≤ wr.heap.size) (hw1 : w1 = wr.alloc ob)
    (ho : w2.ownsRow B0 43 34 (.slice aa (kids.length + 1) cc) (kids.length + 1) ((kids ++ [p]).map Pt.cells).flatten) (hf : Fr (fun k => vp.ownBlock = some k) w1 w2) (h3 : (Value.slice aa (kids.length + 1) cc).ownBlock = vp.ownBlock ∨ (Value.slice aa (kids.length + 1) cc).ownBlock = some w1.heap.size) :
    NodeRel (w2.setCell ⟨N, 3, none⟩ (.slice aa (kids.length + 1) cc)) B0 N leaf keys vals (kids ++ [p]) vk vv (.slice aa (kids.length + 1) cc) ∧ Fr (fun k => k = N ∨ B0 ≤ k) wr (w2.setCell ⟨N, 3, none⟩ (.slice aa (kids.length + 1) cc)) := by
  obtain ⟨g1, g2, g3, g4, g5, g6, g7, g8⟩ := h
  have hF1 : Fr (fun k => k = N ∨ B0 ≤ k) wr w1 := by rw [hw1]; exact (Fr.refl _ wr).alloc _
  have hs1 : w1.heap.size = wr.heap.size + 1 := by rw [hw1]; simp
  have hF2 : Fr (fun k => k = N ∨ B0 ≤ k) wr w2 := hF1.trans (hf.mono (fun k _ hk => Or.inr (g4.lt k hk).1))
  have hF3 := hF2.setCell (p := ⟨N, 3, none⟩) (Or.inl (Or.inl rfl)) (.slice aa (kids.length + 1) cc)
  have hN2 : w2.heap[N]? = some (.cells #[.bool leaf, vk, vv, vp] 25 (0, 0)) :=
    (hf.block N (by rw [hs1]; have := lt_of_block g1; omega) (fun e => by have := (g4.lt N e).1; omega)).trans (by rw [hw1]; exact (((Below.refl _ wr).alloc (Nat.le_refl _) _).block N (lt_of_block g1)).trans g1)
  have alloc_own : ∀ {t sz : Nat} {v : Value} {n : Nat} {l : List Value}, wr.ownsRow B0 t sz v n l → w1.ownsRow B0 t sz v n l := fun h => by rw [hw1]; exact h.fr ((Fr.refl (fun _ => False) wr).alloc _) (fun _ _ => id)
  have k2 := (alloc_own g2).fr hf (fun k hk e => g6 k hk e)
  have k3 := (alloc_own g3).fr hf (fun k hk e => g7 k hk e)
  have hown : ∀ j, (Value.slice aa (kids.length + 1) cc).ownBlock = some j → j ≠ N := fun j hj e => by have := (ho.lt j hj).1; omega
  refine ⟨⟨by have := heap_setCell_same _ N 3 _ _ (.slice aa (kids.length + 1) cc) hN2; simpa using this, k2.set_other (fun e => by have := (k2.lt N e).1; omega) 3 _, k3.set_other (fun e => by have := (k3.lt N e).1; omega) 3 _, by rw [List.length_append]; exact ho.set_other (fun e => hown N e rfl) 3 _, g5, ?_, ?_, ?_⟩, hF3⟩
  · intro j hj hv
    rcases h3 with e | e
    · exact g6 j hj (e ▸ hv)
    · have h1 : j = w1.heap.size := by rw [hv] at e; exact Option.some.inj e
      have h2 := (g2.lt j hj).2
      omega
  · intro j hj hv
    rcases h3 with e | e
    · exact g7 j hj (e ▸ hv)
    · have h1 : j = w1.heap.size := by rw [hv] at e; exact Option.some.inj e
      have h2 := (g3.lt j hj).2
      omega
  · intro q hq
    rcases List.mem_append.1 hq with h | h
    · exact g8 q h
    · rw [List.mem_singleton] at h; subst h; exact hp
end

end Go.Proofs.YtkbnkdokcmpcgaaGreatDoor

namespace Go.Proofs.YtkbnkdokcmpcgaaGreatDoor
open Go.RowKit

structure IsRdr (Rdr : World → List UInt8 → Prop) (rb : Nat) (ob : Option Nat) : Prop where
  fr : ∀ {S : Nat → Prop} {w w' : World} {ys : List UInt8}, Rdr w ys → Fr S w w' → ¬ S rb → (∀ k, ob = some k → ¬ S k) → Rdr w' ys
theorem isRdr_rd (rb : Nat) (ob : Option Nat) : IsRdr (fun w ys => RdO w rb ob ys) rb ob := ⟨fun h hf h1 h2 => h.fr hf h1 h2⟩
structure Places (w : World) (B0 N rb R : Nat) (ob : Option Nat) : Prop where
  pn : N < B0
  prb : rb < B0
  pr : R < B0
  pob : ∀ k, ob = some k → k < B0 ∧ k ≠ N ∧ k ≠ R ∧ k ≠ rb
  nrb : N ≠ rb
  nr : N ≠ R
  rbr : rb ≠ R
  wn : w.heap.size ≤ N
  wrb : w.heap.size ≤ rb
  wr : w.heap.size ≤ R

def zeroArr : Array Value := #[.bool false, .slice none 0 0, .slice none 0 0, .slice none 0 0]
def GRel (Rdr : World → List UInt8 → Prop) (w wr : World) (B0 N R : Nat) (leaf : Bool) (keys vals : List ByteArray) (kids : List Pt) (vk vv vp : Value) (rest : List UInt8) : Prop :=
  NodeRel wr B0 N leaf keys vals kids vk vv vp ∧ Rdr wr rest ∧ wr.heap[R]? = some (.cells zeroArr 25 (0, 0)) ∧ Below w.heap.size w wr ∧ B0 ≤ wr.heap.size

section
variable {Rdr : World → List UInt8 → Prop} {w wr w1 w2 : World} {B0 N R rb : Nat} {obk : Option Nat} {leaf : Bool} {keys vals : List ByteArray} {kids : List Pt} {vk vv vp : Value} {rest rest' : List UInt8} {aa : Option Addr} {cc : Nat} {o : Obj}

theorem GRel.read (hP : Places w B0 N rb R obk) (h : GRel Rdr w wr B0 N R leaf keys vals kids vk vv vp rest) (hf : Fr (fun k => k = rb) wr w1) (hr : Rdr w1 rest') :
    GRel Rdr w w1 B0 N R leaf keys vals kids vk vv vp rest' := by
  obtain ⟨h1, _, h3, h4, h5⟩ := h
  have a1 := hP.prb
  have a2 := hP.rbr
  have a3 := hP.wrb
  exact ⟨h1.fr hf hP.nrb (fun k hk _ => by omega), hr, (hf.block R (lt_of_block h3) (fun e => a2 e.symm)).trans h3, h4.trans (hf.below h4.size (fun k hk => by omega)), Nat.le_trans h5 hf.size⟩
theorem GRel.turn (hP : Places w B0 N rb R obk) (hR : IsRdr Rdr rb obk) (h : GRel Rdr w wr B0 N R leaf keys vals kids vk vv vp rest) {keys' vals' : List ByteArray} {kids' : List Pt} {vk' vv' vp' : Value}
    (h1 : NodeRel w1 B0 N leaf keys' vals' kids' vk' vv' vp') (hf : Fr (fun k => k = N ∨ B0 ≤ k) wr w1) : GRel Rdr w w1 B0 N R leaf keys' vals' kids' vk' vv' vp' rest := by
  obtain ⟨_, h2, h3, h4, h5⟩ := h
  have a0 := hP.pn
  have a1 := hP.prb
  have a2 := hP.pr
  have a3 := hP.nrb
  have a4 := hP.nr
  have a5 := hP.wn
  have a6 := hP.wr
  have a7 := h4.size
  refine ⟨h1, hR.fr h2 hf (by omega) (fun k hk => by have := hP.pob k hk; omega), (hf.block R (lt_of_block h3) (by omega)).trans h3, h4.trans (hf.below h4.size (fun k hk => by omega)), Nat.le_trans h5 hf.size⟩
theorem GRel.below (_hP : Places w B0 N rb R obk) (hR : IsRdr Rdr rb obk) (h : GRel Rdr w wr B0 N R leaf keys vals kids vk vv vp rest) (hb : Below wr.heap.size wr w1) : GRel Rdr w w1 B0 N R leaf keys vals kids vk vv vp rest := by
  obtain ⟨h1, h2, h3, h4, h5⟩ := h
  have hf := Fr.of_below (S := fun _ => False) hb
  exact ⟨h1.fr hf id (fun _ _ _ => id), hR.fr h2 hf id (fun _ _ => id), (hf.block R (lt_of_block h3) id).trans h3, h4.trans (hb.mono h4.size), Nat.le_trans h5 hb.size⟩
theorem GRel.cells (h : GRel Rdr w wr B0 N R leaf keys vals kids vk vv vp rest) : wr.cell? ⟨N, 0, none⟩ = some (.bool leaf) ∧ wr.cell? ⟨N, 1, none⟩ = some vk ∧ wr.cell? ⟨N, 2, none⟩ = some vv ∧ wr.cell? ⟨N, 3, none⟩ = some vp ∧ N < wr.heap.size := by
  have h1 := h.1.1
  exact ⟨(cell_of_row _ _ 0 _ _ _ h1).trans rfl, (cell_of_row _ _ 1 _ _ _ h1).trans rfl, (cell_of_row _ _ 2 _ _ _ h1).trans rfl, (cell_of_row _ _ 3 _ _ _ h1).trans rfl, lt_of_block h1⟩
theorem GRel.key {s : ByteArray} (hP : Places w B0 N rb R obk) (hR : IsRdr Rdr rb obk) (h : GRel Rdr w wr B0 N R leaf keys vals kids vk vv vp rest) (hw1 : w1 = wr.alloc o)
    (ho : w2.ownsRow B0 9 1 (.slice aa (keys.length + 1) cc) (keys.length + 1) ((keys ++ [s]).map Value.string)) (hf : Fr (fun k => vk.ownBlock = some k) w1 w2) (h3 : (Value.slice aa (keys.length + 1) cc).ownBlock = vk.ownBlock ∨ (Value.slice aa (keys.length + 1) cc).ownBlock = some w1.heap.size) :
    GRel Rdr w (w2.setCell ⟨N, 1, none⟩ (.slice aa (keys.length + 1) cc)) B0 N R leaf (keys ++ [s]) vals kids (.slice aa (keys.length + 1) cc) vv vp rest := by
  obtain ⟨k1, k2⟩ := h.1.key hP.pn h.2.2.2.2 hw1 ho hf h3
  exact h.turn hP hR k1 k2
theorem GRel.val {s : ByteArray} (hP : Places w B0 N rb R obk) (hR : IsRdr Rdr rb obk) (h : GRel Rdr w wr B0 N R leaf keys vals kids vk vv vp rest) (hw1 : w1 = wr.alloc o)
    (ho : w2.ownsRow B0 9 1 (.slice aa (vals.length + 1) cc) (vals.length + 1) ((vals ++ [s]).map Value.string)) (hf : Fr (fun k => vv.ownBlock = some k) w1 w2) (h3 : (Value.slice aa (vals.length + 1) cc).ownBlock = vv.ownBlock ∨ (Value.slice aa (vals.length + 1) cc).ownBlock = some w1.heap.size) :
    GRel Rdr w (w2.setCell ⟨N, 2, none⟩ (.slice aa (vals.length + 1) cc)) B0 N R leaf keys (vals ++ [s]) kids vk (.slice aa (vals.length + 1) cc) vp rest := by
  obtain ⟨k1, k2⟩ := h.1.val hP.pn h.2.2.2.2 hw1 ho hf h3
  exact h.turn hP hR k1 k2
theorem GRel.kid {p : Pt} (hp : p.Wf) (hP : Places w B0 N rb R obk) (hR : IsRdr Rdr rb obk) (h : GRel Rdr w wr B0 N R leaf keys vals kids vk vv vp rest) (hw1 : w1 = wr.alloc o)
    (ho : w2.ownsRow B0 43 34 (.slice aa (kids.length + 1) cc) (kids.length + 1) ((kids ++ [p]).map Pt.cells).flatten) (hf : Fr (fun k => vp.ownBlock = some k) w1 w2) (h3 : (Value.slice aa (kids.length + 1) cc).ownBlock = vp.ownBlock ∨ (Value.slice aa (kids.length + 1) cc).ownBlock = some w1.heap.size) :
    GRel Rdr w (w2.setCell ⟨N, 3, none⟩ (.slice aa (kids.length + 1) cc)) B0 N R leaf keys vals (kids ++ [p]) vk vv (.slice aa (kids.length + 1) cc) rest := by
  obtain ⟨k1, k2⟩ := h.1.kid hp hP.pn h.2.2.2.2 hw1 ho hf h3
  exact h.turn hP hR k1 k2
theorem GRel.kept {v : Value} (h : GRel Rdr w wr B0 N R leaf keys vals kids vk vv vp rest) (hP : Places w B0 N rb R obk) (hv : ∀ k, v.ownBlock = some k → B0 ≤ k) (hw1 : w1 = wr.alloc o) (hf : Fr (fun k => v.ownBlock = some k) w1 w2) :
    w2.heap[N]? = some (.cells #[.bool leaf, vk, vv, vp] 25 (0, 0)) := by
  have a0 := hP.pn
  have a1 := lt_of_block h.1.1
  exact (hf.block N (by rw [hw1]; simp; omega) (fun e => by have := hv N e; omega)).trans (by rw [hw1]; exact (((Below.refl _ wr).alloc (Nat.le_refl _) _).block N a1).trans h.1.1)
theorem GRel.own (h : GRel Rdr w wr B0 N R leaf keys vals kids vk vv vp rest) : (∀ k, vk.ownBlock = some k → B0 ≤ k) ∧ (∀ k, vv.ownBlock = some k → B0 ≤ k) ∧ (∀ k, vp.ownBlock = some k → B0 ≤ k) :=
  ⟨fun k hk => (h.1.2.1.lt k hk).1, fun k hk => (h.1.2.2.1.lt k hk).1, fun k hk => (h.1.2.2.2.1.lt k hk).1⟩
end

theorem own_shape {w : World} {B t sz n : Nat} {v : Value} {l : List Value} (h : w.ownsRow B t sz v n l) : ∃ a c, v = .slice a n c := by
  rcases h.2 with ⟨rfl, rfl⟩ | ⟨g, cap, cur, rfl, _⟩ <;> exact ⟨_, _, rfl⟩
theorem one_lit (w : World) (s : ByteArray) : Sl (w.alloc (.cells #[.string s] 9)) 1 (.slice (some ⟨w.heap.size, 0, none⟩) 1 1) 1 [.string s] := Sl_row (heap_alloc_new _ _) rfl rfl
theorem own_alloc {w : World} {B t sz n : Nat} {v : Value} {l : List Value} (h : w.ownsRow B t sz v n l) (o : Obj) : (w.alloc o).ownsRow B t sz v n l := h.fr ((Fr.refl (fun _ => False) w).alloc _) (fun _ _ => id)

theorem store_nd {ops : Array Oper} {rest : List Oper} {o : Oper} {a : Act} {w : World} {Q : Exit → Act → World → Prop} (hgd : o.guard = none) (x y : Operand) (ho : o.op = .store 25 x y)
    {b : Nat} (hx : a.eval x = .pointer (some ⟨b, 0, none⟩)) {arr : Array Value} (hy : a.eval y = .agg arr) {old : Array Value} {t : TypeId} (hb : w.heap[b]? = some (.cells old t (0, 0))) (ho2 : old.size = 4) (hl : arr.size = 4) (h1 : ∀ u ∈ arr.toList, u.oneCell' = true)
    (hK : ∀ w', w'.heap[b]? = some (.cells arr t (0, 0)) → Fr (fun k => k = b) w w' → w'.heap.size = w.heap.size → wpList Tryz.prog ops Q rest (a.put o.dst undef) w') : wpList Tryz.prog ops Q (o :: rest) a w :=
  wpList_store_row hgd _ x y ho b hx arr.toList (by simpa using hy) old _ hb (by rw [ho2, Array.length_toList, hl]) h1 (by rw [info_nd, Array.length_toList, hl]) (fun w' k1 k2 k3 => hK w' (by simpa using k1) k2 k3)
theorem ret_nd {fn : Func} {p u : Tmp} (h : fn.results = #[.cell p 25, .tmp u]) {tmps : Array Value} {w : World} {g : Nat} {arr : Array Value} {t : TypeId} (hp : tmps.getD p undef = .pointer (some ⟨g, 0, none⟩))
    (hg : w.heap[g]? = some (.cells arr t (0, 0))) (hl : arr.size = 4) :
    (results fn tmps).run Tryz.prog w = .ok (.tuple #[.agg arr, tmps.getD u undef]) w := by
  rw [results_cell_tmp h, hp]
  simp [asAddr, run_loadVar_row w g t 25 _ _ _ hg Tryz.underlying25 rfl (by rw [info_nd]; simp [hl]), Result.andThen]
theorem NdIs.one {w : World} {arr : Array Value} {n : Nd} (h : NdIs w arr n) : ∀ u ∈ arr.toList, u.oneCell' = true := by
  obtain ⟨ak, ck, av, cv, ap, cp, rfl, _⟩ := h.get
  intro u hu
  simp at hu
  rcases hu with rfl | rfl | rfl | rfl <;> rfl
def Nd.zero : Nd := ⟨false, [], [], []⟩
theorem zero_is (w : World) : NdIs w zeroArr Nd.zero := ⟨_, _, _, rfl, Sl.nil _ _, Sl.nil _ _, ⟨Sl.nil _ _, by simp [Nd.zero]⟩⟩

end Go.Proofs.YtkbnkdokcmpcgaaGreatDoor
namespace Go.Proofs.YtkbnkdokcmpcgaaGreatDoor
open Go.RowKit

theorem info_ptr2 : (Tryz.prog.info? 43).map (fun i => (i.zero.isSome, i.size)) = some (true, 34) := by kernel_rfl
theorem zero_ptr : ((Tryz.prog.info? 43).bind (·.zero)).map (·.cells.size) = some 34 := by kernel_rfl
theorem info_ptr3 : ∃ i0 z, Tryz.prog.info? 43 = some i0 ∧ i0.zero = some z ∧ i0.size = 34 ∧ z.cells.size = 34 := by
  have e1 := info_ptr2
  have e2 := zero_ptr
  cases hq : Tryz.prog.info? 43 with
  | none => rw [hq] at e1; simp at e1
  | some i =>
    rw [hq] at e1 e2
    simp only [Option.map_some, Option.some.injEq, Prod.mk.injEq, Option.isSome_iff_exists] at e1
    obtain ⟨⟨z, hz⟩, e3⟩ := e1
    simp only [Option.bind_some, hz, Option.map_some, Option.some.injEq] at e2
    exact ⟨i, z, rfl, hz, e3, e2⟩

end Go.Proofs.YtkbnkdokcmpcgaaGreatDoor
namespace Go.Proofs.YtkbnkdokcmpcgaaGreatDoor
open Go.RowKit

theorem strOf_size (xs : List UInt8) : (strOf xs).1.size ≤ 255 := by
  unfold strOf
  split
  · decide
  · split
    · show (⟨#[]⟩ : ByteArray).size ≤ 255
      decide
    · rename_i c xs h
      have := c.toNat_lt
      simp only [ByteArray.size, List.size_toArray, List.length_take]
      omega
theorem tellKV_sizes (leaf : Bool) (s : Tk) (h1 : ∀ x ∈ s.keys, x.size ≤ 255) (h2 : ∀ x ∈ s.vals, x.size ≤ 255) : ∀ k, (∀ x ∈ (tellKV leaf k s).keys, x.size ≤ 255) ∧ (∀ x ∈ (tellKV leaf k s).vals, x.size ≤ 255)
  | 0 => ⟨h1, h2⟩
  | k + 1 => by
    obtain ⟨g1, g2⟩ := tellKV_sizes leaf s h1 h2 k
    unfold tellKV stepKV
    cases leaf
    · simp only [Bool.false_eq_true, if_false]
      refine ⟨fun x hx => ?_, g2⟩
      rcases List.mem_append.1 hx with h | h
      · exact g1 x h
      · rw [List.mem_singleton] at h; subst h; exact strOf_size _
    · simp only [if_true]
      refine ⟨fun x hx => ?_, fun x hx => ?_⟩
      · rcases List.mem_append.1 hx with h | h
        · exact g1 x h
        · rw [List.mem_singleton] at h; subst h; exact strOf_size _
      · rcases List.mem_append.1 hx with h | h
        · exact g2 x h
        · rw [List.mem_singleton] at h; subst h; exact strOf_size _
theorem tell1_len (xs : List UInt8) : (tell1 xs).keys.length = count xs := by
  unfold tell1; rw [tellKV_keys]; simp
theorem tell1_vlen (xs : List UInt8) : (tell1 xs).vals.length ≤ 255 := by
  have := count_le xs
  unfold tell1
  cases hk : (kind xs == 1) with
  | true => rw [tellKV_vals]; simp; omega
  | false => rw [tellKV_novals]; simp
theorem tell2_klen (xs : List UInt8) : (tell2 xs).kids.length ≤ 256 := by
  have := count_le xs
  unfold tell2
  split
  · simp
  · rw [tellP_kids]; simp; omega
theorem toldN_fits (xs : List UInt8) : (toldN xs).Fits := by
  have h1 := tell1_len xs
  have h2 := tell1_vlen xs
  have h3 := tell2_klen xs
  have h4 := count_le xs
  have h5 := tellKV_sizes (kind xs == 1) ⟨[], [], (numOf 1 (numOf 1 xs).2.2).2.2, kind xs == 1 || kind xs == 2⟩ (by simp) (by simp) (count xs)
  refine ⟨by unfold toldN; simp only; omega, by unfold toldN; simp only; omega, by unfold toldN; simp only; omega, fun s hs => ?_, fun s hs => ?_⟩
  · have := h5.1 s hs; omega
  · have := h5.2 s hs; omega

theorem read_own' (v : Value) (xs : List UInt8) (n : Nat) (w : World) (h : Sl w 1 v n (xs.map Bv)) (hr : n ≤ 140737488351232) :
    Calls Tryz.prog 117 #[v] w fun e w' => ∃ b ob, w.heap.size ≤ b ∧ (∀ k, ob = some k → w.heap.size ≤ k ∧ k ≠ b) ∧ e = .returned (.pointer (some ⟨b, 0, none⟩)) ∧ RdO w' b ob xs ∧ Below w.heap.size w w' := by
  have hn : xs.length = n := by simpa using h.1
  have HH := Lib.hid h
  have HN := Lib.hid hn
  clear h hn
  go_enter Tryz.func117, Tryz.ntmps117
  go_wp2_with fail
  refine (clone_any v xs n w HH.out hr).mono ?_
  rintro e w1 ⟨aa, cc, rfl, hown, hb⟩
  have HO := Lib.hid hown
  have HB := Lib.hid hb
  have hs := hb.size
  clear hown hb
  go_wp2
  go_ret
  have hn := HN.out
  subst hn
  refine ⟨w1.heap.size, _, hs, fun k hk => ⟨(HO.out.lt k hk).1, by have := (HO.out.lt k hk).2; omega⟩, rfl, ⟨_, heap_alloc_new _ _, ?_, rfl⟩, HB.out.alloc hs _⟩
  exact (Sl.own HO.out).below ((Below.refl _ _).alloc (Nat.le_refl _) _)

theorem endE_cases (xs : List UInt8) : endE xs = 0 ∨ endE xs = 4 := by
  unfold endE
  split
  · exact Or.inl rfl
  · exact Or.inr rfl
def getE (xs : List UInt8) : Int := if xs.length = 512 then (if getOk xs then 0 else 4) else 2
def getN (xs : List UInt8) : Nd := if xs.length = 512 then (if getOk xs then toldN xs else Nd.zero) else Nd.zero
theorem get_ok {xs : List UInt8} (hl : xs.length = 512) (h : getOk xs = true) : getE xs = 0 ∧ getN xs = toldN xs := by
  unfold getE getN; rw [if_pos hl, if_pos hl, if_pos h, if_pos h]; exact ⟨rfl, rfl⟩
theorem get_no {xs : List UInt8} (hl : xs.length = 512) (h : getOk xs = false) : getE xs = 4 ∧ getN xs = Nd.zero := by
  unfold getE getN; rw [if_pos hl, if_pos hl, if_neg (by rw [h]; simp), if_neg (by rw [h]; simp)]; exact ⟨rfl, rfl⟩
theorem get_len {xs : List UInt8} (hl : ¬ xs.length = 512) : getE xs = 2 ∧ getN xs = Nd.zero := by
  unfold getE getN; rw [if_neg hl, if_neg hl]; exact ⟨rfl, rfl⟩
def NdFr (B : Nat) (arr : Array Value) : Prop := ∀ v ∈ arr.toList, ∀ k, v.ownBlock = some k → B ≤ k
theorem zero_fr (B : Nat) : NdFr B zeroArr := by
  intro v hv k hk
  simp only [zeroArr, List.mem_cons, List.not_mem_nil, or_false] at hv
  rcases hv with rfl | rfl | rfl | rfl <;> cases hk
theorem GRel.frs {Rdr : World → List UInt8 → Prop} {w wr : World} {B0 N R rb : Nat} {obk : Option Nat} {leaf : Bool} {keys vals : List ByteArray} {kids : List Pt} {vk vv vp : Value} {rest : List UInt8} (h : GRel Rdr w wr B0 N R leaf keys vals kids vk vv vp rest) (hP : Places w B0 N rb R obk) : NdFr w.heap.size #[.bool leaf, vk, vv, vp] := by
  obtain ⟨h1, h2, h3⟩ := h.own
  have a := hP.wn
  have b := hP.pn
  intro v hv k hk
  simp only [List.mem_cons, List.not_mem_nil, or_false] at hv
  rcases hv with rfl | rfl | rfl | rfl
  · cases hk
  · have := h1 k hk; omega
  · have := h2 k hk; omega
  · have := h3 k hk; omega
def GetPostF (xs : List UInt8) (w : World) (e : Ending) (w' : World) : Prop := ∃ arr, e = .returned (.tuple #[.agg arr, .int .i64 (getE xs)]) ∧ NdIs w' arr (getN xs) ∧ Below w.heap.size w w' ∧ NdFr w.heap.size arr
def GetPost (xs : List UInt8) (w : World) (e : Ending) (w' : World) : Prop := ∃ arr, e = .returned (.tuple #[.agg arr, .int .i64 (getE xs)]) ∧ NdIs w' arr (getN xs) ∧ Below w.heap.size w w'

set_option maxRecDepth 100000 in
set_option maxHeartbeats 2000000 in
theorem nodeGet_short (v : Value) (xs : List UInt8) (w : World) (h : Sl w 1 v xs.length (xs.map Bv)) (hl : ¬ xs.length = 512) :
    Calls Tryz.prog 70 #[v] w (GetPostF xs w) := by
  obtain ⟨a, cap, rfl, _⟩ := h.len
  have HQ := Lib.hid (get_len hl)
  have HG := Lib.hid (heap_alloc_new w (.cells zeroArr 25))
  have HB := Lib.hid (show Below w.heap.size w (w.alloc (.cells zeroArr 25)) from (Below.refl _ w).alloc (Nat.le_refl _) _)
  have e1 : ((xs.length : Int) == 512) = false := by have := beq_nat xs.length 512; rw [decide_eq_false hl] at this; exact this
  have e2 : ((xs.length : Int) != 512) = true := by unfold bne; rw [e1]; rfl
  clear h hl
  go_enter Tryz.func70, Tryz.ntmps70
  go_wp2_with (refine store_nd rfl (.tmp 2) (.tmp 20) rfl rfl (arr := zeroArr) rfl HG.out rfl rfl (zero_is w).one ?_)
  intro w2 hg2 hf2 hs2
  have HG2 := Lib.hid hg2
  have HB2 := Lib.hid (HB.out.trans (hf2.below HB.out.size (fun k hk => by omega)))
  clear hg2 hf2 hs2
  go_wp2
  refine bodyPost_ret (ret_nd rfl rfl HG2.out rfl) rfl ?_
  exact ⟨zeroArr, by rw [HQ.out.1]; rfl, by rw [HQ.out.2]; exact zero_is _, HB2.out, zero_fr _⟩

theorem P1_size {p : Pt} (h : p.Wf) : ∀ v ∈ [p.arr], v.size = 34 := by
  intro v hv
  rw [List.mem_singleton] at hv
  subst hv
  exact h.size

set_option maxRecDepth 100000 in
set_option maxHeartbeats 8000000 in
theorem nodeGet_leaf (v : Value) (xs : List UInt8) (w : World) (h : Sl w 1 v 512 (xs.map Bv)) (hkind : kind xs = 1) :
    Calls Tryz.prog 70 #[v] w (GetPostF xs w) := by
  have hl : xs.length = 512 := by simpa using h.1
  obtain ⟨a, cap, rfl, _⟩ := h.len
  have HL := Lib.hid hl
  have hbw : Below w.heap.size w (w.alloc (.cells zeroArr 25)) := (Below.refl _ w).alloc (Nat.le_refl _) _
  have HH := Lib.hid (h.below hbw)
  have HG := Lib.hid (heap_alloc_new w (.cells zeroArr 25))
  have hk1 : (numOf 1 xs).1 = 1 := hkind
  obtain ⟨ys, hys⟩ : ∃ ys, ys = (numOf 1 xs).2.2 := ⟨_, rfl⟩
  obtain ⟨zs, hzs⟩ : ∃ zs, zs = (numOf 1 ys).2.2 := ⟨_, rfl⟩
  obtain ⟨c, hc⟩ : ∃ c, c = (numOf 1 ys).1 := ⟨_, rfl⟩
  obtain ⟨E1, hE1⟩ : ∃ E1, E1 = (numOf 1 xs).2.1 := ⟨_, rfl⟩
  obtain ⟨E2, hE2⟩ : ∃ E2, E2 = (numOf 1 ys).2.1 := ⟨_, rfl⟩
  have hyl : ys.length ≤ 512 := by rw [hys, ← hl]; exact numOf_le 1 xs
  have hzl : zs.length ≤ 512 := by have := numOf_le 1 ys; rw [← hzs] at this; omega
  have hc255 : c ≤ 255 := by rw [hc]; exact kind_le ys
  have HN1 := Lib.hid (fun b ob w h => rNumO_any b ob 1 xs w h (by omega))
  have HN2 := Lib.hid (fun b ob w h => rNumO_any b ob 1 ys w h (by omega))
  rw [hk1, ← hE1, ← hys] at HN1
  rw [← hc, ← hE2, ← hzs] at HN2
  rw [hys] at hzs hc
  obtain ⟨T, hT⟩ : ∃ T : Nat → Tk, T = fun k => tellKV true k (⟨[], [], zs, true⟩ : Tk) := ⟨_, rfl⟩
  have hT1 : tell1 xs = T c := by
    unfold tell1
    rw [hT, ← hzs, hc, show (kind xs == 1) = true by simpa using hkind]
    rfl
  have hTold : toldN xs = ⟨true, (T c).keys, (T c).vals, (tell2 xs).kids⟩ := by
    unfold toldN; rw [hT1, show (kind xs == 1) = true by simpa using hkind]
  have hcc : count xs = c := hc.symm
  have HT1 := Lib.hid (show tell1 xs = T c ∧ toldN xs = ⟨true, (T c).keys, (T c).vals, (tell2 xs).kids⟩ ∧ count xs = c ∧ (kind xs == 1) = true from ⟨hT1, hTold, hcc, by simpa using hkind⟩)
  have HT0 := Lib.hid (show T 0 = (⟨[], [], zs, true⟩ : Tk) by rw [hT]; rfl)
  have HTS := Lib.hid (show ∀ k, T (k + 1) = stepKV true (T k) by intro k; rw [hT]; rfl)
  have HTr := Lib.hid (show ∀ k, (T k).rest.length ≤ 512 ∧ (T k).keys.length = k ∧ (T k).vals.length = k by
    intro k
    rw [hT]
    refine ⟨Nat.le_trans (tellKV_rest _ _ k) hzl, by rw [tellKV_keys]; simp, by rw [tellKV_vals]; simp⟩)
  clear h hT hT1 hTold hcc hkind hk1 hys hzs hc hE1 hE2 
  go_enter Tryz.func70, Tryz.ntmps70
  go_wp2_with fail
  refine (read_own' _ xs 512 _ HH.out (by omega)).mono ?_
  rintro e w1 ⟨rb, ob, hrb, hob, rfl, hrd, hb1⟩
  rw [World.size_alloc] at hrb hb1
  simp only [World.size_alloc] at hob
  have hrbl := hrd.rd.lt
  have hobl := hrd.lt (by intro e; rw [e] at hl; simp at hl)
  have HR1 := Lib.hid ((hb1.block w.heap.size (by omega)).trans HG.out)
  have HB1 := Lib.hid (hbw.trans (hb1.mono (by omega)))
  have HRd := Lib.hid hrd
  have HOb := Lib.hid hob
  have HObl := Lib.hid hobl
  clear hrd hb1 hbw hob hobl
  go_wp2_with fail
  refine (HN1.out rb ob _ HRd.out).mono ?_
  rintro e w2 ⟨rfl, hr2, hf2⟩
  have HR2 := Lib.hid ((hf2.block w.heap.size (lt_of_block HR1.out) (by omega)).trans HR1.out)
  have HB2 := Lib.hid (HB1.out.trans (hf2.below HB1.out.size (fun k hk => by omega)))
  have HRd2 := Lib.hid hr2
  have hs2 := hf2.size
  clear hr2 hf2
  go_wp2_with fail
  refine (HN2.out rb ob _ HRd2.out).mono ?_
  rintro e w3 ⟨rfl, hr3, hf3⟩
  have hs3 := hf3.size
  have hR3 := (hf3.block w.heap.size (lt_of_block HR2.out) (by omega)).trans HR2.out
  have hB3 := HB2.out.trans (hf3.below HB2.out.size (fun k hk => by omega))
  have HPl := Lib.hid (show Places w (w3.heap.size + 1) w3.heap.size rb w.heap.size ob from ⟨by omega, by omega, by omega, fun k hk => by
    have := HOb.out k hk
    have := HObl.out k hk
    omega, by omega, by omega, by omega, by omega, by omega, by omega⟩)
  have HG0 := Lib.hid (show GRel (fun w ys => RdO w rb ob ys) w (w3.alloc (.cells #[.bool true, .slice none 0 0, .slice none 0 0, .slice none 0 0] 25)) (w3.heap.size + 1) w3.heap.size w.heap.size true [] [] [] (.slice none 0 0) (.slice none 0 0) (.slice none 0 0) zs from
    ⟨⟨heap_alloc_new _ _, ⟨rfl, Or.inl ⟨rfl, rfl⟩⟩, ⟨rfl, Or.inl ⟨rfl, rfl⟩⟩, ⟨rfl, Or.inl ⟨rfl, rfl⟩⟩, fun j hj => (by cases hj), fun j hj => (by cases hj), fun j hj => (by cases hj), fun p hp => (by cases hp)⟩, hr3.below ((Below.refl _ w3).alloc (Nat.le_refl _) _), (((Below.refl _ w3).alloc (Nat.le_refl _) _).block w.heap.size (lt_of_block hR3)).trans hR3, hB3.alloc hB3.size _, by simp⟩)
  clear hr3 hf3 hR3 hB3
  go_wp2_with fail
  obtain ⟨N, hN⟩ : ∃ N, N = w3.heap.size := ⟨_, rfl⟩
  obtain ⟨B0, hB0⟩ : ∃ B0, B0 = w3.heap.size + 1 := ⟨_, rfl⟩
  rw [← hB0, ← hN] at HPl HG0
  rw [← hN]
  clear hB0 hN
  go_loopw [44, 10, 11, 12, 13, 14] (fun i ok _ _ _ _ wr => ∃ k : Nat, k ≤ c ∧ i = .int .i64 k ∧ ok = .bool (T k).ok ∧ ∃ vk vv, GRel (fun w ys => RdO w rb ob ys) w wr B0 N w.heap.size true (T k).keys (T k).vals [] vk vv (.slice none 0 0) (T k).rest) (fun i _ _ _ _ _ _ => c - (intOf i).toNat)
  case atStart => exact ⟨0, Nat.zero_le _, rfl, by rw [HT0.out], _, _, by rw [HT0.out]; exact HG0.out⟩
  case round =>
    obtain ⟨k, hk, rfl, rfl, vk, vv, hG⟩ := hrel
    have htr := HTr.out k
    rcases Nat.lt_or_ge k c with hlt | hge
    · obtain ⟨S, hS⟩ : ∃ S, S = T k := ⟨_, rfl⟩
      have hT1 := HTS.out k
      rw [← hS] at hG htr hT1 ⊢
      obtain ⟨ks, vs, yk, ok⟩ := S
      simp only at hG htr ⊢
      obtain ⟨ak, ck, rfl⟩ := own_shape hG.1.2.1
      obtain ⟨av, cv, rfl⟩ := own_shape hG.1.2.2.1
      obtain ⟨htr1, htr2, htr3⟩ := htr
      have hkl : ks.length ≤ 255 := by omega
      have hvl : vs.length ≤ 255 := by omega
      clear htr2 htr3
      obtain ⟨q, hq⟩ : ∃ q, q = strOf yk := ⟨_, rfl⟩
      have hstr := rStrO_any rb ob yk wr hG.2.1 (by omega)
      have hql := strOf_le yk
      rw [← hq] at hstr hql
      obtain ⟨q2, hq2⟩ : ∃ q2, q2 = strOf q.2.2 := ⟨_, rfl⟩
      have hstr2 := fun w h => rStrO_any rb ob q.2.2 w h (by omega)
      rw [← hq2] at hstr2
      have hT2 : T (k + 1) = ⟨ks ++ [q.1], vs ++ [q2.1], q2.2.2, (ok && (q.2.1 == 0)) && (q2.2.1 == 0)⟩ := by rw [hT1, hq2, hq]; rfl
      obtain ⟨a1, e1, y1⟩ := q
      obtain ⟨a2, e2, y2⟩ := q2
      simp only at hstr hstr2 hT2 hql
      have HT2 := Lib.hid hT2
      have HStr := Lib.hid hstr
      have HStr2 := Lib.hid hstr2
      have HGk := Lib.hid hG
      clear hG hT1 hT2 hstr hstr2 hS hq hq2
      cases ok <;> cases ho1 : (e1 == 0) <;> (
        go_wp2_with fail
        refine HStr.out.mono ?_
        rintro e w4 ⟨rfl, hr4, hf4⟩
        have hG4 := HGk.out.read HPl.out hf4 hr4
        have c1 := hG4.cells.2.1
        have hNl := hG4.cells.2.2.2.2
        have HO4 := Lib.hid (own_alloc hG4.1.2.1 (.cells #[.string a1] 9))
        have HSl := Lib.hid (one_lit w4 a1)
        have hbase : B0 ≤ (w4.alloc (.cells #[.string a1] 9)).heap.size := by have := hG4.2.2.2.2; simp; omega
        have HBase := Lib.hid hbase
        have HG4 := Lib.hid hG4
        clear hG4 hr4 hf4 hbase
        go_wp2_with (at_builtin; refine append_strs rfl (.tmp 52) (.tmp 54) rfl HO4.out HSl.out rfl rfl (by omega) HBase.out ?_)
        intro aa cc w5 hown hf h3
        have hkept := HG4.out.kept HPl.out HG4.out.own.1 rfl hf
        have c1 := (cell_of_row _ _ 1 _ _ _ hkept).trans rfl
        have f1 := free_row (i := 1) hkept
        have hG5 := HG4.out.key HPl.out (isRdr_rd rb ob) rfl (by rw [List.map_append]; first | exact hown | (simpa using hown)) hf (by rw [World.size_alloc]; exact h3)
        have c0 := (cell_of_row _ _ 0 _ _ _ hkept).trans rfl
        have HG5 := Lib.hid hG5
        have HKept := Lib.hid hkept
        clear hown hf h3 hkept hG5
        go_wp2_with fail
        refine (HStr2.out _ HG5.out.2.1).mono ?_
        rintro e w6 ⟨rfl, hr6, hf6⟩
        have hG6 := HG5.out.read HPl.out hf6 hr6
        have d2 := hG6.cells.2.2.1
        have hNl6 := hG6.cells.2.2.2.2
        have HO6 := Lib.hid (own_alloc hG6.1.2.2.1 (.cells #[.string a2] 9))
        have HSl6 := Lib.hid (one_lit w6 a2)
        have hbase : B0 ≤ (w6.alloc (.cells #[.string a2] 9)).heap.size := by have := hG6.2.2.2.2; simp; omega
        have HBase6 := Lib.hid hbase
        have HG6 := Lib.hid hG6
        clear hG6 hr6 hf6 hbase c1 c0 f1
        go_wp2_with (at_builtin; refine append_strs rfl (.tmp 70) (.tmp 72) rfl HO6.out HSl6.out rfl rfl (by omega) HBase6.out ?_)
        intro aa6 cc6 w7 hown hf h3
        have hkept := HG6.out.kept HPl.out HG6.out.own.2.1 rfl hf
        have d2 := (cell_of_row _ _ 2 _ _ _ hkept).trans rfl
        have g2 := free_row (i := 2) hkept
        have hG7 := HG6.out.val HPl.out (isRdr_rd rb ob) rfl (by rw [List.map_append]; first | exact hown | (simpa using hown)) hf (by rw [World.size_alloc]; exact h3)
        have HG7 := Lib.hid hG7
        clear hown hf h3 hkept hG7
        go_wp2
        go_roundw
        case rel =>
          refine ⟨k + 1, by omega, by go_num, by rw [HT2.out]; simp [ho1], _, _, by rw [HT2.out]; exact HG7.out⟩
        case measure => simp [intOf]; omega)
    · obtain rfl : k = c := by omega
      obtain ⟨S, hS⟩ : ∃ S, S = T k := ⟨_, rfl⟩
      have ht1 := HT1.out
      rw [← hS] at hG htr ht1 ⊢
      have hRest : S.rest = (tell2 xs).rest := by unfold tell2; rw [ht1.2.2.2, if_pos rfl, ht1.1]
      have hOk : S.ok = (tell2 xs).ok := by unfold tell2; rw [ht1.2.2.2, if_pos rfl, ht1.1]
      have hkid : (tell2 xs).kids = [] := by unfold tell2; rw [ht1.2.2.2, if_pos rfl]
      have hTold := ht1.2.1
      rw [hkid] at hTold
      have HTold := Lib.hid hTold
      have HRest := Lib.hid hRest
      have hrl := htr.1
      have c0 := hG.cells.1
      have hNl := hG.cells.2.2.2.2
      have HGr := Lib.hid hG
      have m1 : (0 : Int) < (k : Int) + 1 := by omega
      obtain ⟨OK, hOK⟩ : ∃ OK, OK = S.ok := ⟨_, rfl⟩
      have HOk := Lib.hid (show OK = (tell2 xs).ok by rw [hOK]; exact hOk)
      rw [← hOK]
      clear hG hRest hOk hkid hTold ht1 htr hOK
      go_wp2_with fail
      obtain ⟨wo, hwo⟩ : ∃ wo : World, wo = wr := ⟨_, rfl⟩
      rw [← hwo] at HGr c0 hNl ⊢
      clear hwo
      go_loopw [84, 15, 16, 10] (fun i _ _ ok wr => i = .int .i64 0 ∧ ok = .bool OK ∧ wr = wo) (fun _ _ _ _ _ => 0)
      case atStart => exact ⟨rfl, rfl, rfl⟩
      case round =>
        obtain ⟨rfl, rfl, rfl⟩ := hrel
        cases hok : OK with
        | false =>
          rw [hok] at HOk
          have HQ := Lib.hid (get_no HL.out (show getOk xs = false by unfold getOk; rw [← HOk.out]; rfl))
          clear hok
          go_wp2_with (refine store_nd rfl (.tmp 2) (.tmp 117) rfl rfl (arr := zeroArr) rfl HGr.out.2.2.1 rfl rfl (zero_is w).one ?_)
          intro w9 hg9 hf9 hs9
          have HG9 := Lib.hid hg9
          have HB9 := Lib.hid (HGr.out.2.2.2.1.trans (hf9.below HGr.out.2.2.2.1.size (fun k hk => by have := HPl.out.wr; omega)))
          clear hg9 hf9 hs9
          go_wp2
          refine bodyPost_ret (ret_nd rfl rfl HG9.out rfl) rfl ?_
          exact ⟨zeroArr, by rw [HQ.out.1]; rfl, by rw [HQ.out.2]; exact zero_is _, HB9.out, zero_fr _⟩
        | true =>
          rw [hok] at HOk
          clear hok
          go_wp2_with fail
          refine (rEnd_any rb S.rest _ HGr.out.2.1.rd (by omega)).mono ?_
          rintro e w7 ⟨rfl, -, hb7⟩
          have HG7 := Lib.hid (HGr.out.below HPl.out (isRdr_rd rb ob) hb7)
          clear hb7
          by_cases hE : endE S.rest = 0
          case neg =>
            have HQ := Lib.hid (get_no HL.out (show getOk xs = false by
              unfold getOk
              rw [← HRest.out, show (endE S.rest == 0) = false by simpa using hE]; simp))
            have hE4 : endE S.rest = 4 := by rcases endE_cases S.rest with h | h; (· exact absurd h hE); (· exact h)
            rw [hE4]
            clear hE hE4
            go_wp2_with (refine store_nd rfl (.tmp 2) (.tmp 117) rfl rfl (arr := zeroArr) rfl HG7.out.2.2.1 rfl rfl (zero_is w).one ?_)
            intro w9 hg9 hf9 hs9
            have HG9 := Lib.hid hg9
            have HB9 := Lib.hid (HG7.out.2.2.2.1.trans (hf9.below HG7.out.2.2.2.1.size (fun k hk => by have := HPl.out.wr; omega)))
            clear hg9 hf9 hs9
            go_wp2
            refine bodyPost_ret (ret_nd rfl rfl HG9.out rfl) rfl ?_
            exact ⟨zeroArr, by rw [HQ.out.1]; rfl, by rw [HQ.out.2]; exact zero_is _, HB9.out, zero_fr _⟩
          case pos =>
            rw [hE]
            have HE := Lib.hid hE
            have HT7 := Lib.hid (At_nd HG7.out.1.1)
            clear hE
            go_wp2_with (refine gload_nd rfl (.tmp 9) rfl rfl HT7.out rfl ?_)
            refine (check_any _ (toldN xs) _ (by rw [HTold.out]; exact HG7.out.1.is) (toldN_fits xs)).mono ?_
            rintro e w8 ⟨rfl, hb8⟩
            have HG8 := Lib.hid (HG7.out.below HPl.out (isRdr_rd rb ob) hb8)
            clear hb8
            by_cases hC : checkE (toldN xs) = 0
            case neg =>
              have HQ := Lib.hid (get_no HL.out (show getOk xs = false by
                unfold getOk
                rw [show (checkE (toldN xs) == 0) = false by simpa using hC]; simp))
              have hbe : (checkE (toldN xs) != 0) = true := by simpa using hC
              clear hC
              go_wp2_with (refine store_nd rfl (.tmp 2) (.tmp 117) rfl rfl (arr := zeroArr) rfl HG8.out.2.2.1 rfl rfl (zero_is w).one ?_)
              intro w9 hg9 hf9 hs9
              have HG9 := Lib.hid hg9
              have HB9 := Lib.hid (HG8.out.2.2.2.1.trans (hf9.below HG8.out.2.2.2.1.size (fun k hk => by have := HPl.out.wr; omega)))
              clear hg9 hf9 hs9
              go_wp2
              refine bodyPost_ret (ret_nd rfl rfl HG9.out rfl) rfl ?_
              exact ⟨zeroArr, by rw [HQ.out.1]; rfl, by rw [HQ.out.2]; exact zero_is _, HB9.out, zero_fr _⟩
            case pos =>
              have HQ := Lib.hid (get_ok HL.out (show getOk xs = true by
                unfold getOk
                rw [← HRest.out, ← HOk.out, HE.out, hC]; rfl))
              rw [hC]
              clear hC
              have HT8 := Lib.hid (At_nd HG8.out.1.1)
              have HN8 := Lib.hid HG8.out.1.is
              go_wp2_with (first | (refine load_nd rfl (.tmp 9) rfl rfl HT8.out rfl ?_) | (refine store_nd rfl (.tmp 2) (.tmp 118) rfl rfl rfl HG8.out.2.2.1 rfl rfl HN8.out.one ?_))
              intro w9 hg9 hf9 hs9
              have HG9 := Lib.hid hg9
              have HN9 := Lib.hid ((HG8.out.1.fr hf9 HPl.out.nr (fun k h1 _ e => by have := HPl.out.pr; omega)).is)
              have HB9 := Lib.hid (HG8.out.2.2.2.1.trans (hf9.below HG8.out.2.2.2.1.size (fun k hk => by have := HPl.out.wr; omega)))
              clear hg9 hf9 hs9
              go_wp2
              refine bodyPost_ret (ret_nd rfl rfl HG9.out rfl) rfl ?_
              exact ⟨_, by rw [HQ.out.1]; rfl, by rw [HQ.out.2, HTold.out]; exact HN9.out, HB9.out, HG8.out.frs HPl.out⟩

end Go.Proofs.YtkbnkdokcmpcgaaGreatDoor
