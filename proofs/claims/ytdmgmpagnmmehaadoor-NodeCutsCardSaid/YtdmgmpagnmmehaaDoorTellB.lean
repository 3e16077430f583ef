/- What bytes tell, as data; rows of strings and of pointers that grow; a node that is made. -/
import Derived.Test.YtdmgmpagnmmehaaDoorRefPtrGet
namespace Go.Proofs.YtdmgmpagnmmehaaDoor
open Go.RowKit

/-- What was told so far: keys, values, what is left, whether all went well. -/
structure Tk where
  keys : List ByteArray
  vals : List ByteArray
  rest : List UInt8
  ok : Bool
def stepKV (leaf : Bool) (s : Tk) : Tk :=
  if leaf then ⟨s.keys ++ [(strOf s.rest).1], s.vals ++ [(strOf (strOf s.rest).2.2).1], (strOf (strOf s.rest).2.2).2.2, (s.ok && ((strOf s.rest).2.1 == 0)) && ((strOf (strOf s.rest).2.2).2.1 == 0)⟩
  else ⟨s.keys ++ [(strOf s.rest).1], s.vals, (strOf s.rest).2.2, s.ok && ((strOf s.rest).2.1 == 0)⟩
def tellKV (leaf : Bool) : Nat → Tk → Tk
  | 0, s => s
  | k + 1, s => stepKV leaf (tellKV leaf k s)
structure Tp where
  kids : List Pt
  rest : List UInt8
  ok : Bool
def stepP (s : Tp) : Tp := ⟨s.kids ++ [(ptrOf s.rest).1], (ptrOf s.rest).2.2, s.ok && ((ptrOf s.rest).2.1 == 0)⟩
def tellP : Nat → Tp → Tp
  | 0, s => s
  | k + 1, s => stepP (tellP k s)

def kind (xs : List UInt8) : Nat := (numOf 1 xs).1
def count (xs : List UInt8) : Nat := (numOf 1 (numOf 1 xs).2.2).1
def tell1 (xs : List UInt8) : Tk := tellKV (kind xs == 1) (count xs) ⟨[], [], (numOf 1 (numOf 1 xs).2.2).2.2, kind xs == 1 || kind xs == 2⟩
def tell2 (xs : List UInt8) : Tp := if kind xs == 1 then ⟨[], (tell1 xs).rest, (tell1 xs).ok⟩ else tellP (count xs + 1) ⟨[], (tell1 xs).rest, (tell1 xs).ok⟩
def toldN (xs : List UInt8) : Nd := ⟨kind xs == 1, (tell1 xs).keys, (tell1 xs).vals, (tell2 xs).kids⟩
/-- Is it a node's? -/
def getOk (xs : List UInt8) : Bool := (tell2 xs).ok && (endE (tell2 xs).rest == 0) && (checkE (toldN xs) == 0)

theorem kind_le (xs : List UInt8) : kind xs ≤ 255 := by
  unfold kind numOf
  split
  · simp
  · split
    · simp
    · have h1 := getB_lt (xs.take (1 : Int).toNat)
      have h2 : (xs.take (1 : Int).toNat).length ≤ 1 := by rw [List.length_take]; simp; omega
      have h3 : 256 ^ (xs.take (1 : Int).toNat).length ≤ 256 ^ 1 := Nat.pow_le_pow_right (by decide) h2
      simp only
      omega
theorem count_le (xs : List UInt8) : count xs ≤ 255 := kind_le (numOf 1 xs).2.2

theorem tellKV_keys (leaf : Bool) (s : Tk) : ∀ k, (tellKV leaf k s).keys.length = s.keys.length + k
  | 0 => rfl
  | k + 1 => by
    have := tellKV_keys leaf s k
    unfold tellKV stepKV
    cases leaf <;> simp [this] <;> omega
theorem tellKV_vals (s : Tk) : ∀ k, (tellKV true k s).vals.length = s.vals.length + k
  | 0 => rfl
  | k + 1 => by
    have := tellKV_vals s k
    unfold tellKV stepKV
    simp [this]; omega
theorem tellKV_novals (s : Tk) : ∀ k, (tellKV false k s).vals = s.vals
  | 0 => rfl
  | k + 1 => by
    have := tellKV_novals s k
    unfold tellKV stepKV
    simpa using this
theorem tellP_kids (s : Tp) : ∀ k, (tellP k s).kids.length = s.kids.length + k
  | 0 => rfl
  | k + 1 => by
    have := tellP_kids s k
    unfold tellP stepP
    simp [this]; omega
theorem tellKV_rest (leaf : Bool) (s : Tk) : ∀ k, (tellKV leaf k s).rest.length ≤ s.rest.length
  | 0 => Nat.le_refl _
  | k + 1 => by
    have h1 := tellKV_rest leaf s k
    have h2 := strOf_le (tellKV leaf k s).rest
    have h3 := strOf_le (strOf (tellKV leaf k s).rest).2.2
    unfold tellKV stepKV
    cases leaf <;> simp only [if_true, Bool.false_eq_true, if_false] <;> omega
theorem ptrOf_le (xs : List UInt8) : (ptrOf xs).2.2.length ≤ xs.length := by
  unfold ptrOf; split
  · exact Nat.le_refl _
  · simp only [List.length_drop]; omega
theorem tellP_rest (s : Tp) : ∀ k, (tellP k s).rest.length ≤ s.rest.length
  | 0 => Nat.le_refl _
  | k + 1 => by
    have h1 := tellP_rest s k
    have h2 := ptrOf_le (tellP k s).rest
    unfold tellP stepP
    simp only
    omega

/-! ### Rows that grow -/

theorem info_str : (Tryd.prog.info? 9).map (fun i => (i.zero, i.size, i.bytes)) = some (some (.string ⟨#[]⟩), 1, 16) := by kernel_rfl
theorem append_strs {w : World} {ops : Array Oper} {rest : List Oper} {o : Oper} {a : Act} {Q : Exit → Act → World → Prop} (hgd : o.guard = none) (s x : Operand)
    (ho : o.op = .call { callee := .builtin .append, args := #[s, x], argTypes := #[22, 22] })
    {base : Nat} {v : Value} {l : List ByteArray} (hown : w.ownsRow base 9 1 v l.length (l.map Value.string)) {vx : Value} {t : ByteArray} (hx : Sl w 1 vx 1 [Value.string t])
    (hs : a.eval s = v) (hxe : a.eval x = vx) (hr : l.length ≤ 1000000) (hbase : base ≤ w.heap.size)
    (h : ∀ aa cc w', w'.ownsRow base 9 1 (.slice aa (l.length + 1) cc) (l.length + 1) ((l ++ [t]).map Value.string) → Fr (fun k => v.ownBlock = some k) w w' → ((Value.slice aa (l.length + 1) cc).ownBlock = v.ownBlock ∨ (Value.slice aa (l.length + 1) cc).ownBlock = some w.heap.size) →
      wpList Tryd.prog ops Q rest (a.put o.dst (.slice aa (l.length + 1) cc)) w') : wpList Tryd.prog ops Q (o :: rest) a w := by
  obtain ⟨i0, hi, hz0, hz1, hz2⟩ := info_parts info_str
  refine wpList_append_sl hgd s x 22 ho base 9 i0 (.string ⟨#[]⟩) 1 16 Tryd.underlying22 hi hz0 hz1 hz2 rfl (by decide) v l.length _ hs hown vx 1 _ hxe hx (by intro u hu; simp at hu; subst hu; rfl) (by unfold maxLen; omega) (by omega) hbase ?_
  intro aa cc w' h2 hg h3
  refine h aa cc w' ?_ ((Fr.refl _ w).grown hg (fun k hk => Or.inl hk)) h3
  rw [List.map_append]; exact h2

theorem info_ptrz : ((Tryd.prog.info? 47).map (fun i => (i.zero.isSome, i.size, i.bytes))) = some (true, 34, 48) := by kernel_rfl
theorem zero_ptrz : ((Tryd.prog.info? 47).bind (·.zero)).map (·.cells.size) = some 34 := by kernel_rfl
theorem info_ptrs : ∃ i0 z, Tryd.prog.info? 47 = some i0 ∧ i0.zero = some z ∧ i0.size = 34 ∧ i0.bytes = 48 ∧ z.cells.size = 34 := by
  have e1 := info_ptrz
  have e2 := zero_ptrz
  cases hq : Tryd.prog.info? 47 with
  | none => rw [hq] at e1; simp at e1
  | some i =>
    rw [hq] at e1 e2
    simp only [Option.map_some, Option.some.injEq, Prod.mk.injEq, Option.isSome_iff_exists] at e1
    obtain ⟨⟨z, hz⟩, e3, e4⟩ := e1
    simp only [Option.bind_some, hz, Option.map_some, Option.some.injEq] at e2
    exact ⟨i, z, rfl, hz, e3, e4, e2⟩
theorem append_ptrs {w : World} {ops : Array Oper} {rest : List Oper} {o : Oper} {a : Act} {Q : Exit → Act → World → Prop} (hgd : o.guard = none) (s x : Operand)
    (ho : o.op = .call { callee := .builtin .append, args := #[s, x], argTypes := #[23, 23] })
    {base : Nat} {v : Value} {l : List Pt} (hown : w.ownsRow base 47 34 v l.length (l.map Pt.cells).flatten) {vx : Value} {p : Pt} (hp : p.Wf) (hx : Sl w 34 vx 1 p.cells)
    (hs : a.eval s = v) (hxe : a.eval x = vx) (hr : l.length ≤ 1000000) (hbase : base ≤ w.heap.size)
    (h : ∀ aa cc w', w'.ownsRow base 47 34 (.slice aa (l.length + 1) cc) (l.length + 1) ((l ++ [p]).map Pt.cells).flatten → Fr (fun k => v.ownBlock = some k) w w' → ((Value.slice aa (l.length + 1) cc).ownBlock = v.ownBlock ∨ (Value.slice aa (l.length + 1) cc).ownBlock = some w.heap.size) →
      wpList Tryd.prog ops Q rest (a.put o.dst (.slice aa (l.length + 1) cc)) w') : wpList Tryd.prog ops Q (o :: rest) a w := by
  obtain ⟨i0, z, hi, hz0, hz1, hz2, hz3⟩ := info_ptrs
  refine wpList_append_sl hgd s x 23 ho base 47 i0 z 34 48 Tryd.underlying23 hi hz0 hz1 hz2 hz3 (by decide) v l.length _ hs hown vx 1 _ hxe hx (by have := p.one; rwa [Pt.arr_toList] at this) (by unfold maxLen; omega) (by omega) hbase ?_
  intro aa cc w' h2 hg h3
  refine h aa cc w' ?_ ((Fr.refl _ w).grown hg (fun k hk => Or.inl hk)) h3
  rw [List.map_append, List.flatten_append]; simpa using h2

/-! ### A node that is made -/

/-- Its block, and its rows, each its own. -/
def NodeRel (wr : World) (B0 N : Nat) (leaf : Bool) (keys vals : List ByteArray) (kids : List Pt) (vk vv vp : Value) : Prop :=
  wr.heap[N]? = some (.cells #[.bool leaf, vk, vv, vp] 25 (0, 0)) ∧ wr.ownsRow B0 9 1 vk keys.length (keys.map Value.string) ∧ wr.ownsRow B0 9 1 vv vals.length (vals.map Value.string) ∧
    wr.ownsRow B0 47 34 vp kids.length (kids.map Pt.cells).flatten ∧ (∀ j, vk.ownBlock = some j → vv.ownBlock ≠ some j) ∧ (∀ j, vk.ownBlock = some j → vp.ownBlock ≠ some j) ∧ (∀ j, vv.ownBlock = some j → vp.ownBlock ≠ some j) ∧ (∀ p ∈ kids, p.Wf)

theorem NodeRel.fr {S : Nat → Prop} {w w' : World} {B0 N : Nat} {leaf : Bool} {keys vals : List ByteArray} {kids : List Pt} {vk vv vp : Value} (h : NodeRel w B0 N leaf keys vals kids vk vv vp) (hf : Fr S w w') (hN : ¬ S N) (hs : ∀ k, B0 ≤ k → k < w.heap.size → ¬ S k) :
    NodeRel w' B0 N leaf keys vals kids vk vv vp := by
  obtain ⟨h1, h2, h3, h4, h5⟩ := h
  exact ⟨(hf.block N (lt_of_block h1) hN).trans h1, h2.fr hf (fun k hk => hs k (h2.lt k hk).1 (h2.lt k hk).2), h3.fr hf (fun k hk => hs k (h3.lt k hk).1 (h3.lt k hk).2), h4.fr hf (fun k hk => hs k (h4.lt k hk).1 (h4.lt k hk).2), h5⟩
theorem NodeRel.is {w : World} {B0 N : Nat} {leaf : Bool} {keys vals : List ByteArray} {kids : List Pt} {vk vv vp : Value} (h : NodeRel w B0 N leaf keys vals kids vk vv vp) : NdIs w #[.bool leaf, vk, vv, vp] ⟨leaf, keys, vals, kids⟩ := by
  obtain ⟨h1, h2, h3, h4, _, _, _, h5⟩ := h
  exact ⟨vk, vv, vp, rfl, Sl.own h2, Sl.own h3, ⟨Sl.own h4, h5⟩⟩

section
variable {wr w1 w2 : World} {B0 N : Nat} {leaf : Bool} {keys vals : List ByteArray} {kids : List Pt} {vk vv vp : Value} {aa : Option Addr} {cc : Nat} {ob : Obj}
/-- One more key. -/
theorem NodeRel.key {s : ByteArray} (h : NodeRel wr B0 N leaf keys vals kids vk vv vp) (hN : N < B0) (hB : B0 ≤ wr.heap.size) (hw1 : w1 = wr.alloc ob)
    (ho : w2.ownsRow B0 9 1 (.slice aa (keys.length + 1) cc) (keys.length + 1) ((keys ++ [s]).map Value.string)) (hf : Fr (fun k => vk.ownBlock = some k) w1 w2) (h3 : (Value.slice aa (keys.length + 1) cc).ownBlock = vk.ownBlock ∨ (Value.slice aa (keys.length + 1) cc).ownBlock = some w1.heap.size) :
    NodeRel (w2.setCell ⟨N, 1, none⟩ (.slice aa (keys.length + 1) cc)) B0 N leaf (keys ++ [s]) vals kids (.slice aa (keys.length + 1) cc) vv vp ∧ Fr (fun k => k = N ∨ B0 ≤ k) wr (w2.setCell ⟨N, 1, none⟩ (.slice aa (keys.length + 1) cc)) := by
  obtain ⟨g1, g2, g3, g4, g5, g6, g7, g8⟩ := h
  have hF1 : Fr (fun k => k = N ∨ B0 ≤ k) wr w1 := by rw [hw1]; exact (Fr.refl _ wr).alloc _
  have hs1 : w1.heap.size = wr.heap.size + 1 := by rw [hw1]; simp
  have hF2 : Fr (fun k => k = N ∨ B0 ≤ k) wr w2 := hF1.trans (hf.mono (fun k _ hk => Or.inr (g2.lt k hk).1))
  have hF3 := hF2.setCell (p := ⟨N, 1, none⟩) (Or.inl (Or.inl rfl)) (.slice aa (keys.length + 1) cc)
  have hN2 : w2.heap[N]? = some (.cells #[.bool leaf, vk, vv, vp] 25 (0, 0)) :=
    (hf.block N (by rw [hs1]; have := lt_of_block g1; omega) (fun e => by have := (g2.lt N e).1; omega)).trans (by rw [hw1]; exact (((Below.refl _ wr).alloc (Nat.le_refl _) _).block N (lt_of_block g1)).trans g1)
  have alloc_own : ∀ {t sz : Nat} {v : Value} {n : Nat} {l : List Value}, wr.ownsRow B0 t sz v n l → w1.ownsRow B0 t sz v n l := fun h => by rw [hw1]; exact h.fr ((Fr.refl (fun _ => False) wr).alloc _) (fun _ _ => id)
  have k3 := (alloc_own g3).fr hf (fun k hk e => g5 k e hk)
  have k4 := (alloc_own g4).fr hf (fun k hk e => g6 k e hk)
  have hown : ∀ j, (Value.slice aa (keys.length + 1) cc).ownBlock = some j → j ≠ N := fun j hj e => by have := (ho.lt j hj).1; omega
  refine ⟨⟨by have := heap_setCell_same _ N 1 _ _ (.slice aa (keys.length + 1) cc) hN2; simpa using this, by rw [List.length_append]; exact ho.set_other (fun e => hown N e rfl) 1 _, k3.set_other (fun e => by have := (k3.lt N e).1; omega) 1 _, k4.set_other (fun e => by have := (k4.lt N e).1; omega) 1 _, ?_, ?_, g7, g8⟩, hF3⟩
  · intro j hj hv
    rcases h3 with e | e
    · exact g5 j (e ▸ hj) hv
    · have h1 : j = w1.heap.size := by rw [hj] at e; exact Option.some.inj e
      have h2 := (g3.lt j hv).2
      omega
  · intro j hj hv
    rcases h3 with e | e
    · exact g6 j (e ▸ hj) hv
    · have h1 : j = w1.heap.size := by rw [hj] at e; exact Option.some.inj e
      have h2 := (g4.lt j hv).2
      omega
/-- One more value. -/
theorem NodeRel.val {s : ByteArray} (h : NodeRel wr B0 N leaf keys vals kids vk vv vp) (hN : N < B0) (hB : B0 ≤ wr.heap.size) (hw1 : w1 = wr.alloc ob)
    (ho : w2.ownsRow B0 9 1 (.slice aa (vals.length + 1) cc) (vals.length + 1) ((vals ++ [s]).map Value.string)) (hf : Fr (fun k => vv.ownBlock = some k) w1 w2) (h3 : (Value.slice aa (vals.length + 1) cc).ownBlock = vv.ownBlock ∨ (Value.slice aa (vals.length + 1) cc).ownBlock = some w1.heap.size) :
    NodeRel (w2.setCell ⟨N, 2, none⟩ (.slice aa (vals.length + 1) cc)) B0 N leaf keys (vals ++ [s]) kids vk (.slice aa (vals.length + 1) cc) vp ∧ Fr (fun k => k = N ∨ B0 ≤ k) wr (w2.setCell ⟨N, 2, none⟩ (.slice aa (vals.length + 1) cc)) := by
  obtain ⟨g1, g2, g3, g4, g5, g6, g7, g8⟩ := h
  have hF1 : Fr (fun k => k = N ∨ B0 ≤ k) wr w1 := by rw [hw1]; exact (Fr.refl _ wr).alloc _
  have hs1 : w1.heap.size = wr.heap.size + 1 := by rw [hw1]; simp
  have hF2 : Fr (fun k => k = N ∨ B0 ≤ k) wr w2 := hF1.trans (hf.mono (fun k _ hk => Or.inr (g3.lt k hk).1))
  have hF3 := hF2.setCell (p := ⟨N, 2, none⟩) (Or.inl (Or.inl rfl)) (.slice aa (vals.length + 1) cc)
  have hN2 : w2.heap[N]? = some (.cells #[.bool leaf, vk, vv, vp] 25 (0, 0)) :=
    (hf.block N (by rw [hs1]; have := lt_of_block g1; omega) (fun e => by have := (g3.lt N e).1; omega)).trans (by rw [hw1]; exact (((Below.refl _ wr).alloc (Nat.le_refl _) _).block N (lt_of_block g1)).trans g1)
  have alloc_own : ∀ {t sz : Nat} {v : Value} {n : Nat} {l : List Value}, wr.ownsRow B0 t sz v n l → w1.ownsRow B0 t sz v n l := fun h => by rw [hw1]; exact h.fr ((Fr.refl (fun _ => False) wr).alloc _) (fun _ _ => id)
  have k2 := (alloc_own g2).fr hf (fun k hk e => g5 k hk e)
  have k4 := (alloc_own g4).fr hf (fun k hk e => g7 k e hk)
  have hown : ∀ j, (Value.slice aa (vals.length + 1) cc).ownBlock = some j → j ≠ N := fun j hj e => by have := (ho.lt j hj).1; omega
  refine ⟨⟨by have := heap_setCell_same _ N 2 _ _ (.slice aa (vals.length + 1) cc) hN2; simpa using this, k2.set_other (fun e => by have := (k2.lt N e).1; omega) 2 _, by rw [List.length_append]; exact ho.set_other (fun e => hown N e rfl) 2 _, k4.set_other (fun e => by have := (k4.lt N e).1; omega) 2 _, ?_, g6, ?_, g8⟩, hF3⟩
  · intro j hj hv
    rcases h3 with e | e
    · exact g5 j hj (e ▸ hv)
    · have h1 : j = w1.heap.size := by rw [hv] at e; exact Option.some.inj e
      have h2 := (g2.lt j hj).2
      omega
  · intro j hj hv
    rcases h3 with e | e
    · exact g7 j (e ▸ hj) hv
    · have h1 : j = w1.heap.size := by rw [hj] at e; exact Option.some.inj e
      have h2 := (g4.lt j hv).2
      omega
/-- One more kid. -/
theorem NodeRel.kid {p : Pt} (h : NodeRel wr B0 N leaf keys vals kids vk vv vp) (hp : p.Wf) (hN : N < B0) (hB : B0 ≤ wr.heap.size) (hw1 : w1 = wr.alloc ob)
    (ho : w2.ownsRow B0 47 34 (.slice aa (kids.length + 1) cc) (kids.length + 1) ((kids ++ [p]).map Pt.cells).flatten) (hf : Fr (fun k => vp.ownBlock = some k) w1 w2) (h3 : (Value.slice aa (kids.length + 1) cc).ownBlock = vp.ownBlock ∨ (Value.slice aa (kids.length + 1) cc).ownBlock = some w1.heap.size) :
    NodeRel (w2.setCell ⟨N, 3, none⟩ (.slice aa (kids.length + 1) cc)) B0 N leaf keys vals (kids ++ [p]) vk vv (.slice aa (kids.length + 1) cc) ∧ Fr (fun k => k = N ∨ B0 ≤ k) wr (w2.setCell ⟨N, 3, none⟩ (.slice aa (kids.length + 1) cc)) := by
  obtain ⟨g1, g2, g3, g4, g5, g6, g7, g8⟩ := h
  have hF1 : Fr (fun k => k = N ∨ B0 ≤ k) wr w1 := by rw [hw1]; exact (Fr.refl _ wr).alloc _
  have hs1 : w1.heap.size = wr.heap.size + 1 := by rw [hw1]; simp
  have hF2 : Fr (fun k => k = N ∨ B0 ≤ k) wr w2 := hF1.trans (hf.mono (fun k _ hk => Or.inr (g4.lt k hk).1))
  have hF3 := hF2.setCell (p := ⟨N, 3, none⟩) (Or.inl (Or.inl rfl)) (.slice aa (kids.length + 1) cc)
  have hN2 : w2.heap[N]? = some (.cells #[.bool leaf, vk, vv, vp] 25 (0, 0)) :=
    (hf.block N (by rw [hs1]; have := lt_of_block g1; omega) (fun e => by have := (g4.lt N e).1; omega)).trans (by rw [hw1]; exact (((Below.refl _ wr).alloc (Nat.le_refl _) _).block N (lt_of_block g1)).trans g1)
  have alloc_own : ∀ {t sz : Nat} {v : Value} {n : Nat} {l : List Value}, wr.ownsRow B0 t sz v n l → w1.ownsRow B0 t sz v n l := fun h => by rw [hw1]; exact h.fr ((Fr.refl (fun _ => False) wr).alloc _) (fun _ _ => id)
  have k2 := (alloc_own g2).fr hf (fun k hk e => g6 k hk e)
  have k3 := (alloc_own g3).fr hf (fun k hk e => g7 k hk e)
  have hown : ∀ j, (Value.slice aa (kids.length + 1) cc).ownBlock = some j → j ≠ N := fun j hj e => by have := (ho.lt j hj).1; omega
  refine ⟨⟨by have := heap_setCell_same _ N 3 _ _ (.slice aa (kids.length + 1) cc) hN2; simpa using this, k2.set_other (fun e => by have := (k2.lt N e).1; omega) 3 _, k3.set_other (fun e => by have := (k3.lt N e).1; omega) 3 _, by rw [List.length_append]; exact ho.set_other (fun e => hown N e rfl) 3 _, g5, ?_, ?_, ?_⟩, hF3⟩
  · intro j hj hv
    rcases h3 with e | e
    · exact g6 j hj (e ▸ hv)
    · have h1 : j = w1.heap.size := by rw [hv] at e; exact Option.some.inj e
      have h2 := (g2.lt j hj).2
      omega
  · intro j hj hv
    rcases h3 with e | e
    · exact g7 j hj (e ▸ hv)
    · have h1 : j = w1.heap.size := by rw [hv] at e; exact Option.some.inj e
      have h2 := (g3.lt j hj).2
      omega
  · intro q hq
    rcases List.mem_append.1 hq with h | h
    · exact g8 q h
    · rw [List.mem_singleton] at h; subst h; exact hp
end

end Go.Proofs.YtdmgmpagnmmehaaDoor

namespace Go.Proofs.YtdmgmpagnmmehaaDoor
open Go.RowKit

/-- The two Readers, as one. -/
structure IsRdr (Rdr : World → List UInt8 → Prop) (rb : Nat) (ob : Option Nat) : Prop where
  fr : ∀ {S : Nat → Prop} {w w' : World} {ys : List UInt8}, Rdr w ys → Fr S w w' → ¬ S rb → (∀ k, ob = some k → ¬ S k) → Rdr w' ys
theorem isRdr_rd (rb : Nat) (ob : Option Nat) : IsRdr (fun w ys => RdO w rb ob ys) rb ob := ⟨fun h hf h1 h2 => h.fr hf h1 h2⟩
/-- Which blocks are which. -/
structure Places (w : World) (B0 N rb R : Nat) (ob : Option Nat) : Prop where
  pn : N < B0
  prb : rb < B0
  pr : R < B0
  pob : ∀ k, ob = some k → k < B0 ∧ k ≠ N ∧ k ≠ R ∧ k ≠ rb
  nrb : N ≠ rb
  nr : N ≠ R
  rbr : rb ≠ R
  wn : w.heap.size ≤ N
  wrb : w.heap.size ≤ rb
  wr : w.heap.size ≤ R

def zeroArr : Array Value := #[.bool false, .slice none 0 0, .slice none 0 0, .slice none 0 0]
def GRel (Rdr : World → List UInt8 → Prop) (w wr : World) (B0 N R : Nat) (leaf : Bool) (keys vals : List ByteArray) (kids : List Pt) (vk vv vp : Value) (rest : List UInt8) : Prop :=
  NodeRel wr B0 N leaf keys vals kids vk vv vp ∧ Rdr wr rest ∧ wr.heap[R]? = some (.cells zeroArr 25 (0, 0)) ∧ Below w.heap.size w wr ∧ B0 ≤ wr.heap.size

section
variable {Rdr : World → List UInt8 → Prop} {w wr w1 w2 : World} {B0 N R rb : Nat} {obk : Option Nat} {leaf : Bool} {keys vals : List ByteArray} {kids : List Pt} {vk vv vp : Value} {rest rest' : List UInt8} {aa : Option Addr} {cc : Nat} {o : Obj}

theorem GRel.read (hP : Places w B0 N rb R obk) (h : GRel Rdr w wr B0 N R leaf keys vals kids vk vv vp rest) (hf : Fr (fun k => k = rb) wr w1) (hr : Rdr w1 rest') :
    GRel Rdr w w1 B0 N R leaf keys vals kids vk vv vp rest' := by
  obtain ⟨h1, _, h3, h4, h5⟩ := h
  have a1 := hP.prb
  have a2 := hP.rbr
  have a3 := hP.wrb
  exact ⟨h1.fr hf hP.nrb (fun k hk _ => by omega), hr, (hf.block R (lt_of_block h3) (fun e => a2 e.symm)).trans h3, h4.trans (hf.below h4.size (fun k hk => by omega)), Nat.le_trans h5 hf.size⟩
theorem GRel.turn (hP : Places w B0 N rb R obk) (hR : IsRdr Rdr rb obk) (h : GRel Rdr w wr B0 N R leaf keys vals kids vk vv vp rest) {keys' vals' : List ByteArray} {kids' : List Pt} {vk' vv' vp' : Value}
    (h1 : NodeRel w1 B0 N leaf keys' vals' kids' vk' vv' vp') (hf : Fr (fun k => k = N ∨ B0 ≤ k) wr w1) : GRel Rdr w w1 B0 N R leaf keys' vals' kids' vk' vv' vp' rest := by
  obtain ⟨_, h2, h3, h4, h5⟩ := h
  have a0 := hP.pn
  have a1 := hP.prb
  have a2 := hP.pr
  have a3 := hP.nrb
  have a4 := hP.nr
  have a5 := hP.wn
  have a6 := hP.wr
  have a7 := h4.size
  refine ⟨h1, hR.fr h2 hf (by omega) (fun k hk => by have := hP.pob k hk; omega), (hf.block R (lt_of_block h3) (by omega)).trans h3, h4.trans (hf.below h4.size (fun k hk => by omega)), Nat.le_trans h5 hf.size⟩
theorem GRel.below (hP : Places w B0 N rb R obk) (hR : IsRdr Rdr rb obk) (h : GRel Rdr w wr B0 N R leaf keys vals kids vk vv vp rest) (hb : Below wr.heap.size wr w1) : GRel Rdr w w1 B0 N R leaf keys vals kids vk vv vp rest := by
  obtain ⟨h1, h2, h3, h4, h5⟩ := h
  have hf := Fr.of_below (S := fun _ => False) hb
  exact ⟨h1.fr hf id (fun _ _ _ => id), hR.fr h2 hf id (fun _ _ => id), (hf.block R (lt_of_block h3) id).trans h3, h4.trans (hb.mono h4.size), Nat.le_trans h5 hb.size⟩
theorem GRel.cells (h : GRel Rdr w wr B0 N R leaf keys vals kids vk vv vp rest) : wr.cell? ⟨N, 0, none⟩ = some (.bool leaf) ∧ wr.cell? ⟨N, 1, none⟩ = some vk ∧ wr.cell? ⟨N, 2, none⟩ = some vv ∧ wr.cell? ⟨N, 3, none⟩ = some vp ∧ N < wr.heap.size := by
  have h1 := h.1.1
  exact ⟨(cell_of_row _ _ 0 _ _ _ h1).trans rfl, (cell_of_row _ _ 1 _ _ _ h1).trans rfl, (cell_of_row _ _ 2 _ _ _ h1).trans rfl, (cell_of_row _ _ 3 _ _ _ h1).trans rfl, lt_of_block h1⟩
theorem GRel.key {s : ByteArray} (hP : Places w B0 N rb R obk) (hR : IsRdr Rdr rb obk) (h : GRel Rdr w wr B0 N R leaf keys vals kids vk vv vp rest) (hw1 : w1 = wr.alloc o)
    (ho : w2.ownsRow B0 9 1 (.slice aa (keys.length + 1) cc) (keys.length + 1) ((keys ++ [s]).map Value.string)) (hf : Fr (fun k => vk.ownBlock = some k) w1 w2) (h3 : (Value.slice aa (keys.length + 1) cc).ownBlock = vk.ownBlock ∨ (Value.slice aa (keys.length + 1) cc).ownBlock = some w1.heap.size) :
    GRel Rdr w (w2.setCell ⟨N, 1, none⟩ (.slice aa (keys.length + 1) cc)) B0 N R leaf (keys ++ [s]) vals kids (.slice aa (keys.length + 1) cc) vv vp rest := by
  obtain ⟨k1, k2⟩ := h.1.key hP.pn h.2.2.2.2 hw1 ho hf h3
  exact h.turn hP hR k1 k2
theorem GRel.val {s : ByteArray} (hP : Places w B0 N rb R obk) (hR : IsRdr Rdr rb obk) (h : GRel Rdr w wr B0 N R leaf keys vals kids vk vv vp rest) (hw1 : w1 = wr.alloc o)
    (ho : w2.ownsRow B0 9 1 (.slice aa (vals.length + 1) cc) (vals.length + 1) ((vals ++ [s]).map Value.string)) (hf : Fr (fun k => vv.ownBlock = some k) w1 w2) (h3 : (Value.slice aa (vals.length + 1) cc).ownBlock = vv.ownBlock ∨ (Value.slice aa (vals.length + 1) cc).ownBlock = some w1.heap.size) :
    GRel Rdr w (w2.setCell ⟨N, 2, none⟩ (.slice aa (vals.length + 1) cc)) B0 N R leaf keys (vals ++ [s]) kids vk (.slice aa (vals.length + 1) cc) vp rest := by
  obtain ⟨k1, k2⟩ := h.1.val hP.pn h.2.2.2.2 hw1 ho hf h3
  exact h.turn hP hR k1 k2
theorem GRel.kid {p : Pt} (hp : p.Wf) (hP : Places w B0 N rb R obk) (hR : IsRdr Rdr rb obk) (h : GRel Rdr w wr B0 N R leaf keys vals kids vk vv vp rest) (hw1 : w1 = wr.alloc o)
    (ho : w2.ownsRow B0 47 34 (.slice aa (kids.length + 1) cc) (kids.length + 1) ((kids ++ [p]).map Pt.cells).flatten) (hf : Fr (fun k => vp.ownBlock = some k) w1 w2) (h3 : (Value.slice aa (kids.length + 1) cc).ownBlock = vp.ownBlock ∨ (Value.slice aa (kids.length + 1) cc).ownBlock = some w1.heap.size) :
    GRel Rdr w (w2.setCell ⟨N, 3, none⟩ (.slice aa (kids.length + 1) cc)) B0 N R leaf keys vals (kids ++ [p]) vk vv (.slice aa (kids.length + 1) cc) rest := by
  obtain ⟨k1, k2⟩ := h.1.kid hp hP.pn h.2.2.2.2 hw1 ho hf h3
  exact h.turn hP hR k1 k2
/-- What the append left of the node's block. -/
theorem GRel.kept {v : Value} (h : GRel Rdr w wr B0 N R leaf keys vals kids vk vv vp rest) (hP : Places w B0 N rb R obk) (hv : ∀ k, v.ownBlock = some k → B0 ≤ k) (hw1 : w1 = wr.alloc o) (hf : Fr (fun k => v.ownBlock = some k) w1 w2) :
    w2.heap[N]? = some (.cells #[.bool leaf, vk, vv, vp] 25 (0, 0)) := by
  have a0 := hP.pn
  have a1 := lt_of_block h.1.1
  exact (hf.block N (by rw [hw1]; simp; omega) (fun e => by have := hv N e; omega)).trans (by rw [hw1]; exact (((Below.refl _ wr).alloc (Nat.le_refl _) _).block N a1).trans h.1.1)
theorem GRel.own (h : GRel Rdr w wr B0 N R leaf keys vals kids vk vv vp rest) : (∀ k, vk.ownBlock = some k → B0 ≤ k) ∧ (∀ k, vv.ownBlock = some k → B0 ≤ k) ∧ (∀ k, vp.ownBlock = some k → B0 ≤ k) :=
  ⟨fun k hk => (h.1.2.1.lt k hk).1, fun k hk => (h.1.2.2.1.lt k hk).1, fun k hk => (h.1.2.2.2.1.lt k hk).1⟩
end

theorem own_shape {w : World} {B t sz n : Nat} {v : Value} {l : List Value} (h : w.ownsRow B t sz v n l) : ∃ a c, v = .slice a n c := by
  rcases h.2 with ⟨rfl, rfl⟩ | ⟨g, cap, cur, rfl, _⟩ <;> exact ⟨_, _, rfl⟩
theorem one_lit (w : World) (s : ByteArray) : Sl (w.alloc (.cells #[.string s] 9)) 1 (.slice (some ⟨w.heap.size, 0, none⟩) 1 1) 1 [.string s] := Sl_row (heap_alloc_new _ _) rfl rfl
theorem own_alloc {w : World} {B t sz n : Nat} {v : Value} {l : List Value} (h : w.ownsRow B t sz v n l) (o : Obj) : (w.alloc o).ownsRow B t sz v n l := h.fr ((Fr.refl (fun _ => False) w).alloc _) (fun _ _ => id)

/-- A node that is stored; that is handed back with an error. -/
theorem store_nd {ops : Array Oper} {rest : List Oper} {o : Oper} {a : Act} {w : World} {Q : Exit → Act → World → Prop} (hgd : o.guard = none) (x y : Operand) (ho : o.op = .store 25 x y)
    {b : Nat} (hx : a.eval x = .pointer (some ⟨b, 0, none⟩)) {arr : Array Value} (hy : a.eval y = .agg arr) {old : Array Value} {t : TypeId} (hb : w.heap[b]? = some (.cells old t (0, 0))) (ho2 : old.size = 4) (hl : arr.size = 4) (h1 : ∀ u ∈ arr.toList, u.oneCell' = true)
    (hK : ∀ w', w'.heap[b]? = some (.cells arr t (0, 0)) → Fr (fun k => k = b) w w' → w'.heap.size = w.heap.size → wpList Tryd.prog ops Q rest (a.put o.dst undef) w') : wpList Tryd.prog ops Q (o :: rest) a w :=
  wpList_store_row hgd _ x y ho b hx arr.toList (by simpa using hy) old _ hb (by rw [ho2, Array.length_toList, hl]) h1 (by rw [info_nd, Array.length_toList, hl]) (fun w' k1 k2 k3 => hK w' (by simpa using k1) k2 k3)
theorem ret_nd {fn : Func} {p u : Tmp} (h : fn.results = #[.cell p 25, .tmp u]) {tmps : Array Value} {w : World} {g : Nat} {arr : Array Value} {t : TypeId} (hp : tmps.getD p undef = .pointer (some ⟨g, 0, none⟩))
    (hg : w.heap[g]? = some (.cells arr t (0, 0))) (hl : arr.size = 4) :
    (results fn tmps).run Tryd.prog w = .ok (.tuple #[.agg arr, tmps.getD u undef]) w := by
  rw [results_cell_tmp h, hp]
  simp [asAddr, run_loadVar_row w g t 25 _ _ _ hg Tryd.underlying25 rfl (by rw [info_nd]; simp [hl]), Result.andThen]
theorem NdIs.one {w : World} {arr : Array Value} {n : Nd} (h : NdIs w arr n) : ∀ u ∈ arr.toList, u.oneCell' = true := by
  obtain ⟨ak, ck, av, cv, ap, cp, rfl, _⟩ := h.get
  intro u hu
  simp at hu
  rcases hu with rfl | rfl | rfl | rfl <;> rfl
def Nd.zero : Nd := ⟨false, [], [], []⟩
theorem zero_is (w : World) : NdIs w zeroArr Nd.zero := ⟨_, _, _, rfl, Sl.nil _ _, Sl.nil _ _, ⟨Sl.nil _ _, by simp [Nd.zero]⟩⟩

end Go.Proofs.YtdmgmpagnmmehaaDoor
