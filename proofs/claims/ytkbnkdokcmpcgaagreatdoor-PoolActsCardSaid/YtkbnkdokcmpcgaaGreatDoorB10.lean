/- A slice literal of several structs. Over any program. A struct built of parts that are not looked into. Over any program. A region that draws its order: an operation that yields one value in every world of a class, and leaves it, may come first, if every world on the way lies in the class. Over any program. A region that draws its order: reads and calls that lay memory, in whatever order; then ONE operation for which all those wait; then what only reads, in whatever order. Over any program. A region that draws its order: the operations below the n-th in any order, in worlds of a class; behind them the rest. An operation that yields one value in every world of the class, and leaves it, may come first. Over any program. -/
import Derived.Test.YtkbnkdokcmpcgaaGreatDoorB0
import Derived.Test.YtkbnkdokcmpcgaaGreatDoorB2
import Derived.Test.YtkbnkdokcmpcgaaGreatDoorB9
namespace Go.Proofs.YtkbnkdokcmpcgaaGreatDoor
open Go.RowKit

theorem fill_many (n : Nat) (hn : 0 < n) : ∀ (vs : List (Array Value)) (k : Nat) (zs : Array Value), (∀ v ∈ vs, v.size = n) → zs.size = (k + vs.length) * n →
    ∃ cs, Instr.fill (fun i => some (i * n, n)) zs ((vs.zipIdx k).map fun p => (p.2, Value.agg p.1)) = some cs ∧ cs.toList = zs.toList.take (k * n) ++ (vs.map Array.toList).flatten
  | [], k, zs, _, hz => by
    refine ⟨zs, by simp [Instr.fill], ?_⟩
    simp only [List.length_nil, Nat.add_zero] at hz
    rw [List.take_of_length_le (by simp [hz])]; simp
  | v :: vs, k, zs, hv, hz => by
    have hv0 := hv v (by simp)
    have hz' : zs.size = (k * n + n) + vs.length * n := by rw [hz, List.length_cons]; rw [Nat.add_mul, Nat.add_mul]; omega
    have e := set_fold (k * n) v.toList 0 zs (by simp only [Array.length_toList, hv0]; omega)
    simp only [Nat.add_zero, Array.length_toList, hv0] at e
    obtain ⟨Z, hZ⟩ : ∃ Z, Z = (v.toList.zipIdx 0).foldl (fun (cs : Array Value) (x : Value × Nat) => cs.setIfInBounds (k * n + x.2) x.1) zs := ⟨_, rfl⟩
    rw [← hZ] at e
    have hZs : Z.size = (k + 1 + vs.length) * n := by
      rw [← Array.length_toList, e]
      simp only [List.length_append, List.length_take, List.length_drop, Array.length_toList, hv0, hz', Nat.add_mul]
      omega
    obtain ⟨cs, h1, h2⟩ := fill_many n hn vs (k + 1) Z (fun x hx => hv x (by simp [hx])) hZs
    refine ⟨cs, ?_, ?_⟩
    · rw [List.zipIdx_cons, List.map_cons]
      unfold Instr.fill
      split
      · rename_i hc
        simp at hc
      · rename_i off sz hc
        simp only [Option.some.injEq, Prod.mk.injEq] at hc
        obtain ⟨rfl, rfl⟩ := hc
        split
        · rename_i hc
          exfalso
          simp [Value.cells, hv0] at hc
          omega
        · simp only [Value.cells]
          rw [← Array.foldl_toList, Array.toList_zipIdx]
          rw [← hZ]
          exact h1
    · rw [h2, e]
      have hl : (zs.toList.take (k * n) ++ v.toList).length = (k + 1) * n := by
        simp only [List.length_append, List.length_take, Array.length_toList, hv0, hz', Nat.add_mul]; omega
      rw [List.take_append_of_le_length (by rw [hl]; exact Nat.le_refl _), List.take_of_length_le (by rw [hl]; exact Nat.le_refl _)]
      simp

theorem build_many {P : Program} {ops : Array Oper} {rest : List Oper} {o : Oper} {a : Act} {w : World} {Q : Exit → Act → World → Prop} (hgd : o.guard = none) (t e : TypeId) (m : Nat) (parts : Array (Nat × Operand)) (ho : o.op = .buildSlice t m parts)
    (vs : List (Array Value)) (hp : (parts.map fun (i, x) => (i, a.eval x)) = ((vs.zipIdx 0).map fun p => (p.2, Value.agg p.1)).toArray) (hm : vs.length = m) (ht : P.underlying t = some (.slice e)) (i : TypeInfo) (z : Value) (n : Nat) (hi : P.info? e = some i) (hz : i.zero = some z) (hsz : i.size = n) (_hzs : z.cells.size = n)
    (hv : ∀ v ∈ vs, v.size = n) (h0 : 0 < n) (hm0 : 0 < m) (h24 : m * n < 100000)
    (hK : ∀ cs : Array Value, cs.toList = (vs.map Array.toList).flatten → wpList P ops Q rest (a.put o.dst (.slice (some ⟨w.heap.size, 0, none⟩) m m)) (w.alloc (.cells cs e))) : wpList P ops Q (o :: rest) a w := by
  refine wpList_plain hgd fun K hKK => ?_
  subst hm
  obtain ⟨cs, hf, hcs⟩ := fill_many n h0 vs 0 ((Array.range (vs.length * n)).map (z.cells[· % z.cells.size]!)) hv (by simp)
  rw [Nat.zero_mul, List.take_zero, List.nil_append] at hcs
  have hpos : 0 < vs.length * n := Nat.mul_pos hm0 h0
  have hr : (Instr.buildSlice t vs.length ((vs.zipIdx 0).map fun p => (p.2, Value.agg p.1)).toArray).run P w = .ok (.slice (some ⟨w.heap.size, 0, none⟩) vs.length vs.length) (w.alloc (.cells cs e)) := by
    unfold Instr.buildSlice
    have hzv : (zeroValue e).run P w = .ok z w := by simp [zeroValue, typeInfo, hi, hz]
    have hso : (sizeOf e).run P w = .ok n w := by simp [sizeOf, typeInfo, hi, hsz]
    rw [Sem.run_bind, run_underlying ht]
    simp only [Result.andThen_ok, Sem.run_bind, hso]
    rw [if_neg (by omega), if_neg (by omega)]
    simp only [Sem.run_bind, hzv, Result.andThen_ok, Sem.run_pure]
    simp only [hf]
    simp [newRow]
  unfold Oper.wp execOp
  simp only [ho, hp, Sem.run_bind, hr, Result.andThen_ok, Sem.run_pure]
  exact hKK _ _ (hK cs hcs)

end Go.Proofs.YtkbnkdokcmpcgaaGreatDoor
namespace Go.Proofs.YtkbnkdokcmpcgaaGreatDoor
open Go.RowKit

def offsL : Nat → List Nat → List (Nat × Nat)
  | _, [] => []
  | o, n :: ns => (o, n) :: offsL (o + n) ns
def sumL (l : List Nat) : Nat := l.foldr (· + ·) 0
def flatL (vs : List Value) : List Value := (vs.map fun v => v.cells.toList).flatten

theorem fill_all (place : Nat → Option (Nat × Nat)) : ∀ (vs : List Value) (k off : Nat) (zs : Array Value),
    (∀ i p, (offsL off (vs.map fun v => v.cells.size))[i]? = some p → place (k + i) = some p) → off + sumL (vs.map fun v => v.cells.size) ≤ zs.size →
    ∃ cs, Instr.fill place zs ((vs.zipIdx k).map fun p => (p.2, p.1)) = some cs ∧ cs.toList = zs.toList.take off ++ flatL vs ++ zs.toList.drop (off + sumL (vs.map fun v => v.cells.size))
  | [], k, off, zs, _, _ => ⟨zs, by simp [Instr.fill], by simp [flatL, sumL]⟩
  | v :: vs, k, off, zs, hp, hz => by
    have hz' : off + (v.cells.size + sumL (vs.map fun v => v.cells.size)) ≤ zs.size := hz
    have e := set_fold off v.cells.toList 0 zs (by simp only [Array.length_toList]; omega)
    simp only [Nat.add_zero, Array.length_toList] at e
    obtain ⟨Z, hZ⟩ : ∃ Z, Z = (v.cells.toList.zipIdx 0).foldl (fun (cs : Array Value) (x : Value × Nat) => cs.setIfInBounds (off + x.2) x.1) zs := ⟨_, rfl⟩
    rw [← hZ] at e
    have hZs : Z.size = zs.size := by
      rw [← Array.length_toList, e]
      simp only [List.length_append, List.length_take, List.length_drop, Array.length_toList]
      omega
    obtain ⟨cs, h1, h2⟩ := fill_all place vs (k + 1) (off + v.cells.size) Z (fun i p hi => by
      have := hp (i + 1) p hi
      rwa [show k + (i + 1) = k + 1 + i by omega] at this) (by rw [hZs]; omega)
    have hp0 := hp 0 (off, v.cells.size) rfl
    rw [Nat.add_zero] at hp0
    refine ⟨cs, ?_, ?_⟩
    · rw [List.zipIdx_cons, List.map_cons]
      unfold Instr.fill
      simp only [hp0]
      rw [if_neg (by simp; omega), ← Array.foldl_toList, Array.toList_zipIdx, ← hZ]
      exact h1
    · have hl : (zs.toList.take off ++ v.cells.toList).length = off + v.cells.size := by
        simp only [List.length_append, List.length_take, Array.length_toList]; omega
      rw [h2, e, List.take_append_of_le_length (by rw [hl]; exact Nat.le_refl _), List.take_of_length_le (by rw [hl]; exact Nat.le_refl _), List.drop_append, List.drop_of_length_le (by rw [hl]; omega), hl, List.nil_append, List.drop_drop]
      rw [show off + v.cells.size + (off + v.cells.size + sumL (vs.map fun v => v.cells.size) - (off + v.cells.size)) = off + sumL ((v :: vs).map fun v => v.cells.size) from by
        rw [show sumL ((v :: vs).map fun v => v.cells.size) = v.cells.size + sumL (vs.map fun v => v.cells.size) from rfl]; omega]
      simp only [flatL, List.map_cons, List.flatten_cons, List.append_assoc]

def placesOf (fields : Array Field) : Sem (Array (Nat × Nat)) := fields.mapM fun f => do pure (f.offset, ← sizeOf f.type)
theorem build_first {P : Program} {ops : Array Oper} {rest : List Oper} {o : Oper} {a : Act} {w : World} {Q : Exit → Act → World → Prop} (hgd : o.guard = none) (t : TypeId) (parts : Array (Nat × Operand)) (ho : o.op = .build t parts)
    (vs : List Value) (hp : (parts.map fun (i, x) => (i, a.eval x)) = ((vs.zipIdx 0).map fun p => (p.2, p.1)).toArray) (fields : Array Field) (hu : P.underlying t = some (.struct fields)) (z : Value) (hz : (zeroValue t).run P w = .ok z w)
    (places : Array (Nat × Nat)) (hpl : (placesOf fields).run P w = .ok places w) (hoff : offsL 0 (vs.map fun v => v.cells.size) <+: places.toList) (hs : sumL (vs.map fun v => v.cells.size) ≤ z.cells.size)
    (hK : wpList P ops Q rest (a.put o.dst (.agg (flatL vs ++ z.cells.toList.drop (sumL (vs.map fun v => v.cells.size))).toArray)) w) : wpList P ops Q (o :: rest) a w := by
  refine wpList_plain hgd fun K hKK => ?_
  obtain ⟨cs, h1, h2⟩ := fill_all (places[·]?) vs 0 0 z.cells (fun i p hi => by
    rw [Nat.zero_add, ← Array.getElem?_toList]
    obtain ⟨l, hl⟩ := hoff
    rw [← hl, List.getElem?_append_left (List.getElem?_eq_some_iff.1 hi).1]; exact hi) (by rw [Nat.zero_add]; exact hs)
  rw [List.take_zero, List.nil_append, Nat.zero_add] at h2
  have hcs : cs = (flatL vs ++ z.cells.toList.drop (sumL (vs.map fun v => v.cells.size))).toArray := by apply Array.toList_inj.1; rw [h2]
  have hr : (Instr.build t ((vs.zipIdx 0).map fun p => (p.2, p.1)).toArray).run P w = .ok (.agg cs) w := by
    unfold Instr.build
    unfold placesOf at hpl
    simp only [Sem.run_bind, hz, Result.andThen_ok, run_underlying hu, hpl, h1]
    rfl
  unfold Oper.wp execOp
  simp only [ho, hp, Sem.run_bind, hr, Result.andThen_ok]
  rw [hcs]
  exact hKK _ _ hK

end Go.Proofs.YtkbnkdokcmpcgaaGreatDoor
namespace Go.Proofs.YtkbnkdokcmpcgaaGreatDoor
open Go.RowKit

section
variable {P : Program} {md : Region.Mode} {ops : Array Oper} {C : World → Prop} {Q : Exit → Act → World → Prop}

def wpAnyC (P : Program) (md : Region.Mode) (ops : Array Oper) (C : World → Prop) (Q : Exit → Act → World → Prop) : Nat → Array Bool → Act → World → Prop
  | 0, listed, a, w => C w ∧ Region.ready md ops listed = [] ∧ Q .normal a w
  | f + 1, listed, a, w => C w ∧ (Region.ready md ops listed = [] → Q .normal a w) ∧ ∀ i ∈ Region.ready md ops listed, wpOp P ops Q i (wpAnyC P md ops C Q f (listed.setIfInBounds i true)) a w

theorem wpAny_of_C : ∀ {f : Nat} {listed : Array Bool} {a : Act} {w : World}, wpAnyC P md ops C Q f listed a w → wpAny P md ops Q f listed a w
  | 0, _, _, _, h => h.2
  | _ + 1, _, _, _, h => ⟨h.2.1, fun i hi => wpOp_mono (fun _ _ h' => wpAny_of_C h') (h.2.2 i hi)⟩

def YieldsC (P : Program) (ops : Array Oper) (C : World → Prop) (o : Oper) (v : Value) (a : Act) : Prop :=
  (Region.wanted o (yielded ops a.tmps) = true ∧ ∀ w, C w → (execOp a.eval o).run P w = .ok (.value v) w) ∨ (Region.wanted o (yielded ops a.tmps) = false ∧ v = undef)

theorem YieldsC.op {i : Nat} {o : Oper} {v : Value} {a : Act} (hi : ops[i]? = some o) (hy : YieldsC P ops C o v a) {K : Act → World → Prop} {w : World} (hw : C w) (h : K (a.put o.dst v) w) : wpOp P ops Q i K a w := by
  unfold wpOp
  simp only [hi]
  rcases hy with ⟨h1, h2⟩ | ⟨h1, rfl⟩
  · rw [if_pos h1]
    refine .inl ?_
    unfold Oper.wp
    rw [h2 w hw]
    exact h
  · rw [if_neg (by rw [h1]; decide)]
    exact h
theorem YieldsC.same {o : Oper} {v : Value} {a a' : Act} (hy : YieldsC P ops C o v a) (he : execOp a'.eval o = execOp a.eval o) (hw : Region.wanted o (yielded ops a'.tmps) = Region.wanted o (yielded ops a.tmps)) : YieldsC P ops C o v a' := by
  unfold YieldsC
  rw [he, hw]
  exact hy

theorem wpOp_ahead {j : Nat} {oi oj : Oper} {v : Value} (hj : ops[j]? = some oj) (hap : oi.apart ops oj = true) (hsi : ∀ cs b, oi.op ≠ .select cs b) (hsj : ∀ cs b, oj.op ≠ .select cs b)
    (hQ : ∀ c a w, Q (.panic c) (a.put oi.dst v) w → Q (.panic c) a w) {K : Act → World → Prop} {a : Act} {w : World} (hy : YieldsC P ops C oi v a) (h : wpOp P ops Q j K (a.put oi.dst v) w) :
    wpOp P ops Q j (fun a' w' => YieldsC P ops C oi v a' ∧ K (a'.put oi.dst v) w') a w := by
  obtain ⟨h1, h2, h3⟩ := Oper.apart_spec hap
  have stays : ∀ (b : Act), YieldsC P ops C oi v b → ∀ u, YieldsC P ops C oi v (b.put oj.dst u) := fun b hb u => hb.same (execOp_put oi hsi b oj.dst u h3) (wanted_put oi b oj.dst u h3)
  have both : ∀ (b : Act), YieldsC P ops C oi v b → ∀ (u : Value) (w' : World), K ((b.put oi.dst v).put oj.dst u) w' → YieldsC P ops C oi v (b.put oj.dst u) ∧ K ((b.put oj.dst u).put oi.dst v) w' :=
    fun b hb u w' hk => ⟨stays b hb u, by rw [← Act.put_comm b v u h2]; exact hk⟩
  unfold wpOp at h ⊢
  simp only [hj] at h ⊢
  rw [wanted_put oj a oi.dst v h1] at h
  by_cases hw : Region.wanted oj (yielded ops a.tmps) = true
  · rw [if_pos hw] at h ⊢
    rcases h with h | ⟨ha, hl⟩
    · refine .inl ?_
      unfold Oper.wp at h ⊢
      rw [execOp_put oj hsj a oi.dst v h1] at h
      cases hr : (execOp a.eval oj).run P w with
      | ok n w' =>
        rw [hr] at h
        cases n with
        | value u => exact both a hy u w' h
        | skip => exact both a hy undef w' h
        | defer d =>
          refine both { a with defers := d :: a.defers } (hy.same rfl rfl) undef w' ?_
          rw [← Act.put_defers]
          exact h
        | enter f args =>
          refine Calls.mono h fun e w'' he => ?_
          cases e with
          | returned u => exact both a hy u w'' he
          | panicked c => exact hQ _ _ _ he
          | outgrown => exact he
        | row row args => exact Rows.mono h fun u w'' he => both a hy u w'' he
        | _ => exact h
      | halt x w' =>
        rw [hr] at h
        cases x with
        | panic u => exact hQ _ _ _ h
        | _ => exact h
    · exact .inr ⟨by unfold Oper.asks at ha ⊢; rw [execOp_put oj hsj a oi.dst v h1] at ha; exact ha, hl⟩
  · rw [if_neg hw] at h ⊢
    exact both a hy undef w h

theorem wpAnyC_first {i : Nat} {oi : Oper} {v : Value} (hi : ops[i]? = some oi) (hsel : ∀ (j : Nat) (o : Oper) cs b, ops[j]? = some o → o.op ≠ .select cs b)
    (hQ : ∀ c a w, Q (.panic c) (a.put oi.dst v) w → Q (.panic c) a w) :
    ∀ (f : Nat) (listed : Array Bool) (a : Act) (w : World),
      (∀ j oj, ops[j]? = some oj → j ≠ i → listed.getD j true = false → (∀ e ∈ oj.after, Region.binds md e = true → e.on ≠ i) → oi.apart ops oj = true) →
      i ∈ Region.ready md ops listed → YieldsC P ops C oi v a → wpAnyC P md ops C Q f (listed.setIfInBounds i true) (a.put oi.dst v) w → wpAnyC P md ops C Q (f + 1) listed a w
  | 0, listed, a, w, _, hr, hy, H => by
    refine ⟨H.1, fun h => (by rw [h] at hr; cases hr), fun j hj => ?_⟩
    by_cases hji : j = i
    · subst hji; exact hy.op hi H.1 H
    · have := ready_mono hj hji
      rw [H.2.1] at this
      cases this
  | f + 1, listed, a, w, hfree, hr, hy, H => by
    refine ⟨H.1, fun h => (by rw [h] at hr; cases hr), fun j hj => ?_⟩
    by_cases hji : j = i
    · subst hji; exact hy.op hi H.1 H
    · obtain ⟨hjun, oj, hoj, hall⟩ := mem_ready.1 hj
      have hun := (mem_ready.1 hr).1
      have hnot : ∀ e ∈ oj.after, Region.binds md e = true → e.on ≠ i := by
        intro e he hb heq
        have h1 := hall e he hb
        rw [heq] at h1
        rcases Nat.lt_or_ge i listed.size with h' | h'
        · simp [h'] at hun h1; rw [hun] at h1; cases h1
        · simp [Array.getElem?_eq_none h'] at h1
      have h2 := wpOp_ahead hoj (hfree j oj hoj hji hjun hnot) (fun cs b => hsel i oi cs b hi) (fun cs b => hsel j oj cs b hoj) hQ hy (H.2.2 j (ready_mono hj hji))
      refine wpOp_mono (fun a' w' h3 => wpAnyC_first hi hsel hQ f (listed.setIfInBounds j true) a' w' ?_ (ready_mono hr (Ne.symm hji)) h3.1 ?_) h2
      · intro k ok hk hki hku hno
        refine hfree k ok hk hki ?_ hno
        by_cases hjk : j = k
        · subst hjk; exact hjun
        · rwa [getD_set_ne true hjk] at hku
      · rw [Array.setIfInBounds_comm _ _ hji]
        exact h3.2

theorem wpAnyC_take {i : Nat} {oi : Oper} {v : Value} {f : Nat} {listed : Array Bool} {a : Act} {w : World} (hi : ops[i]? = some oi)
    (hs : Region.noSelect ops = true) (hf : Region.free md ops listed i = true) (hr : (Region.ready md ops listed).contains i = true)
    (hQ : ∀ c a w, Q (.panic c) (a.put oi.dst v) w → Q (.panic c) a w) (hy : YieldsC P ops C oi v a)
    (h : wpAnyC P md ops C Q f (listed.setIfInBounds i true) (a.put oi.dst v) w) : wpAnyC P md ops C Q (f + 1) listed a w :=
  wpAnyC_first hi (Region.noSelect_spec hs) hQ f listed a w (Region.free_spec hi hf) (by simpa using hr) hy h

theorem wpAnyC_forced {f : Nat} {listed : Array Bool} {a : Act} {w : World} (i : Nat) {o : Oper} (hw0 : C w) (hr : Region.ready md ops listed = [i]) (ho : ops[i]? = some o) (hw : Region.wanted o (yielded ops a.tmps) = true)
    (h : ∀ K' : Act → World → Prop, (∀ a w, wpAnyC P md ops C Q f (listed.setIfInBounds i true) a w → K' a w) → Oper.wp P o a w K' Q) : wpAnyC P md ops C Q (f + 1) listed a w := by
  refine ⟨hw0, fun h0 => (by rw [hr] at h0; cases h0), fun j hj => ?_⟩
  rw [hr] at hj
  obtain rfl := List.mem_singleton.1 hj
  unfold wpOp
  simp only [ho]
  rw [if_pos hw]
  exact .inl (h _ fun _ _ h' => h')
theorem wpAnyC_done {f : Nat} {listed : Array Bool} {a : Act} {w : World} (hr : Region.ready md ops listed = []) (hw0 : C w) (h : Q .normal a w) : wpAnyC P md ops C Q f listed a w := by
  cases f with
  | zero => exact ⟨hw0, hr, h⟩
  | succ f => exact ⟨hw0, fun _ => h, fun i hi => (by rw [hr] at hi; cases hi)⟩

theorem yields_load {o : Oper} {a : Act} (hw : Region.wanted o (yielded ops a.tmps) = true) (ty : TypeId) (x : Operand) (ho : o.op = .load ty x)
    (b off : Nat) (hx : a.eval x = .pointer (some ⟨b, off, none⟩)) (cs : List Value) (d : TypeDesc) (hc : ∀ w', C w' → At w' b off cs)
    (hu : P.underlying ty = some d) (hd : (match d with | .struct _ | .array _ _ => true | _ => false) = true) (hi : (P.info? ty).map (·.size) = some cs.length) : YieldsC P ops C o (.agg cs.toArray) a :=
  .inl ⟨hw, fun w' hw' => by
    unfold execOp
    simp only [ho, hx, Instr.loadAt, Instr.sureAddr, Sem.run_bind, Sem.run_pure, Result.andThen_ok, run_loadVar_at w' b off ty cs d (hc w' hw') hu hd hi]⟩
theorem wp_store_row {o : Oper} {a : Act} {w : World} {K : Act → World → Prop} (ty : TypeId) (x y : Operand) (ho : o.op = .store ty x y)
    (b : Nat) (hx : a.eval x = .pointer (some ⟨b, 0, none⟩)) (cs : List Value) (hy : a.eval y = .agg cs.toArray) (old : Array Value) (t : TypeId) (hb : w.heap[b]? = some (.cells old t (0, 0))) (hl : old.size = cs.length)
    (h1 : ∀ u ∈ cs, u.oneCell' = true) (hi : (P.info? ty).map (·.size) = some cs.length)
    (h : ∀ w', w'.heap[b]? = some (.cells cs.toArray t (0, 0)) → Fr (fun k => k = b) w w' → w'.heap.size = w.heap.size → K (a.put o.dst undef) w') : Oper.wp P o a w K Q := by
  have hst := run_storeCells_at P b 0 t cs 0 old w hb (by omega) h1
  cases hq : P.info? ty with
  | none => simp [hq] at hi
  | some i =>
    have hs : i.size = cs.length := by simpa [hq] using hi
    have he : (old.toList.take (0 + 0) ++ cs ++ old.toList.drop (0 + 0 + cs.length)).toArray = cs.toArray := by
      rw [List.drop_of_length_le (by rw [Array.length_toList]; omega)]; simp
    rw [he] at hst
    have hr : (Instr.storeAt ty (.pointer (some ⟨b, 0, none⟩)) (.agg cs.toArray)).run P w = .ok () (w.setRow b cs.toArray) := by
      simp [Instr.storeAt, Instr.sureAddr, storeVar, sizeOf, typeInfo, hq, hs, Value.cells, Sem.run_bind, hst]
    unfold Oper.wp execOp
    simp only [ho, hx, hy, Sem.run_bind, Sem.run_pure, Result.andThen_ok, hr]
    exact h _ (setRow_heap w b old _ t _ hb) ⟨rfl, rfl, rfl, by simp, fun k _ hk => setRow_other w b k _ hk⟩ (by simp)
end

end Go.Proofs.YtkbnkdokcmpcgaaGreatDoor
namespace Go.Proofs.YtkbnkdokcmpcgaaGreatDoor
open Go.RowKit

section
variable {P : Program} {ops : Array Oper} {md : Region.Mode} {C : World → Prop}

def chain2B (md : Region.Mode) (ops : Array Oper) (n : Nat) : Bool :=
  (List.range ops.size).all fun t => decide (t ≤ n) || (List.range t).any fun j => decide (n ≤ j) && Region.waitsFor md ops t j
theorem tail_waits2 {n : Nat} {listed : Array Bool} (hs : Region.sinkB md ops n = true) (hc : chain2B md ops n = true) (hn : n < ops.size) (inv : HeadInv md ops n listed) :
    ∀ (d i : Nat), n - i = d → i < n → listed.getD i true = false → ∀ t, n ≤ t → t ∉ Region.ready md ops listed := by
  intro d
  induction d using Nat.strongRecOn with
  | _ d ih =>
    intro i hd hi hun t ht hr
    obtain ⟨_, ot, hot, hall⟩ := mem_ready.1 hr
    have htlt : t < ops.size := (Array.getElem?_eq_some_iff.1 hot).1
    by_cases htn : t = n
    · subst htn
      have h1 := List.all_eq_true.1 hs i (List.mem_range.2 hi)
      obtain ⟨j, hj, hj2⟩ := List.any_eq_true.1 h1
      simp only [Bool.and_eq_true, decide_eq_true_eq] at hj2
      obtain ⟨oj, hoj, e, he, hb, hon⟩ := Region.waitsFor_spec hj2.2
      have hjle : j ≤ t := by have := List.mem_range.1 hj; omega
      by_cases hjt : j = t
      · subst hjt
        have : oj = ot := Option.some.inj (hoj.symm.trans hot)
        subst this
        have h2 := hall e he hb
        rw [hon, getD_both hun] at h2
        cases h2
      · cases hl : listed.getD j false with
        | true =>
          have h2 := inv.closed j oj hoj hl e he hb
          rw [hon, getD_both hun] at h2
          cases h2
        | false =>
          have hjs : j < listed.size := by rw [inv.size]; omega
          exact ih (t - j) (by omega) j rfl (by omega) (getD_in hjs hl) t (Nat.le_refl _) hr
    · have h1 := List.all_eq_true.1 hc t (List.mem_range.2 htlt)
      simp only [Bool.or_eq_true, decide_eq_true_eq] at h1
      rcases h1 with h1 | h1
      · omega
      · obtain ⟨j, hj, hj2⟩ := List.any_eq_true.1 h1
        simp only [Bool.and_eq_true, decide_eq_true_eq] at hj2
        have hjt := List.mem_range.1 hj
        obtain ⟨o', ho', e, he, hb, hon⟩ := Region.waitsFor_spec hj2.2
        have : o' = ot := Option.some.inj (ho'.symm.trans hot)
        subst this
        have h2 := hall e he hb
        rw [hon, getD_both (inv.tail j hj2.1 (by omega))] at h2
        cases h2

theorem wpHead_first2 {n i : Nat} {oi : Oper} {v : Value} {L : Array Bool → Act → Prop} (hi : ops[i]? = some oi) (hsel : ∀ (j : Nat) (o : Oper) cs b, ops[j]? = some o → o.op ≠ .select cs b)
    (hs : Region.sinkB md ops n = true) (hc : chain2B md ops n = true) (hn : n < ops.size) (hin : i < n) (hdone : ∀ listed a, L listed a → ∀ j ∈ Region.ready md ops listed, n ≤ j) :
    ∀ (f : Nat) (listed : Array Bool) (a : Act), HeadInv md ops n listed →
      (∀ j oj, ops[j]? = some oj → j ≠ i → listed.getD j true = false → (∀ e ∈ oj.after, Region.binds md e = true → e.on ≠ i) → oi.apart ops oj = true) →
      i ∈ Region.ready md ops listed → YieldsIn P ops C oi v a → wpHead P md ops C n L f (listed.setIfInBounds i true) (a.put oi.dst v) → wpHead P md ops C n L (f + 1) listed a := by
  intro f
  induction f with
  | zero =>
    intro listed a inv _ hr hy H
    refine ⟨⟨i, hr⟩, fun j hj => ?_⟩
    have hjn : j < n := Nat.lt_of_not_le fun h => tail_waits2 hs hc hn inv _ i rfl hin (mem_ready.1 hr).1 j h hj
    by_cases hji : j = i
    · subst hji; exact ⟨hjn, hy.qOp hi H⟩
    · have := hdone _ _ H j (ready_mono hj hji)
      omega
  | succ f ih =>
    intro listed a inv hfree hr hy H
    have hun := (mem_ready.1 hr).1
    refine ⟨⟨i, hr⟩, fun j hj => ?_⟩
    have hjn : j < n := Nat.lt_of_not_le fun h => tail_waits2 hs hc hn inv _ i rfl hin hun j h hj
    by_cases hji : j = i
    · subst hji; exact ⟨hjn, hy.qOp hi H⟩
    · obtain ⟨hjun, oj, hoj, hall⟩ := mem_ready.1 hj
      have hnot : ∀ e ∈ oj.after, Region.binds md e = true → e.on ≠ i := by
        intro e he hb heq
        have h1 := hall e he hb
        rw [heq, getD_both hun] at h1
        cases h1
      have h2 := qOp_put hoj (hfree j oj hoj hji hjun hnot) (fun cs b => hsel i oi cs b hi) (fun cs b => hsel j oj cs b hoj) hy (H.2 j (ready_mono hj hji)).2
      refine ⟨hjn, qOp_mono (fun a' h3 => ih (listed.setIfInBounds j true) a' (inv.set hj hjn) ?_ (ready_mono hr (Ne.symm hji)) h3.1 ?_) h2⟩
      · intro k ok hk hki hku hno
        refine hfree k ok hk hki ?_ hno
        by_cases hjk : j = k
        · subst hjk; exact hjun
        · rwa [getD_set_ne true hjk] at hku
      · rw [Array.setIfInBounds_comm _ _ hji]
        exact h3.2

def oneB (md : Region.Mode) (ops : Array Oper) (n : Nat) (listed : Array Bool) : Bool :=
  decide (Region.ready md ops listed = [n]) && Region.lexFrom md ops (ops.size - (n + 1)) (n + 1) (listed.setIfInBounds n true)
def lexHead2 (md : Region.Mode) (ops : Array Oper) (n : Nat) : Nat → Nat → Array Bool → Bool
  | 0, _, listed => oneB md ops n listed
  | f + 1, k, listed => (Region.ready md ops listed).contains k && Region.free md ops listed k && lexHead2 md ops n f (k + 1) (listed.setIfInBounds k true)
def oneTailB (md : Region.Mode) (ops : Array Oper) (n : Nat) : Bool :=
  Region.noSelect ops && decide (n < ops.size) && Region.sinkB md ops n && chain2B md ops n && lexHead2 md ops n n 0 (Array.replicate ops.size false)

theorem wpHead_lex2 {n : Nat} {Lq : Act → Prop} (hsel : Region.noSelect ops = true) (hs : Region.sinkB md ops n = true) (hc : chain2B md ops n = true) (hn : n < ops.size) :
    ∀ (l : List Oper) (k : Nat) (listed : Array Bool) (a : Act), (∀ j, j < l.length → l[j]? = ops[k + j]?) → k + l.length = n → HeadInv md ops n listed →
    lexHead2 md ops n l.length k listed = true → wpQuiet P ops C Lq l a →
    wpHead P md ops C n (fun listed' a' => oneB md ops n listed' = true ∧ Lq a') l.length listed a
  | [], k, listed, a, _, hk, _, hB, h => ⟨by simpa [lexHead2] using hB, h⟩
  | o :: l, k, listed, a, hl, hk, inv, hB, h => by
    have h0 : ops[k]? = some o := by simpa using (hl 0 (by simp)).symm
    simp only [List.length_cons, lexHead2, Bool.and_eq_true] at hB
    simp only [List.length_cons] at hk
    have hkn : k < n := by omega
    have hr : k ∈ Region.ready md ops listed := by simpa using hB.1.1
    have hq : qOp P ops C k (wpQuiet P ops C Lq l) a := by unfold qOp; simp only [h0]; exact h
    obtain ⟨v, hy, hK⟩ := yieldsIn_of_qOp h0 hq
    refine wpHead_first2 h0 (Region.noSelect_spec hsel) hs hc hn hkn (fun listed' a' hL j hj => ?_) l.length listed a inv (Region.free_spec h0 hB.1.2) hr hy ?_
    · have h1 := hL.1
      simp only [oneB, Bool.and_eq_true, decide_eq_true_eq] at h1
      rw [h1.1, List.mem_singleton] at hj
      omega
    · exact wpHead_lex2 hsel hs hc hn l (k + 1) _ _ (fun j hj => by have := hl (j + 1) (by simp; omega); simpa [Nat.add_assoc, Nat.add_comm 1 j] using this) (by omega) (inv.set hr hkn) hB.2 hK

theorem wp_region_class_one {id : Nat} {Q : Exit → Act → World → Prop} {a : Act} {w : World} {l : List Oper} (n : Nat) (hm : P.follows .mixedOrders = true) (hB : oneTailB .any l.toArray n = true) (hC : C { w with drawn := w.drawn + 1 })
    {on : Oper} (hon : l[n]? = some on)
    (h : wpQuiet P l.toArray C (fun a' => Region.wanted on (yielded l.toArray a'.tmps) = true ∧ ∀ w', C w' → ∀ K' : Act → World → Prop,
      (∀ a2 w2, wpQuiet P l.toArray (fun w3 => ∃ n, w3 = w2.drewN n) (fun a3 => ∀ w3, (∃ n, w3 = w2.drewN n) → Q .normal a3 w3) (l.drop (n + 1)) a2 → K' a2 w2) → Oper.wp P on a' w' K' Q) (l.take n) a) :
    (Code.region id l.toArray true).wp P Q a w := by
  refine wp_region_any hm ?_
  simp only [oneTailB, Bool.and_eq_true, decide_eq_true_eq] at hB
  obtain ⟨⟨⟨⟨hsel, hn⟩, hs⟩, hc⟩, hlex⟩ := hB
  have htl : (l.take n).length = n := by simp at hn; simp; omega
  have inv0 : HeadInv .any l.toArray n (Array.replicate l.toArray.size false) :=
    ⟨by simp, fun j oj _ hl => (by rw [getD_replicate_false] at hl; cases hl), fun t _ ht => getD_in (by simpa using ht) (getD_replicate_false _ _)⟩
  have H := wpHead_lex2 (md := .any) hsel hs hc hn (l.take n) 0 _ a (fun j hj => by
    rw [htl] at hj
    simp [hj]) (by simpa using htl) inv0 (by rw [htl]; exact hlex) h
  have h2 := wpAny_of_wpHead (Q' := Q) (g := l.toArray.size - n) (fun listed a' w' hw' hL => by
    have h1 := hL.1
    simp only [oneB, Bool.and_eq_true, decide_eq_true_eq] at h1
    have hg : l.toArray.size - n = (l.drop (n + 1)).length + 1 := by simp at hn ⊢; omega
    rw [hg]
    refine wpAny_forced n h1.1 (by simpa using hon) hL.2.1 (fun K' hK' => hL.2.2 w' hw' K' (fun a2 w2 hq => hK' a2 w2 ?_))
    refine wpAny_rest (n + 1) (l.drop (n + 1)) hsel (fun j => by simp [List.getElem?_drop]) ?_ hq
    rw [show (l.drop (n + 1)).length = l.toArray.size - (n + 1) by simp]
    exact h1.2) _ _ _ _ hC H
  rw [htl, show n + (l.toArray.size - n) = l.toArray.size by omega] at h2
  exact h2
end

end Go.Proofs.YtkbnkdokcmpcgaaGreatDoor
namespace Go.Proofs.YtkbnkdokcmpcgaaGreatDoor
open Go.RowKit

section
variable {P : Program} {md : Region.Mode} {ops : Array Oper} {C : World → Prop} {Q : Exit → Act → World → Prop}

def wpHeadW (P : Program) (md : Region.Mode) (ops : Array Oper) (C : World → Prop) (Q : Exit → Act → World → Prop) (n : Nat) (L : Array Bool → Act → World → Prop) : Nat → Array Bool → Act → World → Prop
  | 0, listed, a, w => L listed a w
  | f + 1, listed, a, w => C w ∧ (∃ i, i ∈ Region.ready md ops listed) ∧ ∀ i ∈ Region.ready md ops listed, i < n ∧ wpOp P ops Q i (wpHeadW P md ops C Q n L f (listed.setIfInBounds i true)) a w

theorem wpAny_of_headW {n g : Nat} {L : Array Bool → Act → World → Prop} (hL : ∀ listed a w, L listed a w → wpAny P md ops Q g listed a w) :
    ∀ (f : Nat) (listed : Array Bool) (a : Act) (w : World), wpHeadW P md ops C Q n L f listed a w → wpAny P md ops Q (f + g) listed a w
  | 0, listed, a, w, h => by rw [Nat.zero_add]; exact hL _ _ _ h
  | f + 1, listed, a, w, h => by
    have e : f + 1 + g = (f + g) + 1 := by omega
    rw [e]
    refine ⟨fun h0 => ?_, fun i hi => wpOp_mono (fun a' w' h' => wpAny_of_headW hL f _ a' w' h') (h.2.2 i hi).2⟩
    obtain ⟨i, hi⟩ := h.2.1
    rw [h0] at hi
    cases hi

theorem wpHeadW_first {n i : Nat} {oi : Oper} {v : Value} {L : Array Bool → Act → World → Prop} (hi : ops[i]? = some oi) (hsel : ∀ (j : Nat) (o : Oper) cs b, ops[j]? = some o → o.op ≠ .select cs b)
    (hQ : ∀ c a w, Q (.panic c) (a.put oi.dst v) w → Q (.panic c) a w)
    (hs : Region.sinkB md ops n = true) (hc : chain2B md ops n = true) (hn : n < ops.size) (hin : i < n) (hdone : ∀ listed a w, L listed a w → C w ∧ ∀ j ∈ Region.ready md ops listed, n ≤ j) :
    ∀ (f : Nat) (listed : Array Bool) (a : Act) (w : World), HeadInv md ops n listed →
      (∀ j oj, ops[j]? = some oj → j ≠ i → listed.getD j true = false → (∀ e ∈ oj.after, Region.binds md e = true → e.on ≠ i) → oi.apart ops oj = true) →
      i ∈ Region.ready md ops listed → YieldsC P ops C oi v a → wpHeadW P md ops C Q n L f (listed.setIfInBounds i true) (a.put oi.dst v) w → wpHeadW P md ops C Q n L (f + 1) listed a w := by
  intro f
  induction f with
  | zero =>
    intro listed a w inv _ hr hy H
    have hCw := (hdone _ _ _ H).1
    refine ⟨hCw, ⟨i, hr⟩, fun j hj => ?_⟩
    have hjn : j < n := Nat.lt_of_not_le fun h => tail_waits2 hs hc hn inv _ i rfl hin (mem_ready.1 hr).1 j h hj
    by_cases hji : j = i
    · subst hji; exact ⟨hjn, hy.op hi hCw H⟩
    · have := (hdone _ _ _ H).2 j (ready_mono hj hji)
      omega
  | succ f ih =>
    intro listed a w inv hfree hr hy H
    have hun := (mem_ready.1 hr).1
    refine ⟨H.1, ⟨i, hr⟩, fun j hj => ?_⟩
    have hjn : j < n := Nat.lt_of_not_le fun h => tail_waits2 hs hc hn inv _ i rfl hin hun j h hj
    by_cases hji : j = i
    · subst hji; exact ⟨hjn, hy.op hi H.1 H⟩
    · obtain ⟨hjun, oj, hoj, hall⟩ := mem_ready.1 hj
      have hnot : ∀ e ∈ oj.after, Region.binds md e = true → e.on ≠ i := by
        intro e he hb heq
        have h1 := hall e he hb
        rw [heq, getD_both hun] at h1
        cases h1
      have h2 := wpOp_ahead hoj (hfree j oj hoj hji hjun hnot) (fun cs b => hsel i oi cs b hi) (fun cs b => hsel j oj cs b hoj) hQ hy (H.2.2 j (ready_mono hj hji)).2
      refine ⟨hjn, wpOp_mono (fun a' w' h3 => ih (listed.setIfInBounds j true) a' w' (inv.set hj hjn) ?_ (ready_mono hr (Ne.symm hji)) h3.1 ?_) h2⟩
      · intro k ok hk hki hku hno
        refine hfree k ok hk hki ?_ hno
        by_cases hjk : j = k
        · subst hjk; exact hjun
        · rwa [getD_set_ne true hjk] at hku
      · rw [Array.setIfInBounds_comm _ _ hji]
        exact h3.2

def headInvB (md : Region.Mode) (ops : Array Oper) (n : Nat) (listed : Array Bool) : Bool :=
  decide (listed.size = ops.size) && ((List.range ops.size).all fun j => !(listed.getD j false) || (match ops[j]? with | some oj => oj.after.all fun e => !(Region.binds md e) || listed.getD e.on false | none => true)) &&
    (List.range ops.size).all fun t => decide (t < n) || !(listed.getD t true)
theorem headInv_of {n : Nat} {listed : Array Bool} (h : headInvB md ops n listed = true) : HeadInv md ops n listed := by
  simp only [headInvB, Bool.and_eq_true, decide_eq_true_eq, List.all_eq_true, List.mem_range] at h
  obtain ⟨⟨h1, h2⟩, h3⟩ := h
  refine ⟨h1, fun j oj hj hl e he hb => ?_, fun t hnt ht => ?_⟩
  · have hjl : j < ops.size := (Array.getElem?_eq_some_iff.1 hj).1
    have := h2 j hjl
    rw [hl, hj] at this
    simp only [Bool.not_true, Bool.false_or] at this
    have := (Array.all_eq_true_iff_forall_mem.1 this) e he
    rw [hb] at this
    simpa using this
  · have := h3 t ht
    simp only [Bool.or_eq_true, decide_eq_true_eq, Bool.not_eq_true'] at this
    rcases this with h | h
    · omega
    · exact h

theorem wpHeadW_take {n i : Nat} {oi : Oper} {v : Value} {L : Array Bool → Act → World → Prop} {f : Nat} {listed : Array Bool} {a : Act} {w : World} (hi : ops[i]? = some oi)
    (hB : (Region.noSelect ops && Region.sinkB md ops n && chain2B md ops n && decide (n < ops.size) && decide (i < n) && headInvB md ops n listed && Region.free md ops listed i && (Region.ready md ops listed).contains i) = true)
    (hQ : ∀ c a w, Q (.panic c) (a.put oi.dst v) w → Q (.panic c) a w) (hdone : ∀ listed a w, L listed a w → C w ∧ ∀ j ∈ Region.ready md ops listed, n ≤ j) (hy : YieldsC P ops C oi v a)
    (h : wpHeadW P md ops C Q n L f (listed.setIfInBounds i true) (a.put oi.dst v) w) : wpHeadW P md ops C Q n L (f + 1) listed a w := by
  simp only [Bool.and_eq_true, decide_eq_true_eq] at hB
  obtain ⟨⟨⟨⟨⟨⟨⟨b1, b2⟩, b3⟩, b4⟩, b5⟩, b6⟩, b7⟩, b8⟩ := hB
  exact wpHeadW_first hi (Region.noSelect_spec b1) hQ b2 b3 b4 b5 hdone f listed a w (headInv_of b6) (Region.free_spec hi b7) (by simpa using b8) hy h
theorem wpHeadW_forced {n : Nat} {L : Array Bool → Act → World → Prop} {f : Nat} {listed : Array Bool} {a : Act} {w : World} (i : Nat) {o : Oper} (hw0 : C w) (hr : (decide (Region.ready md ops listed = [i]) && decide (i < n)) = true) (ho : ops[i]? = some o) (hw : Region.wanted o (yielded ops a.tmps) = true)
    (h : ∀ K' : Act → World → Prop, (∀ a w, wpHeadW P md ops C Q n L f (listed.setIfInBounds i true) a w → K' a w) → Oper.wp P o a w K' Q) : wpHeadW P md ops C Q n L (f + 1) listed a w := by
  simp only [Bool.and_eq_true, decide_eq_true_eq] at hr
  refine ⟨hw0, ⟨i, by rw [hr.1]; exact List.mem_singleton.2 rfl⟩, fun j hj => ?_⟩
  rw [hr.1] at hj
  obtain rfl := List.mem_singleton.1 hj
  refine ⟨hr.2, ?_⟩
  unfold wpOp
  simp only [ho]
  rw [if_pos hw]
  exact .inl (h _ fun _ _ h' => h')
theorem wp_region_headW {id : Nat} {a : Act} {w : World} {l : List Oper} (n : Nat) (hm : P.follows .mixedOrders = true) (hn : n ≤ l.length)
    (h : wpHeadW P .any l.toArray C Q n (fun listed a' w' => C w' ∧ (Region.seqB .any l.toArray (l.length - n) n listed = true ∧ (∀ j ∈ Region.ready .any l.toArray listed, n ≤ j)) ∧ wpList P l.toArray Q (l.drop n) a' w') n (Array.replicate l.length false) a { w with drawn := w.drawn + 1 }) :
    (Code.region id l.toArray true).wp P Q a w := by
  refine wp_region_any hm ?_
  have h2 := wpAny_of_headW (Q := Q) (g := l.length - n) (fun listed a' w' hL => by
    have h3 := wpAny_of_seq (md := .any) (Q' := Q) (l.drop n) n listed a' w' (fun j => by simp [List.getElem?_drop]) (by rw [List.length_drop]; exact hL.2.1.1) hL.2.2
    rwa [List.length_drop] at h3) _ _ _ _ h
  rw [show n + (l.length - n) = l.length by omega] at h2
  simpa using h2
theorem headW_done {l : List Oper} {n : Nat} : ∀ listed a' w', (C w' ∧ (Region.seqB .any l.toArray (l.length - n) n listed = true ∧ (∀ j ∈ Region.ready .any l.toArray listed, n ≤ j)) ∧ wpList P l.toArray Q (l.drop n) a' w') → C w' ∧ ∀ j ∈ Region.ready .any l.toArray listed, n ≤ j := fun _ _ _ h => ⟨h.1, h.2.1.2⟩
theorem headW_end {l : List Oper} {n : Nat} {listed : Array Bool} {a : Act} {w : World} (hw : C w) (hB : Region.seqB .any l.toArray (l.length - n) n listed = true) (h : wpList P l.toArray Q (l.drop n) a w) :
    wpHeadW P .any l.toArray C Q n (fun listed a' w' => C w' ∧ (Region.seqB .any l.toArray (l.length - n) n listed = true ∧ (∀ j ∈ Region.ready .any l.toArray listed, n ≤ j)) ∧ wpList P l.toArray Q (l.drop n) a' w') 0 listed a w :=
  ⟨hw, ⟨hB, seqB_ready hB⟩, h⟩
theorem wp_region_headA {id : Nat} {a : Act} {w : World} {l : List Oper} (n : Nat) (hm : P.follows .mixedOrders = true) (hn : n ≤ l.length)
    (h : wpHeadW P .any l.toArray C Q n (fun listed a' w' => C w' ∧ (∀ j ∈ Region.ready .any l.toArray listed, n ≤ j) ∧ wpAny P .any l.toArray Q (l.length - n) listed a' w') n (Array.replicate l.length false) a { w with drawn := w.drawn + 1 }) :
    (Code.region id l.toArray true).wp P Q a w := by
  refine wp_region_any hm ?_
  have h2 := wpAny_of_headW (Q := Q) (g := l.length - n) (fun listed a' w' hL => hL.2.2) _ _ _ _ h
  rw [show n + (l.length - n) = l.length by omega] at h2
  simpa using h2
theorem headA_done {l : List Oper} {n : Nat} : ∀ listed a' w', (C w' ∧ (∀ j ∈ Region.ready .any l.toArray listed, n ≤ j) ∧ wpAny P .any l.toArray Q (l.length - n) listed a' w') → C w' ∧ ∀ j ∈ Region.ready .any l.toArray listed, n ≤ j := fun _ _ _ h => ⟨h.1, h.2.1⟩
theorem headA_end {l : List Oper} {n : Nat} {listed : Array Bool} {a : Act} {w : World} (hw : C w) (hB : ((Region.ready .any l.toArray listed).all fun j => decide (n ≤ j)) = true) (h : wpAny P .any l.toArray Q (l.length - n) listed a w) :
    wpHeadW P .any l.toArray C Q n (fun listed a' w' => C w' ∧ (∀ j ∈ Region.ready .any l.toArray listed, n ≤ j) ∧ wpAny P .any l.toArray Q (l.length - n) listed a' w') 0 listed a w :=
  ⟨hw, fun j hj => by simpa using (List.all_eq_true.1 hB) j hj, h⟩
theorem wpAnyL_forced {l : List Oper} {fuel : Nat} {listed : Array Bool} {a : Act} {w : World} (i : Nat) {o : Oper} (hr : Region.ready md l.toArray listed = [i]) (ho : l[i]? = some o) (hw : Region.wanted o (yielded l.toArray a.tmps) = true)
    (h : ∀ K' : Act → World → Prop, (∀ a w, wpAny P md l.toArray Q fuel (listed.setIfInBounds i true) a w → K' a w) → Oper.wp P o a w K' Q) : wpAny P md l.toArray Q (fuel + 1) listed a w :=
  wpAny_forced i hr (by simpa using ho) hw h
theorem wpAnyL_take {l : List Oper} {i : Nat} {oi : Oper} {v : Value} {fuel : Nat} {listed : Array Bool} {a : Act} {w : World} (hi : l[i]? = some oi)
    (hB : (Region.noSelect l.toArray && Region.free md l.toArray listed i && (Region.ready md l.toArray listed).contains i) = true)
    (hQ : ∀ c a w, Q (.panic c) (a.put oi.dst v) w → Q (.panic c) a w) (hy : Yields P l.toArray oi v a)
    (h : wpAny P md l.toArray Q fuel (listed.setIfInBounds i true) (a.put oi.dst v) w) : wpAny P md l.toArray Q (fuel + 1) listed a w := by
  simp only [Bool.and_eq_true] at hB
  exact wpAny_take (by simpa using hi) hB.1.1 hB.1.2 hB.2 hQ hy h
theorem wpAnyL_list {l : List Oper} {fuel : Nat} {listed : Array Bool} {a : Act} {w : World} (n : Nat) (hf : fuel = (l.drop n).length) (hB : Region.seqB md l.toArray fuel n listed = true)
    (h : wpList P l.toArray Q (l.drop n) a w) : wpAny P md l.toArray Q fuel listed a w := wpAny_list n (by simpa using hf) hB (by simpa using h)
theorem wpHeadL_take {l : List Oper} {n i : Nat} {oi : Oper} {v : Value} {L : Array Bool → Act → World → Prop} {f : Nat} {listed : Array Bool} {a : Act} {w : World} (hi : l[i]? = some oi)
    (hB : (Region.noSelect l.toArray && Region.sinkB md l.toArray n && chain2B md l.toArray n && decide (n < l.toArray.size) && decide (i < n) && headInvB md l.toArray n listed && Region.free md l.toArray listed i && (Region.ready md l.toArray listed).contains i) = true)
    (hQ : ∀ c a w, Q (.panic c) (a.put oi.dst v) w → Q (.panic c) a w) (hdone : ∀ listed a w, L listed a w → C w ∧ ∀ j ∈ Region.ready md l.toArray listed, n ≤ j) (hy : YieldsC P l.toArray C oi v a)
    (h : wpHeadW P md l.toArray C Q n L f (listed.setIfInBounds i true) (a.put oi.dst v) w) : wpHeadW P md l.toArray C Q n L (f + 1) listed a w :=
  wpHeadW_take (by simpa using hi) hB hQ hdone hy h
theorem wpHeadL_forced {l : List Oper} {n : Nat} {L : Array Bool → Act → World → Prop} {f : Nat} {listed : Array Bool} {a : Act} {w : World} (i : Nat) {o : Oper} (hw0 : C w) (hr : (decide (Region.ready md l.toArray listed = [i]) && decide (i < n)) = true) (ho : l[i]? = some o) (hw : Region.wanted o (yielded l.toArray a.tmps) = true)
    (h : ∀ K' : Act → World → Prop, (∀ a w, wpHeadW P md l.toArray C Q n L f (listed.setIfInBounds i true) a w → K' a w) → Oper.wp P o a w K' Q) : wpHeadW P md l.toArray C Q n L (f + 1) listed a w :=
  wpHeadW_forced i hw0 hr (by simpa using ho) hw h
end

end Go.Proofs.YtkbnkdokcmpcgaaGreatDoor
