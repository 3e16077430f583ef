/- Walk: banyanlaw10's UberBack. Ahead of it: a region that draws its order (an operation that yields one value in every world of a class, and leaves it, may come first). -/
import Derived.Test.YtdmgmpagnmmehaaDoorUberA
namespace Go.Proofs.YtdmgmpagnmmehaaDoor
open Go.RowKit

section
variable {P : Program} {md : Region.Mode} {ops : Array Oper} {C : World → Prop} {Q : Exit → Act → World → Prop}

/-- wpAny, with every world on the way in the class. -/
def wpAnyC (P : Program) (md : Region.Mode) (ops : Array Oper) (C : World → Prop) (Q : Exit → Act → World → Prop) : Nat → Array Bool → Act → World → Prop
  | 0, listed, a, w => C w ∧ Region.ready md ops listed = [] ∧ Q .normal a w
  | f + 1, listed, a, w => C w ∧ (Region.ready md ops listed = [] → Q .normal a w) ∧ ∀ i ∈ Region.ready md ops listed, wpOp P ops Q i (wpAnyC P md ops C Q f (listed.setIfInBounds i true)) a w

theorem wpAnyC.here {f : Nat} {listed : Array Bool} {a : Act} {w : World} (h : wpAnyC P md ops C Q f listed a w) : C w := by
  cases f <;> exact h.1
theorem wpAny_of_C : ∀ {f : Nat} {listed : Array Bool} {a : Act} {w : World}, wpAnyC P md ops C Q f listed a w → wpAny P md ops Q f listed a w
  | 0, _, _, _, h => h.2
  | _ + 1, _, _, _, h => ⟨h.2.1, fun i hi => wpOp_mono (fun _ _ h' => wpAny_of_C h') (h.2.2 i hi)⟩

/-- Yields the value in every world of the class, and leaves the world. -/
def YieldsC (P : Program) (ops : Array Oper) (C : World → Prop) (o : Oper) (v : Value) (a : Act) : Prop :=
  (Region.wanted o (yielded ops a.tmps) = true ∧ ∀ w, C w → (execOp a.eval o).run P w = .ok (.value v) w) ∨ (Region.wanted o (yielded ops a.tmps) = false ∧ v = undef)

theorem YieldsC.op {i : Nat} {o : Oper} {v : Value} {a : Act} (hi : ops[i]? = some o) (hy : YieldsC P ops C o v a) {K : Act → World → Prop} {w : World} (hw : C w) (h : K (a.put o.dst v) w) : wpOp P ops Q i K a w := by
  unfold wpOp
  simp only [hi]
  rcases hy with ⟨h1, h2⟩ | ⟨h1, rfl⟩
  · rw [if_pos h1]
    refine .inl ?_
    unfold Oper.wp
    rw [h2 w hw]
    exact h
  · rw [if_neg (by rw [h1]; decide)]
    exact h
theorem YieldsC.same {o : Oper} {v : Value} {a a' : Act} (hy : YieldsC P ops C o v a) (he : execOp a'.eval o = execOp a.eval o) (hw : Region.wanted o (yielded ops a'.tmps) = Region.wanted o (yielded ops a.tmps)) : YieldsC P ops C o v a' := by
  unfold YieldsC
  rw [he, hw]
  exact hy

/-- What an operation does behind the taken one, it does ahead of it. -/
theorem wpOp_ahead {j : Nat} {oi oj : Oper} {v : Value} (hj : ops[j]? = some oj) (hap : oi.apart ops oj = true) (hsi : ∀ cs b, oi.op ≠ .select cs b) (hsj : ∀ cs b, oj.op ≠ .select cs b)
    (hQ : ∀ c a w, Q (.panic c) (a.put oi.dst v) w → Q (.panic c) a w) {K : Act → World → Prop} {a : Act} {w : World} (hy : YieldsC P ops C oi v a) (h : wpOp P ops Q j K (a.put oi.dst v) w) :
    wpOp P ops Q j (fun a' w' => YieldsC P ops C oi v a' ∧ K (a'.put oi.dst v) w') a w := by
  obtain ⟨h1, h2, h3⟩ := Oper.apart_spec hap
  have stays : ∀ (b : Act), YieldsC P ops C oi v b → ∀ u, YieldsC P ops C oi v (b.put oj.dst u) := fun b hb u => hb.same (execOp_put oi hsi b oj.dst u h3) (wanted_put oi b oj.dst u h3)
  have both : ∀ (b : Act), YieldsC P ops C oi v b → ∀ (u : Value) (w' : World), K ((b.put oi.dst v).put oj.dst u) w' → YieldsC P ops C oi v (b.put oj.dst u) ∧ K ((b.put oj.dst u).put oi.dst v) w' :=
    fun b hb u w' hk => ⟨stays b hb u, by rw [← Act.put_comm b v u h2]; exact hk⟩
  unfold wpOp at h ⊢
  simp only [hj] at h ⊢
  rw [wanted_put oj a oi.dst v h1] at h
  by_cases hw : Region.wanted oj (yielded ops a.tmps) = true
  · rw [if_pos hw] at h ⊢
    rcases h with h | ⟨ha, hl⟩
    · refine .inl ?_
      unfold Oper.wp at h ⊢
      rw [execOp_put oj hsj a oi.dst v h1] at h
      cases hr : (execOp a.eval oj).run P w with
      | ok n w' =>
        rw [hr] at h
        cases n with
        | value u => exact both a hy u w' h
        | skip => exact both a hy undef w' h
        | defer d =>
          refine both { a with defers := d :: a.defers } (hy.same rfl rfl) undef w' ?_
          rw [← Act.put_defers]
          exact h
        | enter f args =>
          refine Calls.mono h fun e w'' he => ?_
          cases e with
          | returned u => exact both a hy u w'' he
          | panicked c => exact hQ _ _ _ he
          | outgrown => exact he
        | row row args => exact Rows.mono h fun u w'' he => both a hy u w'' he
        | _ => exact h
      | halt x w' =>
        rw [hr] at h
        cases x with
        | panic u => exact hQ _ _ _ h
        | _ => exact h
    · exact .inr ⟨by unfold Oper.asks at ha ⊢; rw [execOp_put oj hsj a oi.dst v h1] at ha; exact ha, hl⟩
  · rw [if_neg hw] at h ⊢
    exact both a hy undef w h

theorem wpAnyC_first {i : Nat} {oi : Oper} {v : Value} (hi : ops[i]? = some oi) (hsel : ∀ (j : Nat) (o : Oper) cs b, ops[j]? = some o → o.op ≠ .select cs b)
    (hQ : ∀ c a w, Q (.panic c) (a.put oi.dst v) w → Q (.panic c) a w) :
    ∀ (f : Nat) (listed : Array Bool) (a : Act) (w : World),
      (∀ j oj, ops[j]? = some oj → j ≠ i → listed.getD j true = false → (∀ e ∈ oj.after, Region.binds md e = true → e.on ≠ i) → oi.apart ops oj = true) →
      i ∈ Region.ready md ops listed → YieldsC P ops C oi v a → wpAnyC P md ops C Q f (listed.setIfInBounds i true) (a.put oi.dst v) w → wpAnyC P md ops C Q (f + 1) listed a w
  | 0, listed, a, w, _, hr, hy, H => by
    refine ⟨H.1, fun h => (by rw [h] at hr; cases hr), fun j hj => ?_⟩
    by_cases hji : j = i
    · subst hji; exact hy.op hi H.1 H
    · have := ready_mono hj hji
      rw [H.2.1] at this
      cases this
  | f + 1, listed, a, w, hfree, hr, hy, H => by
    refine ⟨H.1, fun h => (by rw [h] at hr; cases hr), fun j hj => ?_⟩
    by_cases hji : j = i
    · subst hji; exact hy.op hi H.1 H
    · obtain ⟨hjun, oj, hoj, hall⟩ := mem_ready.1 hj
      have hun := (mem_ready.1 hr).1
      have hnot : ∀ e ∈ oj.after, Region.binds md e = true → e.on ≠ i := by
        intro e he hb heq
        have h1 := hall e he hb
        rw [heq] at h1
        rcases Nat.lt_or_ge i listed.size with h' | h'
        · simp [h'] at hun h1; rw [hun] at h1; cases h1
        · simp [Array.getElem?_eq_none h'] at h1
      have h2 := wpOp_ahead hoj (hfree j oj hoj hji hjun hnot) (fun cs b => hsel i oi cs b hi) (fun cs b => hsel j oj cs b hoj) hQ hy (H.2.2 j (ready_mono hj hji))
      refine wpOp_mono (fun a' w' h3 => wpAnyC_first hi hsel hQ f (listed.setIfInBounds j true) a' w' ?_ (ready_mono hr (Ne.symm hji)) h3.1 ?_) h2
      · intro k ok hk hki hku hno
        refine hfree k ok hk hki ?_ hno
        by_cases hjk : j = k
        · subst hjk; exact hjun
        · rwa [getD_set_ne true hjk] at hku
      · rw [Array.setIfInBounds_comm _ _ hji]
        exact h3.2

theorem wpAnyC_take {i : Nat} {oi : Oper} {v : Value} {f : Nat} {listed : Array Bool} {a : Act} {w : World} (hi : ops[i]? = some oi)
    (hs : Region.noSelect ops = true) (hf : Region.free md ops listed i = true) (hr : (Region.ready md ops listed).contains i = true)
    (hQ : ∀ c a w, Q (.panic c) (a.put oi.dst v) w → Q (.panic c) a w) (hy : YieldsC P ops C oi v a)
    (h : wpAnyC P md ops C Q f (listed.setIfInBounds i true) (a.put oi.dst v) w) : wpAnyC P md ops C Q (f + 1) listed a w :=
  wpAnyC_first hi (Region.noSelect_spec hs) hQ f listed a w (Region.free_spec hi hf) (by simpa using hr) hy h

/-- The one that is ready comes next. -/
theorem wpAnyC_forced {f : Nat} {listed : Array Bool} {a : Act} {w : World} (i : Nat) {o : Oper} (hw0 : C w) (hr : Region.ready md ops listed = [i]) (ho : ops[i]? = some o) (hw : Region.wanted o (yielded ops a.tmps) = true)
    (h : ∀ K' : Act → World → Prop, (∀ a w, wpAnyC P md ops C Q f (listed.setIfInBounds i true) a w → K' a w) → Oper.wp P o a w K' Q) : wpAnyC P md ops C Q (f + 1) listed a w := by
  refine ⟨hw0, fun h0 => (by rw [hr] at h0; cases h0), fun j hj => ?_⟩
  rw [hr] at hj
  obtain rfl := List.mem_singleton.1 hj
  unfold wpOp
  simp only [ho]
  rw [if_pos hw]
  exact .inl (h _ fun _ _ h' => h')
theorem wpAnyC_done {f : Nat} {listed : Array Bool} {a : Act} {w : World} (hr : Region.ready md ops listed = []) (hw0 : C w) (h : Q .normal a w) : wpAnyC P md ops C Q f listed a w := by
  cases f with
  | zero => exact ⟨hw0, hr, h⟩
  | succ f => exact ⟨hw0, fun _ => h, fun i hi => (by rw [hr] at hi; cases hi)⟩

/-- A struct or an array, read at an address that lies alike in every world of the class. -/
theorem yields_load {o : Oper} {a : Act} (hw : Region.wanted o (yielded ops a.tmps) = true) (ty : TypeId) (x : Operand) (ho : o.op = .load ty x)
    (b off : Nat) (hx : a.eval x = .pointer (some ⟨b, off, none⟩)) (cs : List Value) (d : TypeDesc) (hc : ∀ w', C w' → At w' b off cs)
    (hu : P.underlying ty = some d) (hd : (match d with | .struct _ | .array _ _ => true | _ => false) = true) (hi : (P.info? ty).map (·.size) = some cs.length) : YieldsC P ops C o (.agg cs.toArray) a :=
  .inl ⟨hw, fun w' hw' => by
    unfold execOp
    simp only [ho, hx, Instr.loadAt, Instr.sureAddr, Sem.run_bind, Sem.run_pure, Result.andThen_ok, run_loadVar_at w' b off ty cs d (hc w' hw') hu hd hi]⟩
/-- A struct or an array, stored over a row, at a forced step. -/
theorem wp_store_row {o : Oper} {a : Act} {w : World} {K : Act → World → Prop} (ty : TypeId) (x y : Operand) (ho : o.op = .store ty x y)
    (b : Nat) (hx : a.eval x = .pointer (some ⟨b, 0, none⟩)) (cs : List Value) (hy : a.eval y = .agg cs.toArray) (old : Array Value) (t : TypeId) (hb : w.heap[b]? = some (.cells old t (0, 0))) (hl : old.size = cs.length)
    (h1 : ∀ u ∈ cs, u.oneCell' = true) (hi : (P.info? ty).map (·.size) = some cs.length)
    (h : ∀ w', w'.heap[b]? = some (.cells cs.toArray t (0, 0)) → Fr (fun k => k = b) w w' → w'.heap.size = w.heap.size → K (a.put o.dst undef) w') : Oper.wp P o a w K Q := by
  have hst := run_storeCells_at P b 0 t cs 0 old w hb (by omega) h1
  cases hq : P.info? ty with
  | none => simp [hq] at hi
  | some i =>
    have hs : i.size = cs.length := by simpa [hq] using hi
    have he : (old.toList.take (0 + 0) ++ cs ++ old.toList.drop (0 + 0 + cs.length)).toArray = cs.toArray := by
      rw [List.drop_of_length_le (by rw [Array.length_toList]; omega)]; simp
    rw [he] at hst
    have hr : (Instr.storeAt ty (.pointer (some ⟨b, 0, none⟩)) (.agg cs.toArray)).run P w = .ok () (w.setRow b cs.toArray) := by
      simp [Instr.storeAt, Instr.sureAddr, storeVar, sizeOf, typeInfo, hq, hs, Value.cells, Sem.run_bind, hst]
    unfold Oper.wp execOp
    simp only [ho, hx, hy, Sem.run_bind, Sem.run_pure, Result.andThen_ok, hr]
    exact h _ (setRow_heap w b old _ t _ hb) ⟨rfl, rfl, rfl, by simp, fun k _ hk => setRow_other w b k _ hk⟩ (by simp)
end

theorem qeql_ub {ops : Array Oper} {C : World → Prop} {Q : Act → Prop} {rest : List Oper} {o : Oper} {a : Act} (hw : Region.wanted o (yielded ops a.tmps) = true) (x y : Operand) (yt : TypeId) (ho : o.op = .binOp .eql 49 x y yt)
    {u v : Ub} (hx : a.eval x = .agg u.arr) (hy : a.eval y = .agg v.arr) (h1 : u.Wf) (h2 : v.Wf) (h : wpQuiet Tryd.prog ops C Q rest (a.put o.dst (.bool (decide (u = v))))) : wpQuiet Tryd.prog ops C Q (o :: rest) a :=
  BigFrame.wpQuiet_want hw fun K hK => ⟨.bool (decide (u = v)), fun w _ => by
    unfold Oper.quietAt execOp
    simp only [ho, hx, hy, Sem.run_bind, run_eqGuard_agg w _ _ _ _ _ _ guard_ub, Result.andThen_ok, run_eql_struct, run_equalIn_ub u v h1 h2 w]
    exact ⟨rfl, rfl⟩, hK _ h⟩
theorem gneq_ub {ops : Array Oper} {rest : List Oper} {o : Oper} {a : Act} {w : World} {Q : Exit → Act → World → Prop} (hw : Region.wanted o (yielded ops a.tmps) = true) (x y : Operand) (yt : TypeId) (ho : o.op = .binOp .neq 49 x y yt)
    {u v : Ub} (hx : a.eval x = .agg u.arr) (hy : a.eval y = .agg v.arr) (h1 : u.Wf) (h2 : v.Wf)
    (hK : wpList Tryd.prog ops Q rest (a.put o.dst (.bool (!decide (u = v)))) w) : wpList Tryd.prog ops Q (o :: rest) a w := by
  refine BigFrame.wpList_want hw fun K hKK => ?_
  unfold Oper.wp execOp
  simp only [ho, hx, hy, Sem.run_bind, run_eqGuard_agg w _ _ _ _ _ _ guard_ub, Result.andThen_ok, run_neq_struct, run_equalIn_ub u v h1 h2 w]
  exact hKK _ _ hK
theorem gload_ub {ops : Array Oper} {rest : List Oper} {o : Oper} {a : Act} {w : World} {Q : Exit → Act → World → Prop} (hw : Region.wanted o (yielded ops a.tmps) = true) (x : Operand) (ho : o.op = .load 49 x)
    {b off : Nat} (hx : a.eval x = .pointer (some ⟨b, off, none⟩)) {u : Ub} (hc : At w b off u.cells) (hl : u.Wf)
    (hK : wpList Tryd.prog ops Q rest (a.put o.dst (.agg u.arr)) w) : wpList Tryd.prog ops Q (o :: rest) a w :=
  gload_at hw _ x ho b off hx u.cells _ hc Tryd.underlying49 rfl (by rw [info_ub, hl.len]) hK

theorem gneq_same {ops : Array Oper} {rest : List Oper} {o : Oper} {a : Act} {w : World} {Q : Exit → Act → World → Prop} (hw : Region.wanted o (yielded ops a.tmps) = true) (x y : Operand) (yt : TypeId) (ho : o.op = .binOp .neq 49 x y yt)
    {u : Ub} (hx : a.eval x = .agg u.arr) (hy : a.eval y = .agg u.arr) (h1 : u.Wf) (hK : wpList Tryd.prog ops Q rest (a.put o.dst (.bool false)) w) : wpList Tryd.prog ops Q (o :: rest) a w :=
  gneq_ub hw x y yt ho hx hy h1 h1 (by rw [decide_eq_true rfl]; exact hK)
theorem qeql_same {ops : Array Oper} {C : World → Prop} {Q : Act → Prop} {rest : List Oper} {o : Oper} {a : Act} (hw : Region.wanted o (yielded ops a.tmps) = true) (x y : Operand) (yt : TypeId) (ho : o.op = .binOp .eql 49 x y yt)
    {u : Ub} (hx : a.eval x = .agg u.arr) (hy : a.eval y = .agg u.arr) (h1 : u.Wf) (h : wpQuiet Tryd.prog ops C Q rest (a.put o.dst (.bool true))) : wpQuiet Tryd.prog ops C Q (o :: rest) a :=
  qeql_ub hw x y yt ho hx hy h1 h1 (by rw [decide_eq_true rfl]; exact h)
theorem ubGet' (vk v : Value) (n m : Nat) (key xs : List UInt8) (w : World) (hk : Sl w 1 vk n (key.map Bv)) (hr : n ≤ 140737488351232) (h : Sl w 1 v m (xs.map Bv)) :
    Calls Tryd.prog 23 #[vk, v] w fun e w' => e = .returned (.tuple #[.agg (getU key xs).arr, .int .i64 (errU key xs)]) ∧ Below w.heap.size w w' := by
  have e1 : key.length = n := by simpa using hk.1
  have e2 : xs.length = m := by simpa using h.1
  subst e1 e2
  exact ubGet_any vk v key xs w hk hr h

theorem zero32 : (#[Value.int .u8 0, Value.int .u8 0, Value.int .u8 0, Value.int .u8 0, Value.int .u8 0, Value.int .u8 0, Value.int .u8 0, Value.int .u8 0, Value.int .u8 0, Value.int .u8 0, Value.int .u8 0, Value.int .u8 0, Value.int .u8 0, Value.int .u8 0, Value.int .u8 0, Value.int .u8 0, Value.int .u8 0, Value.int .u8 0, Value.int .u8 0, Value.int .u8 0, Value.int .u8 0, Value.int .u8 0, Value.int .u8 0, Value.int .u8 0, Value.int .u8 0, Value.int .u8 0, Value.int .u8 0, Value.int .u8 0, Value.int .u8 0, Value.int .u8 0, Value.int .u8 0, Value.int .u8 0] : Array Value) = ((List.replicate 32 (0 : UInt8)).map Bv).toArray := rfl
/-- What comes in. -/
def turnedCells (vk : Value) (u : Ub) (at' t : Nat) : List Value := vk :: (u.cells ++ [.int .u16 (at' : Int), .int .u8 (t : Int)])
theorem turned_u {w : World} {b : Nat} {vk : Value} {u : Ub} {i t : Nat} (h : At w b 0 (turnedCells vk u i t)) : At w b 1 u.cells := by
  have : At w b 0 ([vk] ++ u.cells ++ [.int .u16 (i : Int), .int .u8 (t : Int)]) := by simpa [turnedCells] using h
  exact this.part
theorem turned_end {w : World} {b : Nat} {vk : Value} {u : Ub} {i t : Nat} (hu : u.Wf) (h : At w b 0 (turnedCells vk u i t)) :
    w.cell? ⟨b, 0, none⟩ = some vk ∧ w.cell? ⟨b, 37, none⟩ = some (.int .u16 (i : Int)) ∧ w.cell? ⟨b, 38, none⟩ = some (.int .u8 (t : Int)) := by
  have hl := hu.len
  refine ⟨by simpa using h 0 vk rfl, ?_, ?_⟩
  · have := h 37 (.int .u16 (i : Int)) (by unfold turnedCells; rw [List.getElem?_cons_succ, List.getElem?_append_right (by omega), hl]; rfl)
    simpa using this
  · have := h 38 (.int .u8 (t : Int)) (by unfold turnedCells; rw [List.getElem?_cons_succ, List.getElem?_append_right (by omega), hl]; rfl)
    simpa using this
theorem Sl_set {w w' : World} {g c n k : Nat} {xs : List UInt8} {y : UInt8} (h : Sl w 1 (.slice (some ⟨g, 0, none⟩) n c) n (xs.map Bv)) (hk : k < n) (hs : w'.cell? ⟨g, k, none⟩ = some (Bv y)) (ho : ∀ j, j ≠ k → w'.cell? ⟨g, j, none⟩ = w.cell? ⟨g, j, none⟩) :
    Sl w' 1 (.slice (some ⟨g, 0, none⟩) n c) n ((xs.set k y).map Bv) := by
  obtain ⟨hl, a, cap, e, h2, h3, h4⟩ := h
  simp only [Value.slice.injEq, true_and] at e
  obtain ⟨rfl, rfl⟩ := e
  have hl' : xs.length = n := by simpa using hl
  refine ⟨by simp; omega, some ⟨g, 0, none⟩, c, rfl, h2, fun h => (by cases h), fun i u hu => ⟨g, 0, rfl, ?_⟩⟩
  rw [Nat.zero_add]
  rw [List.getElem?_map, List.getElem?_set] at hu
  by_cases hik : k = i
  · subst hik
    rw [if_pos rfl, if_pos (by omega)] at hu
    rw [hs, ← hu]; rfl
  · rw [if_neg hik] at hu
    rw [ho i (Ne.symm hik)]
    obtain ⟨b', o', e', hc⟩ := h4 i u (by rw [List.getElem?_map]; exact hu)
    simp only [Option.some.injEq, Addr.mk.injEq, and_true] at e'
    obtain ⟨rfl, rfl⟩ := e'
    rwa [Nat.zero_add] at hc

set_option maxRecDepth 100000 in
set_option maxHeartbeats 8000000 in
theorem uberBack_any (vk : Value) (u : Ub) (i t : Nat) (key : List UInt8) (w : World) (hk : Sl w 1 vk key.length (key.map Bv)) (hkr : key.length ≤ 140737488351232) (hu : u.Wf) (hi : i < 65536) (ht : t < 256) :
    Calls Tryd.prog 6 #[.agg (turnedCells vk u i t).toArray] w fun e w' => e = .returned (.bool true) ∧ Below w.heap.size w w' := by
  obtain ⟨ka, kc, rfl, -⟩ := hk.len
  obtain ⟨arr, harr⟩ : ∃ arr, arr = (turnedCells (.slice ka key.length kc) u i t).toArray := ⟨_, rfl⟩
  have hb0 : Below w.heap.size w (w.alloc (.cells arr 55)) := (Below.refl _ w).alloc (Nat.le_refl _) _
  have hg0 := heap_alloc_new w (.cells arr 55)
  have HB := Lib.hid hb0
  have HG := Lib.hid hg0
  have HArr := Lib.hid harr
  have HU := Lib.hid hu
  have HI := Lib.hid hi
  have HTt := Lib.hid ht
  have HKR := Lib.hid hkr
  have HK := Lib.hid (fun (w' : World) (hh : Below w.heap.size w w') => (hk.below hh : Sl w' 1 (.slice ka key.length kc) key.length (key.map Bv)))
  rw [← harr]
  clear hb0 hg0 harr hu hk
  obtain ⟨n, hn⟩ : ∃ n, n = key.length := ⟨_, rfl⟩
  rw [← hn] at HK HArr HKR hkr
  have HN := Lib.hid hn
  clear hn
  go_enter Tryd.func6, Tryd.ntmps6
  go_wp2_with fail
  refine (alive10 _).mono ?_
  rintro e w1 ⟨rfl, hb1⟩
  have hg1 := (hb1.block w.heap.size (lt_of_block HG.out)).trans HG.out
  rw [HArr.out] at hg1
  have HA1 := Lib.hid (show At w1 w.heap.size 0 (turnedCells (.slice ka n kc) u i t) from At.of_row hg1)
  have HB1 := Lib.hid (HB.out.trans (hb1.mono HB.out.size))
  have HL1 := Lib.hid (lt_of_block hg1)
  clear hb1 hg1
  go_wp2_with fail
  -- the draw
  have hCu : ∀ w', (∃ x : Wd w1.heap.size w1, w' = x.to) → At w' w.heap.size 1 u.cells := by rintro _ ⟨x, rfl⟩; exact x.at (turned_u HA1.out)
  have hCe : ∀ w', (∃ x : Wd w1.heap.size w1, w' = x.to) → w'.cell? ⟨w.heap.size, 0, none⟩ = some (.slice ka n kc) ∧ w'.cell? ⟨w.heap.size, 37, none⟩ = some (.int .u16 (i : Int)) ∧ w'.cell? ⟨w.heap.size, 38, none⟩ = some (.int .u8 (t : Int)) := by
    rintro _ ⟨x, rfl⟩
    have h := turned_end HU.out HA1.out
    exact ⟨x.cell' h.1, x.cell' h.2.1, x.cell' h.2.2⟩
  refine wp_region_any (by kernel_rfl) ?_
  refine wpAny_of_C (C := fun w' => ∃ x : Wd w1.heap.size w1, w' = x.to) ?_
  refine wpAnyC_take (i := 0) (v := .pointer (some ⟨w.heap.size, 0, none⟩)) rfl (by kernel_rfl) (by kernel_rfl) (by kernel_rfl) (fun _ _ _ h => h) (.inl ⟨by rfl, fun w' _ => by go_simp⟩) ?_
  refine wpAnyC_take (i := 1) (v := .slice ka n kc) rfl (by kernel_rfl) (by kernel_rfl) (by kernel_rfl) (fun _ _ _ h => h) (.inl ⟨by rfl, fun w' hw => by have h := (hCe w' hw).1; go_simp⟩) ?_
  refine wpAnyC_take (i := 2) (v := .pointer (some ⟨w.heap.size, 1, none⟩)) rfl (by kernel_rfl) (by kernel_rfl) (by kernel_rfl) (fun _ _ _ h => h) (.inl ⟨by rfl, fun w' _ => by go_simp⟩) ?_
  refine wpAnyC_take (i := 3) (v := .agg u.cells.toArray) rfl (by kernel_rfl) (by kernel_rfl) (by kernel_rfl) (fun _ _ _ h => h) (yields_load rfl 49 (.tmp 19) rfl w.heap.size 1 rfl u.cells _ hCu Tryd.underlying49 rfl (by rw [info_ub, HU.out.len])) ?_
  refine wpAnyC_take (i := 4) (v := .pointer (some ⟨w.heap.size, 37, none⟩)) rfl (by kernel_rfl) (by kernel_rfl) (by kernel_rfl) (fun _ _ _ h => h) (.inl ⟨by rfl, fun w' _ => by go_simp⟩) ?_
  refine wpAnyC_take (i := 5) (v := .int .u16 (i : Int)) rfl (by kernel_rfl) (by kernel_rfl) (by kernel_rfl) (fun _ _ _ h => h) (.inl ⟨by rfl, fun w' hw => by have h := (hCe w' hw).2.1; go_simp⟩) ?_
  refine wpAnyC_take (i := 6) (v := .pointer (some ⟨w.heap.size, 38, none⟩)) rfl (by kernel_rfl) (by kernel_rfl) (by kernel_rfl) (fun _ _ _ h => h) (.inl ⟨by rfl, fun w' _ => by go_simp⟩) ?_
  refine wpAnyC_take (i := 7) (v := .int .u8 (t : Int)) rfl (by kernel_rfl) (by kernel_rfl) (by kernel_rfl) (fun _ _ _ h => h) (.inl ⟨by rfl, fun w' hw => by have h := (hCe w' hw).2.2; go_simp⟩) ?_
  clear hCu hCe
  have hbd : Below w1.heap.size w1 { w1 with drawn := w1.drawn + 1 } := (Below.refl _ w1).drew
  obtain ⟨wd, hwd⟩ : ∃ wd, wd = { w1 with drawn := w1.drawn + 1 } := ⟨_, rfl⟩
  rw [← hwd] at hbd ⊢
  clear hwd
  refine wpAnyC_forced 8 ⟨⟨wd, hbd⟩, rfl⟩ (by kernel_rfl) rfl rfl (fun K hK => ?_)
  unfold Oper.wp execOp
  go_simp
  refine hK _ _ ?_
  clear hK K
  rw [← zero36]
  obtain ⟨w2, hw2⟩ : ∃ w2, w2 = wd.alloc (.cells Ub.zero.arr 49) := ⟨_, rfl⟩
  have hz2 : w2.heap[wd.heap.size]? = some (.cells Ub.zero.arr 49 (0, 0)) := by rw [hw2]; exact heap_alloc_new _ _
  have hb2 : Below w1.heap.size w1 w2 := by rw [hw2]; exact hbd.alloc hbd.size _
  rw [← hw2]
  clear hw2
  refine wpAnyC_take (i := 9) (v := .slice ka n kc) rfl (by kernel_rfl) (by kernel_rfl) (by kernel_rfl) (fun _ _ _ h => h) (.inl ⟨by rfl, fun w' _ => by go_simp⟩) ?_
  refine wpAnyC_forced 10 ⟨⟨w2, hb2⟩, rfl⟩ (by kernel_rfl) rfl rfl (fun K hK => ?_)
  refine wp_store_row 49 (.tmp 4) (.tmp 20) rfl wd.heap.size rfl u.cells rfl Ub.zero.arr _ hz2 (by rw [HU.out.len]; exact Ub.zero_wf.asize) (by have := u.one; rwa [Ub.arr_toList] at this) (by rw [info_ub, HU.out.len]) ?_
  intro w3 hg3 hf3 hs3
  refine hK _ _ ?_
  clear hK K
  have hsd := hbd.size
  have hb3 : Below w1.heap.size w1 w3 := hb2.trans (hf3.below hb2.size (fun k hk => by omega))
  refine wpAnyC_take (i := 11) (v := .int .u16 (i : Int)) rfl (by kernel_rfl) (by kernel_rfl) (by kernel_rfl) (fun _ _ _ h => h) (.inl ⟨by rfl, fun w' _ => by go_simp⟩) ?_
  refine wpAnyC_take (i := 12) (v := .int .u8 (t : Int)) rfl (by kernel_rfl) (by kernel_rfl) (by kernel_rfl) (fun _ _ _ h => h) (.inl ⟨by rfl, fun w' _ => by go_simp⟩) ?_
  refine wpAnyC_done (by kernel_rfl) ⟨⟨w3, hb3⟩, rfl⟩ ?_
  simp only [Act.put, List.setIfInBounds_toArray]
  obtain ⟨bu, hbu⟩ : ∃ bu, bu = wd.heap.size := ⟨_, rfl⟩
  rw [← hbu] at hg3 ⊢
  have HZ3 := Lib.hid (show w3.heap[bu]? = some (.cells u.arr 49 (0, 0)) from hg3)
  have HA3 := Lib.hid (show At w3 bu 0 u.cells from At.of_row hg3)
  have HB3 := Lib.hid (HB1.out.trans (hb3.mono HB1.out.size))
  clear hz2 hb2 hg3 hf3 hs3 hsd hb3 hbd hbu
  have hn47 := HKR.out
  rcases ubE_or u with hc | hc
  case inr =>
    have HBad := Lib.hid (fun vk w' => ubPut_bad vk u w' HU.out hc)
    clear hc
    go_wp2_with (refine load_ub rfl (.tmp 4) rfl rfl HA3.out HU.out ?_)
    refine (HBad.out _ _).mono ?_
    rintro e w4 ⟨rfl, hb4⟩
    have HB4 := Lib.hid (HB3.out.trans (hb4.mono HB3.out.size))
    clear hb4
    by_cases h200 : 200 < n
    · have m1 : (200 : Int) < (n : Int) := by omega
      clear h200
      go_wp2
      go_ret
      exact ⟨rfl, HB4.out⟩
    · have m1 : ¬ (200 : Int) < (n : Int) := by omega
      clear h200
      go_wp2
      go_ret
      exact ⟨rfl, HB4.out⟩
  case inl =>
    have HPut := Lib.hid (fun (w' : World) (h : Sl w' 1 (.slice ka n kc) n (key.map Bv)) => ubPut_ok' (.slice ka n kc) key n HN.out u w' h HKR.out HU.out hc)
    have HE0 := Lib.hid (errU_put key HU.out hc)
    have HG0 := Lib.hid (getU_put key HU.out hc)
    clear hc
    go_wp2_with (refine load_ub rfl (.tmp 4) rfl rfl HA3.out HU.out ?_)
    refine (HPut.out _ (HK.out _ HB3.out)).mono ?_
    rintro e w4 ⟨a4, c4, rfl, hs4, hb4⟩
    have HB4 := Lib.hid (HB3.out.trans (hb4.mono HB3.out.size))
    have HZ4 := Lib.hid ((hb4.block bu (lt_of_block HZ3.out)).trans HZ3.out)
    have HS4 := Lib.hid hs4
    clear hb4 hs4
    by_cases h200 : 200 < n
    · have m1 : (200 : Int) < (n : Int) := by omega
      clear h200
      go_wp2
      go_ret
      exact ⟨rfl, HB4.out⟩
    · have m1 : ¬ (200 : Int) < (n : Int) := by omega
      clear h200
      go_wp2_with fail
      have hget := ubGet' (.slice ka n kc) (.slice a4 512 c4) n 512 key (ubS key u) w4 (HK.out _ HB4.out) HKR.out HS4.out
      rw [HE0.out, HG0.out] at hget
      have HGet := Lib.hid hget
      clear hget
      refine HGet.out.mono ?_
      rintro e w5 ⟨rfl, hb5⟩
      have HB5 := Lib.hid (HB4.out.trans (hb5.mono HB4.out.size))
      have HZ5 := Lib.hid ((hb5.block bu (lt_of_block HZ4.out)).trans HZ4.out)
      have HS5 := Lib.hid (HS4.out.below hb5)
      clear hb5
      go_wp2_with (refine store_ub rfl (.tmp 9) (.tmp 42) rfl rfl rfl (heap_alloc_new _ _) rfl HU.out ?_)
      intro w6 hg6 hf6 hs6
      have hbel6 : Below w5.heap.size w5 w6 := ((Below.refl _ w5).alloc (Nat.le_refl _) _).trans (hf6.below (by simp) (fun k hk => by omega))
      have HB6 := Lib.hid (HB5.out.trans (hbel6.mono HB5.out.size))
      have HZ6 := Lib.hid ((hbel6.block bu (lt_of_block HZ5.out)).trans HZ5.out)
      have HAu6 := Lib.hid (show At w6 bu 0 u.cells from At.of_row ((hbel6.block bu (lt_of_block HZ5.out)).trans HZ5.out))
      have HAx6 := Lib.hid (show At w6 w5.heap.size 0 u.cells from At.of_row hg6)
      have HS6 := Lib.hid (HS5.out.below hbel6)
      clear hg6 hf6 hs6 hbel6
      by_cases ht0 : t = 0
      · have m2 : ((t : Int) == 0) = true := by rw [ht0]; rfl
        clear ht0
        go_wp2_with (first | (refine gload_ub rfl (.tmp 9) rfl rfl HAx6.out HU.out ?_) | (refine gload_ub rfl (.tmp 4) rfl rfl HAu6.out HU.out ?_) | (refine gneq_same (u := u) rfl (.tmp 47) (.tmp 48) _ rfl rfl rfl HU.out ?_))
        go_ret
        exact ⟨rfl, HB6.out⟩
      · have m2 : ((t : Int) == 0) = false := by rw [beq_eq_false_iff_ne]; omega
        clear ht0
        have HOe := Lib.hid (own_empty w6)
        have HSe := Lib.hid (HS6.out.below ((Below.refl _ w6).alloc (Nat.le_refl _) (.cells #[] 5)))
        go_wp2_with (first | (refine gload_ub rfl (.tmp 9) rfl rfl HAx6.out HU.out ?_) | (refine gload_ub rfl (.tmp 4) rfl rfl HAu6.out HU.out ?_) | (refine gneq_same (u := u) rfl (.tmp 47) (.tmp 48) _ rfl rfl rfl HU.out ?_) | (at_builtin; refine append_u8 rfl (.tmp 58) (.tmp 59) rfl HOe.out HSe.out rfl rfl (by omega) (by simp) ?_))
        intro a8 c8 w8 hown hf h3
        have hb8 : Below w6.heap.size w6 w8 := ((Below.refl _ w6).alloc (Nat.le_refl _) _).trans (hf.below (by simp) (fun k hk => by simp [Value.ownBlock] at hk; omega))
        have hown8 : w8.ownsRow w6.heap.size 5 1 (.slice a8 512 c8) 512 ((ubS key u).map Bv) := by simpa using hown
        obtain ⟨g, cap, hv⟩ := Go.Joins.ownsRow_form hown8 (by decide)
        simp only [Value.slice.injEq, true_and] at hv
        obtain ⟨rfl, rfl⟩ := hv
        obtain ⟨hgge, hglt⟩ := hown8.lt g rfl
        obtain ⟨cur, hcur⟩ : ∃ cur, w8.heap[g]? = some (.cells cur 5 (0, 0)) := by
          rcases hown8.2 with ⟨h, _⟩ | ⟨g', cap', cur, h, _, h2, _⟩
          · cases h
          · simp only [Value.slice.injEq, Option.some.injEq, Addr.mk.injEq, and_true, true_and] at h
            obtain ⟨rfl, _⟩ := h
            exact ⟨cur, h2⟩
        have hsl8 := Sl.own hown8
        obtain ⟨ys, hys⟩ : ∃ ys, ys = ubS key u := ⟨_, rfl⟩
        rw [← hys] at hsl8
        have hyl : ys.length = 512 := by rw [hys]; exact ubS_length key HU.out
        obtain ⟨k1, hk1⟩ : ∃ k1, k1 = i % 512 := ⟨_, rfl⟩
        have hk2 : k1 < 512 := by rw [hk1]; exact Nat.mod_lt _ (by decide)
        have ek : (i : Int) % 512 = (k1 : Int) := by omega
        obtain ⟨x, hx⟩ : ∃ x, ys[k1]? = some x := ⟨_, List.getElem?_eq_getElem (by omega)⟩
        obtain ⟨g', o', e', hat⟩ := hsl8.here (by decide)
        simp only [Option.some.injEq, Addr.mk.injEq, and_true] at e'
        obtain ⟨rfl, rfl⟩ := e'
        have cx : w8.cell? ⟨g, k1, none⟩ = some (.int .u8 (x.toNat : Int)) := by
          have := hat k1 (Bv x) (by rw [List.getElem?_map, hx]; rfl)
          rwa [Nat.zero_add] at this
        have fx : w8.frozen? ⟨g, k1, none⟩ = false := by simp [World.frozen?, hcur]
        have ht8 := HTt.out
        obtain ⟨y, hy⟩ : ∃ y : UInt8, y = x ^^^ UInt8.ofNat t := ⟨_, rfl⟩
        have ex : bits .xor .u8 (x.toNat : Int) (t : Int) = (y.toNat : Int) := by
          rw [u8_xor_nat _ _ x.toNat_lt ht8, hy, UInt8.toNat_xor, UInt8.toNat_ofNat', Nat.mod_eq_of_lt ht8]
        have hbg : bu < g := by have := lt_of_block HZ6.out; omega
        obtain ⟨zs, hzs⟩ : ∃ zs, zs = ys.set k1 y := ⟨_, rfl⟩
        have hzl : zs.length = 512 := by rw [hzs, List.length_set, hyl]
        have HS9 := Lib.hid (show Sl (w8.setCell ⟨g, k1, none⟩ (.int .u8 (y.toNat : Int))) 1 (.slice (some ⟨g, 0, none⟩) 512 c8) 512 (zs.map Bv) by
          rw [hzs]
          exact Sl_set hsl8 hk2 (World.cell?_setCell_same _ _ _ cx) (fun j hj => World.cell?_setCell_other _ _ _ _ (fun e => hj (by simp only [Addr.mk.injEq, true_and, and_true] at e; exact e.symm))))
        have hf9 : Fr (fun j => j = g) w8 (w8.setCell ⟨g, k1, none⟩ (.int .u8 (y.toNat : Int))) := (Fr.refl (fun j => j = g) w8).set _ k1 rfl _
        have hb68 := HB6.out.trans (hb8.mono HB6.out.size)
        have HB9 := Lib.hid (hb68.trans (hf9.below hb68.size (fun j hj => by have := HB6.out.size; omega)))
        have HZl := Lib.hid hzl
        clear hown hf h3 hb8 hown8 hgge hcur hsl8 hys hyl hk1 hx hat ht8 hy hzs hzl hf9 hb68 hbg
        go_wp2_with fail
        rw [zero32]
        obtain ⟨w9, hw9⟩ : ∃ w9, w9 = w8.setCell ⟨g, k1, none⟩ (.int .u8 (y.toNat : Int)) := ⟨_, rfl⟩
        have hs98 : w9.heap.size = w8.heap.size := by rw [hw9]; simp
        rw [← hw9] at HS9 HB9 ⊢
        rw [← hs98]
        clear hw9
        obtain ⟨w10, hw10⟩ : ∃ w10, w10 = w9.alloc (.cells ((List.replicate 32 (0 : UInt8)).map Bv).toArray 45) := ⟨_, rfl⟩
        have hz10 : w10.heap[w9.heap.size]? = some (.cells ((List.replicate 32 (0 : UInt8)).map Bv).toArray 45 (0, 0)) := by rw [hw10]; exact alloc_zero32 w9
        have hb10 : Below w9.heap.size w9 w10 := by rw [hw10]; exact (Below.refl _ w9).alloc (Nat.le_refl _) _
        have hg9 : g < w9.heap.size := by rw [hs98]; exact hglt
        have hs9 := HS9.out
        have hs10 := hs9.below hb10
        obtain ⟨A, C, q1, hs1, -⟩ := cut_u8_lo' hs10 (show 480 ≤ 512 by decide)
        rw [show (512 : Nat) - 480 = 32 from rfl, show ((480 : Nat) : Int) = 480 from rfl] at q1
        rw [show (512 : Nat) - 480 = 32 from rfl] at hs1
        have hbd10 : Below w10.heap.size w10 w10.drew := (Below.refl _ w10).drew
        have HSrc := Lib.hid (hs1.below hbd10)
        have HZd := Lib.hid (show w10.drew.heap[w9.heap.size]? = some (.cells ((List.replicate 32 (0 : UInt8)).map Bv).toArray 45 (0, 0)) from hz10)
        have HSd := Lib.hid (hs10.below hbd10)
        have HBd := Lib.hid (HB9.out.trans ((hb10.mono HB9.out.size).trans (hbd10.mono (Nat.le_trans HB9.out.size hb10.size))))
        rw [← hw10]
        obtain ⟨bc, hbc⟩ : ∃ bc, bc = w9.heap.size := ⟨_, rfl⟩
        rw [← hbc] at HZd hg9 ⊢
        have hgbc : g ≠ bc := by omega
        have hbgeq : w.heap.size ≤ bc := by rw [hbc]; exact HB9.out.size
        clear hs98 hw10 hz10 hb10 hs9 hs10 hs1 hbd10 hbc cx fx ex ek
        refine wp_region_quiet_tail 3 (by kernel_rfl) (by kernel_rfl) ?_
        simp only [List.take_succ_cons, List.take_zero, List.drop_succ_cons, List.drop_zero]
        repeat (go_big_quiet_step (fail))
        refine wpQuiet_nil ?_
        refine copy_u8 rfl (.tmp 72) (.tmp 74) rfl HZd.out HSrc.out rfl rfl (by simp) ?_
        intro w11 hg11 hf11
        have hhl : (zs.drop 480).length = 32 := by rw [List.length_drop, HZl.out]
        have hov : over (List.replicate 32 (0 : UInt8)) 0 ((zs.drop 480).take (min 32 32)) = zs.drop 480 := by
          rw [Nat.min_self, List.take_of_length_le (by omega)]
          exact over_all _ _ (by rw [hhl, List.length_replicate])
        rw [hov] at hg11
        have HHl := Lib.hid hhl
        have hb11 : Below w.heap.size w w11 := HBd.out.trans (hf11.below HBd.out.size (fun k hk => by omega))
        have HB11 := Lib.hid hb11
        have hs11 := HSd.out.fr hf11 (fun a m c e => by
          simp only [Value.slice.injEq, Option.some.injEq] at e
          rw [← e.1]
          exact hgbc)
        have HS11 := Lib.hid hs11
        have HG11 := Lib.hid hg11
        clear hhl hov hg11 hf11 hb11 hs11 q1
        obtain ⟨hd, hhd⟩ : ∃ hd, hd = zs.take 480 := ⟨_, rfl⟩
        obtain ⟨tl, htl⟩ : ∃ tl, tl = zs.drop 480 := ⟨_, rfl⟩
        rw [← htl] at HHl HG11
        have hdl : hd.length = 480 := by rw [hhd, List.length_take, HZl.out]; rfl
        obtain ⟨er, her⟩ : ∃ er, er = errU key zs := ⟨_, rfl⟩
        obtain ⟨ux, hux⟩ : ∃ ux, ux = getU key zs := ⟨_, rfl⟩
        have hno : ¬ macN key hd = tl → er = 5 ∧ ux = Ub.zero := by
          intro hm
          have h5 : errU key zs = 5 := by unfold errU; rw [if_pos HZl.out, ← hhd, ← htl, if_neg hm]
          exact ⟨by rw [her, h5], by rw [hux]; unfold getU; rw [h5]; rfl⟩
        have hget2 := ubGet' (.slice ka n kc) (.slice (some ⟨g, 0, none⟩) 512 c8) n 512 key zs w11 (HK.out _ HB11.out) HKR.out HS11.out
        rw [← her, ← hux] at hget2
        have hxw : ux.Wf := by rw [hux]; exact getU_wf _ _
        have HGet2 := Lib.hid hget2
        have HXw := Lib.hid hxw
        have HNo := Lib.hid hno
        have HDl := Lib.hid hdl
        have HHd := Lib.hid hhd
        clear hget2 hxw hno hdl hhd htl her hux
        go_wp2_with fail
        refine HGet2.out.mono ?_
        rintro e w12 ⟨rfl, hb12⟩
        have HB12 := Lib.hid (HB11.out.trans (hb12.mono HB11.out.size))
        have HS12 := Lib.hid (HS11.out.below hb12)
        have HG12 := Lib.hid ((hb12.block bc (lt_of_block HG11.out)).trans HG11.out)
        clear hb12
        go_wp2_with (refine store_ub rfl (.tmp 13) (.tmp 80) rfl rfl rfl (heap_alloc_new _ _) rfl HXw.out ?_)
        intro w13 hg13 hf13 hs13
        have hbel13 : Below w12.heap.size w12 w13 := ((Below.refl _ w12).alloc (Nat.le_refl _) _).trans (hf13.below (by simp) (fun k hk => by omega))
        have HB13 := Lib.hid (HB12.out.trans (hbel13.mono HB12.out.size))
        have hgc13 := (hbel13.block bc (lt_of_block HG12.out)).trans HG12.out
        obtain ⟨A2, C2, q2, hs2⟩ := cut_u8_hi (HS12.out.below hbel13) (show 480 ≤ 512 by decide)
        rw [show ((480 : Nat) : Int) = 480 from rfl] at q2
        rw [← HHd.out] at hs2
        have hk13 := HK.out _ HB13.out
        have HUc := Lib.hid (fun w' (hw : ∃ x : Wd w13.heap.size w13, w' = x.to) => (by obtain ⟨x, rfl⟩ := hw; exact x.at (At.of_row hgc13) : At w' bc 0 (tl.map Bv)))
        have HUx := Lib.hid (fun w' (hw : ∃ x : Wd w13.heap.size w13, w' = x.to) => (by obtain ⟨x, rfl⟩ := hw; exact x.at (At.of_row hg13) : At w' w12.heap.size 0 ux.cells))
        have hfits := fun (x : Wd w13.heap.size w13) => Calls.wd x (Nat.le_refl _) (show Calls Tryd.prog 24 #[.slice ka n kc, .slice A2 480 C2, .agg (tl.map Bv).toArray] x.to _ from fits_any (.slice ka n kc) (.slice A2 480 C2) key hd tl x.to (by rw [← HN.out]; exact hk13.below x.hb) (by rw [HDl.out]; exact hs2.below x.hb) (by rw [← HN.out]; exact HKR.out) (by rw [HDl.out]; decide) HHl.out)
        clear hg13 hf13 hs13 hbel13 hgc13 hs2 hk13
        by_cases hm : macN key hd = tl
        · rw [decide_eq_true hm] at hfits
          have HFits := Lib.hid hfits
          clear hm hfits
          go_wp2_with fail
          refine wp_region_wd w13.heap.size (by kernel_rfl) (by kernel_rfl) ?_
          repeat (first
            | (refine wpQuiet_load_at rfl 45 (.tmp 12) rfl bc 0 rfl _ _ HUc.out Tryd.underlying45 rfl (by rw [info_hash', List.length_map, HHl.out]) ?_; simp only [Act.put, List.setIfInBounds_toArray, List.set_cons_succ, List.set_cons_zero])
            | go_big_quiet_step (with_reducible exact HFits.out _))
          refine wpQuiet_nil ?_
          rintro w14 ⟨⟨_, hb14⟩, rfl⟩
          have HB14 := Lib.hid (HB13.out.trans (hb14.mono HB13.out.size))
          clear hb14
          go_wp2
          go_ret
          exact ⟨rfl, HB14.out⟩
        · rw [decide_eq_false hm] at hfits
          obtain ⟨rfl, rfl⟩ := HNo.out hm
          have HFits := Lib.hid hfits
          have HZw := Lib.hid Ub.zero_wf
          clear hm hfits
          go_wp2_with fail
          refine wp_region_wd w13.heap.size (by kernel_rfl) (by kernel_rfl) ?_
          repeat (first
            | (refine wpQuiet_load_at rfl 45 (.tmp 12) rfl bc 0 rfl _ _ HUc.out Tryd.underlying45 rfl (by rw [info_hash', List.length_map, HHl.out]) ?_; simp only [Act.put, List.setIfInBounds_toArray, List.set_cons_succ, List.set_cons_zero])
            | (refine wpQuiet_load_at rfl 49 (.tmp 13) rfl w12.heap.size 0 rfl _ _ HUx.out Tryd.underlying49 rfl (by rw [info_ub, HZw.out.len]) ?_; simp only [Act.put, List.setIfInBounds_toArray, List.set_cons_succ, List.set_cons_zero])
            | (refine qeql_same (u := Ub.zero) rfl (.tmp 91) (.tmp 92) _ rfl rfl rfl HZw.out ?_; simp only [Act.put, List.setIfInBounds_toArray, List.set_cons_succ, List.set_cons_zero])
            | go_big_quiet_step (with_reducible exact HFits.out _))
          refine wpQuiet_nil ?_
          rintro w14 ⟨⟨_, hb14⟩, rfl⟩
          have HB14 := Lib.hid (HB13.out.trans (hb14.mono HB13.out.size))
          clear hb14
          go_wp2
          go_ret
          exact ⟨rfl, HB14.out⟩
end Go.Proofs.YtdmgmpagnmmehaaDoor
