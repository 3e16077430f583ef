/- Rows of words; a row that is stored into itself; two results that lie in memory. Over any program. -/
import Derived.Test.YtdmgmpagnmmehaaDoorRegion
import Derived.Laws.CopyRow
namespace Go.Proofs.YtdmgmpagnmmehaaDoor
open Go.RowKit

def U32 (n : Nat) : Value := .int .u32 (n : Int)
theorem U32_one (xs : List Nat) : ∀ u ∈ xs.map U32, u.oneCell' = true := by
  intro u hu
  obtain ⟨_, _, rfl⟩ := List.mem_map.1 hu
  rfl
/-- A row of m words, of which the first ones are told. -/
def rowZ (m : Nat) (l : List Nat) : List Value := l.map U32 ++ List.replicate (m - l.length) (U32 0)
theorem rowZ_set (m : Nat) (l : List Nat) (x : Nat) (h : l.length < m) : (rowZ m l).set l.length (U32 x) = rowZ m (l ++ [x]) := by
  unfold rowZ
  rw [List.set_append_right _ _ (by simp), List.length_map, Nat.sub_self, List.map_append, List.length_append, List.append_assoc]
  congr 1
  obtain ⟨j, hj⟩ : ∃ j, m - l.length = j + 1 := ⟨m - 1 - l.length, by omega⟩
  rw [hj, List.replicate_succ, List.set_cons_zero]
  simp
  omega
theorem rowZ_get (m : Nat) (l : List Nat) (i : Nat) (h : l.length ≤ m) (hi : i < m) : (rowZ m l)[i]? = some (U32 (l.getD i 0)) := by
  unfold rowZ
  rcases Nat.lt_or_ge i l.length with h1 | h1
  · rw [List.getElem?_append_left (by simpa using h1), List.getElem?_map, List.getD_eq_getElem?_getD, List.getElem?_eq_getElem h1]; rfl
  · rw [List.getElem?_append_right (by simpa using h1), List.getElem?_replicate, if_pos (by simp; omega), List.getD_eq_getElem?_getD, List.getElem?_eq_none h1]; rfl
theorem rowZ_length (m : Nat) (l : List Nat) (h : l.length ≤ m) : (rowZ m l).length = m := by unfold rowZ; simp; omega
theorem rowZ_full (m : Nat) (l : List Nat) (h : l.length = m) : rowZ m l = l.map U32 := by unfold rowZ; simp [h]
theorem rowZ_one (m : Nat) (l : List Nat) : ∀ u ∈ rowZ m l, u.oneCell' = true := by
  intro u hu
  unfold rowZ at hu
  rcases List.mem_append.1 hu with h | h
  · exact U32_one l u h
  · rw [List.eq_of_mem_replicate h]; rfl

section
variable {P : Program} {ops : Array Oper}

/-- A row that is stored where it lies leaves all as it was. -/
theorem wpQuiet_store_self {C : World → Prop} {Q : Act → Prop} {rest : List Oper} {o : Oper} {a : Act} (hw : Region.wanted o (yielded ops a.tmps) = true) (ty : TypeId) (x y : Operand) (ho : o.op = .store ty x y)
    (b : Nat) (hx : a.eval x = .pointer (some ⟨b, 0, none⟩)) (cs : List Value) (hy : a.eval y = .agg cs.toArray) (t : TypeId) (hb : ∀ w', C w' → w'.heap[b]? = some (.cells cs.toArray t (0, 0)))
    (h1 : ∀ u ∈ cs, u.oneCell' = true) (hi : (P.info? ty).map (·.size) = some cs.length)
    (h : wpQuiet P ops C Q rest (a.put o.dst undef)) : wpQuiet P ops C Q (o :: rest) a :=
  BigFrame.wpQuiet_want hw fun K hK => ⟨undef, fun w' hw' => by
    have hb' := hb w' hw'
    have hst := run_storeCells_at P b 0 t cs 0 cs.toArray w' hb' (by simp) h1
    have he : (cs.toArray.toList.take (0 + 0) ++ cs ++ cs.toArray.toList.drop (0 + 0 + cs.length)).toArray = cs.toArray := by simp
    rw [he, setRow_self w' b cs.toArray t (0, 0) hb'] at hst
    cases hq : P.info? ty with
    | none => simp [hq] at hi
    | some i =>
      have hs : i.size = cs.length := by simpa [hq] using hi
      have hr : (Instr.storeAt ty (.pointer (some ⟨b, 0, none⟩)) (.agg cs.toArray)).run P w' = .ok () w' := by
        simp [Instr.storeAt, Instr.sureAddr, storeVar, sizeOf, typeInfo, hq, hs, Value.cells, Sem.run_bind, hst]
      unfold Oper.quietAt execOp
      simp only [ho, hx, hy, Sem.run_bind, Sem.run_pure, Result.andThen_ok, hr]
      exact ⟨rfl, rfl⟩, hK _ h⟩

theorem results_two {fn : Func} {p q : Tmp} {ty tz : TypeId} (h : fn.results = #[.cell p ty, .cell q tz]) (tmps : Array Value) (w : World) :
    (results fn tmps).run P w =
      ((asAddr (tmps.getD p undef)).run P w).andThen fun a w₁ => ((loadVar ty a).run P w₁).andThen fun v w₂ => ((asAddr (tmps.getD q undef)).run P w₂).andThen fun b w₃ => ((loadVar tz b).run P w₃).andThen fun u w₄ => .ok (.tuple #[v, u]) w₄ := by
  simp only [results, h]
  simp [Sem.run_bind, Result.andThen]
/-- Two results that lie in memory. -/
theorem results_cell_cell {fn : Func} {p q : Tmp} {ty tz : TypeId} (h : fn.results = #[.cell p ty, .cell q tz]) {tmps : Array Value} {w : World} {a b : Addr} {u v : Value} (hp : tmps.getD p undef = .pointer (some a)) (hq : tmps.getD q undef = .pointer (some b))
    (ha : (loadVar ty a).run P w = .ok u w) (hb : (loadVar tz b).run P w = .ok v w) : (results fn tmps).run P w = .ok (.tuple #[u, v]) w := by
  rw [results_two h, hp, hq]
  simp [Result.andThen, asAddr, ha, hb]
end

end Go.Proofs.YtdmgmpagnmmehaaDoor
