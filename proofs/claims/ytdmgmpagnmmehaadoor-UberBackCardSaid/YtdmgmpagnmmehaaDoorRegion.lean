/- A region that draws its order, walked by hand: what is taken first, what is forced, the rest quiet and in the order of the text. Over any program. -/
import Derived.Test.YtdmgmpagnmmehaaDoorAgg
import Derived.Deep.QuietTactic
import Derived.BigQuiet
import Derived.BigRegion
namespace Go.Proofs.YtdmgmpagnmmehaaDoor
open Go.RowKit

theorem flat_get {α : Type} (m : Nat) : ∀ (ls : List (List α)), (∀ l ∈ ls, l.length = m) → ∀ i (hi : i < ls.length) j, j < m → ls.flatten[i * m + j]? = (ls[i])[j]?
  | [], _, i, hi, _, _ => by simp at hi
  | l :: ls, h, 0, _, j, hj => by
    have hl := h l (by simp)
    rw [List.flatten_cons, Nat.zero_mul, Nat.zero_add, List.getElem?_append_left (by omega)]
    rfl
  | l :: ls, h, i + 1, hi, j, hj => by
    have hl := h l (by simp)
    rw [List.flatten_cons, List.getElem?_append_right (by rw [Nat.succ_mul]; omega)]
    have e : (i + 1) * m + j - l.length = i * m + j := by rw [Nat.succ_mul]; omega
    rw [e, flat_get m ls (fun x hx => h x (by simp [hx])) i (by simpa using hi) j hj]
    rfl

section
variable {P : Program} {md : Region.Mode} {ops : Array Oper} {Q : Exit → Act → World → Prop}

theorem wpAny_forced {fuel : Nat} {listed : Array Bool} {a : Act} {w : World} (i : Nat) {o : Oper} (hr : Region.ready md ops listed = [i]) (ho : ops[i]? = some o) (hw : Region.wanted o (yielded ops a.tmps) = true)
    (h : ∀ K' : Act → World → Prop, (∀ a w, wpAny P md ops Q fuel (listed.setIfInBounds i true) a w → K' a w) → Oper.wp P o a w K' Q) : wpAny P md ops Q (fuel + 1) listed a w :=
  wpAny_ready hr (by simp) (BigFrame.allReady_want ho hw h AllReady.nil)

theorem wpAny_rest {listed : Array Bool} {a : Act} {w : World} (k : Nat) (l : List Oper) (hs : Region.noSelect ops = true) (hl : ∀ j, l[j]? = ops[k + j]?) (hB : Region.lexFrom md ops l.length k listed = true)
    (h : wpQuiet P ops (fun w' => ∃ n, w' = w.drewN n) (fun a' => ∀ w', (∃ n, w' = w.drewN n) → Q .normal a' w') l a) : wpAny P md ops Q l.length listed a w :=
  wpAny_of_quiet (C := fun w' => ∃ n, w' = w.drewN n) (Q := fun a' => ∀ w', (∃ n, w' = w.drewN n) → Q .normal a' w') (fun _ w' hw' h => h w' hw') _ _ _ _ ⟨0, rfl⟩ (wpAnyQ_lex hs l k listed a hl hB h)

theorem wpAny_tail {fuel : Nat} {listed : Array Bool} {a : Act} {w : World} (k : Nat) (hf : fuel = (ops.toList.drop k).length) (hs : Region.noSelect ops = true) (hB : Region.lexFrom md ops fuel k listed = true)
    (h : wpQuiet P ops (fun w' => ∃ n, w' = w.drewN n) (fun a' => ∀ w', (∃ n, w' = w.drewN n) → Q .normal a' w') (ops.toList.drop k) a) : wpAny P md ops Q fuel listed a w := by
  subst hf
  exact wpAny_rest k (ops.toList.drop k) hs (fun j => by simp) hB h

/-- A struct or an array, read at an address, at a forced step. -/
theorem wp_load_at {o : Oper} {a : Act} {w : World} {K : Act → World → Prop} (ty : TypeId) (x : Operand) (ho : o.op = .load ty x)
    (b off : Nat) (hx : a.eval x = .pointer (some ⟨b, off, none⟩)) (cs : List Value) (d : TypeDesc) (hc : At w b off cs)
    (hu : P.underlying ty = some d) (hd : (match d with | .struct _ | .array _ _ => true | _ => false) = true) (hi : (P.info? ty).map (·.size) = some cs.length)
    (h : K (a.put o.dst (.agg cs.toArray)) w) : Oper.wp P o a w K Q := by
  unfold Oper.wp execOp
  simp only [ho, hx, Instr.loadAt, Instr.sureAddr, Sem.run_bind, Sem.run_pure, Result.andThen_ok, run_loadVar_at w b off ty cs d hc hu hd hi]
  exact h
/-- .. at a guarded operation that is carried out. -/
theorem gload_at {rest : List Oper} {o : Oper} {a : Act} {w : World} (hw : Region.wanted o (yielded ops a.tmps) = true) (ty : TypeId) (x : Operand) (ho : o.op = .load ty x)
    (b off : Nat) (hx : a.eval x = .pointer (some ⟨b, off, none⟩)) (cs : List Value) (d : TypeDesc) (hc : At w b off cs)
    (hu : P.underlying ty = some d) (hd : (match d with | .struct _ | .array _ _ => true | _ => false) = true) (hi : (P.info? ty).map (·.size) = some cs.length)
    (h : wpList P ops Q rest (a.put o.dst (.agg cs.toArray)) w) : wpList P ops Q (o :: rest) a w :=
  BigFrame.wpList_want hw fun _ hK => wp_load_at ty x ho b off hx cs d hc hu hd hi (hK _ _ h)
end

end Go.Proofs.YtdmgmpagnmmehaaDoor
