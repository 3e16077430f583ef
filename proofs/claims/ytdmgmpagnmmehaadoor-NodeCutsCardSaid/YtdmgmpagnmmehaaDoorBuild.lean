/- A slice literal of one struct. Over any program. -/
import Derived.Test.YtdmgmpagnmmehaaDoorRegion
namespace Go.Proofs.YtdmgmpagnmmehaaDoor
open Go.RowKit

theorem set_fold (off : Nat) : ∀ (l : List Value) (k : Nat) (cs : Array Value), off + k + l.length ≤ cs.size →
    ((l.zipIdx k).foldl (fun (cs : Array Value) (x : Value × Nat) => cs.setIfInBounds (off + x.2) x.1) cs).toList = cs.toList.take (off + k) ++ l ++ cs.toList.drop (off + k + l.length)
  | [], k, cs, _ => by simp
  | v :: l, k, cs, h => by
    simp only [List.length_cons] at h
    rw [List.zipIdx_cons, List.foldl_cons, set_fold off l (k + 1) _ (by simp; omega)]
    simp only [Array.toList_setIfInBounds, List.length_cons]
    have hlt : off + k < cs.toList.length := by simp; omega
    rw [show off + (k + 1) = off + k + 1 by omega, List.take_succ_eq_append_getElem (by simpa using hlt), List.take_set_of_le (Nat.le_refl _), List.getElem_set_self, List.drop_set_of_lt (by omega)]
    rw [show off + k + 1 + l.length = off + k + (l.length + 1) by omega]
    simp

theorem fill_one {arr zs : Array Value} (n : Nat) (h : arr.size = n) (hz : zs.size = n) : Instr.fill (fun i => some (i * n, n)) zs [(0, .agg arr)] = some arr := by
  unfold Instr.fill
  simp only [Value.cells, Nat.zero_mul]
  rw [if_neg (by simp [h, hz])]
  unfold Instr.fill
  congr 1
  apply Array.toList_inj.1
  rw [← Array.foldl_toList, Array.toList_zipIdx]
  have e := set_fold 0 arr.toList 0 zs (by simp; omega)
  simp only [Nat.zero_add] at e ⊢
  rw [e]
  simp only [List.take_zero, List.nil_append, Array.length_toList, h]
  rw [List.drop_of_length_le (by simp [hz])]
  simp

theorem build_one {P : Program} {ops : Array Oper} {rest : List Oper} {o : Oper} {a : Act} {w : World} {Q : Exit → Act → World → Prop} (hgd : o.guard = none) (t e : TypeId) (x : Operand) (ho : o.op = .buildSlice t 1 #[(0, x)])
    {arr : Array Value} (hx : a.eval x = .agg arr) (ht : P.underlying t = some (.slice e)) (i : TypeInfo) (z : Value) (n : Nat) (hi : P.info? e = some i) (hz : i.zero = some z) (hsz : i.size = n) (hzs : z.cells.size = n) (hn : arr.size = n) (h0 : 0 < n) (h24 : n < 1000)
    (hK : wpList P ops Q rest (a.put o.dst (.slice (some ⟨w.heap.size, 0, none⟩) 1 1)) (w.alloc (.cells arr e))) : wpList P ops Q (o :: rest) a w := by
  refine wpList_plain hgd fun K hKK => ?_
  have hf := fill_one (arr := arr) (zs := (Array.range (1 * n)).map (z.cells[· % z.cells.size]!)) n hn (by simp)
  have hr : (Instr.buildSlice t 1 #[(0, .agg arr)]).run P w = .ok (.slice (some ⟨w.heap.size, 0, none⟩) 1 1) (w.alloc (.cells arr e)) := by
    unfold Instr.buildSlice
    have hzv : (zeroValue e).run P w = .ok z w := by simp [zeroValue, typeInfo, hi, hz]
    have hso : (sizeOf e).run P w = .ok n w := by simp [sizeOf, typeInfo, hi, hsz]
    rw [Sem.run_bind, run_underlying ht]
    simp only [Result.andThen_ok, Sem.run_bind, hso, Nat.one_mul]
    rw [if_neg (by omega), if_neg (by omega)]
    simp only [Sem.run_bind, hzv, Result.andThen_ok, Sem.run_pure]
    rw [Nat.one_mul] at hf
    simp only [hf]
    simp [newRow]
  unfold Oper.wp execOp
  simp only [ho, List.map_toArray, List.map_cons, List.map_nil, hx, Sem.run_bind, hr, Result.andThen_ok, Sem.run_pure]
  exact hKK _ _ hK

end Go.Proofs.YtdmgmpagnmmehaaDoor
