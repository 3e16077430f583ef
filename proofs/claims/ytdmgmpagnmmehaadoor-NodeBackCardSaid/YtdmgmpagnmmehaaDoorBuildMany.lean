/- A slice literal of several structs. Over any program. -/
import Derived.Test.YtdmgmpagnmmehaaDoorBuild
namespace Go.Proofs.YtdmgmpagnmmehaaDoor
open Go.RowKit

theorem fill_many (n : Nat) (hn : 0 < n) : ∀ (vs : List (Array Value)) (k : Nat) (zs : Array Value), (∀ v ∈ vs, v.size = n) → zs.size = (k + vs.length) * n →
    ∃ cs, Instr.fill (fun i => some (i * n, n)) zs ((vs.zipIdx k).map fun p => (p.2, Value.agg p.1)) = some cs ∧ cs.toList = zs.toList.take (k * n) ++ (vs.map Array.toList).flatten
  | [], k, zs, _, hz => by
    refine ⟨zs, by simp [Instr.fill], ?_⟩
    simp only [List.length_nil, Nat.add_zero] at hz
    rw [List.take_of_length_le (by simp [hz])]; simp
  | v :: vs, k, zs, hv, hz => by
    have hv0 := hv v (by simp)
    have hz' : zs.size = (k * n + n) + vs.length * n := by rw [hz, List.length_cons]; rw [Nat.add_mul, Nat.add_mul]; omega
    have e := set_fold (k * n) v.toList 0 zs (by simp only [Array.length_toList, hv0]; omega)
    simp only [Nat.add_zero, Array.length_toList, hv0] at e
    obtain ⟨Z, hZ⟩ : ∃ Z, Z = (v.toList.zipIdx 0).foldl (fun (cs : Array Value) (x : Value × Nat) => cs.setIfInBounds (k * n + x.2) x.1) zs := ⟨_, rfl⟩
    rw [← hZ] at e
    have hZs : Z.size = (k + 1 + vs.length) * n := by
      rw [← Array.length_toList, e]
      simp only [List.length_append, List.length_take, List.length_drop, Array.length_toList, hv0, hz', Nat.add_mul]
      omega
    obtain ⟨cs, h1, h2⟩ := fill_many n hn vs (k + 1) Z (fun x hx => hv x (by simp [hx])) hZs
    refine ⟨cs, ?_, ?_⟩
    · rw [List.zipIdx_cons, List.map_cons]
      unfold Instr.fill
      split
      · rename_i hc
        simp at hc
      · rename_i off sz hc
        simp only [Option.some.injEq, Prod.mk.injEq] at hc
        obtain ⟨rfl, rfl⟩ := hc
        split
        · rename_i hc
          exfalso
          simp [Value.cells, hv0] at hc
          omega
        · simp only [Value.cells]
          rw [← Array.foldl_toList, Array.toList_zipIdx]
          rw [← hZ]
          exact h1
    · rw [h2, e]
      have hl : (zs.toList.take (k * n) ++ v.toList).length = (k + 1) * n := by
        simp only [List.length_append, List.length_take, Array.length_toList, hv0, hz', Nat.add_mul]; omega
      rw [List.take_append_of_le_length (by rw [hl]; exact Nat.le_refl _), List.take_of_length_le (by rw [hl]; exact Nat.le_refl _)]
      simp

theorem build_many {P : Program} {ops : Array Oper} {rest : List Oper} {o : Oper} {a : Act} {w : World} {Q : Exit → Act → World → Prop} (hgd : o.guard = none) (t e : TypeId) (m : Nat) (parts : Array (Nat × Operand)) (ho : o.op = .buildSlice t m parts)
    (vs : List (Array Value)) (hp : (parts.map fun (i, x) => (i, a.eval x)) = ((vs.zipIdx 0).map fun p => (p.2, Value.agg p.1)).toArray) (hm : vs.length = m) (ht : P.underlying t = some (.slice e)) (i : TypeInfo) (z : Value) (n : Nat) (hi : P.info? e = some i) (hz : i.zero = some z) (hsz : i.size = n) (hzs : z.cells.size = n)
    (hv : ∀ v ∈ vs, v.size = n) (h0 : 0 < n) (hm0 : 0 < m) (h24 : m * n < 100000)
    (hK : ∀ cs : Array Value, cs.toList = (vs.map Array.toList).flatten → wpList P ops Q rest (a.put o.dst (.slice (some ⟨w.heap.size, 0, none⟩) m m)) (w.alloc (.cells cs e))) : wpList P ops Q (o :: rest) a w := by
  refine wpList_plain hgd fun K hKK => ?_
  subst hm
  obtain ⟨cs, hf, hcs⟩ := fill_many n h0 vs 0 ((Array.range (vs.length * n)).map (z.cells[· % z.cells.size]!)) hv (by simp)
  rw [Nat.zero_mul, List.take_zero, List.nil_append] at hcs
  have hpos : 0 < vs.length * n := Nat.mul_pos hm0 h0
  have hr : (Instr.buildSlice t vs.length ((vs.zipIdx 0).map fun p => (p.2, Value.agg p.1)).toArray).run P w = .ok (.slice (some ⟨w.heap.size, 0, none⟩) vs.length vs.length) (w.alloc (.cells cs e)) := by
    unfold Instr.buildSlice
    have hzv : (zeroValue e).run P w = .ok z w := by simp [zeroValue, typeInfo, hi, hz]
    have hso : (sizeOf e).run P w = .ok n w := by simp [sizeOf, typeInfo, hi, hsz]
    rw [Sem.run_bind, run_underlying ht]
    simp only [Result.andThen_ok, Sem.run_bind, hso]
    rw [if_neg (by omega), if_neg (by omega)]
    simp only [Sem.run_bind, hzv, Result.andThen_ok, Sem.run_pure]
    simp only [hf]
    simp [newRow]
  unfold Oper.wp execOp
  simp only [ho, hp, Sem.run_bind, hr, Result.andThen_ok, Sem.run_pure]
  exact hKK _ _ (hK cs hcs)

end Go.Proofs.YtdmgmpagnmmehaaDoor
