/- Two arrays of bytes, compared. -/
import Derived.Test.YtdmgmpagnmmehaaDoorMem
import Derived.ChangeKeysEq
import Derived.Laws.StructEq
namespace Go.Proofs.YtdmgmpagnmmehaaDoor
open Go.RowKit

theorem bv_beq (x y : UInt8) : ((x.toNat : Int) == (y.toNat : Int)) = (x == y) := by
  rw [Bool.eq_iff_iff]; simp only [beq_iff_eq]
  exact ⟨fun h => UInt8.toNat_inj.1 (by omega), fun h => by rw [h]⟩

theorem run_eqItems_u8 (d : Nat) (xs ys : List UInt8) (w : World) : ∀ is : List Nat, (∀ i ∈ is, i < xs.length ∧ i < ys.length) →
    (Op.eqItems (d + 1) 5 1 (xs.map Bv).toArray (ys.map Bv).toArray is).run Tryd.prog w = .ok (is.all fun i => xs[i]? == ys[i]?) w
  | [], _ => by simp [Op.eqItems]
  | i :: is, h => by
    obtain ⟨h1, h2⟩ := h i (by simp)
    have hp : Tryd.prog.plainKey 5 = true := by kernel_rfl
    have p1 := run_part_plain (P := Tryd.prog) w hp (xs := (xs.map Bv).toArray) (off := i * 1) (v := Bv xs[i]) (by simp [h1])
    have p2 := run_part_plain (P := Tryd.prog) w hp (xs := (ys.map Bv).toArray) (off := i * 1) (v := Bv ys[i]) (by simp [h2])
    have ih := run_eqItems_u8 d xs ys w is (fun j hj => h j (by simp [hj]))
    have p3 : (Op.equalIn (d + 1) 5 (Bv xs[i]) (Bv ys[i])).run Tryd.prog w = .ok (xs[i] == ys[i]) w := by
      rw [← bv_beq]; exact run_equalIn_int w d _ .u8 .u8 _ _ Tryd.underlying5
    simp only [Op.eqItems, Sem.run_bind, p1, p2, p3, Result.andThen_ok, List.all_cons, List.getElem?_eq_getElem h1, List.getElem?_eq_getElem h2, Option.some_beq_some]
    cases hx : (xs[i] == ys[i])
    · simp
    · simpa using ih

theorem all_same (xs ys : List UInt8) (n : Nat) (h1 : xs.length = n) (h2 : ys.length = n) : ((List.range n).all fun i => xs[i]? == ys[i]?) = decide (xs = ys) := by
  rw [Bool.eq_iff_iff, List.all_eq_true, decide_eq_true_iff]
  constructor
  · intro h
    apply List.ext_getElem?
    intro i
    rcases Nat.lt_or_ge i n with hi | hi
    · simpa using h i (by simpa using hi)
    · rw [List.getElem?_eq_none (by omega), List.getElem?_eq_none (by omega)]
  · rintro rfl i _
    simp

theorem run_eql_hash (xs ys : List UInt8) (h1 : xs.length = 32) (h2 : ys.length = 32) (w : World) :
    (binOp .eql 45 (.agg (xs.map Bv).toArray) (.agg (ys.map Bv).toArray)).run Tryd.prog w = .ok (.bool (decide (xs = ys))) w := by
  obtain ⟨i0, hi, hz0, hz1, hz2⟩ := info_parts info_u8
  rw [run_eql_struct, run_equalIn_array w 9999 _ _ Tryd.underlying45 hi]
  have hc : Tryd.prog.cellsOf 5 = 1 := by kernel_rfl
  rw [hc, run_eqItems_u8 9998 xs ys w _ (fun i hi => by have := List.mem_range.1 hi; omega)]
  simp [Result.andThen, all_same xs ys 32 h1 h2]
theorem run_neq_hash (xs ys : List UInt8) (h1 : xs.length = 32) (h2 : ys.length = 32) (w : World) :
    (binOp .neq 45 (.agg (xs.map Bv).toArray) (.agg (ys.map Bv).toArray)).run Tryd.prog w = .ok (.bool (!decide (xs = ys))) w := by
  obtain ⟨i0, hi, hz0, hz1, hz2⟩ := info_parts info_u8
  rw [run_neq_struct, run_equalIn_array w 9999 _ _ Tryd.underlying45 hi]
  have hc : Tryd.prog.cellsOf 5 = 1 := by kernel_rfl
  rw [hc, run_eqItems_u8 9998 xs ys w _ (fun i hi => by have := List.mem_range.1 hi; omega)]
  simp [Result.andThen, all_same xs ys 32 h1 h2]

theorem guard_hash : Tryd.prog.eqGuardType Tryd.prog.depth 45 = false := by kernel_rfl

theorem eql_hash {ops : Array Oper} {rest : List Oper} {o : Oper} {a : Act} {w : World} {Q : Exit → Act → World → Prop} (hgd : o.guard = none) (x y : Operand) (yt : TypeId) (ho : o.op = .binOp .eql 45 x y yt)
    {xs ys : List UInt8} (hx : a.eval x = .agg (xs.map Bv).toArray) (hy : a.eval y = .agg (ys.map Bv).toArray) (h1 : xs.length = 32) (h2 : ys.length = 32)
    (hK : wpList Tryd.prog ops Q rest (a.put o.dst (.bool (decide (xs = ys)))) w) : wpList Tryd.prog ops Q (o :: rest) a w := by
  refine wpList_plain hgd fun K hKK => ?_
  unfold Oper.wp execOp
  simp only [ho, hx, hy, Sem.run_bind, run_eqGuard_agg w _ _ _ _ _ _ guard_hash, Result.andThen_ok, run_eql_hash xs ys h1 h2 w]
  exact hKK _ _ hK
theorem neq_hash {ops : Array Oper} {rest : List Oper} {o : Oper} {a : Act} {w : World} {Q : Exit → Act → World → Prop} (hgd : o.guard = none) (x y : Operand) (yt : TypeId) (ho : o.op = .binOp .neq 45 x y yt)
    {xs ys : List UInt8} (hx : a.eval x = .agg (xs.map Bv).toArray) (hy : a.eval y = .agg (ys.map Bv).toArray) (h1 : xs.length = 32) (h2 : ys.length = 32)
    (hK : wpList Tryd.prog ops Q rest (a.put o.dst (.bool (!decide (xs = ys)))) w) : wpList Tryd.prog ops Q (o :: rest) a w := by
  refine wpList_plain hgd fun K hKK => ?_
  unfold Oper.wp execOp
  simp only [ho, hx, hy, Sem.run_bind, run_eqGuard_agg w _ _ _ _ _ _ guard_hash, Result.andThen_ok, run_neq_hash xs ys h1 h2 w]
  exact hKK _ _ hK

end Go.Proofs.YtdmgmpagnmmehaaDoor
