/- Nodes in memory: load one, lay one; rows of strings and of pointers. -/
import Derived.Test.YtdmgmpagnmmehaaDoorNodeA
namespace Go.Proofs.YtdmgmpagnmmehaaDoor
open Go.RowKit

theorem Sl_row {w : World} {b : Nat} {cs : Array Value} {t : TypeId} {size n : Nat} {xs : List Value} (hb : w.heap[b]? = some (.cells cs t (0, 0))) (hcs : cs.toList = xs) (hn : xs.length = n * size) : Sl w size (.slice (some ⟨b, 0, none⟩) n n) n xs := by
  refine ⟨hn, some ⟨b, 0, none⟩, n, rfl, Nat.le_refl _, fun h => (by cases h), fun i u hu => ⟨b, 0, rfl, ?_⟩⟩
  rw [Nat.zero_add, cell_of_row _ b i cs t _ hb, ← hu, ← hcs, Array.getElem?_toList]

theorem Below_drewN {B : Nat} {a w : World} (h : Below B a w) (n : Nat) : Below B a (w.drewN n) := h.trans ⟨rfl, rfl, rfl, Nat.le_refl _, fun _ _ => rfl⟩
theorem info_nd : (Tryd.prog.info? 25).map (·.size) = some 4 := by kernel_rfl
theorem load_nd {ops : Array Oper} {rest : List Oper} {o : Oper} {a : Act} {w : World} {Q : Exit → Act → World → Prop} (hgd : o.guard = none) (x : Operand) (ho : o.op = .load 25 x)
    {b off : Nat} (hx : a.eval x = .pointer (some ⟨b, off, none⟩)) {arr : Array Value} (hc : At w b off arr.toList) (hl : arr.size = 4)
    (hK : wpList Tryd.prog ops Q rest (a.put o.dst (.agg arr)) w) : wpList Tryd.prog ops Q (o :: rest) a w :=
  wpList_load_at hgd _ x ho b off hx arr.toList _ hc Tryd.underlying25 rfl (by rw [info_nd, Array.length_toList, hl]) hK
theorem gload_nd {ops : Array Oper} {rest : List Oper} {o : Oper} {a : Act} {w : World} {Q : Exit → Act → World → Prop} (hw : Region.wanted o (yielded ops a.tmps) = true) (x : Operand) (ho : o.op = .load 25 x)
    {b off : Nat} (hx : a.eval x = .pointer (some ⟨b, off, none⟩)) {arr : Array Value} (hc : At w b off arr.toList) (hl : arr.size = 4)
    (hK : wpList Tryd.prog ops Q rest (a.put o.dst (.agg arr)) w) : wpList Tryd.prog ops Q (o :: rest) a w :=
  gload_at hw _ x ho b off hx arr.toList _ hc Tryd.underlying25 rfl (by rw [info_nd, Array.length_toList, hl]) hK

theorem NdIs.size {w : World} {arr : Array Value} {n : Nd} (h : NdIs w arr n) : arr.size = 4 := by
  obtain ⟨_, _, _, rfl, _⟩ := h
  rfl
theorem At_nd {w : World} {b : Nat} {arr : Array Value} {t : TypeId} (hb : w.heap[b]? = some (.cells arr t (0, 0))) : At w b 0 arr.toList := At.of_row (by simpa using hb)

end Go.Proofs.YtdmgmpagnmmehaaDoor
