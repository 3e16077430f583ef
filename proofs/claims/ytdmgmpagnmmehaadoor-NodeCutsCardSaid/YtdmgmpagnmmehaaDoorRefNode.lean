/- Walks: the reference's Size, Check and Put of a node. -/
import Derived.Test.YtdmgmpagnmmehaaDoorRefBytesB
import Derived.Test.YtdmgmpagnmmehaaDoorRefFormB
import Derived.Test.YtdmgmpagnmmehaaDoorCopy
namespace Go.Proofs.YtdmgmpagnmmehaaDoor
open Go.RowKit

theorem NdIs.wf {w : World} {arr : Array Value} {n : Nd} (h : NdIs w arr n) : ∀ p ∈ n.kids, p.Wf := by
  obtain ⟨_, _, _, _, _, _, h3⟩ := h
  exact h3.wf

theorem make_u8' {w : World} {ops : Array Oper} {rest : List Oper} {o : Oper} {a : Act} {Q : Exit → Act → World → Prop}
    (hg : o.guard = none) (l c : Operand) (hop : o.op = Op.makeSlice 28 l c) (n : Nat) (hl : a.eval l = .int .i64 (n : Int)) (hc : a.eval c = .int .i64 (n : Int)) (hn : n ≤ 140737488351232) (Z : List UInt8) (hZ : Z = List.replicate n 0)
    (hK : ∀ w', w'.ownsRow w.heap.size 5 1 (.slice (some ⟨w.heap.size, 0, none⟩) n n) n (Z.map Bv) → Below w.heap.size w w' → wpList Tryd.prog ops Q rest (a.put o.dst (.slice (some ⟨w.heap.size, 0, none⟩) n n)) w') :
    wpList Tryd.prog ops Q (o :: rest) a w := by
  subst hZ
  exact make_u8 hg l c hop n hl hc hn hK

theorem row_full {w : World} {base e g n : Nat} {xs : List Value} (h : w.ownsRow base e 1 (.slice (some ⟨g, 0, none⟩) n n) n xs) : w.heap[g]? = some (.cells xs.toArray e (0, 0)) := by
  obtain ⟨hl, h2⟩ := h
  rcases h2 with ⟨h0, _⟩ | ⟨g', cap, cur, hs, hb, hg, hnc, hcm, hcs, htake⟩
  · cases h0
  · simp only [Value.slice.injEq, Option.some.injEq, Addr.mk.injEq, and_true, true_and] at hs
    obtain ⟨rfl, rfl⟩ := hs
    have e1 : cur = xs.toArray := by
      apply Array.toList_inj.1
      rw [← htake, List.take_of_length_le (by simp [hcs])]
    rw [hg, e1]

end Go.Proofs.YtdmgmpagnmmehaaDoor

namespace Go.Proofs.YtdmgmpagnmmehaaDoor
open Go.RowKit

theorem checkE_zero3 {n : Nd} (h : checkE n = 0) : formB n = true ∧ sizeN n ≤ 512 := by
  cases hf : formB n with
  | false => rw [checkE_bad hf] at h; cases h
  | true =>
    refine ⟨rfl, Nat.not_lt.1 fun h2 => ?_⟩
    rw [checkE_full hf h2] at h; cases h

/-- A Put that went as the reference's. -/
def PutPost (n : Nd) (w : World) (e : Ending) (w' : World) : Prop :=
  ∃ v xs L, e = .returned (.tuple #[v, .int .i64 (checkE n)]) ∧ Sl w' 1 v L (xs.map Bv) ∧ xs = (if checkE n = 0 then bytesN n ++ List.replicate (512 - sizeN n) 0 else []) ∧ Below w.heap.size w w'

theorem putAny (arr : Array Value) (n : Nd) (w : World) (h : NdIs w arr n) (hf : n.Fits) : Calls Tryd.prog 10 #[.agg arr] w (PutPost n w) := by
  by_cases hc : checkE n = 0
  · obtain ⟨h1, h2⟩ := checkE_zero3 hc
    refine (put_ok arr n w h hf h1 h2).mono ?_
    rintro e w' ⟨aa, cc, rfl, ho, hb⟩
    exact ⟨_, _, 512, by rw [hc], Sl.own ho, by rw [if_pos hc], hb⟩
  · refine (put_bad arr n w h hf hc).mono ?_
    rintro e w' ⟨rfl, hb⟩
    exact ⟨_, _, 0, rfl, Sl.nil _ _, by rw [if_neg hc], hb⟩
end Go.Proofs.YtdmgmpagnmmehaaDoor
