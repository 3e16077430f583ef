/- Walk: banyanlaw07's alive. -/
import Derived.Test.YtdmgmpagnmmehaaDoorCodecB
namespace Go.Proofs.YtdmgmpagnmmehaaDoor
open Go.RowKit

/-- A new Writer. -/
theorem Wr.new (w : World) (B : Nat) : Wr (w.alloc (.cells #[.slice none 0 0] 69)) B w.heap.size none [] :=
  ⟨_, heap_alloc_new _ _, World.ownsRow_nil _ _ _ _, rfl⟩

theorem Laid.below {w w' : World} {base b B : Nat} {row : Option Nat} {xs : List UInt8} (h : Laid w w' base b row xs) (hB : B ≤ w.heap.size) (h1 : B ≤ b) (h2 : ∀ k, row = some k → B ≤ k) : Below B w w' := by
  obtain ⟨_, _, hf, _⟩ := h
  exact hf.below hB (fun k hk => hk.elim (fun e => e ▸ h1) (h2 k))

theorem Sl_lit (w : World) (cs : Array Value) (xs : List UInt8) (n : Nat) (hn : n = xs.length) (hcs : cs.toList = xs.map Bv) (hm : n ≤ maxLen) : Sl (w.alloc (.cells cs 5)) 1 (.slice (some ⟨w.heap.size, 0, none⟩) n n) n (xs.map Bv) := by
  have := World.ownsRow_lit (e := 5) (size := 1) (base := w.heap.size) w cs n (Nat.le_refl _) hm (by rw [Nat.mul_one, hn, ← Array.length_toList, hcs]; simp)
  rw [hcs] at this
  exact Sl.own this

end Go.Proofs.YtdmgmpagnmmehaaDoor
