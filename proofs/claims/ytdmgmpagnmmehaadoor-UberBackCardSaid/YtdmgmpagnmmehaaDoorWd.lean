/- A region that draws its order, whose operations read what was there and whose callees lay new memory alone: one walk, in the order of the text. Over any program. -/
import Derived.Test.YtdmgmpagnmmehaaDoorRegion
namespace Go.Proofs.YtdmgmpagnmmehaaDoor
open Go.RowKit

/-- A world behind w in which all below B lies as it lay. -/
structure Wd (B : Nat) (w : World) where
  to : World
  hb : Below B w to
instance (B : Nat) (w : World) : Nonempty (Wd B w) := ⟨⟨w, Below.refl B w⟩⟩

theorem Wd.cell {B : Nat} {w : World} (u : Wd B w) {p : Addr} {v : Value} (h : w.cell? p = some v) (hp : p.block < B) : u.to.cell? p = some v := (u.hb.cell hp).trans h
theorem Wd.at {w : World} (u : Wd w.heap.size w) {b o : Nat} {l : List Value} (h : At w b o l) : At u.to b o l := fun i v hi => u.cell (h i v hi) (World.block_lt_of_cell? w ⟨b, o + i, none⟩ (h i v hi))
theorem Wd.cell' {w : World} (u : Wd w.heap.size w) {p : Addr} {v : Value} (h : w.cell? p = some v) : u.to.cell? p = some v := u.cell h (World.block_lt_of_cell? w p h)

section
variable {P : Program} {ops : Array Oper}

theorem wp_region_wd {id : Nat} {Q : Exit → Act → World → Prop} {a : Act} {w : World} {l : List Oper} (B : Nat) (hm : P.follows .mixedOrders = true) (hB : Region.lexB .any l.toArray = true)
    (h : wpQuiet P l.toArray (fun w' => ∃ u : Wd B w, w' = u.to) (fun a' => ∀ w', (∃ u : Wd B w, w' = u.to) → Q .normal a' w') l a) : (Code.region id l.toArray true).wp P Q a w :=
  wp_region_quiet (C := fun w' => ∃ u : Wd B w, w' = u.to) hm hB ⟨⟨{ w with drawn := w.drawn + 1 }, (Below.refl B w).drew⟩, rfl⟩ (by simpa using h)

theorem Calls.wd {f : FuncId} {args : Array Value} {w : World} {B : Nat} {v : Value} (u : Wd B w) (hB : B ≤ w.heap.size) (h : Calls P f args u.to fun e w' => e = .returned v ∧ Below u.to.heap.size u.to w') :
    Calls P f args u.to fun e w'' => e = .returned v ∧ ∃ u' : Wd B w, w'' = u'.to :=
  h.mono fun _ w' ⟨he, hb⟩ => ⟨he, ⟨w', u.hb.trans (hb.mono (Nat.le_trans hB u.hb.size))⟩, rfl⟩
theorem Calls.wd_same {f : FuncId} {args : Array Value} {w : World} {B : Nat} {v : Value} (u : Wd B w) (h : Calls P f args u.to fun e w' => e = .returned v ∧ u.to = w') :
    Calls P f args u.to fun e w'' => e = .returned v ∧ ∃ u' : Wd B w, w'' = u'.to :=
  h.mono fun _ _ ⟨he, hb⟩ => ⟨he, u, hb.symm⟩

/-- A struct or an array, read at an address. -/
theorem wpQuiet_load_at {C : World → Prop} {Q : Act → Prop} {rest : List Oper} {o : Oper} {a : Act} (hw : Region.wanted o (yielded ops a.tmps) = true) (ty : TypeId) (x : Operand) (ho : o.op = .load ty x)
    (b off : Nat) (hx : a.eval x = .pointer (some ⟨b, off, none⟩)) (cs : List Value) (d : TypeDesc) (hc : ∀ w', C w' → At w' b off cs)
    (hu : P.underlying ty = some d) (hd : (match d with | .struct _ | .array _ _ => true | _ => false) = true) (hi : (P.info? ty).map (·.size) = some cs.length)
    (h : wpQuiet P ops C Q rest (a.put o.dst (.agg cs.toArray))) : wpQuiet P ops C Q (o :: rest) a :=
  BigFrame.wpQuiet_want hw fun K hK => ⟨.agg cs.toArray, fun w' hw' => by
    unfold Oper.quietAt execOp
    simp only [ho, hx, Instr.loadAt, Instr.sureAddr, Sem.run_bind, Sem.run_pure, Result.andThen_ok, run_loadVar_at w' b off ty cs d (hc w' hw') hu hd hi]
    exact ⟨rfl, rfl⟩, hK _ h⟩
end

end Go.Proofs.YtdmgmpagnmmehaaDoor
