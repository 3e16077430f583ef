/- What an act is, and what laying one gives; the walk of laying one into a Writer. -/
import Derived.Test.YtdmgmpagnmmehaaDoorCodecC
namespace Go.Proofs.YtdmgmpagnmmehaaDoor
open Go.RowKit

/-- An act, as data. -/
structure Ac where
  kind : Int
  size : Int
  n : Nat
  s : ByteArray
  h : List UInt8
  b : List UInt8

/-- The bytes behind an act, and the error. -/
def layB (xs : List UInt8) (a : Ac) : List UInt8 :=
  if a.kind = 1 then (if 255 < a.s.size then xs else xs ++ strB a.s)
  else if a.kind = 2 then xs ++ a.h
  else if a.kind = 3 then xs ++ a.b
  else if a.kind = 4 then (if 65536 < a.size ∨ a.size < xs.length then xs else xs ++ List.replicate (a.size.toNat - xs.length) 0)
  else if a.size < 0 ∨ 8 < a.size ∨ 0 < a.n / 256 ^ a.size.toNat then xs else xs ++ putB a.n a.size.toNat
def layE (xs : List UInt8) (a : Ac) : Int :=
  if a.kind = 1 then (if 255 < a.s.size then 2 else 0)
  else if a.kind = 2 then 0
  else if a.kind = 3 then 0
  else if a.kind = 4 then (if 65536 < a.size ∨ a.size < xs.length then 2 else 0)
  else if a.size < 0 ∨ 8 < a.size ∨ 0 < a.n / 256 ^ a.size.toNat then 2 else 0

/-- An act's cells. -/
structure AcIs (w : World) (arr : Array Value) (a : Ac) : Prop where
  cells : ∃ v, arr.toList = [.int .i64 a.kind, .int .i64 a.size, .int .u64 (a.n : Int), .string a.s] ++ a.h.map Bv ++ [v] ∧ Sl w 1 v a.b.length (a.b.map Bv)
  hash : a.h.length = 32
  num : a.n < 18446744073709551616

theorem AcIs.fr {w w' : World} {arr : Array Value} {a : Ac} (h : AcIs w arr a) (hf : ∀ v, Sl w 1 v a.b.length (a.b.map Bv) → Sl w' 1 v a.b.length (a.b.map Bv)) : AcIs w' arr a := by
  obtain ⟨⟨v, h1, h2⟩, h3, h4⟩ := h
  exact ⟨⟨v, h1, hf v h2⟩, h3, h4⟩
theorem AcIs.size {w : World} {arr : Array Value} {a : Ac} (h : AcIs w arr a) : arr.size = 37 := by
  obtain ⟨⟨v, h1, h2⟩, h3, h4⟩ := h
  rw [← Array.length_toList, h1]; simp [h3]
/-- Its fields, each as the walk reads it. -/
theorem AcIs.get {w : World} {arr : Array Value} {a : Ac} (h : AcIs w arr a) : ∃ v, arr[0]? = some (.int .i64 a.kind) ∧ arr[1]? = some (.int .i64 a.size) ∧ arr[2]? = some (.int .u64 (a.n : Int)) ∧ arr[3]? = some (.string a.s) ∧ arr[36]? = some v ∧
    Sl w 1 v a.b.length (a.b.map Bv) ∧ (∀ i u, (a.h.map Bv)[i]? = some u → arr[4 + i]? = some u) := by
  obtain ⟨⟨v, h1, h2⟩, h3, h4⟩ := h
  have e : ∀ i : Nat, arr[i]? = ([.int .i64 a.kind, .int .i64 a.size, .int .u64 (a.n : Int), .string a.s] ++ a.h.map Bv ++ [v])[i]? := by
    intro i; rw [← h1]; simp
  refine ⟨v, by rw [e]; rfl, by rw [e]; rfl, by rw [e]; rfl, by rw [e]; rfl, ?_, h2, ?_⟩
  · rw [e, List.getElem?_append_right (by simp [h3])]
    simp [h3]
  · intro i u hu
    rw [e, List.getElem?_append_left (by have := (List.getElem?_eq_some_iff.1 hu).1; simp at this ⊢; omega), List.getElem?_append_right (by simp)]
    simpa using hu

theorem info_hash : (Tryd.prog.info? 45).map (·.size) = some 32 := by kernel_rfl

/-- An array of bytes, read at an address. -/
theorem load_hash {ops : Array Oper} {rest : List Oper} {o : Oper} {a : Act} {w : World} {Q : Exit → Act → World → Prop} (hgd : o.guard = none) (x : Operand) (ho : o.op = .load 45 x)
    {b off : Nat} (hx : a.eval x = .pointer (some ⟨b, off, none⟩)) {h : List UInt8} (hc : At w b off (h.map Bv)) (hl : h.length = 32)
    (hK : wpList Tryd.prog ops Q rest (a.put o.dst (.agg (h.map Bv).toArray)) w) : wpList Tryd.prog ops Q (o :: rest) a w :=
  wpList_load_at hgd _ x ho b off hx (h.map Bv) _ hc Tryd.underlying45 rfl (by rw [info_hash]; simp [hl]) hK

theorem Laid.alloc {w w' : World} {o : Obj} {base b : Nat} {row : Option Nat} {xs : List UInt8} (h : Laid (w.alloc o) w' base b row xs) : Laid w w' base b row xs := by
  obtain ⟨row', a1, a2, a3⟩ := h
  exact ⟨row', a1, ((Fr.refl _ w).alloc _).trans a2, fun k hk => (a3 k hk).imp id (fun h => by simp at h; omega)⟩
theorem Laid.none {w w' : World} {base b : Nat} {row : Option Nat} {xs : List UInt8} (h : Wr w base b row xs) (hf : Fr (WS b row) w w') (hw : w'.heap = w.heap ∨ Wr w' base b row xs) : Laid w w' base b row xs :=
  ⟨row, hw.elim (fun e => by obtain ⟨v, h1, h2, h3⟩ := h; exact ⟨v, by rw [e]; exact h1, by simpa only [World.ownsRow, e] using h2, h3⟩) id, hf, fun k hk => Or.inl hk⟩

end Go.Proofs.YtdmgmpagnmmehaaDoor
