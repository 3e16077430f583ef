/- How an api.Node reads that came in. How an uber, and banyanlaw10's structs, as parameters, read. -/
import Derived.Test.YtdmjnopjnaoepaaDoorB7
import Derived.Test.YtdmjnopjnaoepaaDoorB14
namespace Go.Proofs.YtdmjnopjnaoepaaDoor
open Go.ChangeShapes Go.WideShapes Go.ChangeAt Go.RowKit Go.Deep

theorem cells_ptr : Tryd.prog.cellsOf 28 = 34 := by kernel_rfl
theorem bytes_ptr : Tryd.prog.bytesOf 28 = 48 := by kernel_rfl
theorem bytes_str : Tryd.prog.bytesOf 9 = 16 := by kernel_rfl
theorem cells_bool : Tryd.prog.cellsOf 4 = 1 := by kernel_rfl
theorem cells_u32 : Tryd.prog.cellsOf 24 = 1 := by kernel_rfl
section
variable {H : Type} {enc : TypeId × Value → H} {W : World} {fuel : Nat} {cs : List Value} {x : DataW H × List MemPlace}

theorem open_str (h : DataW.trod enc Tryd.prog W 0 (fun _ => true) true fuel 9 cs = some x) (hl : Light 9 x.1) : ∃ s : ByteArray, cs = [.string s] ∧ s.size ≤ 140737488351232 := by
  obtain ⟨s, c3, h3, -⟩ := DataW.trod_string Tryd.underlying9 h
  refine ⟨s, c3, ?_⟩
  have := hl s.data.toList.length (by rw [h3]; simp [DataW.weights])
  simpa [reachBytes] using this

set_option maxRecDepth 100000 in
theorem open_pt (h : DataW.trod enc Tryd.prog W 0 (fun _ => true) true fuel 28 cs = some x) : ∃ p : Pt, p.Wf ∧ cs = p.cells := by
  obtain ⟨xs, n, rfl, hx, hlen, hxl, hf⟩ := DataW.trod_struct Tryd.underlying28 h
  rw [cells_ptr] at hlen
  have hxl' : xs.length = 3 := hxl
  have e0 : DataW.trod enc Tryd.prog W 0 (fun _ => true) true n 24 ((cs.drop 0).take (Tryd.prog.cellsOf 24)) = xs[0]? := hf 0 _ rfl
  have e1 : DataW.trod enc Tryd.prog W 0 (fun _ => true) true n 23 ((cs.drop 1).take (Tryd.prog.cellsOf 23)) = xs[1]? := hf 1 _ rfl
  have e2 : DataW.trod enc Tryd.prog W 0 (fun _ => true) true n 26 ((cs.drop 2).take (Tryd.prog.cellsOf 26)) = xs[2]? := hf 2 _ rfl
  rw [cells_u32] at e0
  rw [cells_u64] at e1
  rw [cells_hash] at e2
  match xs, hxl' with
  | [x0, x1, x2], _ =>
  obtain ⟨k0, c0, -, w0⟩ := DataW.trod_int Tryd.underlying24 e0
  obtain ⟨k1, c1, -, w1⟩ := DataW.trod_int Tryd.underlying23 e1
  obtain ⟨hs, hh, c2⟩ := open_hash e2
  have b0 := bounds_u32 w0
  have b1 := bounds_u64 w1
  obtain ⟨n0, rfl⟩ := Int.eq_ofNat_of_zero_le b0.1
  obtain ⟨n1, rfl⟩ := Int.eq_ofNat_of_zero_le b1.1
  refine ⟨⟨n0, n1, hs⟩, ⟨by simp only; omega, by simp only; omega, hh⟩, ?_⟩
  have g0 := drop_take_one c0
  have g1 := drop_take_one c1
  unfold Pt.cells
  apply List.ext_getElem?
  intro i
  rcases i with _ | _ | i
  · simpa using g0
  · simpa using g1
  · simp only [List.getElem?_cons_succ]
    rw [← c2]
    by_cases hi : i < 32
    · rw [List.getElem?_take, if_pos hi, List.getElem?_drop]; congr 1; omega
    · rw [List.getElem?_eq_none (by omega), List.getElem?_eq_none (by simp; omega)]

end
end Go.Proofs.YtdmjnopjnaoepaaDoor
namespace Go.Proofs.YtdmjnopjnaoepaaDoor
open Go.RowKit Go.ChangeShapes Go.WideShapes

theorem cells_ub : Tryd.prog.cellsOf 30 = 36 := by kernel_rfl
section
variable {H : Type} {enc : TypeId × Value → H} {W : World} {fuel : Nat} {cs : List Value} {x : DataW H × List MemPlace}

set_option maxRecDepth 100000 in
theorem open_ub (h : DataW.trod enc Tryd.prog W 0 (fun _ => true) true fuel 30 cs = some x) : ∃ u : Ub, u.Wf ∧ cs = u.cells := by
  obtain ⟨xs, n, rfl, hx, hlen, hxl, hf⟩ := DataW.trod_struct Tryd.underlying30 h
  rw [cells_ub] at hlen
  have hxl' : xs.length = 3 := hxl
  have e0 : DataW.trod enc Tryd.prog W 0 (fun _ => true) true n 23 ((cs.drop 0).take (Tryd.prog.cellsOf 23)) = xs[0]? := hf 0 _ rfl
  have e1 : DataW.trod enc Tryd.prog W 0 (fun _ => true) true n 24 ((cs.drop 1).take (Tryd.prog.cellsOf 24)) = xs[1]? := hf 1 _ rfl
  have e2 : DataW.trod enc Tryd.prog W 0 (fun _ => true) true n 28 ((cs.drop 2).take (Tryd.prog.cellsOf 28)) = xs[2]? := hf 2 _ rfl
  rw [cells_u64] at e0
  rw [cells_u32] at e1
  rw [cells_ptr] at e2
  match xs, hxl' with
  | [x0, x1, x2], _ =>
  obtain ⟨k0, c0, -, w0⟩ := DataW.trod_int Tryd.underlying23 e0
  obtain ⟨k1, c1, -, w1⟩ := DataW.trod_int Tryd.underlying24 e1
  obtain ⟨p, hp, c2⟩ := open_pt e2
  have b0 := bounds_u64 w0
  have b1 := bounds_u32 w1
  obtain ⟨n0, rfl⟩ := Int.eq_ofNat_of_zero_le b0.1
  obtain ⟨n1, rfl⟩ := Int.eq_ofNat_of_zero_le b1.1
  refine ⟨⟨n0, n1, p⟩, ⟨by simp only; omega, by simp only; omega, hp⟩, ?_⟩
  have g0 := drop_take_one c0
  have g1 := drop_take_one c1
  unfold Ub.cells
  apply List.ext_getElem?
  intro i
  rcases i with _ | _ | i
  · simpa using g0
  · simpa using g1
  · simp only [List.getElem?_cons_succ]
    rw [← c2]
    by_cases hi : i < 34
    · rw [List.getElem?_take, if_pos hi, List.getElem?_drop]; congr 1; omega
    · rw [List.getElem?_eq_none (by omega), List.getElem?_eq_none (by rw [List.length_take, List.length_drop]; omega)]
end
section
variable {H : Type} {enc : TypeId × Value → H} {W : World} {fuel : Nat} {cs : List Value} {x : DataW H × List MemPlace}
end

section
variable {H : Type} {enc : TypeId × Value → H} {W : World} {fuel : Nat} {cs : List Value} {x : DataW H × List MemPlace}
end
end Go.Proofs.YtdmjnopjnaoepaaDoor
