/- How an uber, and banyanlaw10's structs, as parameters, read. -/
import Derived.Test.YtdmgmpagnmmehaaDoorOpenNode
import Derived.Test.YtdmgmpagnmmehaaDoorUber
namespace Go.Proofs.YtdmgmpagnmmehaaDoor
open Go.RowKit Go.ChangeShapes Go.WideShapes

theorem cells_ub : Tryd.prog.cellsOf 49 = 36 := by kernel_rfl
theorem cells_u16 : Tryd.prog.cellsOf 26 = 1 := by kernel_rfl
section
variable {H : Type} {enc : TypeId × Value → H} {W : World} {fuel : Nat} {cs : List Value} {x : DataW H × List MemPlace}

set_option maxRecDepth 100000 in
theorem open_ub (h : DataW.trod enc Tryd.prog W 0 (fun _ => true) true fuel 49 cs = some x) : ∃ u : Ub, u.Wf ∧ cs = u.cells := by
  obtain ⟨xs, n, rfl, hx, hlen, hxl, hf⟩ := DataW.trod_struct Tryd.underlying49 h
  rw [cells_ub] at hlen
  have hxl' : xs.length = 3 := hxl
  have e0 : DataW.trod enc Tryd.prog W 0 (fun _ => true) true n 42 ((cs.drop 0).take (Tryd.prog.cellsOf 42)) = xs[0]? := hf 0 _ rfl
  have e1 : DataW.trod enc Tryd.prog W 0 (fun _ => true) true n 43 ((cs.drop 1).take (Tryd.prog.cellsOf 43)) = xs[1]? := hf 1 _ rfl
  have e2 : DataW.trod enc Tryd.prog W 0 (fun _ => true) true n 47 ((cs.drop 2).take (Tryd.prog.cellsOf 47)) = xs[2]? := hf 2 _ rfl
  rw [cells_u64] at e0
  rw [cells_u32] at e1
  rw [cells_ptr] at e2
  match xs, hxl' with
  | [x0, x1, x2], _ =>
  obtain ⟨k0, c0, -, w0⟩ := DataW.trod_int Tryd.underlying42 e0
  obtain ⟨k1, c1, -, w1⟩ := DataW.trod_int Tryd.underlying43 e1
  obtain ⟨p, hp, c2⟩ := open_pt e2
  have b0 := bounds_u64 w0
  have b1 := bounds_u32 w1
  obtain ⟨n0, rfl⟩ := Int.eq_ofNat_of_zero_le b0.1
  obtain ⟨n1, rfl⟩ := Int.eq_ofNat_of_zero_le b1.1
  refine ⟨⟨n0, n1, p⟩, ⟨by simp only; omega, by simp only; omega, hp⟩, ?_⟩
  have g0 := drop_take_one c0
  have g1 := drop_take_one c1
  unfold Ub.cells
  apply List.ext_getElem?
  intro i
  rcases i with _ | _ | i
  · simpa using g0
  · simpa using g1
  · simp only [List.getElem?_cons_succ]
    rw [← c2]
    by_cases hi : i < 34
    · rw [List.getElem?_take, if_pos hi, List.getElem?_drop]; congr 1; omega
    · rw [List.getElem?_eq_none (by omega), List.getElem?_eq_none (by rw [List.length_take, List.length_drop]; omega)]
end
theorem cells_newer : Tryd.prog.cellsOf 61 = 4 := by kernel_rfl
section
variable {H : Type} {enc : TypeId × Value → H} {W : World} {fuel : Nat} {cs : List Value} {x : DataW H × List MemPlace}
set_option maxRecDepth 100000 in
theorem open_newer (h : DataW.trod enc Tryd.prog W 0 (fun _ => true) true fuel 61 cs = some x) (hl : Light 61 x.1) :
    ∃ (vk vr : Value) (a b : Nat) (key r : List UInt8), cs = [vk, .int .u64 (a : Int), .int .u64 (b : Int), vr] ∧ Sl W 1 vk key.length (key.map Bv) ∧ Sl W 1 vr r.length (r.map Bv) ∧ a < 18446744073709551616 ∧ b < 18446744073709551616 := by
  obtain ⟨xs, n, rfl, hx, hlen, hxl, hf⟩ := DataW.trod_struct Tryd.underlying61 h
  rw [cells_newer] at hlen
  have hxl' : xs.length = 4 := hxl
  have e0 : DataW.trod enc Tryd.prog W 0 (fun _ => true) true n 28 ((cs.drop 0).take (Tryd.prog.cellsOf 28)) = xs[0]? := hf 0 _ rfl
  have e1 : DataW.trod enc Tryd.prog W 0 (fun _ => true) true n 42 ((cs.drop 1).take (Tryd.prog.cellsOf 42)) = xs[1]? := hf 1 _ rfl
  have e2 : DataW.trod enc Tryd.prog W 0 (fun _ => true) true n 42 ((cs.drop 2).take (Tryd.prog.cellsOf 42)) = xs[2]? := hf 2 _ rfl
  have e3 : DataW.trod enc Tryd.prog W 0 (fun _ => true) true n 28 ((cs.drop 3).take (Tryd.prog.cellsOf 28)) = xs[3]? := hf 3 _ rfl
  rw [cells_bytes] at e0 e3
  rw [cells_u64] at e1 e2
  match xs, hxl' with
  | [x0, x1, x2, x3], _ =>
  have hlw : ∀ n ∈ DataW.weightsEach Tryd.prog [28, 42, 42, 28] [x0.1, x1.1, x2.1, x3.1], n ≤ reachBytes := by
    intro n hn
    refine hl n ?_
    rw [hx]
    simpa [DataW.weights, Tryd.underlying61] using hn
  obtain ⟨v0, bs0, c0, s0, -⟩ := open_bytes e0 (weights_part hlw (j := 0) rfl rfl)
  obtain ⟨k1, c1, -, w1⟩ := DataW.trod_int Tryd.underlying42 e1
  obtain ⟨k2, c2, -, w2⟩ := DataW.trod_int Tryd.underlying42 e2
  obtain ⟨v3, bs3, c3, s3, -⟩ := open_bytes e3 (weights_part hlw (j := 3) rfl rfl)
  have b1 := bounds_u64 w1
  have b2 := bounds_u64 w2
  obtain ⟨n1, rfl⟩ := Int.eq_ofNat_of_zero_le b1.1
  obtain ⟨n2, rfl⟩ := Int.eq_ofNat_of_zero_le b2.1
  have g0 := drop_take_one c0
  have g1 := drop_take_one c1
  have g2 := drop_take_one c2
  have g3 := drop_take_one c3
  refine ⟨v0, v3, n1, n2, bs0, bs3, ?_, s0, s3, by omega, by omega⟩
  apply List.ext_getElem?
  intro i
  rcases i with _ | _ | _ | _ | i
  · simpa using g0
  · simpa using g1
  · simpa using g2
  · simpa using g3
  · rw [List.getElem?_eq_none (by omega), List.getElem?_eq_none (by simp)]
end

theorem cells_turned : Tryd.prog.cellsOf 55 = 39 := by kernel_rfl
section
variable {H : Type} {enc : TypeId × Value → H} {W : World} {fuel : Nat} {cs : List Value} {x : DataW H × List MemPlace}
set_option maxRecDepth 100000 in
theorem open_turned (h : DataW.trod enc Tryd.prog W 0 (fun _ => true) true fuel 55 cs = some x) (hl : Light 55 x.1) :
    ∃ (vk : Value) (u : Ub) (i t : Nat) (key : List UInt8), cs = vk :: (u.cells ++ [.int .u16 (i : Int), .int .u8 (t : Int)]) ∧ Sl W 1 vk key.length (key.map Bv) ∧ key.length ≤ 140737488351232 ∧ u.Wf ∧ i < 65536 ∧ t < 256 := by
  obtain ⟨xs, n, rfl, hx, hlen, hxl, hf⟩ := DataW.trod_struct Tryd.underlying55 h
  rw [cells_turned] at hlen
  have hxl' : xs.length = 4 := hxl
  have e0 : DataW.trod enc Tryd.prog W 0 (fun _ => true) true n 28 ((cs.drop 0).take (Tryd.prog.cellsOf 28)) = xs[0]? := hf 0 _ rfl
  have e1 : DataW.trod enc Tryd.prog W 0 (fun _ => true) true n 49 ((cs.drop 1).take (Tryd.prog.cellsOf 49)) = xs[1]? := hf 1 _ rfl
  have e2 : DataW.trod enc Tryd.prog W 0 (fun _ => true) true n 26 ((cs.drop 37).take (Tryd.prog.cellsOf 26)) = xs[2]? := hf 2 _ rfl
  have e3 : DataW.trod enc Tryd.prog W 0 (fun _ => true) true n 5 ((cs.drop 38).take (Tryd.prog.cellsOf 5)) = xs[3]? := hf 3 _ rfl
  rw [cells_bytes] at e0
  rw [cells_ub] at e1
  rw [cells_u16] at e2
  rw [cells_u8] at e3
  match xs, hxl' with
  | [x0, x1, x2, x3], _ =>
  have hlw : ∀ n ∈ DataW.weightsEach Tryd.prog [28, 49, 26, 5] [x0.1, x1.1, x2.1, x3.1], n ≤ reachBytes := by
    intro n hn
    refine hl n ?_
    rw [hx]
    simpa [DataW.weights, Tryd.underlying55] using hn
  obtain ⟨v0, bs0, c0, s0, l0⟩ := open_bytes e0 (weights_part hlw (j := 0) rfl rfl)
  obtain ⟨u, hu, c1⟩ := open_ub e1
  obtain ⟨k2, c2, -, w2⟩ := DataW.trod_int Tryd.underlying26 e2
  obtain ⟨k3, c3, -, w3⟩ := DataW.trod_int Tryd.underlying5 e3
  have b2 := bounds_u16 w2
  have b3 := bounds_u8 w3
  obtain ⟨n2, rfl⟩ := Int.eq_ofNat_of_zero_le b2.1
  obtain ⟨n3, rfl⟩ := Int.eq_ofNat_of_zero_le b3.1
  have g0 := drop_take_one c0
  have g2 := drop_take_one c2
  have g3 := drop_take_one c3
  refine ⟨v0, u, n2, n3, bs0, ?_, s0, l0, hu, by omega, by omega⟩
  have hul := hu.len
  apply List.ext_getElem?
  intro i
  rcases i with _ | i
  · simpa using g0
  · rw [List.getElem?_cons_succ]
    by_cases hi : i < 36
    · rw [List.getElem?_append_left (by omega), ← c1, List.getElem?_take, if_pos hi, List.getElem?_drop]; congr 1; omega
    · rw [List.getElem?_append_right (by omega), hul]
      obtain ⟨j, rfl⟩ : ∃ j, i = 36 + j := ⟨i - 36, by omega⟩
      rw [show 36 + j - 36 = j by omega]
      rcases j with _ | _ | j
      · simpa using g2
      · simpa using g3
      · rw [List.getElem?_eq_none (by omega), List.getElem?_eq_none (by simp)]
end
end Go.Proofs.YtdmgmpagnmmehaaDoor
