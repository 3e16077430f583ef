/- How an api.Node reads that came in. -/
import Derived.Test.YtdmgmpagnmmehaaDoorOpenCells
import Derived.Test.YtdmgmpagnmmehaaDoorNodeB
namespace Go.Proofs.YtdmgmpagnmmehaaDoor
open Go.ChangeShapes Go.WideShapes Go.ChangeAt Go.RowKit Go.Deep

theorem cells_ptr : Tryd.prog.cellsOf 47 = 34 := by kernel_rfl
theorem bytes_ptr : Tryd.prog.bytesOf 47 = 48 := by kernel_rfl
theorem bytes_str : Tryd.prog.bytesOf 9 = 16 := by kernel_rfl
theorem cells_node : Tryd.prog.cellsOf 25 = 4 := by kernel_rfl
theorem cells_bool : Tryd.prog.cellsOf 4 = 1 := by kernel_rfl
theorem cells_u32 : Tryd.prog.cellsOf 43 = 1 := by kernel_rfl
theorem cells_strs : Tryd.prog.cellsOf 22 = 1 := by kernel_rfl
theorem cells_ptrs : Tryd.prog.cellsOf 23 = 1 := by kernel_rfl

section
variable {H : Type} {enc : TypeId × Value → H} {W : World} {fuel : Nat} {cs : List Value} {x : DataW H × List MemPlace}

theorem open_str (h : DataW.trod enc Tryd.prog W 0 (fun _ => true) true fuel 9 cs = some x) (hl : Light 9 x.1) : ∃ s : ByteArray, cs = [.string s] ∧ s.size ≤ 140737488351232 := by
  obtain ⟨s, c3, h3, -⟩ := DataW.trod_string Tryd.underlying9 h
  refine ⟨s, c3, ?_⟩
  have := hl s.data.toList.length (by rw [h3]; simp [DataW.weights])
  simpa [reachBytes] using this

theorem open_strs (h : DataW.trod enc Tryd.prog W 0 (fun _ => true) true fuel 22 cs = some x) (hl : Light 22 x.1) :
    ∃ (v : Value) (l : List ByteArray), cs = [v] ∧ StrsIn W v l ∧ l.length ≤ 140737488351232 ∧ ∀ s ∈ l, s.size ≤ 140737488351232 := by
  rcases open_slice Tryd.underlying22 h with ⟨rfl, _⟩ | ⟨a, len, cap, m, n, D, Pl, rfl, _, hlc, hm, hmm, hx, hel⟩
  · exact ⟨_, [], rfl, Sl.nil W 1, by simp, by simp⟩
  · simp only [if_true] at hmm
    subst hmm
    have hw : ∀ n ∈ ((len + (m - len)) * 16 :: (DataW.weightsAll Tryd.prog 9 ((List.range len).map D) ++ DataW.weightsAll Tryd.prog 9 ((List.range (m - len)).map fun j => D (len + j)))), n ≤ reachBytes := by
      intro n hn
      refine hl n ?_
      rw [hx]
      simpa [DataW.weights, Tryd.underlying22, bytes_str] using hn
    have hreach : len ≤ 140737488351232 := by
      have := hw _ (List.mem_cons_self ..)
      simp only [reachBytes] at this
      omega
    have hD : ∀ i, i < len → Light 9 (D i) := by
      intro i hi n hn
      refine hw n (List.mem_cons_of_mem _ (List.mem_append_left _ ?_))
      exact weightsAll_mem (List.mem_map.2 ⟨i, List.mem_range.2 hi, rfl⟩) hn
    have each : ∀ i, i < len → ∃ p : ByteArray × Nat × Nat, a = ⟨p.2.1, p.2.2, none⟩ ∧ W.cell? ⟨p.2.1, p.2.2 + i, none⟩ = some (.string p.1) ∧ p.1.size ≤ 140737488351232 := by
      intro i hi
      obtain ⟨cs', hc, ht⟩ := hel i (by omega)
      obtain ⟨s, rfl, hbd⟩ := open_str ht (hD i hi)
      have hsp := cells?_spot hel (by omega : 0 < m) (by rw [cells_string]; decide)
      obtain ⟨b, o, sp⟩ := a
      simp only at hsp
      subst hsp
      rw [cells_string, Addr.add_lit, Nat.mul_one] at hc
      exact ⟨(s, b, o), rfl, by simpa using cells?_at hc 0 _ rfl, hbd⟩
    have : Inhabited (ByteArray × Nat × Nat) := ⟨(ByteArray.empty, 0, 0)⟩
    obtain ⟨f, hf⟩ := choose_lt each
    refine ⟨_, (List.range len).map (fun i => (f i).1), rfl, ?_, by simpa using hreach, ?_⟩
    · unfold StrsIn
      have hll : ((List.range len).map (fun i => (f i).1)).length = len := by simp
      rw [hll]
      refine ⟨by simp, some a, _, rfl, hlc, fun h => (by cases h), fun i u hu => ?_⟩
      have hi : i < len := by have := (List.getElem?_eq_some_iff.1 hu).1; simpa using this
      obtain ⟨h1, h2, _⟩ := hf i hi
      refine ⟨_, _, by rw [h1], h2.trans ?_⟩
      rw [← hu]; simp [hi]
    · intro s hs
      obtain ⟨i, hi, rfl⟩ := List.mem_map.1 hs
      exact (hf i (List.mem_range.1 hi)).2.2

set_option maxRecDepth 100000 in
theorem open_pt (h : DataW.trod enc Tryd.prog W 0 (fun _ => true) true fuel 47 cs = some x) : ∃ p : Pt, p.Wf ∧ cs = p.cells := by
  obtain ⟨xs, n, rfl, hx, hlen, hxl, hf⟩ := DataW.trod_struct Tryd.underlying47 h
  rw [cells_ptr] at hlen
  have hxl' : xs.length = 3 := hxl
  have e0 : DataW.trod enc Tryd.prog W 0 (fun _ => true) true n 43 ((cs.drop 0).take (Tryd.prog.cellsOf 43)) = xs[0]? := hf 0 _ rfl
  have e1 : DataW.trod enc Tryd.prog W 0 (fun _ => true) true n 42 ((cs.drop 1).take (Tryd.prog.cellsOf 42)) = xs[1]? := hf 1 _ rfl
  have e2 : DataW.trod enc Tryd.prog W 0 (fun _ => true) true n 45 ((cs.drop 2).take (Tryd.prog.cellsOf 45)) = xs[2]? := hf 2 _ rfl
  rw [cells_u32] at e0
  rw [cells_u64] at e1
  rw [cells_hash] at e2
  match xs, hxl' with
  | [x0, x1, x2], _ =>
  obtain ⟨k0, c0, -, w0⟩ := DataW.trod_int Tryd.underlying43 e0
  obtain ⟨k1, c1, -, w1⟩ := DataW.trod_int Tryd.underlying42 e1
  obtain ⟨hs, hh, c2⟩ := open_hash e2
  have b0 := bounds_u32 w0
  have b1 := bounds_u64 w1
  obtain ⟨n0, rfl⟩ := Int.eq_ofNat_of_zero_le b0.1
  obtain ⟨n1, rfl⟩ := Int.eq_ofNat_of_zero_le b1.1
  refine ⟨⟨n0, n1, hs⟩, ⟨by simp only; omega, by simp only; omega, hh⟩, ?_⟩
  have g0 := drop_take_one c0
  have g1 := drop_take_one c1
  unfold Pt.cells
  apply List.ext_getElem?
  intro i
  rcases i with _ | _ | i
  · simpa using g0
  · simpa using g1
  · simp only [List.getElem?_cons_succ]
    rw [← c2]
    by_cases hi : i < 32
    · rw [List.getElem?_take, if_pos hi, List.getElem?_drop]; congr 1; omega
    · rw [List.getElem?_eq_none (by omega), List.getElem?_eq_none (by simp; omega)]

theorem open_pts (h : DataW.trod enc Tryd.prog W 0 (fun _ => true) true fuel 23 cs = some x) (hl : Light 23 x.1) :
    ∃ (v : Value) (l : List Pt), cs = [v] ∧ PtsIn W v l ∧ l.length ≤ 4139337892682 := by
  rcases open_slice Tryd.underlying23 h with ⟨rfl, _⟩ | ⟨a, len, cap, m, n, D, Pl, rfl, _, hlc, hm, hmm, hx, hel⟩
  · exact ⟨_, [], rfl, ⟨Sl.nil W 34, by simp⟩, by simp⟩
  · simp only [if_true] at hmm
    subst hmm
    have hw : ∀ n ∈ ((len + (m - len)) * 48 :: (DataW.weightsAll Tryd.prog 47 ((List.range len).map D) ++ DataW.weightsAll Tryd.prog 47 ((List.range (m - len)).map fun j => D (len + j)))), n ≤ reachBytes := by
      intro n hn
      refine hl n ?_
      rw [hx]
      simpa [DataW.weights, Tryd.underlying23, bytes_ptr] using hn
    have hreach : len ≤ 4139337892682 := by
      have := hw _ (List.mem_cons_self ..)
      simp only [reachBytes] at this
      omega
    have each : ∀ i, i < len → ∃ p : Pt × Nat × Nat, a = ⟨p.2.1, p.2.2, none⟩ ∧ At W p.2.1 (p.2.2 + i * 34) p.1.cells ∧ p.1.Wf := by
      intro i hi
      obtain ⟨cs', hc, ht⟩ := hel i (by omega)
      obtain ⟨p, hp, rfl⟩ := open_pt ht
      have hsp := cells?_spot hel (by omega : 0 < m) (by rw [cells_ptr]; decide)
      obtain ⟨b, o, sp⟩ := a
      simp only at hsp
      subst hsp
      rw [cells_ptr, Addr.add_lit] at hc
      exact ⟨(p, b, o), rfl, by simpa using cells?_at hc, hp⟩
    have : Inhabited (Pt × Nat × Nat) := ⟨(Pt.zero, 0, 0)⟩
    obtain ⟨f, hf⟩ := choose_lt each
    have hwf : ∀ p ∈ (List.range len).map (fun i => (f i).1), p.Wf := by
      intro p hp
      obtain ⟨i, hi, rfl⟩ := List.mem_map.1 hp
      exact (hf i (List.mem_range.1 hi)).2.2
    refine ⟨_, (List.range len).map (fun i => (f i).1), rfl, ⟨?_, hwf⟩, by simpa using hreach⟩
    have hll : ((List.range len).map (fun i => (f i).1)).length = len := by simp
    have hlen34 : ∀ l ∈ ((List.range len).map (fun i => (f i).1)).map Pt.cells, l.length = 34 := by
      intro l hl
      obtain ⟨p, hp, rfl⟩ := List.mem_map.1 hl
      exact (hwf p hp).len
    have hfl : ∀ (ls : List (List Value)), (∀ l ∈ ls, l.length = 34) → ls.flatten.length = ls.length * 34 := by
      intro ls
      induction ls with
      | nil => intro _; simp
      | cons l ls ih =>
        intro h
        rw [List.flatten_cons, List.length_append, ih (fun x hx => h x (by simp [hx])), h l (by simp), List.length_cons]; omega
    rw [hll]
    have hfl2 := hfl _ hlen34
    rw [List.length_map, hll] at hfl2
    refine ⟨hfl2, some a, _, rfl, hlc, fun h => (by cases h), fun i u hu => ?_⟩
    have hi : i < len * 34 := by have := (List.getElem?_eq_some_iff.1 hu).1; omega
    have hq : i / 34 < len := by omega
    have hr : i % 34 < 34 := Nat.mod_lt _ (by decide)
    have hi2 : i = i / 34 * 34 + i % 34 := by omega
    obtain ⟨h1, h2, _⟩ := hf (i / 34) hq
    rw [hi2, flat_get 34 _ hlen34 (i / 34) (by simpa using hq) (i % 34) hr] at hu
    have := h2 (i % 34) u (by simpa using hu)
    refine ⟨_, _, by rw [h1], ?_⟩
    rw [← this]
    congr 2
    omega

/-- A node that came in. -/
theorem open_node (h : DataW.trod enc Tryd.prog W 0 (fun _ => true) true fuel 25 cs = some x) (hl : Light 25 x.1) : ∃ n : Nd, NdIs W cs.toArray n ∧ n.Fits := by
  obtain ⟨xs, k, rfl, hx, hlen, hxl, hf⟩ := DataW.trod_struct Tryd.underlying25 h
  rw [cells_node] at hlen
  have hxl' : xs.length = 4 := hxl
  have e0 : DataW.trod enc Tryd.prog W 0 (fun _ => true) true k 4 ((cs.drop 0).take (Tryd.prog.cellsOf 4)) = xs[0]? := hf 0 _ rfl
  have e1 : DataW.trod enc Tryd.prog W 0 (fun _ => true) true k 22 ((cs.drop 1).take (Tryd.prog.cellsOf 22)) = xs[1]? := hf 1 _ rfl
  have e2 : DataW.trod enc Tryd.prog W 0 (fun _ => true) true k 22 ((cs.drop 2).take (Tryd.prog.cellsOf 22)) = xs[2]? := hf 2 _ rfl
  have e3 : DataW.trod enc Tryd.prog W 0 (fun _ => true) true k 23 ((cs.drop 3).take (Tryd.prog.cellsOf 23)) = xs[3]? := hf 3 _ rfl
  rw [cells_bool] at e0
  rw [cells_strs] at e1 e2
  rw [cells_ptrs] at e3
  match xs, hxl' with
  | [x0, x1, x2, x3], _ =>
  have hlw : ∀ n ∈ DataW.weightsEach Tryd.prog [4, 22, 22, 23] [x0.1, x1.1, x2.1, x3.1], n ≤ reachBytes := by
    intro n hn
    refine hl n ?_
    rw [hx]
    simpa [DataW.weights, Tryd.underlying25] using hn
  obtain ⟨b, c0, -⟩ := DataW.trod_bool Tryd.underlying4 e0
  obtain ⟨v1, l1, c1, s1, n1, m1⟩ := open_strs e1 (weights_part hlw (j := 1) rfl rfl)
  obtain ⟨v2, l2, c2, s2, n2, m2⟩ := open_strs e2 (weights_part hlw (j := 2) rfl rfl)
  obtain ⟨v3, l3, c3, s3, n3⟩ := open_pts e3 (weights_part hlw (j := 3) rfl rfl)
  have g0 := drop_take_one c0
  have g1 := drop_take_one c1
  have g2 := drop_take_one c2
  have g3 := drop_take_one c3
  refine ⟨⟨b, l1, l2, l3⟩, ⟨v1, v2, v3, ?_, s1, s2, s3⟩, ⟨n1, n2, n3, m1, m2⟩⟩
  apply Array.toList_inj.1
  apply List.ext_getElem?
  intro i
  rcases i with _ | _ | _ | _ | i
  · simpa using g0
  · simpa using g1
  · simpa using g2
  · simpa using g3
  · rw [List.getElem?_eq_none (by simp; omega), List.getElem?_eq_none (by simp)]

end
end Go.Proofs.YtdmgmpagnmmehaaDoor
