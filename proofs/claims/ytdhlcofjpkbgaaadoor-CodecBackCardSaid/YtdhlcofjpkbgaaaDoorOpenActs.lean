/- How a slice of acts reads. -/
import Derived.Test.YtdhlcofjpkbgaaaDoorOpen
import Derived.Test.YtdhlcofjpkbgaaaDoorLaw07C
namespace Go.Proofs.YtdhlcofjpkbgaaaDoor
open Go.ChangeShapes Go.WideShapes Go.ChangeAt Go.RowKit Go.Deep

theorem cells_act : Tryd.prog.cellsOf 48 = 37 := by kernel_rfl
theorem bytes_act : Tryd.prog.bytesOf 48 = 96 := by kernel_rfl

section
variable {H : Type} {enc : TypeId × Value → H} {W : World} {fuel : Nat} {cs : List Value} {x : DataW H × List MemPlace}

def ActBounds (a : Ac) : Prop := a.b.length ≤ 140737488351232 ∧ a.s.size ≤ 140737488351232 ∧ -9223372036854775808 ≤ a.size ∧ a.size ≤ 9223372036854775807

theorem drop_take_one {α : Type} {cs : List α} {i : Nat} {v : α} (h : (cs.drop i).take 1 = [v]) : cs[i]? = some v := by
  have : ((cs.drop i).take 1)[0]? = some v := by rw [h]; rfl
  simpa using this

theorem weights_part {d : DataW H} {t : TypeId} {fs : List TypeId} {ds : List (DataW H)} (hl : ∀ n ∈ DataW.weightsEach Tryd.prog fs ds, n ≤ reachBytes) {j : Nat} (ht : fs[j]? = some t) (hd : ds[j]? = some d) : Light t d :=
  fun n hn => hl n (DataW.weights_mem_each ht hd n hn)

theorem open_act (h : DataW.trod enc Tryd.prog W 0 (fun _ => true) true fuel 48 cs = some x) (hl : Light 48 x.1) :
    ∃ a : Ac, AcIs W cs.toArray a ∧ ActBounds a := by
  obtain ⟨xs, n, rfl, hx, hlen, hxl, hf⟩ := DataW.trod_struct Tryd.underlying48 h
  rw [cells_act] at hlen
  have hxl' : xs.length = 6 := hxl
  have e0 : DataW.trod enc Tryd.prog W 0 (fun _ => true) true n 3 ((cs.drop 0).take (Tryd.prog.cellsOf 3)) = xs[0]? := hf 0 _ rfl
  have e1 : DataW.trod enc Tryd.prog W 0 (fun _ => true) true n 3 ((cs.drop 1).take (Tryd.prog.cellsOf 3)) = xs[1]? := hf 1 _ rfl
  have e2 : DataW.trod enc Tryd.prog W 0 (fun _ => true) true n 44 ((cs.drop 2).take (Tryd.prog.cellsOf 44)) = xs[2]? := hf 2 _ rfl
  have e3 : DataW.trod enc Tryd.prog W 0 (fun _ => true) true n 9 ((cs.drop 3).take (Tryd.prog.cellsOf 9)) = xs[3]? := hf 3 _ rfl
  have e4 : DataW.trod enc Tryd.prog W 0 (fun _ => true) true n 46 ((cs.drop 4).take (Tryd.prog.cellsOf 46)) = xs[4]? := hf 4 _ rfl
  have e5 : DataW.trod enc Tryd.prog W 0 (fun _ => true) true n 22 ((cs.drop 36).take (Tryd.prog.cellsOf 22)) = xs[5]? := hf 5 _ rfl
  rw [cells_int] at e0 e1
  rw [cells_u64] at e2
  rw [cells_string] at e3
  rw [cells_hash] at e4
  rw [cells_bytes] at e5
  match xs, hxl' with
  | [x0, x1, x2, x3, x4, x5], _ =>
  have hlw : ∀ n ∈ DataW.weightsEach Tryd.prog [3, 3, 44, 9, 46, 22] [x0.1, x1.1, x2.1, x3.1, x4.1, x5.1], n ≤ reachBytes := by
    intro n hn
    refine hl n ?_
    rw [hx]
    simpa [DataW.weights, Tryd.underlying48] using hn
  obtain ⟨k0, c0, -, w0⟩ := DataW.trod_int Tryd.underlying3 e0
  obtain ⟨k1, c1, -, w1⟩ := DataW.trod_int Tryd.underlying3 e1
  obtain ⟨k2, c2, -, w2⟩ := DataW.trod_int Tryd.underlying44 e2
  obtain ⟨s, c3, h3, -⟩ := DataW.trod_string Tryd.underlying9 e3
  obtain ⟨hs, hh, c4⟩ := open_hash e4
  obtain ⟨v, bs, c5, hsl, hb⟩ := open_bytes e5 (weights_part hlw (j := 5) rfl rfl)
  have hsr : s.size ≤ 140737488351232 := by
    have := weights_part hlw (j := 3) rfl rfl s.data.toList.length (by rw [h3]; simp [DataW.weights])
    simpa [reachBytes] using this
  have b1 := bounds_i64 w1
  have b2 := bounds_u64 w2
  obtain ⟨n2, rfl⟩ := Int.eq_ofNat_of_zero_le b2.1
  refine ⟨⟨k0, k1, n2, s, hs, bs⟩, ⟨⟨v, ?_, hsl⟩, hh, by simp only; omega⟩, hb, hsr, by simp only; omega, by simp only; omega⟩
  have g0 := drop_take_one c0
  have g1 := drop_take_one c1
  have g2 := drop_take_one c2
  have g3 := drop_take_one c3
  have g5 := drop_take_one c5
  have g4 : ∀ i, i < 32 → cs[4 + i]? = (hs.map Bv)[i]? := by
    intro i hi
    rw [← c4]
    simp [hi]
  simp only
  apply List.ext_getElem?
  intro i
  by_cases h4 : i < 4
  · rw [List.getElem?_append_left (by simp; omega), List.getElem?_append_left (by simpa using h4)]
    match i, h4 with
    | 0, _ => exact g0
    | 1, _ => exact g1
    | 2, _ => exact g2
    | 3, _ => exact g3
  · by_cases h36 : i < 36
    · rw [List.getElem?_append_left (by simp [hh]; omega), List.getElem?_append_right (by simp; omega), List.length_cons, List.length_cons, List.length_cons, List.length_cons, List.length_nil]
      have := g4 (i - 4) (by omega)
      rw [show 4 + (i - 4) = i by omega] at this
      exact this
    · rw [List.getElem?_append_right (by simp [hh]; omega)]
      by_cases h37 : i = 36
      · subst h37
        simpa [hh] using g5
      · rw [List.getElem?_eq_none (by omega), List.getElem?_eq_none (by simp [hh]; omega)]

theorem cells?_at {w : World} {b o : Nat} {n : Nat} {cs : List Value} (h : w.cells? 0 ⟨b, o, none⟩ n = some cs) : At w b o cs := by
  obtain ⟨_, hl, hc⟩ := World.cells?_some h
  intro i u hu
  have hi : i < n := by have := (List.getElem?_eq_some_iff.1 hu).1; omega
  have := hc i hi
  rw [Addr.add_lit] at this
  rw [this, hu]

theorem weightsAll_mem {P : Program} {e : TypeId} : ∀ {ds : List (DataW H)} {d : DataW H}, d ∈ ds → ∀ {n : Nat}, n ∈ d.weights P e → n ∈ DataW.weightsAll P e ds
  | d0 :: ds, d, hd, n, hn => by
    simp only [DataW.weightsAll, List.mem_append]
    rcases List.mem_cons.1 hd with rfl | hd
    · exact Or.inl hn
    · exact Or.inr (weightsAll_mem hd hn)

/-- A slice that has an element begins at a plain address. -/
theorem cells?_spot {P : Program} {w : World} {a : Addr} {m n k : Nat} {e : TypeId} {D : Nat → DataW H} {Pl : Nat → List MemPlace}
    (hel : ∀ i, i < m → ∃ cs', w.cells? 0 (a.add (i * k)) k = some cs' ∧ DataW.trod enc P w 0 (fun _ => true) true n e cs' = some (D i, Pl i)) (hm : 0 < m) (hk : 0 < k := by decide) : a.spot = none := by
  obtain ⟨cs', hc, _⟩ := hel 0 hm
  obtain ⟨_, hl, hx⟩ := World.cells?_some hc
  have h0 := hx 0 hk
  have e0 : (a.add (0 * k)).add 0 = a := by simp [Addr.add]
  rw [e0, List.getElem?_eq_getElem (by omega)] at h0
  unfold World.cell? at h0
  split at h0
  · split at h0
    · cases h0
    · rename_i hs; simpa using hs
  · cases h0

theorem open_acts (h : DataW.trod enc Tryd.prog W 0 (fun _ => true) true fuel 40 cs = some x) (hl : Light 40 x.1) :
    ∃ (v : Value) (acs : List Ac), cs = [v] ∧ ActsIn W v acs ∧ acs.length ≤ 140737488351232 ∧ ∀ a ∈ acs, ActBounds a := by
  rcases open_slice Tryd.underlying40 h with ⟨rfl, _⟩ | ⟨a, len, cap, m, n, D, Pl, rfl, _, hlc, hm, hmm, hx, hel⟩
  · exact ⟨_, [], rfl, ⟨none, 0, rfl, fun i hi => by simp at hi⟩, by simp, by simp⟩
  · simp only [if_true] at hmm
    subst hmm
    have hw : ∀ n ∈ ((len + (m - len)) * 96 :: (DataW.weightsAll Tryd.prog 48 ((List.range len).map D) ++ DataW.weightsAll Tryd.prog 48 ((List.range (m - len)).map fun j => D (len + j)))), n ≤ reachBytes := by
      intro n hn
      refine hl n ?_
      rw [hx]
      simpa [DataW.weights, Tryd.underlying40, bytes_act] using hn
    have hreach : len ≤ 140737488351232 := by
      have := hw _ (List.mem_cons_self ..)
      simp only [reachBytes] at this
      omega
    have hD : ∀ i, i < len → Light 48 (D i) := by
      intro i hi n hn
      refine hw n (List.mem_cons_of_mem _ (List.mem_append_left _ ?_))
      exact weightsAll_mem (List.mem_map.2 ⟨i, List.mem_range.2 hi, rfl⟩) hn
    have each : ∀ i, i < len → ∃ p : Ac × Array Value × Nat × Nat, a = ⟨p.2.2.1, p.2.2.2, none⟩ ∧ At W p.2.2.1 (p.2.2.2 + i * 37) p.2.1.toList ∧ AcIs W p.2.1 p.1 ∧ ActBounds p.1 := by
      intro i hi
      obtain ⟨cs', hc, ht⟩ := hel i (by omega)
      obtain ⟨ac, hA, hbd⟩ := open_act ht (hD i hi)
      have hsp := cells?_spot hel (by omega : 0 < m) (by rw [cells_act]; decide)
      obtain ⟨b, o, sp⟩ := a
      simp only at hsp
      subst hsp
      rw [cells_act, Addr.add_lit] at hc
      exact ⟨(ac, cs'.toArray, b, o), rfl, by simpa using cells?_at hc, hA, hbd⟩
    have : Inhabited (Ac × Array Value × Nat × Nat) := ⟨(⟨0, 0, 0, ByteArray.empty, [], []⟩, #[], 0, 0)⟩
    obtain ⟨f, hf⟩ := choose_lt each
    refine ⟨_, (List.range len).map (fun i => (f i).1), rfl, ⟨some a, m, by simp, fun i hi => ?_⟩, by simpa using hreach, ?_⟩
    · have hi' : i < len := by simpa using hi
      obtain ⟨h1, h2, h3, h4⟩ := hf i hi'
      exact ⟨_, _, (f i).2.1, by rw [h1], h2, by simpa using h3⟩
    · intro x hx
      obtain ⟨i, hi, rfl⟩ := List.mem_map.1 hx
      exact (hf i (List.mem_range.1 hi)).2.2.2

end
end Go.Proofs.YtdhlcofjpkbgaaaDoor
