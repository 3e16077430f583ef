/- Helpers: how the cells of what came in read. -/
import Derived.Test.YtdmgmpagnmmehaaDoorOpen
import Derived.Test.YtdmgmpagnmmehaaDoorAgg
namespace Go.Proofs.YtdmgmpagnmmehaaDoor
open Go.ChangeShapes Go.WideShapes Go.ChangeAt Go.RowKit Go.Deep

section
variable {H : Type} {enc : TypeId × Value → H} {W : World} {fuel : Nat} {cs : List Value} {x : DataW H × List MemPlace}

theorem drop_take_one {α : Type} {cs : List α} {i : Nat} {v : α} (h : (cs.drop i).take 1 = [v]) : cs[i]? = some v := by
  have : ((cs.drop i).take 1)[0]? = some v := by rw [h]; rfl
  simpa using this

theorem weights_part {d : DataW H} {t : TypeId} {fs : List TypeId} {ds : List (DataW H)} (hl : ∀ n ∈ DataW.weightsEach Tryd.prog fs ds, n ≤ reachBytes) {j : Nat} (ht : fs[j]? = some t) (hd : ds[j]? = some d) : Light t d :=
  fun n hn => hl n (DataW.weights_mem_each ht hd n hn)

theorem cells?_at {w : World} {b o : Nat} {n : Nat} {cs : List Value} (h : w.cells? 0 ⟨b, o, none⟩ n = some cs) : At w b o cs := by
  obtain ⟨_, hl, hc⟩ := World.cells?_some h
  intro i u hu
  have hi : i < n := by have := (List.getElem?_eq_some_iff.1 hu).1; omega
  have := hc i hi
  rw [Addr.add_lit] at this
  rw [this, hu]

theorem weightsAll_mem {P : Program} {e : TypeId} : ∀ {ds : List (DataW H)} {d : DataW H}, d ∈ ds → ∀ {n : Nat}, n ∈ d.weights P e → n ∈ DataW.weightsAll P e ds
  | d0 :: ds, d, hd, n, hn => by
    simp only [DataW.weightsAll, List.mem_append]
    rcases List.mem_cons.1 hd with rfl | hd
    · exact Or.inl hn
    · exact Or.inr (weightsAll_mem hd hn)

/-- A slice that has an element begins at a plain address. -/
theorem cells?_spot {P : Program} {w : World} {a : Addr} {m n k : Nat} {e : TypeId} {D : Nat → DataW H} {Pl : Nat → List MemPlace}
    (hel : ∀ i, i < m → ∃ cs', w.cells? 0 (a.add (i * k)) k = some cs' ∧ DataW.trod enc P w 0 (fun _ => true) true n e cs' = some (D i, Pl i)) (hm : 0 < m) (hk : 0 < k := by decide) : a.spot = none := by
  obtain ⟨cs', hc, _⟩ := hel 0 hm
  obtain ⟨_, hl, hx⟩ := World.cells?_some hc
  have h0 := hx 0 hk
  have e0 : (a.add (0 * k)).add 0 = a := by simp [Addr.add]
  rw [e0, List.getElem?_eq_getElem (by omega)] at h0
  unfold World.cell? at h0
  split at h0
  · split at h0
    · cases h0
    · rename_i hs; simpa using hs
  · cases h0

end
end Go.Proofs.YtdmgmpagnmmehaaDoor
