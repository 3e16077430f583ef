/- Plain laws: keys that rise, and where a key stands in them. -/
import Derived.Test.YtdmgmpagnmmehaaDoorFindC
namespace Go.Proofs.YtdmgmpagnmmehaaDoor
open Go.RowKit

theorem rising_of_step {l : List ByteArray} (h : ∀ j (hj : j + 1 < l.length), sLt (l[j]'(by omega)) l[j + 1] = true) : Rising l := by
  intro i j hj hij
  obtain ⟨d, rfl⟩ : ∃ d, j = i + 1 + d := ⟨j - (i + 1), by omega⟩
  induction d with
  | zero => exact h i hj
  | succ d ih => exact sLt_trans (ih (by omega) (by omega)) (h (i + 1 + d) hj)

theorem keysB_rising {l : List ByteArray} (h : keysB l = true) : Rising l := by
  refine rising_of_step fun j hj => ?_
  have h1 := List.all_eq_true.1 h (j + 1) (by simpa using hj)
  unfold keyAt at h1
  rw [List.getElem?_eq_getElem hj] at h1
  simp only [Bool.and_eq_true] at h1
  have h2 := h1.2
  rw [List.getD_eq_getElem?_getD, List.getElem?_eq_getElem (by omega)] at h2
  exact h2

theorem partAt_of_down {p : ByteArray → Bool} : ∀ {l : List ByteArray}, (∀ i j (hj : j < l.length) (hij : i < j), p l[j] = true → p (l[i]'(by omega)) = true) → PartAt p l (l.filter p).length
  | [], _ => ⟨Nat.zero_le _, fun j h _ => by simp at h, fun j h _ => by simp at h⟩
  | a :: l, h => by
    have ih := partAt_of_down (l := l) (fun i j hj hij hp => h (i + 1) (j + 1) (by simp; omega) (by omega) hp)
    obtain ⟨h0, h1, h2⟩ := ih
    cases ha : p a with
    | true =>
      rw [List.filter_cons_of_pos ha, List.length_cons]
      refine ⟨by simp; omega, fun j hj hji => ?_, fun j hj hji => ?_⟩
      · rcases j with _ | j
        · exact ha
        · exact h1 j (by simpa using hj) (by omega)
      · rcases j with _ | j
        · omega
        · exact h2 j (by simpa using hj) (by omega)
    | false =>
      have hall : ∀ j (hj : j < l.length), p l[j] = false := fun j hj => by
        rw [Bool.eq_false_iff]
        intro hp
        have := h 0 (j + 1) (by simp; omega) (by omega) hp
        rw [show (a :: l)[0] = a from rfl, ha] at this
        cases this
      have he : l.filter p = [] := List.filter_eq_nil_iff.2 fun x hx => by
        obtain ⟨j, hj, rfl⟩ := List.getElem_of_mem hx
        rw [hall j hj]; simp
      rw [List.filter_cons_of_neg (by rw [ha]; simp), he]
      refine ⟨Nat.zero_le _, fun j hj hji => by simp at hji, fun j hj hji => ?_⟩
      rcases j with _ | j
      · exact ha
      · exact hall j (by simpa using hj)

theorem sLt_asymm {a b : ByteArray} (h : sLt a b = true) : sLt b a = false := by
  rw [Bool.eq_false_iff]
  intro h2
  have := sLt_trans h h2
  rw [sLt_irrefl] at this
  cases this

theorem findAt_part {n : Nd} (key : ByteArray) (hr : Rising n.keys) : PartAt (atP n.leaf key) n.keys (findAt n key) := by
  refine partAt_of_down fun i j hj hij hp => ?_
  have h1 := hr i j hj hij
  unfold atP at hp ⊢
  simp only [Bool.or_eq_true, Bool.and_eq_true] at hp ⊢
  rcases hp with hp | ⟨hp, -⟩
  · exact Or.inl (sLt_trans h1 hp)
  · rw [sEq_iff] at hp
    rw [hp] at h1
    exact Or.inl h1

theorem findAt_own {n : Nd} (hr : Rising n.keys) (i : Nat) (hi : i < n.keys.length) : findAt n n.keys[i] = if n.leaf then i else i + 1 := by
  obtain ⟨h0, h1, h2⟩ := findAt_part n.keys[i] hr
  have hself : atP n.leaf n.keys[i] n.keys[i] = !n.leaf := by unfold atP; rw [sLt_irrefl, (sEq_iff _ _).2 rfl]; simp
  have hle : i ≤ findAt n n.keys[i] := by
    rcases Nat.lt_or_ge (findAt n n.keys[i]) i with h | h
    · have h3 := h2 _ (by omega) (Nat.le_refl _)
      have h4 := hr _ i hi h
      unfold atP at h3
      rw [h4] at h3
      simp at h3
    · exact h
  have hge : findAt n n.keys[i] ≤ i + 1 := by
    rcases Nat.lt_or_ge (i + 1) (findAt n n.keys[i]) with h | h
    · have h3 := h1 (i + 1) (by omega) h
      have h4 := hr i (i + 1) (by omega) (by omega)
      unfold atP at h3
      simp only [Bool.or_eq_true, Bool.and_eq_true] at h3
      rcases h3 with h3 | ⟨h3, -⟩
      · rw [sLt_asymm h4] at h3; cases h3
      · rw [sEq_iff] at h3; rw [h3, sLt_irrefl] at h4; cases h4
    · exact h
  cases hl : n.leaf with
  | true =>
    rw [hl] at hself
    rw [if_pos rfl]
    rcases Nat.lt_or_ge i (findAt n n.keys[i]) with h | h
    · have := h1 i hi h
      rw [hl, hself] at this; cases this
    · omega
  | false =>
    rw [hl] at hself
    rw [if_neg (by simp)]
    rcases Nat.lt_or_ge i (findAt n n.keys[i]) with h | h
    · omega
    · have := h2 i hi h
      rw [hl, hself] at this; cases this
theorem findIs_own {l : List ByteArray} (i : Nat) (hi : i < l.length) : findIs l l[i] = true :=
  List.any_eq_true.2 ⟨l[i], List.getElem_mem hi, (sEq_iff _ _).2 rfl⟩
theorem findAt_le {n : Nd} (key : ByteArray) : findAt n key ≤ n.keys.length := List.length_filter_le _ _
/-- What stands ahead isn't more. -/
theorem findAt_ahead {n : Nd} (key : ByteArray) (hr : Rising n.keys) (i : Nat) (hi : i < n.keys.length) (h : findAt n key = i + 1) : sLt key n.keys[i] = false := by
  have h3 := (findAt_part key hr).2.1 i hi (by omega)
  unfold atP at h3
  simp only [Bool.or_eq_true, Bool.and_eq_true] at h3
  rcases h3 with h3 | ⟨h3, -⟩
  · exact sLt_asymm h3
  · rw [sEq_iff] at h3; rw [h3, sLt_irrefl]
/-- What stands there isn't less. -/
theorem findAt_there {n : Nd} (key : ByteArray) (hr : Rising n.keys) (hi : findAt n key < n.keys.length) : sLt n.keys[findAt n key] key = false := by
  have h3 := (findAt_part key hr).2.2 _ hi (Nat.le_refl _)
  unfold atP at h3
  simp only [Bool.or_eq_false_iff] at h3
  exact h3.1
theorem bytesLess_nil (l : List UInt8) : Op.bytesLess l [] = false := by
  rw [bytesLess_eq]; simp
theorem findAt_first {n : Nd} (hk : keysB n.keys = true) : findAt n ⟨#[]⟩ = 0 := by
  have hr := keysB_rising hk
  rcases Nat.eq_zero_or_pos (findAt n ⟨#[]⟩) with h | h
  · exact h
  · exfalso
    have hle := findAt_le (n := n) ⟨#[]⟩
    have h3 := (findAt_part ⟨#[]⟩ hr).2.1 0 (by omega) h
    unfold atP at h3
    simp only [Bool.or_eq_true, Bool.and_eq_true] at h3
    rcases h3 with h3 | ⟨h3, -⟩
    · unfold sLt at h3
      rw [show (⟨#[]⟩ : ByteArray).toList = [] from by rw [ByteArray.toList_eq], bytesLess_nil] at h3
      cases h3
    · rw [sEq_iff] at h3
      have h4 := List.all_eq_true.1 hk 0 (by simp; omega)
      unfold keyAt at h4
      rw [List.getElem?_eq_getElem (by omega), h3] at h4
      simp at h4
      exact h4.1 rfl

end Go.Proofs.YtdmgmpagnmmehaaDoor
