/- Slices of strings, and the walks of node's keys, slices.ContainsFunc over them. -/
import Derived.Test.YtdmgmpagnmmehaaDoorMem
import Derived.Sort.Walk0
namespace Go.Proofs.YtdmgmpagnmmehaaDoor
open Go.RowKit

/-- A slice of strings. -/
def StrsIn (w : World) (v : Value) (l : List ByteArray) : Prop := Sl w 1 v l.length (l.map Value.string)
theorem StrsIn.below {w w' : World} {v : Value} {l : List ByteArray} (h : StrsIn w v l) (hb : Below w.heap.size w w') : StrsIn w' v l := Sl.below h hb
theorem StrsIn.open {w : World} {v : Value} {l : List ByteArray} (h : StrsIn w v l) : ∃ a cap, v = .slice a l.length cap ∧ ∀ i (hi : i < l.length), ∃ b o, a = some ⟨b, o, none⟩ ∧ w.cell? ⟨b, o + i, none⟩ = some (.string l[i]) := by
  obtain ⟨_, a, cap, rfl, _, _, h4⟩ := h
  exact ⟨a, cap, rfl, fun i hi => h4 i _ (by simp [hi])⟩

/-- One string is less than another. -/
def sLt (a b : ByteArray) : Bool := Op.bytesLess a.toList b.toList
def sEq (a b : ByteArray) : Bool := a.toList == b.toList
theorem sEq_iff (a b : ByteArray) : sEq a b = true ↔ a = b := by
  unfold sEq
  rw [beq_iff_eq, ByteArray.toList_eq, ByteArray.toList_eq, Array.toList_inj]
  exact ⟨fun h => ByteArray.ext h, fun h => by rw [h]⟩
theorem sLt_iff (a b : ByteArray) : sLt a b = true ↔ a.data.toList < b.data.toList := by
  unfold sLt
  rw [bytesLess_eq, ByteArray.toList_eq, ByteArray.toList_eq, decide_eq_true_iff]

/-- A key may be, in its place. -/
def keyAt (l : List ByteArray) (i : Nat) : Bool :=
  match l[i]? with
  | none => true
  | some k => decide (k.size ≠ 0) && decide (k.size ≤ 32) && (match i with | 0 => true | j + 1 => sLt (l.getD j ⟨#[]⟩) k)
def keysB (l : List ByteArray) : Bool := (List.range l.length).all (keyAt l)
theorem keysB_false {l : List ByteArray} {i : Nat} (hi : i < l.length) (h : keyAt l i = false) : keysB l = false := by
  rw [Bool.eq_false_iff]
  intro ha
  have := List.all_eq_true.1 ha i (by simpa using hi)
  rw [h] at this
  cases this
theorem keysB_true {l : List ByteArray} (h : ∀ i, i < l.length → keyAt l i = true) : keysB l = true :=
  List.all_eq_true.2 fun i hi => h i (by simpa using hi)

theorem size_zero_iff (k : ByteArray) : k.toList = [] ↔ k.size = 0 := by
  rw [ByteArray.toList_eq]
  obtain ⟨⟨l⟩⟩ := k
  show l = [] ↔ l.length = 0
  exact List.length_eq_zero_iff.symm

set_option maxHeartbeats 1000000 in
theorem keys_any (v : Value) (l : List ByteArray) (w : World) (h : StrsIn w v l) (hr : l.length ≤ 140737488351232) :
    Calls Tryd.prog 57 #[v] w fun e w' => e = .returned (.bool (keysB l)) ∧ w = w' := by
  obtain ⟨a, cap, rfl, hel⟩ := h.open
  have HE := Lib.hid hel
  clear h hel
  go_enter Tryd.func57, Tryd.ntmps57
  go_wp2
  go_loop [7] (fun i => ∃ k : Nat, k ≤ l.length ∧ i = .int .i64 k ∧ ∀ j, j < k → keyAt l j = true) (fun i => l.length - (intOf i).toNat)
  case atStart => exact ⟨0, Nat.zero_le _, rfl, fun j hj => by omega⟩
  case round =>
    obtain ⟨k, hk, rfl, hz⟩ := hrel
    have HZ := Lib.hid hz
    clear hz
    rcases Nat.lt_or_ge k l.length with hlt | hge
    · obtain ⟨b, o, rfl, hc⟩ := HE.out k hlt
      obtain ⟨s, hs⟩ : ∃ s, s = l[k]'hlt := ⟨_, rfl⟩
      have hg : l[k]? = some s := by rw [hs]; exact List.getElem?_eq_getElem hlt
      rw [← hs] at hc
      have HG := Lib.hid hg
      have HS := Lib.hid hs
      clear hs hg
      by_cases h0 : s.size = 0
      · have HF := Lib.hid (keysB_false hlt (show keyAt l k = false by unfold keyAt; rw [HG.out]; simp [h0]))
        have b1 := (size_zero_iff s).2 h0
        clear h0
        go_wp2
        go_ret
        exact ⟨by rw [HF.out]; rfl, rfl⟩
      have b1 : ¬ s.toList = [] := fun e => h0 ((size_zero_iff s).1 e)
      have b1' : s.toList.isEmpty = false := by simpa using b1
      by_cases h1 : s.size ≤ 32
      · have b2 : ¬ (32 : Int) < (s.size : Int) := by omega
        cases k with
        | zero =>
          rw [Nat.add_zero] at hc
          have HK := Lib.hid (show keyAt l 0 = true by unfold keyAt; rw [HG.out]; simp [h0, h1])
          clear h0 h1
          go_wp2
          go_round
          case rel => exact ⟨1, by omega, by go_num, fun j hj => by obtain rfl : j = 0 := by omega
                                                                    exact HK.out⟩
          case measure => simp [intOf]; omega
        | succ m =>
          obtain ⟨b', o', e', hc'⟩ := HE.out m (by omega)
          simp only [Option.some.injEq, Addr.mk.injEq, and_true] at e'
          obtain ⟨rfl, rfl⟩ := e'
          obtain ⟨s', hs'⟩ : ∃ s', s' = l[m]'(by omega) := ⟨_, rfl⟩
          have hg' : l.getD m ⟨#[]⟩ = s' := by rw [hs', List.getD_eq_getElem?_getD, List.getElem?_eq_getElem (by omega)]; rfl
          rw [← hs'] at hc'
          have ew : wrap64 (m : Int) = (m : Int) := by unfold wrap64; omega
          cases hl : sLt s' s with
          | true =>
            have HK := Lib.hid (show keyAt l (m + 1) = true by unfold keyAt; rw [HG.out]; simp only [hg', hl]; simp [h0, h1])
            have b3 : Op.bytesLess s'.toList s.toList = true := hl
            clear h0 h1 hs' hg' hl
            go_wp2
            go_round
            case rel =>
              refine ⟨m + 1 + 1, by omega, by go_num, fun j hj => ?_⟩
              rcases Nat.lt_or_ge j (m + 1) with h | h
              · exact HZ.out j h
              · obtain rfl : j = m + 1 := by omega
                exact HK.out
            case measure => simp [intOf]; omega
          | false =>
            have HF := Lib.hid (keysB_false hlt (show keyAt l (m + 1) = false by unfold keyAt; rw [HG.out]; simp only [hg', hl]; simp))
            have b3 : Op.bytesLess s'.toList s.toList = false := hl
            clear h0 h1 hs' hg' hl
            go_wp2
            go_ret
            exact ⟨by rw [HF.out]; rfl, rfl⟩
      · have HF := Lib.hid (keysB_false hlt (show keyAt l k = false by unfold keyAt; rw [HG.out]; simp [h1]))
        have b2 : (32 : Int) < (s.size : Int) := by omega
        clear h0 h1
        go_wp2
        go_ret
        exact ⟨by rw [HF.out]; rfl, rfl⟩
    · obtain rfl : k = l.length := by omega
      have HF := Lib.hid (keysB_true HZ.out)
      go_wp2
      go_ret
      exact ⟨by rw [HF.out]; rfl, rfl⟩

end Go.Proofs.YtdmgmpagnmmehaaDoor
