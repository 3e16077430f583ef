/- Walks: strings.Compare, slices.BinarySearchFunc over strings. -/
import Derived.Test.YtdmgmpagnmmehaaDoorStrs
import Derived.Lib.Bytealg
namespace Go.Proofs.YtdmgmpagnmmehaaDoor
open Go.RowKit

theorem compareBytes_eq : ∀ (a b : List UInt8), Lib.compareBytes a b = if a < b then -1 else if a = b then 0 else 1
  | [], [] => by simp [Lib.compareBytes]
  | [], _ :: _ => by simp [Lib.compareBytes]
  | _ :: _, [] => by simp [Lib.compareBytes]
  | x :: a, y :: b => by
    have ih := compareBytes_eq a b
    unfold Lib.compareBytes
    simp only [List.cons_lt_cons_iff]
    by_cases h1 : x < y
    · simp [h1]
    · by_cases h2 : y < x
      · have hne : x ≠ y := fun e => UInt8.lt_irrefl x (by rw [e] at h2 ⊢; exact h2)
        simp [h1, h2, hne]
      · have he : x = y := UInt8.le_antisymm (UInt8.not_lt.1 h2) (UInt8.not_lt.1 h1)
        subst he
        simp [h1, ih]

/-- How two strings stand: less, the same, greater. -/
def cmpS (a b : ByteArray) : Int := if sLt a b then -1 else if sEq a b then 0 else 1
theorem cmpS_eq (a b : ByteArray) : Lib.compareBytes a.data.toList b.data.toList = cmpS a b := by
  rw [compareBytes_eq]
  unfold cmpS
  have h1 := sLt_iff a b
  have h2 : sEq a b = true ↔ a.data.toList = b.data.toList := by
    rw [sEq_iff]
    exact ⟨fun h => by rw [h], fun h => ByteArray.ext (Array.toList_inj.1 h)⟩
  simp only [h1, h2]
theorem cmpS_neg (a b : ByteArray) : decide (cmpS a b < 0) = sLt a b := by
  unfold cmpS; cases sLt a b
  · cases sEq a b <;> rfl
  · rfl
theorem sLt_irrefl (a : ByteArray) : sLt a a = false := by
  rw [Bool.eq_false_iff]; intro h; exact List.lt_irrefl _ ((sLt_iff a a).1 h)
theorem cmpS_zero (a b : ByteArray) : (cmpS a b == 0) = sEq a b := by
  unfold cmpS
  cases h1 : sLt a b with
  | false => cases sEq a b <;> rfl
  | true =>
    cases h2 : sEq a b with
    | false => rfl
    | true =>
      have := (sEq_iff a b).1 h2
      subst this
      rw [sLt_irrefl] at h1
      cases h1
theorem sLt_trans {a b c : ByteArray} (h1 : sLt a b = true) (h2 : sLt b c = true) : sLt a c = true :=
  (sLt_iff a c).2 (List.lt_trans ((sLt_iff a b).1 h1) ((sLt_iff b c).1 h2))

set_option maxHeartbeats 1000000 in
set_option maxRecDepth 100000 in
theorem compareString_any (a b : ByteArray) (w : World) : Calls Tryd.prog 79 #[.string a, .string b] w fun e w' => e = .returned (.int .i64 (cmpS a b)) ∧ w = w' := by
  go_enter Tryd.func79, Tryd.ntmps79
  go_wp2
  rw [run_callFunc_extern Tryd.func99 (by kernel_rfl) (by kernel_rfl) (by kernel_rfl) (e := Extern.BytealgCompare.compare) (by kernel_rfl), Lib.run_compareString]
  simp only [Result.andThen]
  rw [Oper.upon_value]
  go_wp2
  go_ret
  exact ⟨by rw [cmpS_eq]; rfl, rfl⟩

theorem compare_any (a b : ByteArray) (w : World) : Calls Tryd.prog 50 #[.string a, .string b] w fun e w' => e = .returned (.int .i64 (cmpS a b)) ∧ w = w' := by
  go_enter Tryd.func50, Tryd.ntmps50
  go_wp2_with fail
  refine (compareString_any a b _).mono ?_
  rintro e w1 ⟨rfl, rfl⟩
  go_wp2
  go_ret
  exact ⟨rfl, rfl⟩

/-- Keys that rise. -/
def Rising (l : List ByteArray) : Prop := ∀ i j (hj : j < l.length) (hij : i < j), sLt (l[i]'(by omega)) l[j] = true
/-- i parts the keys into those that are less, and the others. -/
def PartAt (p : ByteArray → Bool) (l : List ByteArray) (i : Nat) : Prop := i ≤ l.length ∧ (∀ j (h : j < l.length), j < i → p l[j] = true) ∧ (∀ j (h : j < l.length), i ≤ j → p l[j] = false)
def SearchPost (l : List ByteArray) (key : ByteArray) (w : World) (e : Ending) (w' : World) : Prop :=
  ∃ (i : Nat), e = .returned (.tuple #[.int .i64 (i : Int), .bool (decide (i < l.length) && sEq (l.getD i ⟨#[]⟩) key)]) ∧ PartAt (fun k => sLt k key) l i ∧ w = w'

set_option maxRecDepth 100000 in
set_option maxHeartbeats 2000000 in
theorem search_any (v : Value) (l : List ByteArray) (key : ByteArray) (w : World) (h : StrsIn w v l) (hr : l.length ≤ 140737488351232) (hs : Rising l) :
    Calls Tryd.prog 49 #[v, .string key, .func (.func 50) #[] #[]] w (SearchPost l key w) := by
  obtain ⟨a, cap, rfl, hel⟩ := h.open
  have HE := Lib.hid hel
  have HS := Lib.hid hs
  clear h hel hs
  go_enter Tryd.func49, Tryd.ntmps49
  go_wp2
  go_loop [9, 10] (fun x y => ∃ lo hi : Nat, lo ≤ hi ∧ hi ≤ l.length ∧ x = .int .i64 lo ∧ y = .int .i64 hi ∧ (∀ j (h : j < l.length), j < lo → sLt l[j] key = true) ∧ (∀ j (h : j < l.length), hi ≤ j → sLt l[j] key = false)) (fun x y => (intOf y).toNat - (intOf x).toNat)
  case atStart => exact ⟨0, l.length, Nat.zero_le _, Nat.le_refl _, rfl, rfl, fun j _ hj => by omega, fun j h hj => by omega⟩
  case round =>
    obtain ⟨lo, hi, hle, hhi, rfl, rfl, h1, h2⟩ := hrel
    have H1 := Lib.hid h1
    have H2 := Lib.hid h2
    clear h1 h2
    rcases Nat.lt_or_ge lo hi with hlt | hge
    · obtain ⟨m, hm⟩ : ∃ m, m = (lo + hi) / 2 := ⟨_, rfl⟩
      have em : ((lo : Int) + (hi : Int)) / 2 = (m : Int) := by omega
      have hm1 : lo ≤ m := by omega
      have hm2 : m < hi := by omega
      have hml : m < l.length := by omega
      obtain ⟨b, o, rfl, hc⟩ := HE.out m hml
      obtain ⟨s, hs⟩ : ∃ s, s = l[m]'hml := ⟨_, rfl⟩
      rw [← hs] at hc
      have HX := Lib.hid hs
      have HN := Lib.hid (cmpS_neg s key)
      clear hs hm
      go_wp2_with fail
      refine (compare_any s key _).mono ?_
      rintro e w1 ⟨rfl, rfl⟩
      cases hl : sLt s key with
      | true =>
        have hneg : cmpS s key < 0 := of_decide_eq_true (HN.out.trans hl)
        have HL := Lib.hid hl
        clear hl
        go_wp2
        go_round
        case rel =>
          refine ⟨m + 1, hi, by omega, hhi, by go_num, rfl, fun j hj hjm => ?_, H2.out⟩
          rcases Nat.lt_or_ge j m with h | h
          · have h3 := HS.out j m hml h
            rw [← HX.out] at h3
            exact sLt_trans h3 HL.out
          · obtain rfl : j = m := by omega
            rw [← HX.out]; exact HL.out
        case measure => simp [intOf]; omega
      | false =>
        have hneg : ¬ cmpS s key < 0 := of_decide_eq_false (HN.out.trans hl)
        have HL := Lib.hid hl
        clear hl
        go_wp2
        go_round
        case rel =>
          refine ⟨lo, m, hm1, by omega, rfl, rfl, H1.out, fun j hj hjm => ?_⟩
          rcases Nat.lt_or_ge m j with h | h
          · have h3 := HS.out m j hj h
            rw [← HX.out] at h3
            rw [Bool.eq_false_iff]
            intro h4
            have h5 := sLt_trans h3 h4
            rw [HL.out] at h5
            cases h5
          · obtain rfl : j = m := by omega
            rw [← HX.out]; exact HL.out
        case measure => simp [intOf]; omega
    · obtain rfl : lo = hi := by omega
      have hP : PartAt (fun k => sLt k key) l lo := ⟨hhi, H1.out, H2.out⟩
      have HP := Lib.hid hP
      clear hP
      rcases Nat.lt_or_ge lo l.length with hin | hout
      · obtain ⟨b, o, rfl, hc⟩ := HE.out lo hin
        obtain ⟨s, hs⟩ : ∃ s, s = l[lo]'hin := ⟨_, rfl⟩
        rw [← hs] at hc
        have hg : l.getD lo ⟨#[]⟩ = s := by rw [hs, List.getD_eq_getElem?_getD, List.getElem?_eq_getElem hin]; rfl
        have HG := Lib.hid hg
        have HD := Lib.hid (decide_eq_true hin)
        have HZ := Lib.hid (cmpS_zero s key)
        clear hs hg
        go_wp2_with fail
        refine (compare_any s key _).mono ?_
        rintro e w1 ⟨rfl, rfl⟩
        go_wp2
        go_ret2
        exact ⟨lo, by rw [HG.out, HD.out, ← HZ.out]; rfl, HP.out, rfl⟩
      · have HD := Lib.hid (decide_eq_false (show ¬ lo < l.length by omega))
        go_wp2
        go_ret2
        exact ⟨lo, by rw [HD.out]; rfl, HP.out, rfl⟩

end Go.Proofs.YtdmgmpagnmmehaaDoor
