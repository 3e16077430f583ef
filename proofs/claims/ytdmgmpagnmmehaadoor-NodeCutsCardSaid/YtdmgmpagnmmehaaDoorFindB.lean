/- Walks: sort.Search by node.Find's closure; node.Find. -/
import Derived.Test.YtdmgmpagnmmehaaDoorFindA
import Derived.Test.YtdmgmpagnmmehaaDoorNodeB
namespace Go.Proofs.YtdmgmpagnmmehaaDoor
open Go.RowKit

def gtS (a b : ByteArray) : Bool := !(sLt a b || sEq a b)
theorem list_tri : ∀ a b : List UInt8, a < b ∨ a = b ∨ b < a
  | [], [] => Or.inr (Or.inl rfl)
  | [], _ :: _ => Or.inl (by simp)
  | _ :: _, [] => Or.inr (Or.inr (by simp))
  | x :: a, y :: b => by
    simp only [List.cons_lt_cons_iff, List.cons.injEq]
    by_cases h1 : x < y
    · exact Or.inl (Or.inl h1)
    · by_cases h2 : y < x
      · exact Or.inr (Or.inr (Or.inl h2))
      · have he : x = y := UInt8.le_antisymm (UInt8.not_lt.1 h2) (UInt8.not_lt.1 h1)
        subst he
        rcases list_tri a b with h | h | h
        · exact Or.inl (Or.inr ⟨rfl, h⟩)
        · exact Or.inr (Or.inl ⟨rfl, h⟩)
        · exact Or.inr (Or.inr (Or.inr ⟨rfl, h⟩))
theorem gtS_eq (a b : ByteArray) : gtS a b = sLt b a := by
  unfold gtS
  cases h1 : sLt a b with
  | true =>
    cases h2 : sLt b a with
    | false => rfl
    | true => have := sLt_trans h1 h2; rw [sLt_irrefl] at this; cases this
  | false =>
    cases h2 : sEq a b with
    | true =>
      have := (sEq_iff a b).1 h2
      subst this
      rw [sLt_irrefl]; rfl
    | false =>
      cases h3 : sLt b a with
      | true => rfl
      | false =>
        exfalso
        rcases list_tri a.data.toList b.data.toList with h | h | h
        · rw [(sLt_iff a b).2 h] at h1; cases h1
        · have : a = b := ByteArray.ext (Array.toList_inj.1 h)
          rw [(sEq_iff a b).2 this] at h2; cases h2
        · rw [(sLt_iff b a).2 h] at h3; cases h3
theorem Fr_drewN' (S : Nat → Prop) (w : World) (n : Nat) : Fr S w (w.drewN n) := ⟨rfl, rfl, rfl, Nat.le_refl _, fun _ _ _ => rfl⟩

set_option maxHeartbeats 1000000 in
theorem find1_any (b1 b2 : Nat) (l : List ByteArray) (key : ByteArray) (i : Nat) (v : Value) (w : World) (h : StrsIn w v l) (hi : i < l.length) (c1 : w.cell? ⟨b1, 1, none⟩ = some v) (c2 : w.cell? ⟨b2, 0, none⟩ = some (.string key)) :
    Calls Tryd.prog 52 #[.int .i64 (i : Int), .pointer (some ⟨b1, 0, none⟩), .pointer (some ⟨b2, 0, none⟩)] w fun e w' => e = .returned (.bool (gtS l[i] key)) ∧ ∃ n, w' = w.drewN n := by
  obtain ⟨a, cap, rfl, hel⟩ := h.open
  obtain ⟨b, o, rfl, hc⟩ := hel i hi
  obtain ⟨s, hs⟩ : ∃ s, s = l[i]'hi := ⟨_, rfl⟩
  rw [← hs] at hc ⊢
  have HG := Lib.hid (show gtS s key = (!Op.bytesLess s.toList key.toList && !s.toList == key.toList) by unfold gtS sLt sEq; rw [Bool.not_or])
  clear h hel hs
  go_enter Tryd.func52, Tryd.ntmps52
  go_wp2
  go_quiet (fail)
  go_wp2
  go_ret
  exact ⟨by rw [HG.out]; rfl, _, rfl⟩

def SortPost (l : List ByteArray) (key : ByteArray) (w : World) (e : Ending) (w' : World) : Prop :=
  ∃ (i : Nat), e = .returned (.int .i64 (i : Int)) ∧ PartAt (fun k => !gtS k key) l i ∧ ∃ n, w' = w.drewN n

set_option maxRecDepth 100000 in
set_option maxHeartbeats 2000000 in
theorem sortSearch_any (b1 b2 : Nat) (l : List ByteArray) (key : ByteArray) (v : Value) (w : World) (h : StrsIn w v l) (hr : l.length ≤ 140737488351232) (hs : Rising l) (c1 : w.cell? ⟨b1, 1, none⟩ = some v) (c2 : w.cell? ⟨b2, 0, none⟩ = some (.string key)) :
    Calls Tryd.prog 51 #[.int .i64 (l.length : Int), .func (.func 52) #[] #[.pointer (some ⟨b1, 0, none⟩), .pointer (some ⟨b2, 0, none⟩)]] w (SortPost l key w) := by
  have HE := Lib.hid (fun n i hi => find1_any b1 b2 l key i v (w.drewN n) (h.fr (Fr_drewN' (fun _ => False) w n) (fun _ _ _ _ => id)) hi c1 c2)
  have HS := Lib.hid hs
  clear h hs c1 c2
  go_enter Tryd.func51, Tryd.ntmps51
  go_wp2
  go_loopw [5, 6] (fun x y wr => ∃ lo hi : Nat, lo ≤ hi ∧ hi ≤ l.length ∧ x = .int .i64 lo ∧ y = .int .i64 hi ∧ (∀ j (h : j < l.length), j < lo → gtS l[j] key = false) ∧ (∀ j (h : j < l.length), hi ≤ j → gtS l[j] key = true) ∧ ∃ n, wr = w.drewN n) (fun x y _ => (intOf y).toNat - (intOf x).toNat)
  case atStart => exact ⟨0, l.length, Nat.zero_le _, Nat.le_refl _, rfl, rfl, fun j _ hj => by omega, fun j h hj => by omega, 0, rfl⟩
  case round =>
    obtain ⟨lo, hi, hle, hhi, rfl, rfl, h1, h2, nd, rfl⟩ := hrel
    have H1 := Lib.hid h1
    have H2 := Lib.hid h2
    clear h1 h2
    rcases Nat.lt_or_ge lo hi with hlt | hge
    · obtain ⟨m, hm⟩ : ∃ m, m = (lo + hi) / 2 := ⟨_, rfl⟩
      have em : ((lo : Int) + (hi : Int)) / 2 = (m : Int) := by omega
      have hm1 : lo ≤ m := by omega
      have hm2 : m < hi := by omega
      have hml : m < l.length := by omega
      have hcl := HE.out nd m hml
      obtain ⟨s, hx⟩ : ∃ s, s = l[m]'hml := ⟨_, rfl⟩
      rw [← hx] at hcl
      have HX := Lib.hid hx
      have HCl := Lib.hid hcl
      clear hx hm hcl
      go_wp2_with fail
      refine HCl.out.mono ?_
      rintro e w1 ⟨rfl, n1, rfl⟩
      rw [World.drewN_drewN]
      cases hl : gtS s key with
      | true =>
        have HL := Lib.hid hl
        clear hl
        go_wp2
        go_roundw
        case rel =>
          refine ⟨lo, m, hm1, by omega, rfl, rfl, H1.out, fun j hj hjm => ?_, nd + n1, rfl⟩
          rcases Nat.lt_or_ge m j with h | h
          · have h3 := HS.out m j hj h
            rw [← HX.out] at h3
            rw [gtS_eq]
            have h4 := HL.out
            rw [gtS_eq] at h4
            exact sLt_trans h4 h3
          · obtain rfl : j = m := by omega
            rw [← HX.out]; exact HL.out
        case measure => simp [intOf]; omega
      | false =>
        have HL := Lib.hid hl
        clear hl
        go_wp2
        go_roundw
        case rel =>
          refine ⟨m + 1, hi, by omega, hhi, by go_num, rfl, fun j hj hjm => ?_, H2.out, nd + n1, rfl⟩
          rcases Nat.lt_or_ge j m with h | h
          · have h3 := HS.out j m hml h
            rw [← HX.out] at h3
            rw [gtS_eq, Bool.eq_false_iff]
            intro h5
            have h4 := HL.out
            rw [gtS_eq] at h4
            rw [sLt_trans h5 h3] at h4
            cases h4
          · obtain rfl : j = m := by omega
            rw [← HX.out]; exact HL.out
        case measure => simp [intOf]; omega
    · obtain rfl : lo = hi := by omega
      have hP : PartAt (fun k => !gtS k key) l lo := ⟨hhi, fun j h hj => by simp [H1.out j h hj], fun j h hj => by simp [H2.out j h hj]⟩
      have HP := Lib.hid hP
      clear hP
      go_wp2
      go_ret
      exact ⟨lo, rfl, HP.out, nd, rfl⟩

end Go.Proofs.YtdmgmpagnmmehaaDoor
