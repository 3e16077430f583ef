/- Walks: the reference's Find; banyanlaw09's great. -/
import Derived.Test.YtdhlcofjpkbgaaaFindC
namespace Go.Proofs.Ytdhlcofjpkbgaaa
open Go.RowKit

def atTo (n : Nd) (key : ByteArray) (k : Nat) : Nat := ((n.keys.take k).filter (atP n.leaf key)).length
def isTo (l : List ByteArray) (key : ByteArray) (k : Nat) : Bool := (l.take k).any (fun x => sEq x key)
theorem atTo_succ (n : Nd) (key : ByteArray) (k : Nat) (h : k < n.keys.length) : atTo n key (k + 1) = atTo n key k + (if atP n.leaf key n.keys[k] then 1 else 0) := by
  unfold atTo
  rw [List.take_succ_eq_append_getElem h, List.filter_append, List.length_append]
  cases hq : atP n.leaf key n.keys[k] <;> simp [hq]
theorem isTo_succ (l : List ByteArray) (key : ByteArray) (k : Nat) (h : k < l.length) : isTo l key (k + 1) = (isTo l key k || sEq l[k] key) := by
  unfold isTo
  rw [List.take_succ_eq_append_getElem h, List.any_append]; simp
theorem atTo_le (n : Nd) (key : ByteArray) (k : Nat) : atTo n key k ≤ k := by
  unfold atTo
  refine Nat.le_trans (List.length_filter_le _ _) ?_
  simp [List.length_take]; omega

set_option maxRecDepth 100000 in
set_option maxHeartbeats 4000000 in
theorem refFind_any (arr : Array Value) (n : Nd) (key : ByteArray) (w : World) (h : NdIs w arr n) (hf : n.Fits) :
    Calls Try.prog 25 #[.agg arr, .string key] w fun e w' => e = .returned (.tuple #[.int .i64 (findAt n key : Int), .bool (findIs n.keys key)]) ∧ Below w.heap.size w w' := by
  obtain ⟨ak, ck, av, cv, ap, cp, rfl, hk, hv, hp⟩ := h.get
  have hb0 : Below w.heap.size w (w.alloc (.cells #[.bool n.leaf, .slice ak n.keys.length ck, .slice av n.vals.length cv, .slice ap n.kids.length cp] 55)) := (Below.refl _ w).alloc (Nat.le_refl _) _
  have HK := Lib.hid (hk.below hb0)
  have HB := Lib.hid hb0
  have hb1 := hf.keys
  clear h hk hv hp hb0 hf
  cases hl : n.leaf with
  | true =>
    rw [hl] at HK HB
    have HL := Lib.hid hl
    clear hl
    go_enter Try.func25, Try.ntmps25
    go_wp2_with fail
    go_loop [6, 7, 13] (fun x y i => ∃ k : Nat, k ≤ n.keys.length ∧ i = .int .i64 k ∧ x = .int .i64 (atTo n key k : Int) ∧ y = .bool (isTo n.keys key k)) (fun _ _ i => n.keys.length - (intOf i).toNat)
    case atStart => exact ⟨0, Nat.zero_le _, rfl, by simp [atTo], by simp [isTo]⟩
    case round =>
      obtain ⟨k, hk, rfl, rfl, rfl⟩ := hrel
      rcases Nat.lt_or_ge k n.keys.length with hlt | hge
      · obtain ⟨a', c', e', hel⟩ := HK.out.open
        simp only [Value.slice.injEq, true_and] at e'
        obtain ⟨rfl, rfl⟩ := e'
        obtain ⟨b, o, rfl, hc⟩ := hel k hlt
        have h1 := atTo_succ n key k hlt
        have h2 := isTo_succ n.keys key k hlt
        have h3 := atTo_le n key k
        obtain ⟨s, hs⟩ : ∃ s, s = n.keys[k]'hlt := ⟨_, rfl⟩
        rw [← hs] at hc h1 h2
        obtain ⟨A, hA⟩ : ∃ A, A = atTo n key k := ⟨_, rfl⟩
        obtain ⟨I, hI⟩ : ∃ I, I = isTo n.keys key k := ⟨_, rfl⟩
        rw [← hA] at h1 h3 ⊢
        rw [← hI] at h2 ⊢
        have HI := Lib.hid h2
        clear hel hs hA hI h2
        unfold atP sLt sEq at h1
        rw [HL.out] at h1
        unfold sEq at HI
        cases hL : Op.bytesLess s.toList key.toList with
        | true =>
          rw [hL] at h1
          simp only [Bool.false_or, Bool.true_or, Bool.true_and, Bool.false_and, Bool.and_false, Bool.and_true, Bool.not_true, Bool.not_false, if_true, Bool.false_eq_true, if_false, Nat.add_zero] at h1
          have H1 := Lib.hid h1
          clear h1
          cases hE : (s.toList == key.toList) with
          | true =>
            rw [hE] at HI
            have hE' : s.toList = key.toList := by simpa using hE
            have hkk : Op.bytesLess key.toList key.toList = false := sLt_irrefl key
            have hL2 := hL
            rw [hE', hkk] at hL2
            cases hL2
          | false =>
            rw [hE] at HI
            have hE' : ¬ s.toList = key.toList := by simpa using hE
            clear hE
            cases I <;> (
              go_wp2
              all_goals
                go_round
                case rel => exact ⟨k + 1, by omega, by go_num, by rw [H1.out]; first | done | rfl | go_num, by rw [HI.out]; first | rfl | simp [hE']⟩
                case measure => simp [intOf]; omega)
        | false =>
          rw [hL] at h1
          cases hE : (s.toList == key.toList) with
          | true =>
            rw [hE] at HI h1
            have hE' : s.toList = key.toList := by simpa using hE
            have hkk : Op.bytesLess key.toList key.toList = false := sLt_irrefl key
            have hL2 := hL
            rw [hE', hkk] at hL2
            clear hL2
            clear hE
            simp only [Bool.false_or, Bool.true_or, Bool.true_and, Bool.false_and, Bool.and_false, Bool.and_true, Bool.not_true, Bool.not_false, if_true, Bool.false_eq_true, if_false, Nat.add_zero] at h1
            have H1 := Lib.hid h1
            clear h1
            cases I <;> (
              go_wp2
              all_goals
                go_round
                case rel => exact ⟨k + 1, by omega, by go_num, by rw [H1.out]; first | done | rfl | go_num, by rw [HI.out]; first | rfl | simp [hE']⟩
                case measure => simp [intOf]; omega)
          | false =>
            rw [hE] at HI h1
            have hE' : ¬ s.toList = key.toList := by simpa using hE
            simp only [Bool.false_or, Bool.true_or, Bool.true_and, Bool.false_and, Bool.and_false, Bool.and_true, Bool.not_true, Bool.not_false, if_true, Bool.false_eq_true, if_false, Nat.add_zero] at h1
            have H1 := Lib.hid h1
            clear hE h1
            cases I <;> (
              go_wp2
              all_goals
                go_round
                case rel => exact ⟨k + 1, by omega, by go_num, by rw [H1.out]; first | done | rfl | go_num, by rw [HI.out]; first | rfl | simp [hE']⟩
                case measure => simp [intOf]; omega)
      · obtain rfl : k = n.keys.length := by omega
        have e1 : atTo n key n.keys.length = findAt n key := by unfold atTo findAt; rw [List.take_length]
        have e2 : isTo n.keys key n.keys.length = findIs n.keys key := by unfold isTo findIs; rw [List.take_length]
        rw [e1, e2]
        clear e1 e2
        go_wp2
        go_ret2
        exact ⟨rfl, HB.out⟩
  | false =>
    rw [hl] at HK HB
    have HL := Lib.hid hl
    clear hl
    go_enter Try.func25, Try.ntmps25
    go_wp2_with fail
    go_loop [6, 7, 13] (fun x y i => ∃ k : Nat, k ≤ n.keys.length ∧ i = .int .i64 k ∧ x = .int .i64 (atTo n key k : Int) ∧ y = .bool (isTo n.keys key k)) (fun _ _ i => n.keys.length - (intOf i).toNat)
    case atStart => exact ⟨0, Nat.zero_le _, rfl, by simp [atTo], by simp [isTo]⟩
    case round =>
      obtain ⟨k, hk, rfl, rfl, rfl⟩ := hrel
      rcases Nat.lt_or_ge k n.keys.length with hlt | hge
      · obtain ⟨a', c', e', hel⟩ := HK.out.open
        simp only [Value.slice.injEq, true_and] at e'
        obtain ⟨rfl, rfl⟩ := e'
        obtain ⟨b, o, rfl, hc⟩ := hel k hlt
        have h1 := atTo_succ n key k hlt
        have h2 := isTo_succ n.keys key k hlt
        have h3 := atTo_le n key k
        obtain ⟨s, hs⟩ : ∃ s, s = n.keys[k]'hlt := ⟨_, rfl⟩
        rw [← hs] at hc h1 h2
        obtain ⟨A, hA⟩ : ∃ A, A = atTo n key k := ⟨_, rfl⟩
        obtain ⟨I, hI⟩ : ∃ I, I = isTo n.keys key k := ⟨_, rfl⟩
        rw [← hA] at h1 h3 ⊢
        rw [← hI] at h2 ⊢
        have HI := Lib.hid h2
        clear hel hs hA hI h2
        unfold atP sLt sEq at h1
        rw [HL.out] at h1
        unfold sEq at HI
        cases hL : Op.bytesLess s.toList key.toList with
        | true =>
          rw [hL] at h1
          simp only [Bool.false_or, Bool.true_or, Bool.true_and, Bool.false_and, Bool.and_false, Bool.and_true, Bool.not_true, Bool.not_false, if_true, Bool.false_eq_true, if_false, Nat.add_zero] at h1
          have H1 := Lib.hid h1
          clear h1
          cases hE : (s.toList == key.toList) with
          | true =>
            rw [hE] at HI
            have hE' : s.toList = key.toList := by simpa using hE
            have hkk : Op.bytesLess key.toList key.toList = false := sLt_irrefl key
            have hL2 := hL
            rw [hE', hkk] at hL2
            cases hL2
          | false =>
            rw [hE] at HI
            have hE' : ¬ s.toList = key.toList := by simpa using hE
            clear hE
            cases I <;> (
              go_wp2
              all_goals
                go_round
                case rel => exact ⟨k + 1, by omega, by go_num, by rw [H1.out]; first | done | rfl | go_num, by rw [HI.out]; first | rfl | simp [hE']⟩
                case measure => simp [intOf]; omega)
        | false =>
          rw [hL] at h1
          cases hE : (s.toList == key.toList) with
          | true =>
            rw [hE] at HI h1
            have hE' : s.toList = key.toList := by simpa using hE
            have hkk : Op.bytesLess key.toList key.toList = false := sLt_irrefl key
            have hL2 := hL
            rw [hE', hkk] at hL2
            clear hL2
            clear hE
            simp only [Bool.false_or, Bool.true_or, Bool.true_and, Bool.false_and, Bool.and_false, Bool.and_true, Bool.not_true, Bool.not_false, if_true, Bool.false_eq_true, if_false, Nat.add_zero] at h1
            have H1 := Lib.hid h1
            clear h1
            cases I <;> (
              go_wp2
              all_goals
                go_round
                case rel => exact ⟨k + 1, by omega, by go_num, by rw [H1.out]; first | done | rfl | go_num, by rw [HI.out]; first | rfl | simp [hE']⟩
                case measure => simp [intOf]; omega)
          | false =>
            rw [hE] at HI h1
            have hE' : ¬ s.toList = key.toList := by simpa using hE
            simp only [Bool.false_or, Bool.true_or, Bool.true_and, Bool.false_and, Bool.and_false, Bool.and_true, Bool.not_true, Bool.not_false, if_true, Bool.false_eq_true, if_false, Nat.add_zero] at h1
            have H1 := Lib.hid h1
            clear hE h1
            cases I <;> (
              go_wp2
              all_goals
                go_round
                case rel => exact ⟨k + 1, by omega, by go_num, by rw [H1.out]; first | done | rfl | go_num, by rw [HI.out]; first | rfl | simp [hE']⟩
                case measure => simp [intOf]; omega)
      · obtain rfl : k = n.keys.length := by omega
        have e1 : atTo n key n.keys.length = findAt n key := by unfold atTo findAt; rw [List.take_length]
        have e2 : isTo n.keys key n.keys.length = findIs n.keys key := by unfold isTo findIs; rw [List.take_length]
        rw [e1, e2]
        clear e1 e2
        go_wp2
        go_ret2
        exact ⟨rfl, HB.out⟩

end Go.Proofs.Ytdhlcofjpkbgaaa
