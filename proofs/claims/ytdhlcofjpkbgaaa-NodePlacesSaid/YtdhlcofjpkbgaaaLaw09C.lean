/- Walk: banyanlaw09's NodePlaces. -/
import Derived.Test.YtdhlcofjpkbgaaaLaw09A
import Derived.Test.YtdhlcofjpkbgaaaFindD
namespace Go.Proofs.Ytdhlcofjpkbgaaa
open Go.RowKit

theorem checkE_zero {n : Nd} (h : checkE n = 0) : formB n = true ∧ ¬ 512 < sizeN n := by
  cases hf : formB n with
  | false => rw [checkE_bad hf] at h; cases h
  | true =>
    refine ⟨rfl, fun h2 => ?_⟩
    rw [checkE_full hf h2] at h; cases h

theorem sLt_cases {a b : ByteArray} (h : sLt b a = false) : Op.bytesLess a.toList b.toList = true ∨ a.toList = b.toList := by
  unfold sLt at h
  rw [bytesLess_eq] at h ⊢
  simp only [decide_eq_false_iff_not, decide_eq_true_iff, List.not_lt] at h ⊢
  exact List.le_iff_lt_or_eq.1 h

def wantAt (n : Nd) (i : Nat) : Nat := if n.leaf then i else i + 1

set_option maxRecDepth 100000 in
set_option maxHeartbeats 8000000 in
theorem nodePlaces_any (arr : Array Value) (n : Nd) (key : ByteArray) (w : World) (h : NdIs w arr n) (hf : n.Fits) :
    Calls Try.prog 7 #[.agg arr, .string key] w fun e w' => e = .returned (.bool true) ∧ Below w.heap.size w w' := by
  have hn := fun (w' : World) (hb : Below w.heap.size w w') => (h.below hb : NdIs w' arr n)
  obtain ⟨ak, ck, av, cv, ap, cp, rfl, hk, hv, hp⟩ := h.get
  have hb0 : Below w.heap.size w (w.alloc (.cells #[.bool n.leaf, .slice ak n.keys.length ck, .slice av n.vals.length cv, .slice ap n.kids.length cp] 55)) := (Below.refl _ w).alloc (Nat.le_refl _) _
  have HN := Lib.hid hn
  have HK := Lib.hid (fun (w' : World) (hb : Below w.heap.size w w') => (hk.below hb : StrsIn w' (.slice ak n.keys.length ck) n.keys))
  have HB := Lib.hid hb0
  have HF := Lib.hid hf
  have HT := Lib.hid (At_nd (heap_alloc_new w (.cells #[.bool n.leaf, .slice ak n.keys.length ck, .slice av n.vals.length cv, .slice ap n.kids.length cp] 55)))
  have b1 := hf.keys
  clear h hk hv hp hb0 hf hn
  go_enter Try.func7, Try.ntmps7
  go_wp2_with fail
  refine (alive09 _).mono ?_
  rintro e w1 ⟨rfl, hb1⟩
  have HT1 := Lib.hid (HT.out.fr (Fr.of_below (S := fun _ => False) hb1) id)
  have HB1 := Lib.hid (HB.out.trans (hb1.mono HB.out.size))
  have HN1 := Lib.hid (HN.out _ HB1.out)
  clear hb1
  go_wp2_with (refine load_nd rfl (.tmp 2) rfl rfl HT1.out rfl ?_)
  refine (great09_any _ n _ HN1.out HF.out).mono ?_
  rintro e w2 ⟨rfl, hb2⟩
  have HT2 := Lib.hid (HT1.out.fr (Fr.of_below (S := fun _ => False) hb2) id)
  have HB2 := Lib.hid (HB1.out.trans (hb2.mono HB1.out.size))
  have HN2 := Lib.hid (HN.out _ HB2.out)
  clear hb2
  cases hg : great9 n with
  | true =>
    clear hg
    go_wp2
    go_ret
    exact ⟨rfl, HB2.out⟩
  | false =>
    clear hg
    go_wp2_with (refine gload_nd rfl (.tmp 2) rfl rfl HT2.out rfl ?_)
    refine (check_any _ n _ HN2.out HF.out).mono ?_
    rintro e w3 ⟨rfl, hb3⟩
    have HT3 := Lib.hid (HT2.out.fr (Fr.of_below (S := fun _ => False) hb3) id)
    have HB3 := Lib.hid (HB2.out.trans (hb3.mono HB2.out.size))
    clear hb3
    by_cases hc : checkE n = 0
    case neg =>
      have hbc : (checkE n != 0) = true := by simpa using hc
      clear hc
      go_wp2
      go_ret
      exact ⟨rfl, HB3.out⟩
    case pos =>
      have HQ := Lib.hid (formB_keys (checkE_zero hc).1)
      have HR := Lib.hid (keysB_rising HQ.out)
      rw [hc]
      clear hc
      have c1 : w3.cell? ⟨w.heap.size, 1, none⟩ = some (.slice ak n.keys.length ck) := by simpa using HT3.out 1 _ rfl
      go_wp2_with fail
      clear c1
      go_loopw [29, 5, 6, 7, 8, 9] (fun i _ _ _ _ _ wr => ∃ k : Nat, k ≤ n.keys.length ∧ i = .int .i64 k ∧ Below w3.heap.size w3 wr) (fun i _ _ _ _ _ _ => n.keys.length - (intOf i).toNat)
      case atStart => exact ⟨0, Nat.zero_le _, rfl, Below.refl _ _⟩
      case round =>
        obtain ⟨k, hk, rfl, hbr⟩ := hrel
        have HTr := Lib.hid (HT3.out.fr (Fr.of_below (S := fun _ => False) hbr) id)
        have HBr := Lib.hid (HB3.out.trans (hbr.mono HB3.out.size))
        have HBR := Lib.hid hbr
        have HKr := Lib.hid (HK.out _ HBr.out)
        have HNr := Lib.hid (HN.out _ HBr.out)
        clear hbr
        rcases Nat.lt_or_ge k n.keys.length with hlt | hge
        · obtain ⟨a', c', e', hel⟩ := HKr.out.open
          simp only [Value.slice.injEq, true_and] at e'
          obtain ⟨rfl, rfl⟩ := e'
          obtain ⟨b, o, rfl, hc⟩ := hel k hlt
          have hfk := fun w h => find_any #[.bool n.leaf, .slice (some ⟨b, o, none⟩) n.keys.length ck, .slice av n.vals.length cv, .slice ap n.kids.length cp] n (n.keys[k]'hlt) w h HF.out HR.out
          rw [findAt_own HR.out k hlt, findIs_own k hlt] at hfk
          have HFK := Lib.hid hfk
          have c0 : wr.cell? ⟨w.heap.size, 0, none⟩ = some (.bool n.leaf) := by simpa using HTr.out 0 _ rfl
          clear hel hfk
          cases hl : n.leaf with
          | true =>
            rw [hl, if_pos rfl] at HFK
            rw [hl] at c0 HTr HNr
            have HL := Lib.hid hl
            clear hl
            go_wp2_with (refine load_nd rfl (.tmp 2) rfl rfl HTr.out rfl ?_)
            refine (HFK.out _ HNr.out).mono ?_
            rintro e w4 ⟨rfl, hb4⟩
            have HB4 := Lib.hid (HBR.out.trans (hb4.mono HBR.out.size))
            clear hb4 c0
            go_wp2
            go_roundw
            case rel => exact ⟨k + 1, by omega, by go_num, HB4.out⟩
            case measure => simp [intOf]; omega
          | false =>
            rw [hl, if_neg (by simp)] at HFK
            rw [hl] at c0 HTr HNr
            have HL := Lib.hid hl
            clear hl
            go_wp2_with (refine load_nd rfl (.tmp 2) rfl rfl HTr.out rfl ?_)
            refine (HFK.out _ HNr.out).mono ?_
            rintro e w4 ⟨rfl, hb4⟩
            have HB4 := Lib.hid (HBR.out.trans (hb4.mono HBR.out.size))
            clear hb4 c0
            go_wp2
            go_roundw
            case rel => exact ⟨k + 1, by omega, by go_num, HB4.out⟩
            case measure => simp [intOf]; omega
        · obtain rfl : k = n.keys.length := by omega
          go_wp2_with (refine load_nd rfl (.tmp 2) rfl rfl HTr.out rfl ?_)
          refine (find_any _ n key _ HNr.out HF.out HR.out).mono ?_
          rintro e w4 ⟨rfl, hb4⟩
          have HT4 := Lib.hid (HTr.out.fr (Fr.of_below (S := fun _ => False) hb4) id)
          have HB4 := Lib.hid (HBr.out.trans (hb4.mono HBr.out.size))
          have HK4 := Lib.hid (HK.out _ HB4.out)
          have HN4 := Lib.hid (HN.out _ HB4.out)
          have c1 : w4.cell? ⟨w.heap.size, 1, none⟩ = some (.slice ak n.keys.length ck) := by simpa using HT4.out 1 _ rfl
          clear hb4
          obtain ⟨a', c', e', hel⟩ := HK4.out.open
          simp only [Value.slice.injEq, true_and] at e'
          obtain ⟨rfl, rfl⟩ := e'
          have HEL := Lib.hid hel
          clear hel
          have hA1 := findAt_le (n := n) key
          have HAH := Lib.hid (findAt_ahead key HR.out)
          have HTH := Lib.hid (findAt_there key HR.out)
          obtain ⟨A, hA⟩ : ∃ A, A = findAt n key := ⟨_, rfl⟩
          obtain ⟨I, hI⟩ : ∃ I, I = findIs n.keys key := ⟨_, rfl⟩
          rw [← hA] at hA1 HTH
          have HAH' := Lib.hid (fun (i : Nat) (hi : i < n.keys.length) (h : A = i + 1) => HAH.out i hi (hA ▸ h))
          rw [← hA, ← hI]
          have HI := Lib.hid hI
          clear hA hI HAH
          have n1 : ¬ ((n.keys.length : Int) < (A : Int)) := by omega
          have n2 : ¬ ((A : Int) < 0) := by omega
          have hf0 := fun w h => find_any #[.bool n.leaf, .slice ak n.keys.length ck, .slice av n.vals.length cv, .slice ap n.kids.length cp] n ⟨#[]⟩ w h HF.out HR.out
          rw [findAt_first HQ.out] at hf0
          obtain ⟨Z, hZ⟩ : ∃ Z, Z = findIs n.keys ⟨#[]⟩ := ⟨_, rfl⟩
          rw [← hZ] at hf0
          have HF0 := Lib.hid hf0
          clear hf0 hZ
          rcases Nat.eq_zero_or_pos n.keys.length with h0 | hpos
          · obtain rfl : A = 0 := by omega
            have n3 : ¬ ((0 : Int) < (n.keys.length : Int)) := by omega
            clear h0 n1 n2
            go_wp2_with fail
            go_loop [102, 12, 14] (fun i y _ => ∃ k : Nat, k ≤ n.keys.length ∧ i = .int .i64 k ∧ y = .bool (isTo n.keys key k)) (fun i _ _ => n.keys.length - (intOf i).toNat)
            case atStart => exact ⟨0, Nat.zero_le _, rfl, by simp [isTo]⟩
            case round =>
              obtain ⟨k, hk, rfl, rfl⟩ := hrel
              rcases Nat.lt_or_ge k n.keys.length with hlt | hge
              · obtain ⟨b', o', e', hc⟩ := HEL.out k hlt
                first
                  | (simp only [Option.some.injEq, Addr.mk.injEq, and_true] at e'; obtain ⟨rfl, rfl⟩ := e')
                  | subst e'
                have h2 := isTo_succ n.keys key k hlt
                obtain ⟨s, hs⟩ : ∃ s, s = n.keys[k]'hlt := ⟨_, rfl⟩
                obtain ⟨J, hJ⟩ : ∃ J, J = isTo n.keys key k := ⟨_, rfl⟩
                rw [← hs] at hc h2
                rw [← hJ] at h2 ⊢
                clear hs hJ
                unfold sEq at h2
                cases hE : (s.toList == key.toList) with
                | true =>
                  rw [hE] at h2
                  have HI2 := Lib.hid h2
                  have hE' : s.toList = key.toList := by simpa using hE
                  clear h2 hE
                  cases J <;> (
                    go_wp2
                    all_goals
                      go_round
                      case rel => exact ⟨k + 1, by omega, by go_num, by rw [HI2.out]; first | rfl | simp [hE']⟩
                      case measure => simp [intOf]; omega)
                | false =>
                  rw [hE] at h2
                  have HI2 := Lib.hid h2
                  have hE' : ¬ s.toList = key.toList := by simpa using hE
                  clear h2 hE
                  cases J <;> (
                    go_wp2
                    all_goals
                      go_round
                      case rel => exact ⟨k + 1, by omega, by go_num, by rw [HI2.out]; first | rfl | simp [hE']⟩
                      case measure => simp [intOf]; omega)
              · obtain rfl : k = n.keys.length := by omega
                have e2 : isTo n.keys key n.keys.length = I := by rw [HI.out]; unfold isTo findIs; rw [List.take_length]
                rw [e2]
                clear e2
                go_wp2_with (refine load_nd rfl (.tmp 2) rfl rfl HT4.out rfl ?_)
                refine (HF0.out _ HN4.out).mono ?_
                rintro e w5 ⟨rfl, hb5⟩
                have HB5 := Lib.hid (HB4.out.trans (hb5.mono HB4.out.size))
                clear hb5
                go_wp2
                go_ret
                exact ⟨by simp, HB5.out⟩
          · obtain ⟨b, o, rfl, hk0⟩ := HEL.out 0 hpos
            have hk0' : w4.cell? ⟨b, o, none⟩ = some (.string (n.keys[0]'hpos)) := by simpa using hk0
            clear hk0
            rcases A with _ | i
            · have hlt0 := HTH.out hpos
              have m1 : (0 : Int) < (n.keys.length : Int) := by omega
              have hlt1 : Op.bytesLess (n.keys[0]'hpos).toList key.toList = false := hlt0
              obtain ⟨s0, hs0⟩ : ∃ s0, s0 = n.keys[0]'hpos := ⟨_, rfl⟩
              rw [← hs0] at hk0' hlt1
              clear hlt0 hs0 n1 n2
              go_wp2_with fail
              go_loop [102, 12, 14] (fun i y _ => ∃ k : Nat, k ≤ n.keys.length ∧ i = .int .i64 k ∧ y = .bool (isTo n.keys key k)) (fun i _ _ => n.keys.length - (intOf i).toNat)
              case atStart => exact ⟨0, Nat.zero_le _, rfl, by simp [isTo]⟩
              case round =>
                obtain ⟨k, hk, rfl, rfl⟩ := hrel
                rcases Nat.lt_or_ge k n.keys.length with hlt | hge
                · obtain ⟨b', o', e', hc⟩ := HEL.out k hlt
                  first
                    | (simp only [Option.some.injEq, Addr.mk.injEq, and_true] at e'; obtain ⟨rfl, rfl⟩ := e')
                    | subst e'
                  have h2 := isTo_succ n.keys key k hlt
                  obtain ⟨s, hs⟩ : ∃ s, s = n.keys[k]'hlt := ⟨_, rfl⟩
                  obtain ⟨J, hJ⟩ : ∃ J, J = isTo n.keys key k := ⟨_, rfl⟩
                  rw [← hs] at hc h2
                  rw [← hJ] at h2 ⊢
                  clear hs hJ
                  unfold sEq at h2
                  cases hE : (s.toList == key.toList) with
                  | true =>
                    rw [hE] at h2
                    have HI2 := Lib.hid h2
                    have hE' : s.toList = key.toList := by simpa using hE
                    clear h2 hE
                    cases J <;> (
                      go_wp2
                      all_goals
                        go_round
                        case rel => exact ⟨k + 1, by omega, by go_num, by rw [HI2.out]; first | rfl | simp [hE']⟩
                        case measure => simp [intOf]; omega)
                  | false =>
                    rw [hE] at h2
                    have HI2 := Lib.hid h2
                    have hE' : ¬ s.toList = key.toList := by simpa using hE
                    clear h2 hE
                    cases J <;> (
                      go_wp2
                      all_goals
                        go_round
                        case rel => exact ⟨k + 1, by omega, by go_num, by rw [HI2.out]; first | rfl | simp [hE']⟩
                        case measure => simp [intOf]; omega)
                · obtain rfl : k = n.keys.length := by omega
                  have e2 : isTo n.keys key n.keys.length = I := by rw [HI.out]; unfold isTo findIs; rw [List.take_length]
                  rw [e2]
                  clear e2
                  go_wp2_with (refine load_nd rfl (.tmp 2) rfl rfl HT4.out rfl ?_)
                  refine (HF0.out _ HN4.out).mono ?_
                  rintro e w5 ⟨rfl, hb5⟩
                  have HB5 := Lib.hid (HB4.out.trans (hb5.mono HB4.out.size))
                  clear hb5
                  go_wp2
                  go_ret
                  exact ⟨by simp, HB5.out⟩
            · have hi : i < n.keys.length := by omega
              have ha := HAH'.out i hi rfl
              have ha1 : Op.bytesLess (n.keys[i]'hi).toList key.toList = true ∨ (n.keys[i]'hi).toList = key.toList := sLt_cases ha
              obtain ⟨b', o', e', hki⟩ := HEL.out i hi
              simp only [Option.some.injEq, Addr.mk.injEq, and_true] at e'
              obtain ⟨rfl, rfl⟩ := e'
              obtain ⟨si, hsi⟩ : ∃ si, si = n.keys[i]'hi := ⟨_, rfl⟩
              rw [← hsi] at hki ha1
              have ew : wrap64 (i : Int) = (i : Int) := by unfold wrap64; omega
              have m0 : (0 : Int) < (i : Int) + 1 := by omega
              have m2 : ¬ ((i : Int) + 1 < 0) := by omega
              have m3 : ¬ ((n.keys.length : Int) < (i : Int) + 1) := by omega
              clear ha hk0' hsi n1 n2
              rcases ha1 with ha1 | ha1
              · have ha2 : (!Op.bytesLess si.toList key.toList) = false := by rw [ha1]; rfl
                rcases Nat.lt_or_ge (i + 1) n.keys.length with h9 | h9
                · have m1 : (i : Int) + 1 < (n.keys.length : Int) := by omega
                  have hlt0 := HTH.out h9
                  have hlt1 : Op.bytesLess (n.keys[i + 1]'h9).toList key.toList = false := hlt0
                  obtain ⟨b', o', e', hkj⟩ := HEL.out (i + 1) h9
                  simp only [Option.some.injEq, Addr.mk.injEq, and_true] at e'
                  obtain ⟨rfl, rfl⟩ := e'
                  obtain ⟨sj, hsj⟩ : ∃ sj, sj = n.keys[i + 1]'h9 := ⟨_, rfl⟩
                  rw [← hsj] at hkj hlt1
                  clear hlt0 hsj
                  go_wp2_with fail
                  go_loop [102, 12, 14] (fun i y _ => ∃ k : Nat, k ≤ n.keys.length ∧ i = .int .i64 k ∧ y = .bool (isTo n.keys key k)) (fun i _ _ => n.keys.length - (intOf i).toNat)
                  case atStart => exact ⟨0, Nat.zero_le _, rfl, by simp [isTo]⟩
                  case round =>
                    obtain ⟨k, hk, rfl, rfl⟩ := hrel
                    rcases Nat.lt_or_ge k n.keys.length with hlt | hge
                    · obtain ⟨b', o', e', hc⟩ := HEL.out k hlt
                      first
                        | (simp only [Option.some.injEq, Addr.mk.injEq, and_true] at e'; obtain ⟨rfl, rfl⟩ := e')
                        | subst e'
                      have h2 := isTo_succ n.keys key k hlt
                      obtain ⟨s, hs⟩ : ∃ s, s = n.keys[k]'hlt := ⟨_, rfl⟩
                      obtain ⟨J, hJ⟩ : ∃ J, J = isTo n.keys key k := ⟨_, rfl⟩
                      rw [← hs] at hc h2
                      rw [← hJ] at h2 ⊢
                      clear hs hJ
                      unfold sEq at h2
                      cases hE : (s.toList == key.toList) with
                      | true =>
                        rw [hE] at h2
                        have HI2 := Lib.hid h2
                        have hE' : s.toList = key.toList := by simpa using hE
                        clear h2 hE
                        cases J <;> (
                          go_wp2
                          all_goals
                            go_round
                            case rel => exact ⟨k + 1, by omega, by go_num, by rw [HI2.out]; first | rfl | simp [hE']⟩
                            case measure => simp [intOf]; omega)
                      | false =>
                        rw [hE] at h2
                        have HI2 := Lib.hid h2
                        have hE' : ¬ s.toList = key.toList := by simpa using hE
                        clear h2 hE
                        cases J <;> (
                          go_wp2
                          all_goals
                            go_round
                            case rel => exact ⟨k + 1, by omega, by go_num, by rw [HI2.out]; first | rfl | simp [hE']⟩
                            case measure => simp [intOf]; omega)
                    · obtain rfl : k = n.keys.length := by omega
                      have e2 : isTo n.keys key n.keys.length = I := by rw [HI.out]; unfold isTo findIs; rw [List.take_length]
                      rw [e2]
                      clear e2
                      go_wp2_with (refine load_nd rfl (.tmp 2) rfl rfl HT4.out rfl ?_)
                      refine (HF0.out _ HN4.out).mono ?_
                      rintro e w5 ⟨rfl, hb5⟩
                      have HB5 := Lib.hid (HB4.out.trans (hb5.mono HB4.out.size))
                      clear hb5
                      go_wp2
                      go_ret
                      exact ⟨by simp, HB5.out⟩
                · have m1 : ¬ ((i : Int) + 1 < (n.keys.length : Int)) := by omega
                  go_wp2_with fail
                  go_loop [102, 12, 14] (fun i y _ => ∃ k : Nat, k ≤ n.keys.length ∧ i = .int .i64 k ∧ y = .bool (isTo n.keys key k)) (fun i _ _ => n.keys.length - (intOf i).toNat)
                  case atStart => exact ⟨0, Nat.zero_le _, rfl, by simp [isTo]⟩
                  case round =>
                    obtain ⟨k, hk, rfl, rfl⟩ := hrel
                    rcases Nat.lt_or_ge k n.keys.length with hlt | hge
                    · obtain ⟨b', o', e', hc⟩ := HEL.out k hlt
                      first
                        | (simp only [Option.some.injEq, Addr.mk.injEq, and_true] at e'; obtain ⟨rfl, rfl⟩ := e')
                        | subst e'
                      have h2 := isTo_succ n.keys key k hlt
                      obtain ⟨s, hs⟩ : ∃ s, s = n.keys[k]'hlt := ⟨_, rfl⟩
                      obtain ⟨J, hJ⟩ : ∃ J, J = isTo n.keys key k := ⟨_, rfl⟩
                      rw [← hs] at hc h2
                      rw [← hJ] at h2 ⊢
                      clear hs hJ
                      unfold sEq at h2
                      cases hE : (s.toList == key.toList) with
                      | true =>
                        rw [hE] at h2
                        have HI2 := Lib.hid h2
                        have hE' : s.toList = key.toList := by simpa using hE
                        clear h2 hE
                        cases J <;> (
                          go_wp2
                          all_goals
                            go_round
                            case rel => exact ⟨k + 1, by omega, by go_num, by rw [HI2.out]; first | rfl | simp [hE']⟩
                            case measure => simp [intOf]; omega)
                      | false =>
                        rw [hE] at h2
                        have HI2 := Lib.hid h2
                        have hE' : ¬ s.toList = key.toList := by simpa using hE
                        clear h2 hE
                        cases J <;> (
                          go_wp2
                          all_goals
                            go_round
                            case rel => exact ⟨k + 1, by omega, by go_num, by rw [HI2.out]; first | rfl | simp [hE']⟩
                            case measure => simp [intOf]; omega)
                    · obtain rfl : k = n.keys.length := by omega
                      have e2 : isTo n.keys key n.keys.length = I := by rw [HI.out]; unfold isTo findIs; rw [List.take_length]
                      rw [e2]
                      clear e2
                      go_wp2_with (refine load_nd rfl (.tmp 2) rfl rfl HT4.out rfl ?_)
                      refine (HF0.out _ HN4.out).mono ?_
                      rintro e w5 ⟨rfl, hb5⟩
                      have HB5 := Lib.hid (HB4.out.trans (hb5.mono HB4.out.size))
                      clear hb5
                      go_wp2
                      go_ret
                      exact ⟨by simp, HB5.out⟩
              · obtain rfl : key = si := ((sEq_iff _ _).1 (by unfold sEq; rw [ha1]; simp)).symm
                have ha2 : (key.toList == key.toList) = true := by simp
                clear ha1
                rcases Nat.lt_or_ge (i + 1) n.keys.length with h9 | h9
                · have m1 : (i : Int) + 1 < (n.keys.length : Int) := by omega
                  have hlt0 := HTH.out h9
                  have hlt1 : Op.bytesLess (n.keys[i + 1]'h9).toList key.toList = false := hlt0
                  obtain ⟨b', o', e', hkj⟩ := HEL.out (i + 1) h9
                  simp only [Option.some.injEq, Addr.mk.injEq, and_true] at e'
                  obtain ⟨rfl, rfl⟩ := e'
                  obtain ⟨sj, hsj⟩ : ∃ sj, sj = n.keys[i + 1]'h9 := ⟨_, rfl⟩
                  rw [← hsj] at hkj hlt1
                  clear hlt0 hsj
                  go_wp2_with fail
                  go_loop [102, 12, 14] (fun i y _ => ∃ k : Nat, k ≤ n.keys.length ∧ i = .int .i64 k ∧ y = .bool (isTo n.keys key k)) (fun i _ _ => n.keys.length - (intOf i).toNat)
                  case atStart => exact ⟨0, Nat.zero_le _, rfl, by simp [isTo]⟩
                  case round =>
                    obtain ⟨k, hk, rfl, rfl⟩ := hrel
                    rcases Nat.lt_or_ge k n.keys.length with hlt | hge
                    · obtain ⟨b', o', e', hc⟩ := HEL.out k hlt
                      first
                        | (simp only [Option.some.injEq, Addr.mk.injEq, and_true] at e'; obtain ⟨rfl, rfl⟩ := e')
                        | subst e'
                      have h2 := isTo_succ n.keys key k hlt
                      obtain ⟨s, hs⟩ : ∃ s, s = n.keys[k]'hlt := ⟨_, rfl⟩
                      obtain ⟨J, hJ⟩ : ∃ J, J = isTo n.keys key k := ⟨_, rfl⟩
                      rw [← hs] at hc h2
                      rw [← hJ] at h2 ⊢
                      clear hs hJ
                      unfold sEq at h2
                      cases hE : (s.toList == key.toList) with
                      | true =>
                        rw [hE] at h2
                        have HI2 := Lib.hid h2
                        have hE' : s.toList = key.toList := by simpa using hE
                        clear h2 hE
                        cases J <;> (
                          go_wp2
                          all_goals
                            go_round
                            case rel => exact ⟨k + 1, by omega, by go_num, by rw [HI2.out]; first | rfl | simp [hE']⟩
                            case measure => simp [intOf]; omega)
                      | false =>
                        rw [hE] at h2
                        have HI2 := Lib.hid h2
                        have hE' : ¬ s.toList = key.toList := by simpa using hE
                        clear h2 hE
                        cases J <;> (
                          go_wp2
                          all_goals
                            go_round
                            case rel => exact ⟨k + 1, by omega, by go_num, by rw [HI2.out]; first | rfl | simp [hE']⟩
                            case measure => simp [intOf]; omega)
                    · obtain rfl : k = n.keys.length := by omega
                      have e2 : isTo n.keys key n.keys.length = I := by rw [HI.out]; unfold isTo findIs; rw [List.take_length]
                      rw [e2]
                      clear e2
                      go_wp2_with (refine load_nd rfl (.tmp 2) rfl rfl HT4.out rfl ?_)
                      refine (HF0.out _ HN4.out).mono ?_
                      rintro e w5 ⟨rfl, hb5⟩
                      have HB5 := Lib.hid (HB4.out.trans (hb5.mono HB4.out.size))
                      clear hb5
                      go_wp2
                      go_ret
                      exact ⟨by simp, HB5.out⟩
                · have m1 : ¬ ((i : Int) + 1 < (n.keys.length : Int)) := by omega
                  go_wp2_with fail
                  go_loop [102, 12, 14] (fun i y _ => ∃ k : Nat, k ≤ n.keys.length ∧ i = .int .i64 k ∧ y = .bool (isTo n.keys key k)) (fun i _ _ => n.keys.length - (intOf i).toNat)
                  case atStart => exact ⟨0, Nat.zero_le _, rfl, by simp [isTo]⟩
                  case round =>
                    obtain ⟨k, hk, rfl, rfl⟩ := hrel
                    rcases Nat.lt_or_ge k n.keys.length with hlt | hge
                    · obtain ⟨b', o', e', hc⟩ := HEL.out k hlt
                      first
                        | (simp only [Option.some.injEq, Addr.mk.injEq, and_true] at e'; obtain ⟨rfl, rfl⟩ := e')
                        | subst e'
                      have h2 := isTo_succ n.keys key k hlt
                      obtain ⟨s, hs⟩ : ∃ s, s = n.keys[k]'hlt := ⟨_, rfl⟩
                      obtain ⟨J, hJ⟩ : ∃ J, J = isTo n.keys key k := ⟨_, rfl⟩
                      rw [← hs] at hc h2
                      rw [← hJ] at h2 ⊢
                      clear hs hJ
                      unfold sEq at h2
                      cases hE : (s.toList == key.toList) with
                      | true =>
                        rw [hE] at h2
                        have HI2 := Lib.hid h2
                        have hE' : s.toList = key.toList := by simpa using hE
                        clear h2 hE
                        cases J <;> (
                          go_wp2
                          all_goals
                            go_round
                            case rel => exact ⟨k + 1, by omega, by go_num, by rw [HI2.out]; first | rfl | simp [hE']⟩
                            case measure => simp [intOf]; omega)
                      | false =>
                        rw [hE] at h2
                        have HI2 := Lib.hid h2
                        have hE' : ¬ s.toList = key.toList := by simpa using hE
                        clear h2 hE
                        cases J <;> (
                          go_wp2
                          all_goals
                            go_round
                            case rel => exact ⟨k + 1, by omega, by go_num, by rw [HI2.out]; first | rfl | simp [hE']⟩
                            case measure => simp [intOf]; omega)
                    · obtain rfl : k = n.keys.length := by omega
                      have e2 : isTo n.keys key n.keys.length = I := by rw [HI.out]; unfold isTo findIs; rw [List.take_length]
                      rw [e2]
                      clear e2
                      go_wp2_with (refine load_nd rfl (.tmp 2) rfl rfl HT4.out rfl ?_)
                      refine (HF0.out _ HN4.out).mono ?_
                      rintro e w5 ⟨rfl, hb5⟩
                      have HB5 := Lib.hid (HB4.out.trans (hb5.mono HB4.out.size))
                      clear hb5
                      go_wp2
                      go_ret
                      exact ⟨by simp, HB5.out⟩

end Go.Proofs.Ytdhlcofjpkbgaaa
