/- Walks: banyanlaw07's CodecEnds, CodecPads. -/
import Derived.Test.YtdhlcofjpkbgaaaDoorCodecD
import Derived.Test.YtdhlcofjpkbgaaaDoorCodecC
import Derived.Test.YtdhlcofjpkbgaaaDoorLaw07
namespace Go.Proofs.YtdhlcofjpkbgaaaDoor
open Go.RowKit

/-- Are bytes noughts alone? -/
def allZ (xs : List UInt8) : Bool := xs.all (· == 0)
theorem endE_or (xs : List UInt8) : (allZ xs = true ∧ endE xs = 0) ∨ (allZ xs = false ∧ endE xs = 4) := by
  unfold endE allZ
  cases xs.all (· == 0) <;> simp
theorem allZ_step (xs : List UInt8) (k : Nat) (h : k < xs.length) : allZ (xs.take (k + 1)) = (allZ (xs.take k) && (xs[k] == 0)) := by
  unfold allZ
  rw [List.take_succ_eq_append_getElem h, List.all_append]; simp

set_option maxHeartbeats 1000000 in
theorem codecEnds_long (v : Value) (xs : List UInt8) (n : Nat) (w : World) (h : Sl w 1 v xs.length (xs.map Bv)) (hl : 1000 < xs.length) (hm : xs.length ≤ 140737488351232) :
    Calls Tryd.prog 4 #[v, .int .u8 (n : Int)] w fun e w' => e = .returned (.bool true) ∧ Below w.heap.size w w' := by
  obtain ⟨a, cap, rfl, _⟩ := h.len
  clear h
  go_enter Tryd.func4, Tryd.ntmps4
  go_wp2_with fail
  refine (alive07 _).mono ?_
  rintro e w0 ⟨rfl, hb0⟩
  have HB0 := Lib.hid hb0
  clear hb0
  go_wp2
  go_ret
  exact ⟨rfl, HB0.out⟩

set_option maxHeartbeats 2000000 in
theorem codecEnds_at (v : Value) (xs : List UInt8) (n k : Nat) (w : World) (h : Sl w 1 v xs.length (xs.map Bv)) (hl : xs.length ≤ 1000) (hn : n < 256) (hkl : k ≤ xs.length) (hk : (n : Int) ≤ xs.length ∧ k = n ∨ (xs.length : Int) < n ∧ k = xs.length) :
    Calls Tryd.prog 4 #[v, .int .u8 (n : Int)] w fun e w' => e = .returned (.bool true) ∧ Below w.heap.size w w' := by
  obtain ⟨a, cap, rfl, hcap⟩ := h.len
  obtain ⟨A, C, q, hA⟩ := cut_u8_lo h (lo := k) hkl
  have HH := Lib.hid h
  have hld : (xs.drop k).length = xs.length - k := List.length_drop
  obtain ⟨ys, hys⟩ : ∃ ys, ys = xs.drop k := ⟨_, rfl⟩
  have hlk : (ys.length : Int) = (xs.length : Int) - (k : Int) := by rw [hys, hld]; omega
  rw [← hld, ← hys] at hA q
  have HA := Lib.hid hA
  have HY := Lib.hid hys
  have HLK := Lib.hid hlk
  have hyl : ys.length ≤ 1000 := by omega
  have HE := Lib.hid (endE_or ys)
  clear hA h hcap hld hys hlk
  rcases hk with ⟨h1, rfl⟩ | ⟨h1, rfl⟩
  all_goals
    go_enter Tryd.func4, Tryd.ntmps4
    go_wp2_with fail
    refine (alive07 _).mono ?_
    rintro e w0 ⟨rfl, hb0⟩
    have HB0 := Lib.hid hb0
    have HH0 := Lib.hid (HH.out.below hb0)
    have hs0 := hb0.size
    clear hb0
    go_wp2_with fail
    refine (read_any _ xs _ HH0.out (by omega)).mono ?_
    rintro e w1 ⟨b, hbs, rfl, hrd, hb1⟩
    have HR := Lib.hid hrd
    have HB1 := Lib.hid (HB0.out.trans (hb1.mono hs0))
    have hs1 := HB1.out.size
    clear hrd hb1
    go_wp2_with fail
    refine (rRaw_ok b xs _ _ HR.out hkl (by omega)).mono ?_
    rintro e w2 ⟨aa, cc, rfl, hown, hrd, hf⟩
    rw [← HY.out] at hrd
    have HR2 := Lib.hid hrd
    have hb2 := HB1.out.trans (hf.below hs1 (fun j hj => by omega))
    have HB2 := Lib.hid hb2
    have hs2 := hb2.size
    have HC := Lib.hid (HA.out.below hb2)
    clear hown hrd hf hb2
    go_wp2_with fail
    go_loop [9, 36] (fun z i => ∃ j : Nat, j ≤ ys.length ∧ i = .int .i64 j ∧ z = .bool (allZ (ys.take j))) (fun _ i => ys.length - (intOf i).toNat)
    case atStart => exact ⟨0, Nat.zero_le _, rfl, by simp [allZ]⟩
    case round =>
      obtain ⟨j, hj, rfl, rfl⟩ := hrel
      rcases Nat.lt_or_ge j ys.length with hlt | hge
      · obtain ⟨_, _, _, e0, _, _, hcs⟩ := HC.out
        obtain ⟨b2, o2, rfl, hc2⟩ := hcs j (Bv (ys[j]'hlt)) (by simp [hlt])
        simp only [Value.slice.injEq] at e0
        obtain ⟨rfl, -, rfl⟩ := e0
        have HS := Lib.hid (allZ_step ys j hlt)
        unfold Bv at hc2
        have e2 : (((ys[j]'hlt).toNat : Int) == 0) = (ys[j] == 0) := by
          rw [Bool.eq_iff_iff]; simp only [beq_iff_eq]
          exact ⟨fun h => UInt8.toNat_inj.1 (by simpa using h), fun h => by rw [h]; rfl⟩
        have E2 := Lib.hid e2
        clear hcs e2
        cases hz : allZ (ys.take j) with
        | true =>
          rw [hz] at HS
          clear hz
          go_wp2
          go_round
          case rel => exact ⟨j + 1, by omega, by go_num, by rw [HS.out, Bool.true_and, ← E2.out]⟩
          case measure => simp [intOf]; omega
        | false =>
          rw [hz] at HS
          clear hz
          go_wp2
          go_round
          case rel => exact ⟨j + 1, by omega, by go_num, by rw [HS.out]; rfl⟩
          case measure => simp [intOf]; omega
      · obtain rfl : j = ys.length := by omega
        have e1 : ys.take ys.length = ys := List.take_length
        rw [e1]
        clear e1 hge
        have hr := rEnd_any b ys
        rcases HE.out with ⟨hz, he⟩ | ⟨hz, he⟩
        all_goals
          rw [hz]
          rw [he] at hr
          have HRd := Lib.hid hr
          clear hz he hr
          go_wp2_with fail
          refine (HRd.out _ HR2.out (by omega)).mono ?_
          rintro e w3 ⟨rfl, hrd, hb3⟩
          have HR3 := Lib.hid hrd
          have HB3 := Lib.hid (HB2.out.trans (hb3.mono hs2))
          have hs3 := HB3.out.size
          clear hrd hb3
          go_wp2_with fail
          refine (HRd.out _ HR3.out (by omega)).mono ?_
          rintro e w4 ⟨rfl, hrd, hb4⟩
          have HR4 := Lib.hid hrd
          have HB4 := Lib.hid (HB3.out.trans (hb4.mono hs3))
          clear hrd hb4
          go_wp2_with fail
          refine (rLeft_any b ys _ HR4.out).mono ?_
          rintro e w5 ⟨rfl, rfl⟩
          rw [HLK.out]
          go_wp2
          go_ret
          exact ⟨by simp, HB4.out⟩

theorem codecEnds_any (v : Value) (xs : List UInt8) (n : Nat) (w : World) (h : Sl w 1 v xs.length (xs.map Bv)) (hl : xs.length ≤ 140737488351232) (hn : n < 256) :
    Calls Tryd.prog 4 #[v, .int .u8 (n : Int)] w fun e w' => e = .returned (.bool true) ∧ Below w.heap.size w w' := by
  rcases Nat.lt_or_ge 1000 xs.length with h1 | h1
  · exact codecEnds_long v xs n w h h1 hl
  · exact codecEnds_at v xs n (min n xs.length) w h h1 hn (by omega) (by omega)

end Go.Proofs.YtdhlcofjpkbgaaaDoor
