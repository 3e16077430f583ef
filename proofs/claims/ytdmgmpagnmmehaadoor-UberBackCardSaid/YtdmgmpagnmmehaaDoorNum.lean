/- Walks of num.Put and num.Get. -/
import Derived.Test.YtdmgmpagnmmehaaDoorMem
import Derived.Test.YtdmgmpagnmmehaaDoorPlain
namespace Go.Proofs.YtdmgmpagnmmehaaDoor
open Go.RowKit

set_option maxHeartbeats 400000 in
theorem numPut_arg (x size : Int) (w : World) (h : size < 0 ∨ 8 < size) :
    Calls Tryd.prog 53 #[.int .u64 x, .int .i64 size] w fun e w' => e = .returned (.tuple #[.slice none 0 0, .int .i64 2]) ∧ w = w' := by
  rcases h with h | h
  · go_enter Tryd.func53, Tryd.ntmps53
    go_wp2
    go_ret2
    exact ⟨rfl, rfl⟩
  · have h0 : ¬ size < 0 := by omega
    go_enter Tryd.func53, Tryd.ntmps53
    go_wp2
    go_ret2
    exact ⟨rfl, rfl⟩

theorem shr_int (x n : Nat) : (x : Int) / 2 ^ (8 * n) = ((x / 256 ^ n : Nat) : Int) := by
  have e : (256 : Nat) ^ n = 2 ^ (8 * n) := by rw [Nat.pow_mul]
  rw [e, Int.natCast_ediv, Int.natCast_pow]; rfl
theorem shr_fit (x n : Nat) (h : x < 256 ^ n) : ¬ 0 < (x : Int) / 2 ^ (8 * n) := by
  rw [shr_int, Nat.div_eq_of_lt h]; simp
theorem shr_nofit (x n : Nat) (h : 256 ^ n ≤ x) : 0 < (x : Int) / 2 ^ (8 * n) := by
  rw [shr_int]
  have := Nat.div_pos h (Nat.pow_pos (by decide))
  omega

theorem u8_of (x d : Nat) : Value.int .u8 ((x : Int) / 2 ^ (8 * d) % 256) = Bv (UInt8.ofNat (x / 256 ^ d)) := by
  rw [shr_int]
  simp only [Bv, UInt8.toNat_ofNat']
  rfl

set_option maxRecDepth 100000 in
set_option maxHeartbeats 400000 in
/-- A number that has more bytes. -/
theorem numPut_great (x n : Nat) (w : World) (h8 : n < 8) (hfit : 256 ^ n ≤ x) :
    Calls Tryd.prog 53 #[.int .u64 (x : Int), .int .i64 (n : Int)] w fun e w' => e = .returned (.tuple #[.slice none 0 0, .int .i64 2]) ∧ w = w' := by
  have b1 : decide ((n : Int) < 0) = false := by simp
  have b2 : decide ((8 : Int) < (n : Int)) = false := by simp; omega
  have b3 := shr_nofit x n hfit
  clear hfit
  go_enter Tryd.func53, Tryd.ntmps53
  go_wp2
  go_ret2
  exact ⟨rfl, rfl⟩

set_option maxRecDepth 100000 in
set_option maxHeartbeats 400000 in
theorem numPut_ok (x n : Nat) (w : World) (h8 : n ≤ 8) (hfit : n = 8 ∨ x < 256 ^ n) :
    Calls Tryd.prog 53 #[.int .u64 (x : Int), .int .i64 (n : Int)] w fun e w' => ∃ aa cc, e = .returned (.tuple #[.slice aa n cc, .int .i64 0]) ∧
      w'.ownsRow w.heap.size 5 1 (.slice aa n cc) n ((putB x n).map Bv) ∧ Below w.heap.size w w' := by
  have b1 : decide ((n : Int) < 0) = false := by simp
  have b2 : decide ((8 : Int) < (n : Int)) = false := by simp; omega
  have b3 : n < 8 → ¬ 0 < (x : Int) / 2 ^ (8 * n) := fun h => shr_fit x n (hfit.resolve_left (by omega))
  clear hfit
  have B3 := Lib.hid b3
  clear b3
  rcases Nat.lt_or_ge n 8 with h9 | h9
  all_goals
    have b3 := B3.out
    go_enter Tryd.func53, Tryd.ntmps53
    go_wp2_with (at_make; refine make_u8 rfl (.tmp 26) (.tmp 26) rfl n rfl rfl (by omega) ?_)
    intro w1 hown hb
    have HO := Lib.hid hown
    have HB := Lib.hid hb
    clear hown hb
    go_wp2_with fail
    go_loopw [30] (fun i wr => ∃ k : Nat, k ≤ n ∧ i = .int .i64 k ∧ wr.ownsRow w.heap.size 5 1 (.slice (some ⟨w.heap.size, 0, none⟩) n n) n ((putTo x n k).map Bv) ∧ Below w.heap.size w wr) (fun i _ => n - (intOf i).toNat)
    case atStart => exact ⟨0, Nat.zero_le _, rfl, by rw [putTo_zero]; simpa using HO.out, HB.out⟩
    case round =>
      obtain ⟨k, hk, rfl, hown, hb⟩ := hrel
      rcases Nat.lt_or_ge k n with hlt | hge
      · have hc : wr.cell? ⟨w.heap.size, k, none⟩ = some (Bv (if k < k then UInt8.ofNat (x / 256 ^ (n - 1 - k)) else 0)) := by
          rw [hown.cellAt k (by omega)]; simp [putTo, hlt]
        have hf := hown.frozenAt k
        have HO := Lib.hid hown
        have HB := Lib.hid hb
        clear hown hb
        go_wp2
        go_roundw
        case rel =>
          refine ⟨k + 1, by omega, by go_num, ?_, HB.out.setCell (Nat.le_refl _) _⟩
          have h2 := (HO.out.stored k (.int .u8 ((x : Int) / 2 ^ (8 * (n - 1 - k)) % 256))).1
          rw [u8_of x (n - 1 - k), ← List.map_set, putTo_succ x n k hlt] at h2
          rw [u8_of x (n - 1 - k)]
          exact h2
        case measure => simp [intOf]; omega
      · obtain rfl : k = n := by omega
        have HO := Lib.hid hown
        have HB := Lib.hid hb
        clear hown hb
        go_wp2
        go_ret2
        exact ⟨_, _, rfl, by rw [← putTo_all]; exact HO.out, HB.out⟩

theorem getB_snoc (l : List UInt8) (k : Nat) (h : k < l.length) : getB (l.take (k + 1)) = getB (l.take k) * 256 + l[k].toNat := by
  rw [List.take_succ_eq_append_getElem h]; unfold getB; rw [List.foldl_append]; rfl
theorem getB_step (l : List UInt8) (k : Nat) (h : k < l.length) (h8 : l.length ≤ 8) :
    Value.int .u64 (bits .or .u64 (IntKind.u64.wrap ((getB (l.take k) : Int) * 256)) ((l[k].toNat : Nat) : Int)) = .int .u64 (getB (l.take (k + 1)) : Int) := by
  have h1 := getB_lt (l.take k)
  have h2 : (256 : Nat) ^ (l.take k).length ≤ 256 ^ 7 := Nat.pow_le_pow_right (by decide) (by simp; omega)
  have h3 : (256 : Nat) ^ 7 = 72057594037927936 := by decide
  have h4 := l[k].toNat_lt
  rw [getB_snoc l k h, IntKind.wrap_u64, show ((getB (l.take k) : Int) * 256) % 18446744073709551616 = ((getB (l.take k) * 256 : Nat) : Int) by omega, u64_or_nat _ _ (by omega) (by omega),
    nat_join 8 _ _ (by omega) (by omega)]

set_option maxHeartbeats 400000 in
theorem numGet_ok (v : Value) (l : List UInt8) (n : Nat) (w : World) (hv : Sl w 1 v n (l.map Bv)) (h8 : n ≤ 8) :
    Calls Tryd.prog 64 #[v] w fun e w' => e = .returned (.tuple #[.int .u64 (getB l : Int), .int .i64 0]) ∧ w = w' := by
  obtain ⟨hl, a, cap, rfl, hlc, hnil, hc⟩ := hv
  have hl' : l.length = n := by simpa using hl
  have HC := Lib.hid hc
  clear hl hc hnil
  go_enter Tryd.func64, Tryd.ntmps64
  go_wp2
  go_loop [2, 11] (fun x i => ∃ k : Nat, k ≤ n ∧ i = .int .i64 k ∧ x = .int .u64 (getB (l.take k) : Int)) (fun _ i => n - (intOf i).toNat)
  case atStart => exact ⟨0, Nat.zero_le _, rfl, by simp [getB]⟩
  case round =>
    obtain ⟨k, hk, rfl, rfl⟩ := hrel
    rcases Nat.lt_or_ge k n with hlt | hge
    · obtain ⟨b, o, rfl, hc⟩ := HC.out k (Bv (l[k]'(by omega))) (by simp [show k < l.length by omega])
      have hb := (l[k]'(by omega)).toNat_lt
      unfold Bv at hc
      have S := Lib.hid (getB_step l k (by omega) (by omega))
      go_wp2
      go_round
      case rel => exact ⟨k + 1, by omega, by go_num, S.out⟩
      case measure => simp [intOf]; omega
    · obtain rfl : k = n := by omega
      have e : l.take k = l := List.take_of_length_le (by omega)
      have E := Lib.hid e
      clear e hl'
      go_wp2
      go_ret2
      rw [E.out]
      exact ⟨rfl, rfl⟩
end Go.Proofs.YtdmgmpagnmmehaaDoor
