/- Walks: the reference's Reader: Num, Str, Hash, End. -/
import Derived.Test.YtdmgmpagnmmehaaDoorCodecD
import Derived.Deep.QuietTactic
import Derived.BigQuiet
namespace Go.Proofs.YtdmgmpagnmmehaaDoor
open Go.RowKit

theorem Fr_drewN (S : Nat → Prop) (w : World) (n : Nat) : Fr S w (w.drewN n) := ⟨rfl, rfl, rfl, Nat.le_refl _, fun _ _ _ => rfl⟩

theorem getB_step' (l : List UInt8) (k : Nat) (h : k < l.length) (h8 : l.length ≤ 8) :
    Value.int .u64 (IntKind.u64.wrap ((getB (l.take k) : Int) * 256 + ((l[k].toNat : Nat) : Int))) = .int .u64 (getB (l.take (k + 1)) : Int) := by
  have h1 := getB_lt (l.take k)
  have h2 : (256 : Nat) ^ (l.take k).length ≤ 256 ^ 7 := Nat.pow_le_pow_right (by decide) (by simp; omega)
  have h3 : (256 : Nat) ^ 7 = 72057594037927936 := by decide
  have h4 := l[k].toNat_lt
  rw [getB_snoc l k h, IntKind.wrap_u64]
  congr 1
  omega

set_option maxHeartbeats 400000 in
theorem refNum_ok (v : Value) (l : List UInt8) (n : Nat) (w : World) (hv : Sl w 1 v n (l.map Bv)) (h8 : n ≤ 8) :
    Calls Tryd.prog 121 #[v] w fun e w' => e = .returned (.int .u64 (getB l : Int)) ∧ w = w' := by
  obtain ⟨hl, a, cap, rfl, hlc, hnil, hc⟩ := hv
  have hl' : l.length = n := by simpa using hl
  have HC := Lib.hid hc
  clear hl hc hnil
  go_enter Tryd.func121, Tryd.ntmps121
  go_wp2
  go_loop [3, 8] (fun x i => ∃ k : Nat, k ≤ n ∧ i = .int .i64 k ∧ x = .int .u64 (getB (l.take k) : Int)) (fun _ i => n - (intOf i).toNat)
  case atStart => exact ⟨0, Nat.zero_le _, rfl, by simp [getB]⟩
  case round =>
    obtain ⟨k, hk, rfl, rfl⟩ := hrel
    rcases Nat.lt_or_ge k n with hlt | hge
    · obtain ⟨b, o, rfl, hc⟩ := HC.out k (Bv (l[k]'(by omega))) (by simp [show k < l.length by omega])
      have hb := (l[k]'(by omega)).toNat_lt
      unfold Bv at hc
      have S := Lib.hid (getB_step' l k (by omega) (by omega))
      have hx1 := getB_lt (l.take k)
      have hx2 : (256 : Nat) ^ (l.take k).length ≤ 256 ^ 7 := Nat.pow_le_pow_right (by decide) (by simp; omega)
      have hx : getB (l.take k) < 72057594037927936 := Nat.lt_of_lt_of_le hx1 hx2
      have HX : IntKind.u64.wrap ((getB (l.take k) : Int) * 256) = (getB (l.take k) : Int) * 256 := by rw [IntKind.wrap_u64]; omega
      clear hx1 hx2 hx
      go_wp2
      go_round
      case rel => exact ⟨k + 1, by omega, by go_num, by first | exact S.out | (rw [← S.out]; simp [HX])⟩
      case measure => simp [intOf]; omega
    · obtain rfl : k = n := by omega
      have e : l.take k = l := List.take_of_length_le (by omega)
      have E := Lib.hid e
      clear e hl'
      go_wp2
      go_ret
      rw [E.out]
      exact ⟨rfl, rfl⟩

end Go.Proofs.YtdmgmpagnmmehaaDoor
