/- Walks: num.Turn, sha's mix. -/
import Derived.Test.YtdmgmpagnmmehaaDoorMem
import Derived.Test.YtdmgmpagnmmehaaDoorShaP
import Derived.Laws.BitsAllLaws
namespace Go.Proofs.YtdmgmpagnmmehaaDoor
open Go.RowKit

theorem turn_any (x k : Nat) (n : Int) (w : World) (hx : x < 4294967296) (hk : bits .and .u64 (IntKind.u64.wrap n) 31 = (k : Int)) (hk2 : k < 32) :
    Calls Tryd.prog 120 #[.int .u32 (x : Int), .int .i64 n] w fun e w' => e = .returned (.int .u32 (rotl x k : Int)) ∧ w = w' := by
  have hb : (x : Int) / 2 ^ (32 - k) = ((x / 2 ^ (32 - k) : Nat) : Int) := by simp
  have ha : (x : Int) * 2 ^ k % 4294967296 = ((x * 2 ^ k % 4294967296 : Nat) : Int) := by simp
  have HR := Lib.hid (show bits .or .u32 ((x : Int) * 2 ^ k % 4294967296) ((x : Int) / 2 ^ (32 - k)) = (rotl x k : Int) by
    rw [ha, hb, u32_or_nat _ _ (Nat.mod_lt _ (by decide)) (Nat.lt_of_le_of_lt (Nat.div_le_self _ _) hx)]; rfl)
  clear ha hb
  go_enter Tryd.func120, Tryd.ntmps120
  go_wp2
  go_ret
  exact ⟨by rw [← HR.out]; rfl, rfl⟩

theorem turn_still (x k : Nat) (n : Int) (w : World) (hx : x < 4294967296) (hk : bits .and .u64 (IntKind.u64.wrap n) 31 = (k : Int)) (hk2 : k < 32) :
    Calls Tryd.prog 120 #[.int .u32 (x : Int), .int .i64 n] w fun e w' => e = .returned (.int .u32 (rotl x k : Int)) ∧ w' = w :=
  (turn_any x k n w hx hk hk2).mono fun _ _ ⟨h1, h2⟩ => ⟨h1, h2.symm⟩
theorem turn_neg : ∀ a : Nat, 1 ≤ a → a ≤ 31 → bits .and .u64 (IntKind.u64.wrap (-(a : Int))) 31 = ((32 - a : Nat) : Int) := by
  intro a h1 h2
  have : ∀ a : Fin 32, 1 ≤ a.val → bits .and .u64 (IntKind.u64.wrap (-(a.val : Int))) 31 = ((32 - a.val : Nat) : Int) := by decide
  exact this ⟨a, by omega⟩ h1

theorem mix_any (x a b c : Nat) (w : World) (hx : x < 4294967296) (ha : 1 ≤ a ∧ a ≤ 31) (hb : 1 ≤ b ∧ b ≤ 31) (hc : 1 ≤ c ∧ c ≤ 31) :
    Calls Tryd.prog 108 #[.int .u32 (x : Int), .int .i64 (a : Int), .int .i64 (b : Int), .int .i64 (c : Int)] w fun e w' => e = .returned (.int .u32 (mixN x a b c : Int)) ∧ w = w' := by
  have h1 := fun w => turn_any x (32 - a) (-(a : Int)) w hx (turn_neg a ha.1 ha.2) (by omega)
  have h2 := fun w => turn_any x (32 - b) (-(b : Int)) w hx (turn_neg b hb.1 hb.2) (by omega)
  have h3 := fun w => turn_any x (32 - c) (-(c : Int)) w hx (turn_neg c hc.1 hc.2) (by omega)
  have HR := Lib.hid (show bits .xor .u32 (bits .xor .u32 (rotl x (32 - a) : Int) (rotl x (32 - b) : Int)) (rotl x (32 - c) : Int) = (mixN x a b c : Int) by
    rw [u32_xor_nat _ _ (rotl_lt _ hx) (rotl_lt _ hx), u32_xor_nat _ _ (xor_lt32 (rotl_lt _ hx) (rotl_lt _ hx)) (rotl_lt _ hx)]; rfl)
  have H1 := Lib.hid h1
  have H2 := Lib.hid h2
  have H3 := Lib.hid h3
  clear h1 h2 h3
  go_enter Tryd.func108, Tryd.ntmps108
  go_wp2_with fail
  refine (H1.out _).mono ?_
  rintro e w1 ⟨rfl, rfl⟩
  go_wp2_with fail
  refine (H2.out _).mono ?_
  rintro e w1 ⟨rfl, rfl⟩
  go_wp2_with fail
  refine (H3.out _).mono ?_
  rintro e w1 ⟨rfl, rfl⟩
  go_wp2
  go_ret
  exact ⟨by rw [← HR.out]; rfl, rfl⟩

end Go.Proofs.YtdmgmpagnmmehaaDoor
