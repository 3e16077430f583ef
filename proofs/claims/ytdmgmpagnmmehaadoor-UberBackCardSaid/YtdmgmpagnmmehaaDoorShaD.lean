/- Walk: num.Frac. -/
import Derived.Test.YtdmgmpagnmmehaaDoorShaC
namespace Go.Proofs.YtdmgmpagnmmehaaDoor
open Go.RowKit

theorem root_or (p k n : Nat) (h : n < 41) : bits BinOp.or IntKind.u64 (rootTo p k n : Int) (IntKind.u64.wrap (2 ^ (40 - n))) = ((rootTo p k n + 2 ^ (40 - n) : Nat) : Int) := by
  have h1 := rootTo_lt p k n (by omega)
  have h2 : 2 ^ (40 - n) ≤ 2 ^ 40 := Nat.pow_le_pow_right (by decide) (by omega)
  have e : ((2 : Int) ^ (40 - n)) = ((2 ^ (40 - n) : Nat) : Int) := by rw [Int.natCast_pow]; rfl
  rw [e, m64_wrap _ (by omega), u64_or_nat _ _ (by omega) (by omega), rootTo_or p k n h]
theorem want_lt {p k : Nat} (hk : k = 2 ∨ k = 3) (hp : p ≤ 65535) : 4294967296 ^ k * p < 6277101735386680763835789423207666416102355444464034512896 := by
  rcases hk with rfl | rfl <;> omega
theorem next_lt {x k : Nat} (hk : k = 2 ∨ k = 3) (hx : x < 2 ^ 41) : x ^ k < 6277101735386680763835789423207666416102355444464034512896 := by
  have h : x ^ k ≤ (2 ^ 41) ^ 3 := Nat.le_trans (Nat.pow_le_pow_left (Nat.le_of_lt hx) k) (Nat.pow_le_pow_right (by decide) (by omega))
  exact Nat.lt_of_le_of_lt h (by decide)

def FracRel (w : World) (B want : Nat) (wr : World) : Prop := wr.heap[B]? = some (.cells (wideV want) 174 (0, 0)) ∧ Below w.heap.size w wr

set_option maxRecDepth 100000 in
set_option maxHeartbeats 4000000 in
theorem frac_any (p k : Nat) (hk : k = 2 ∨ k = 3) (hp : 1 ≤ p) (hp2 : p ≤ 65535) (w : World) :
    Calls Tryd.prog 106 #[.int .u32 (p : Int), .int .i64 (k : Int)] w fun e w' => e = .returned (.tuple #[.int .u32 (fracN p k : Int), .int .i64 0]) ∧ Below w.heap.size w w' := by
  have HPw := Lib.hid (fun w => power_any 4294967296 k (by decide) (by omega) w)
  have HTm := Lib.hid (fun w => times_any (4294967296 ^ k) p (by omega) w)
  have g1 : ¬ (k : Int) < 2 := by omega
  have g2 : ¬ (3 : Int) < (k : Int) := by omega
  have g3 : ¬ (p : Int) < 1 := by omega
  have g4 : ¬ (65535 : Int) < (p : Int) := by omega
  go_enter Tryd.func106, Tryd.ntmps106
  go_wp2_with fail
  refine (HPw.out _).mono ?_
  rintro e w1 ⟨rfl, hb1⟩
  have HB1 := Lib.hid hb1
  clear hb1
  go_wp2_with fail
  refine (HTm.out _).mono ?_
  rintro e w2 ⟨rfl, hb2⟩
  have HB2 := Lib.hid (HB1.out.trans (hb2.mono HB1.out.size))
  clear hb2
  go_wp2_with (refine store_wide rfl (.tmp 6) (.tmp 28) rfl rfl rfl (heap_alloc_new _ _) rfl rfl (wideV_one _) ?_)
  intro w3 hg3 hf3 hs3
  have HR0 := Lib.hid (show FracRel w w2.heap.size (4294967296 ^ k * p) w3 from ⟨hg3, HB2.out.trans (((Below.refl _ w2).alloc (Nat.le_refl _) _ |>.trans (hf3.below (by simp) (fun j hj => by omega))).mono HB2.out.size)⟩)
  have hB2 := HB2.out.size
  clear hg3 hf3 hs3
  have HK := Lib.hid hk
  have HP := Lib.hid hp
  have HP2 := Lib.hid hp2
  clear hk hp hp2 g1 g2 g3 g4
  obtain ⟨B, hBB⟩ : ∃ B, B = w2.heap.size := ⟨_, rfl⟩
  rw [← hBB] at HR0 hB2 ⊢
  clear hBB
  go_wp2_with fail
  go_loopw [7, 8, 9] (fun r b x wr => ∃ n : Nat, n ≤ 41 ∧ r = .int .u64 (rootTo p k n : Int) ∧ b = .int .i64 (40 - (n : Int)) ∧ FracRel w B (4294967296 ^ k * p) wr) (fun _ b _ _ => (intOf b + 1).toNat)
  case atStart => exact ⟨0, by omega, rfl, rfl, HR0.out⟩
  case round =>
    obtain ⟨n, hn, rfl, rfl, hrow, hb⟩ := hrel
    have HRow := Lib.hid hrow
    have HB := Lib.hid hb
    clear hrow hb
    rcases Nat.lt_or_ge n 41 with hlt | hge
    · have q := root_or p k n hlt
      have hx := rootTo_next_lt p k n hlt
      have hstep : rootTo p k (n + 1) = if (rootTo p k n + 2 ^ (40 - n)) ^ k ≤ p * 4294967296 ^ k then rootTo p k n + 2 ^ (40 - n) else rootTo p k n := rfl
      rw [Nat.mul_comm p] at hstep
      obtain ⟨X, hX⟩ : ∃ X, X = rootTo p k n + 2 ^ (40 - n) := ⟨_, rfl⟩
      rw [← hX] at q hx hstep
      have hpw := fun (u : Wd wr.heap.size wr) => Calls.wd u (Nat.le_refl _) (power_any X k (by omega) (by have := HK.out; omega) u.to)
      have hov := fun (u : Wd wr.heap.size wr) => Calls.wd u (Nat.le_refl _) (over_any (X ^ k) (4294967296 ^ k * p) u.to (next_lt HK.out hx) (want_lt HK.out HP2.out))
      have HAt := Lib.hid (At.of_row (cs := (wideV (4294967296 ^ k * p)).toList) (by simpa using HRow.out))
      have HU := Lib.hid (fun w' (hw : ∃ u : Wd wr.heap.size wr, w' = u.to) => (by obtain ⟨u, rfl⟩ := hw; exact u.at HAt.out : At w' B 0 _))
      have HPW := Lib.hid hpw
      have HQ := Lib.hid q
      obtain ⟨R, hR⟩ : ∃ R, R = rootTo p k n := ⟨_, rfl⟩
      rw [← hR] at q hstep ⊢
      clear hX hpw hx HQ hR
      by_cases hle : X ^ k ≤ 4294967296 ^ k * p
      · rw [if_pos hle] at hstep
        rw [decide_eq_false (by omega)] at hov
        have HStep := Lib.hid hstep
        have HOV := Lib.hid hov
        clear hle hstep hov
        go_wp2_with fail
        refine wp_region_wd wr.heap.size (by kernel_rfl) (by kernel_rfl) ?_
        repeat (first
          | (refine wpQuiet_load_at rfl 174 (.tmp 6) rfl B 0 rfl _ _ HU.out Tryd.underlying174 rfl (by rw [info_wide]; rfl) ?_; simp only [Act.put, List.setIfInBounds_toArray, List.set_cons_succ, List.set_cons_zero, Array.toArray_toList])
          | go_big_quiet_step (first | with_reducible exact HPW.out _ | with_reducible exact HOV.out _))
        refine wpQuiet_nil ?_
        rintro _ ⟨⟨w6, hb6⟩, rfl⟩
        have HRow6 := Lib.hid ((hb6.block B (lt_of_block HRow.out)).trans HRow.out)
        have HB6 := Lib.hid (HB.out.trans (hb6.mono HB.out.size))
        clear hb6
        go_wp2
        go_roundw
        case rel => exact ⟨n + 1, by omega, by rw [HStep.out], by go_num, HRow6.out, HB6.out⟩
        case measure => simp [intOf]; omega
      · rw [if_neg hle] at hstep
        rw [decide_eq_true (by omega)] at hov
        have HStep := Lib.hid hstep
        have HOV := Lib.hid hov
        clear hle hstep hov
        go_wp2_with fail
        refine wp_region_wd wr.heap.size (by kernel_rfl) (by kernel_rfl) ?_
        repeat (first
          | (refine wpQuiet_load_at rfl 174 (.tmp 6) rfl B 0 rfl _ _ HU.out Tryd.underlying174 rfl (by rw [info_wide]; rfl) ?_; simp only [Act.put, List.setIfInBounds_toArray, List.set_cons_succ, List.set_cons_zero, Array.toArray_toList])
          | go_big_quiet_step (first | with_reducible exact HPW.out _ | with_reducible exact HOV.out _))
        refine wpQuiet_nil ?_
        rintro _ ⟨⟨w6, hb6⟩, rfl⟩
        have HRow6 := Lib.hid ((hb6.block B (lt_of_block HRow.out)).trans HRow.out)
        have HB6 := Lib.hid (HB.out.trans (hb6.mono HB.out.size))
        clear hb6
        go_wp2
        go_roundw
        case rel => exact ⟨n + 1, by omega, by rw [HStep.out], by go_num, HRow6.out, HB6.out⟩
        case measure => simp [intOf]; omega
    · obtain rfl : n = 41 := by omega
      clear hn hge
      have HF := Lib.hid (show (rootTo p k 41 : Int) % 4294967296 = (fracN p k : Int) by unfold fracN; omega)
      have hlt := rootTo_lt p k 41 (by omega)
      obtain ⟨R, hR⟩ : ∃ R, R = rootTo p k 41 := ⟨_, rfl⟩
      rw [← hR] at HF hlt ⊢
      clear hR hlt
      go_wp2
      go_ret2
      exact ⟨by rw [← HF.out]; rfl, HB.out⟩
end Go.Proofs.YtdmgmpagnmmehaaDoor
