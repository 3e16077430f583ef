/- Walks: num's wide numbers, Frac. -/
import Derived.Test.YtdmgmpagnmmehaaDoorAgg
import Derived.Test.YtdmgmpagnmmehaaDoorShaA
import Derived.Test.YtdmgmpagnmmehaaDoorWd
import Derived.Lib.Mul64
import Derived.Laws.Bits64b
import Derived.Laws.Externs
import Derived.LoopN
import Derived.BigQuiet
namespace Go.Proofs.YtdmgmpagnmmehaaDoor
open Go.RowKit

theorem m64_mask (a : Nat) (ha : a < 18446744073709551616) : bits .and .u64 (a : Int) 4294967295 = ((a % 4294967296 : Nat) : Int) := by
  have h := bits_and_u64_nat a 4294967295 ha (by omega)
  have e : a &&& 4294967295 = a % 4294967296 := Nat.and_two_pow_sub_one_eq_mod a 32
  rw [e] at h
  exact h
theorem m64_div (a : Nat) : (a : Int) / 4294967296 = ((a / 4294967296 : Nat) : Int) := by omega
theorem m64_mul (a b : Nat) : (a : Int) * (b : Int) = ((a * b : Nat) : Int) := (Int.natCast_mul a b).symm
theorem m64_add (a b : Nat) : (a : Int) + (b : Int) = ((a + b : Nat) : Int) := (Int.natCast_add a b).symm
theorem m64_wrap (a : Nat) (ha : a < 18446744073709551616) : IntKind.u64.wrap (a : Int) = (a : Int) := by rw [IntKind.wrap_u64]; omega
theorem m64_wrapM (a : Nat) : IntKind.u64.wrap (a : Int) = ((a % 18446744073709551616 : Nat) : Int) := by rw [IntKind.wrap_u64]; omega

set_option maxHeartbeats 1000000 in
theorem mul64_any (x y : Nat) (hx : x < 18446744073709551616) (hy : y < 18446744073709551616) (w : World) :
    Calls Tryd.prog 128 #[.int .u64 x, .int .u64 y] w fun e w' => e = .returned (.tuple #[.int .u64 ((x * y / 18446744073709551616 : Nat) : Int), .int .u64 ((x * y % 18446744073709551616 : Nat) : Int)]) ∧ w = w' := by
  obtain ⟨bd, bt, bw, hhi⟩ := Lib.mul64_hi x y hx hy
  have ba := Lib.half_mul_le (a := x / 4294967296) (b := y / 4294967296) (by omega) (by omega)
  have bb := Lib.half_mul_le (a := x / 4294967296) (b := y % 4294967296) (by omega) (by omega)
  have bc := Lib.half_mul_le (a := x % 4294967296) (b := y / 4294967296) (by omega) (by omega)
  have ba' : x / 4294967296 * (y / 4294967296) < 18446744073709551616 := by omega
  have bb' : x / 4294967296 * (y % 4294967296) < 18446744073709551616 := by omega
  have bc' : x % 4294967296 * (y / 4294967296) < 18446744073709551616 := by omega
  have bh1 : x / 4294967296 * (y / 4294967296) + (x / 4294967296 * (y % 4294967296) + x % 4294967296 * (y % 4294967296) / 4294967296) / 4294967296 < 18446744073709551616 := by omega
  have bh : x / 4294967296 * (y / 4294967296) + (x / 4294967296 * (y % 4294967296) + x % 4294967296 * (y % 4294967296) / 4294967296) / 4294967296 + ((x / 4294967296 * (y % 4294967296) + x % 4294967296 * (y % 4294967296) / 4294967296) % 4294967296 + x % 4294967296 * (y / 4294967296)) / 4294967296 < 18446744073709551616 := by omega
  go_enter Tryd.func128, Tryd.ntmps128
  go_wp2
  simp only [m64_mask x hx, m64_mask y hy, m64_div, m64_mul, m64_add, m64_wrap _ bd, m64_wrap _ bb', m64_wrap _ bt, m64_mask _ bt, m64_wrap _ bc', m64_wrap _ bw, m64_wrap _ ba', m64_wrap _ bh1, m64_wrap _ bh, m64_wrapM (x * y)]
  rw [hhi]
  go_ret2
  exact ⟨rfl, rfl⟩

theorem add64_run (x y : Nat) (w : World) : (callFunc 129 #[.int .u64 x, .int .u64 y, .int .u64 0]).run Tryd.prog w =
    .ok (.value (.tuple #[.int .u64 (((x + y) % 18446744073709551616 : Nat) : Int), .int .u64 (((x + y) / 18446744073709551616 : Nat) : Int)])) w := by
  rw [run_callFunc_extern (e := add64Entry) Tryd.func129 (by kernel_rfl) (by kernel_rfl) (by kernel_rfl) (by kernel_rfl), run_add64 _ _ _ (by omega) (by omega) (by omega) (by omega)]
  simp [Result.andThen]

/-- A number as three words, the highest first. -/
def W0 (a : Nat) : Nat := a / 340282366920938463463374607431768211456 % 18446744073709551616
def W1 (a : Nat) : Nat := a / 18446744073709551616 % 18446744073709551616
def W2 (a : Nat) : Nat := a % 18446744073709551616
def wideV (a : Nat) : Array Value := #[.int .u64 (W0 a : Int), .int .u64 (W1 a : Int), .int .u64 (W2 a : Int)]
theorem W0_lt (a : Nat) : W0 a < 18446744073709551616 := Nat.mod_lt _ (by decide)
theorem W1_lt (a : Nat) : W1 a < 18446744073709551616 := Nat.mod_lt _ (by decide)
theorem W2_lt (a : Nat) : W2 a < 18446744073709551616 := Nat.mod_lt _ (by decide)

theorem add64_zero (x : Nat) (hx : x < 18446744073709551616) (w : World) : (callFunc 129 #[.int .u64 x, .int .u64 0, .int .u64 0]).run Tryd.prog w = .ok (.value (.tuple #[.int .u64 (x : Int), .int .u64 0])) w := by
  have h := add64_run x 0 w
  rw [Nat.add_zero, Nat.mod_eq_of_lt hx, Nat.div_eq_of_lt hx] at h
  exact h
theorem add64_sum (x y z : Nat) (w : World) : (callFunc 129 #[.int .u64 x, .int .u64 ((y : Int) + (z : Int)), .int .u64 0]).run Tryd.prog w =
    .ok (.value (.tuple #[.int .u64 (((x + (y + z)) % 18446744073709551616 : Nat) : Int), .int .u64 (((x + (y + z)) / 18446744073709551616 : Nat) : Int)])) w := by
  have h := add64_run x (y + z) w
  rw [Int.natCast_add y z] at h
  exact h

theorem W2_mul (a x : Nat) : W2 (a * x) = W2 a * x % 18446744073709551616 := by
  unfold W2
  rw [Nat.mod_mul_mod]
theorem mul_parts (a x : Nat) : a * x = W2 a * x + 18446744073709551616 * (W1 a * x + 18446744073709551616 * (W0 a * x + 18446744073709551616 * (a / 6277101735386680763835789423207666416102355444464034512896 * x))) := by
  have h1 : a = W2 a + 18446744073709551616 * (W1 a + 18446744073709551616 * (W0 a + 18446744073709551616 * (a / 6277101735386680763835789423207666416102355444464034512896))) := by
    unfold W0 W1 W2; omega
  conv => lhs; rw [h1]
  simp only [Nat.add_mul, Nat.mul_assoc]
theorem W1_mul (a x : Nat) : W1 (a * x) = (W1 a * x % 18446744073709551616 + W2 a * x / 18446744073709551616) % 18446744073709551616 := by
  have h := mul_parts a x
  generalize a / 6277101735386680763835789423207666416102355444464034512896 * x = p3 at h
  generalize W0 a * x = p0 at *
  generalize W1 a * x = p1 at *
  generalize W2 a * x = p2 at *
  rw [h]
  unfold W1
  omega
theorem W0_mul (a x : Nat) : W0 (a * x) = (W0 a * x % 18446744073709551616 + (W1 a * x / 18446744073709551616 + (W1 a * x % 18446744073709551616 + W2 a * x / 18446744073709551616) / 18446744073709551616)) % 18446744073709551616 := by
  have h := mul_parts a x
  generalize a / 6277101735386680763835789423207666416102355444464034512896 * x = p3 at h
  generalize W0 a * x = p0 at *
  generalize W1 a * x = p1 at *
  generalize W2 a * x = p2 at *
  rw [h]
  unfold W0
  omega
theorem mul_hi_lt {a x : Nat} (ha : a < 18446744073709551616) (hx : x < 18446744073709551616) : a * x / 18446744073709551616 + 1 < 18446744073709551616 := by
  have h : a * x ≤ 18446744073709551615 * 18446744073709551615 := Nat.mul_le_mul (by omega) (by omega)
  omega

set_option maxRecDepth 100000 in
set_option maxHeartbeats 4000000 in
theorem times_any (a x : Nat) (hx : x < 18446744073709551616) (w : World) :
    Calls Tryd.prog 118 #[.agg (wideV a), .int .u64 (x : Int)] w fun e w' => e = .returned (.agg (wideV (a * x))) ∧ Below w.heap.size w w' := by
  have e2 := W2_mul a x
  have e1 := W1_mul a x
  have e0 := W0_mul a x
  have h0 := mul_hi_lt (W0_lt a) hx
  have h1 := mul_hi_lt (W1_lt a) hx
  have h2 := mul_hi_lt (W2_lt a) hx
  have l2 : W2 a * x % 18446744073709551616 < 18446744073709551616 := Nat.mod_lt _ (by decide)
  have l1 : W1 a * x % 18446744073709551616 < 18446744073709551616 := Nat.mod_lt _ (by decide)
  have l0 : W0 a * x % 18446744073709551616 < 18446744073709551616 := Nat.mod_lt _ (by decide)
  have m0 := fun w => mul64_any (W0 a) x (W0_lt a) hx w
  have m1 := fun w => mul64_any (W1 a) x (W1_lt a) hx w
  have m2 := fun w => mul64_any (W2 a) x (W2_lt a) hx w
  generalize W2 a * x % 18446744073709551616 = L2 at *
  generalize W1 a * x % 18446744073709551616 = L1 at *
  generalize W0 a * x % 18446744073709551616 = L0 at *
  generalize W2 a * x / 18446744073709551616 = H2 at *
  generalize W1 a * x / 18446744073709551616 = H1 at *
  generalize W0 a * x / 18446744073709551616 = H0 at *
  have q2 := add64_zero L2 l2
  have q1 := add64_run L1 H2
  have c1 : (L1 + H2) / 18446744073709551616 ≤ 1 := by omega
  have q0 := add64_sum L0 H1 ((L1 + H2) / 18446744073709551616)
  have c0 : (L0 + (H1 + (L1 + H2) / 18446744073709551616)) / 18446744073709551616 ≤ 1 := by omega
  generalize (L1 + H2) % 18446744073709551616 = S1 at *
  generalize (L0 + (H1 + (L1 + H2) / 18446744073709551616)) % 18446744073709551616 = S0 at *
  generalize (L0 + (H1 + (L1 + H2) / 18446744073709551616)) / 18446744073709551616 = C0 at *
  generalize (L1 + H2) / 18446744073709551616 = C1 at *
  have g2 : IntKind.u64.wrap ((H2 : Int)) = (H2 : Int) := by rw [IntKind.wrap_u64]; omega
  have g1 : IntKind.u64.wrap ((H1 : Int) + (C1 : Int)) = (H1 : Int) + (C1 : Int) := by rw [IntKind.wrap_u64]; omega
  have g0 : IntKind.u64.wrap ((H0 : Int) + (C0 : Int)) = (H0 : Int) + (C0 : Int) := by rw [IntKind.wrap_u64]; omega
  have HE := Lib.hid (show wideV (a * x) = #[.int .u64 (S0 : Int), .int .u64 (S1 : Int), .int .u64 (L2 : Int)] by unfold wideV; rw [e0, e1, e2])
  have M0 := Lib.hid m0
  have M1 := Lib.hid m1
  have M2 := Lib.hid m2
  clear e0 e1 e2 h0 h1 h2 l0 l1 l2 m0 m1 m2 c1 c0 hx
  generalize wideV (a * x) = res at *
  unfold wideV
  generalize W0 a = a0 at *
  generalize W1 a = a1 at *
  generalize W2 a = a2 at *
  go_enter Tryd.func118, Tryd.ntmps118
  go_wp2_with fail
  refine wp_loop_rounds 4 ?_
  rw [rounds_succ]
  go_wp2_with fail
  refine (M2.out _).mono ?_
  rintro e w1 ⟨rfl, rfl⟩
  go_wp2_with fail
  rw [rounds_succ]
  go_wp2_with fail
  refine (M1.out _).mono ?_
  rintro e w1 ⟨rfl, rfl⟩
  go_wp2_with fail
  rw [rounds_succ]
  go_wp2_with fail
  refine (M0.out _).mono ?_
  rintro e w1 ⟨rfl, rfl⟩
  go_wp2_with fail
  rw [rounds_succ]
  go_wp2_with fail
  rw [HE.out]
  exact bodyPost_ret (v := .agg #[.int .u64 (S0 : Int), .int .u64 (S1 : Int), .int .u64 (L2 : Int)]) (by simp [results, Tryd.results118, go_sem]) rfl ⟨rfl, ((Below.refl _ w).alloc (Nat.le_refl _) _).alloc (by simp) _⟩

theorem info_wide : (Tryd.prog.info? 174).map (·.size) = some 3 := by kernel_rfl
theorem wideV_list (a : Nat) : (wideV a).toList = [.int .u64 (W0 a : Int), .int .u64 (W1 a : Int), .int .u64 (W2 a : Int)] := rfl
theorem wideV_one (a : Nat) : ∀ u ∈ (wideV a).toList, u.oneCell' = true := by
  intro u hu
  rw [wideV_list] at hu
  simp only [List.mem_cons, List.not_mem_nil, or_false] at hu
  rcases hu with rfl | rfl | rfl <;> rfl
theorem load_wide {ops : Array Oper} {rest : List Oper} {o : Oper} {a : Act} {w : World} {Q : Exit → Act → World → Prop} (hgd : o.guard = none) (x : Operand) (ho : o.op = .load 174 x)
    {b off : Nat} (hx : a.eval x = .pointer (some ⟨b, off, none⟩)) {arr : Array Value} (hc : At w b off arr.toList) (hl : arr.size = 3)
    (hK : wpList Tryd.prog ops Q rest (a.put o.dst (.agg arr)) w) : wpList Tryd.prog ops Q (o :: rest) a w :=
  wpList_load_at hgd _ x ho b off hx arr.toList _ hc Tryd.underlying174 rfl (by rw [info_wide, Array.length_toList, hl]) hK
theorem store_wide {ops : Array Oper} {rest : List Oper} {o : Oper} {a : Act} {w : World} {Q : Exit → Act → World → Prop} (hgd : o.guard = none) (x y : Operand) (ho : o.op = .store 174 x y)
    {b : Nat} (hx : a.eval x = .pointer (some ⟨b, 0, none⟩)) {arr : Array Value} (hy : a.eval y = .agg arr) {old : Array Value} {t : TypeId} (hb : w.heap[b]? = some (.cells old t (0, 0))) (ho2 : old.size = 3) (hl : arr.size = 3)
    (h1 : ∀ u ∈ arr.toList, u.oneCell' = true)
    (hK : ∀ w', w'.heap[b]? = some (.cells arr t (0, 0)) → Fr (fun k => k = b) w w' → w'.heap.size = w.heap.size → wpList Tryd.prog ops Q rest (a.put o.dst undef) w') : wpList Tryd.prog ops Q (o :: rest) a w :=
  wpList_store_row hgd _ x y ho b hx arr.toList (by simpa using hy) old _ hb (by simp [ho2, hl]) h1 (by rw [info_wide]; simp [hl]) (fun w' h1 h2 h3 => hK w' (by simpa using h1) h2 h3)
theorem ret_wide {fn : Func} {p : Tmp} (h : fn.results = #[.cell p 174]) {tmps : Array Value} {w : World} {g : Nat} {arr : Array Value} {t : TypeId} (hp : tmps.getD p undef = .pointer (some ⟨g, 0, none⟩))
    (hg : w.heap[g]? = some (.cells arr t (0, 0))) (hl : arr.size = 3) :
    (results fn tmps).run Tryd.prog w = .ok (.agg arr) w :=
  results_cell_row h tmps w g t arr _ _ hp hg Tryd.underlying174 rfl (by rw [info_wide, hl])

def PowRel (w : World) (x m : Nat) (wr : World) : Prop :=
  (∃ c, wr.heap[w.heap.size]? = some (.cells c 174 (0, 0)) ∧ c.size = 3) ∧ wr.heap[w.heap.size + 1]? = some (.cells (wideV (x ^ m)) 174 (0, 0)) ∧ Below w.heap.size w wr

set_option maxRecDepth 100000 in
set_option maxHeartbeats 4000000 in
theorem power_any (x k : Nat) (hx : x < 18446744073709551616) (hk : k ≤ 1000) (w : World) :
    Calls Tryd.prog 117 #[.int .u64 (x : Int), .int .i64 (k : Int)] w fun e w' => e = .returned (.agg (wideV (x ^ k))) ∧ Below w.heap.size w w' := by
  have HT := Lib.hid (fun a w => times_any a x hx w)
  clear hx
  go_enter Tryd.func117, Tryd.ntmps117
  go_wp2_with fail
  have hw1 : wideV (x ^ 0) = #[.int .u64 0, .int .u64 0, .int .u64 1] := by rw [Nat.pow_zero]; simp [wideV, W0, W1, W2]
  have hR0 : PowRel w x 0 ((w.alloc (.cells #[.int .u64 0, .int .u64 0, .int .u64 0] 174)).alloc (.cells #[.int .u64 0, .int .u64 0, .int .u64 1] 174)) := by
    have h := heap_alloc_new (w.alloc (.cells #[.int .u64 0, .int .u64 0, .int .u64 0] 174)) (.cells #[.int .u64 0, .int .u64 0, .int .u64 1] 174)
    rw [show (w.alloc (.cells #[.int .u64 0, .int .u64 0, .int .u64 0] 174)).heap.size = w.heap.size + 1 by simp] at h
    exact ⟨⟨_, (Below.heap_alloc _ _ _ (by simp)).trans (heap_alloc_new _ _), rfl⟩, by rw [hw1]; exact h, ((Below.refl _ w).alloc (Nat.le_refl _) _).alloc (by simp) _⟩
  clear hw1
  have HR0 := Lib.hid hR0
  clear hR0
  go_loopw [8] (fun i wr => ∃ m : Nat, m ≤ k ∧ i = .int .i64 m ∧ PowRel w x m wr) (fun i _ => k - (intOf i).toNat)
  case atStart => exact ⟨0, Nat.zero_le _, rfl, HR0.out⟩
  case round =>
    obtain ⟨m, hm, rfl, ⟨c, hc, hcs⟩, hrow, hb⟩ := hrel
    have HC := Lib.hid hc
    have HCs := Lib.hid hcs
    have HRow := Lib.hid hrow
    have HAt := Lib.hid (At.of_row (cs := (wideV (x ^ m)).toList) (by simpa using hrow))
    have HB := Lib.hid hb
    clear hc hrow hb hcs
    rcases Nat.lt_or_ge m k with hlt | hge
    · go_wp2_with (refine load_wide rfl (.tmp 5) rfl rfl HAt.out rfl ?_)
      refine (HT.out _ _).mono ?_
      rintro e w1 ⟨rfl, hb1⟩
      have hr1 := (hb1.block (w.heap.size + 1) (lt_of_block HRow.out)).trans HRow.out
      have hc1 := (hb1.block w.heap.size (lt_of_block HC.out)).trans HC.out
      have HRow1 := Lib.hid hr1
      have HC1 := Lib.hid hc1
      have HB1 := Lib.hid (HB.out.trans (hb1.mono HB.out.size))
      clear hb1 hr1 hc1
      go_wp2_with (refine store_wide rfl (.tmp 5) (.tmp 12) rfl rfl rfl HRow1.out rfl rfl (wideV_one _) ?_)
      intro w2 hg2 hf2 hs2
      have HG2 := Lib.hid hg2
      have HC2 := Lib.hid ((hf2.block w.heap.size (lt_of_block HC1.out) (by omega)).trans HC1.out)
      have HB2 := Lib.hid (HB1.out.trans (hf2.below HB1.out.size (fun j hj => by omega)))
      clear hg2 hf2 hs2
      go_wp2
      go_roundw
      case rel => exact ⟨m + 1, by omega, by go_num, ⟨_, HC2.out, HCs.out⟩, by rw [Nat.pow_succ]; exact HG2.out, HB2.out⟩
      case measure => simp [intOf]; omega
    · obtain rfl : m = k := by omega
      go_wp2_with (first | refine load_wide rfl (.tmp 5) rfl rfl HAt.out rfl ?_ | (refine store_wide rfl (.tmp 4) (.tmp 14) rfl rfl rfl HC.out HCs.out rfl (wideV_one _) ?_; intro w2 hg2 hf2 hs2))
      have HG2 := Lib.hid hg2
      have HB2 := Lib.hid (HB.out.trans (hf2.below HB.out.size (fun j hj => by omega)))
      clear hg2 hf2 hs2
      go_wp2
      exact bodyPost_ret (ret_wide rfl rfl HG2.out rfl) rfl ⟨rfl, HB2.out⟩

def overL (a0 a1 a2 b0 b1 b2 : Nat) : Bool := if a0 ≠ b0 then decide (b0 < a0) else if a1 ≠ b1 then decide (b1 < a1) else if a2 ≠ b2 then decide (b2 < a2) else false

theorem belowDrewN {B : Nat} {w w' : World} (h : Below B w w') (n : Nat) : Below B w (w'.drewN n) := ⟨h.os, h.tape, h.output, h.size, h.block⟩

set_option maxRecDepth 100000 in
set_option maxHeartbeats 4000000 in
theorem over_L (a0 a1 a2 b0 b1 b2 : Nat) (w : World) :
    Calls Tryd.prog 119 #[.agg #[.int .u64 (a0 : Int), .int .u64 (a1 : Int), .int .u64 (a2 : Int)], .agg #[.int .u64 (b0 : Int), .int .u64 (b1 : Int), .int .u64 (b2 : Int)]] w fun e w' => e = .returned (.bool (overL a0 a1 a2 b0 b1 b2)) ∧ Below w.heap.size w w' := by
  obtain ⟨r, hr⟩ : ∃ r, r = overL a0 a1 a2 b0 b1 b2 := ⟨_, rfl⟩
  rw [← hr]
  unfold overL at hr
  have hB := ((Below.refl w.heap.size w).alloc (Nat.le_refl _) (.cells #[.int .u64 (a0 : Int), .int .u64 (a1 : Int), .int .u64 (a2 : Int)] 174)).alloc (by simp) (.cells #[.int .u64 (b0 : Int), .int .u64 (b1 : Int), .int .u64 (b2 : Int)] 174)
  have HB := Lib.hid hB
  clear hB
  by_cases h0 : a0 = b0
  · rw [if_neg (by simpa using h0)] at hr
    have t0 : ((a0 : Int) != (b0 : Int)) = false := by subst h0; simp
    by_cases h1 : a1 = b1
    · rw [if_neg (by simpa using h1)] at hr
      have t1 : ((a1 : Int) != (b1 : Int)) = false := by subst h1; simp
      by_cases h2 : a2 = b2
      · rw [if_neg (by simpa using h2)] at hr
        have t2 : ((a2 : Int) != (b2 : Int)) = false := by subst h2; simp
        have HD := Lib.hid hr
        clear hr h0 h1 h2
        go_enter Tryd.func119, Tryd.ntmps119
        go_wp2_with fail
        refine wp_loop_rounds 4 ?_
        rw [rounds_succ]
        go_wp2_with fail
        go_quiet (fail)
        go_wp2_with fail
        rw [rounds_succ]
        go_wp2_with fail
        go_quiet (fail)
        go_wp2_with fail
        rw [rounds_succ]
        go_wp2_with fail
        go_quiet (fail)
        go_wp2_with fail
        rw [rounds_succ]
        go_wp2_with fail
        go_ret
        exact ⟨by rw [HD.out]; rfl, by repeat (first | exact HB.out | refine belowDrewN ?_ _)⟩
      · rw [if_pos h2] at hr
        have t2 : ((a2 : Int) != (b2 : Int)) = true := by rw [bne_iff_ne]; omega
        have HD := Lib.hid hr
        clear hr h0 h1 h2
        go_enter Tryd.func119, Tryd.ntmps119
        go_wp2_with fail
        refine wp_loop_rounds 4 ?_
        rw [rounds_succ]
        go_wp2_with fail
        go_quiet (fail)
        go_wp2_with fail
        rw [rounds_succ]
        go_wp2_with fail
        go_quiet (fail)
        go_wp2_with fail
        rw [rounds_succ]
        go_wp2_with fail
        go_quiet (fail)
        go_wp2_with fail
        go_quiet (fail)
        go_wp2_with fail
        go_ret
        exact ⟨by rw [HD.out]; rfl, by repeat (first | exact HB.out | refine belowDrewN ?_ _)⟩
    · rw [if_pos h1] at hr
      have t1 : ((a1 : Int) != (b1 : Int)) = true := by rw [bne_iff_ne]; omega
      have HD := Lib.hid hr
      clear hr h0 h1
      go_enter Tryd.func119, Tryd.ntmps119
      go_wp2_with fail
      refine wp_loop_rounds 4 ?_
      rw [rounds_succ]
      go_wp2_with fail
      go_quiet (fail)
      go_wp2_with fail
      rw [rounds_succ]
      go_wp2_with fail
      go_quiet (fail)
      go_wp2_with fail
      go_quiet (fail)
      go_wp2_with fail
      go_ret
      exact ⟨by rw [HD.out]; rfl, by repeat (first | exact HB.out | refine belowDrewN ?_ _)⟩
  · rw [if_pos h0] at hr
    have t0 : ((a0 : Int) != (b0 : Int)) = true := by rw [bne_iff_ne]; omega
    have HD := Lib.hid hr
    clear hr h0
    go_enter Tryd.func119, Tryd.ntmps119
    go_wp2_with fail
    refine wp_loop_rounds 4 ?_
    rw [rounds_succ]
    go_wp2_with fail
    go_quiet (fail)
    go_wp2_with fail
    go_quiet (fail)
    go_wp2_with fail
    go_ret
    exact ⟨by rw [HD.out]; rfl, by repeat (first | exact HB.out | refine belowDrewN ?_ _)⟩

theorem overL_wide {a b : Nat} (ha : a < 6277101735386680763835789423207666416102355444464034512896) (hb : b < 6277101735386680763835789423207666416102355444464034512896) :
    overL (W0 a) (W1 a) (W2 a) (W0 b) (W1 b) (W2 b) = decide (b < a) := by
  unfold overL W0 W1 W2
  split
  · rw [Bool.eq_iff_iff]; simp only [decide_eq_true_iff]; omega
  · split
    · rw [Bool.eq_iff_iff]; simp only [decide_eq_true_iff]; omega
    · split
      · rw [Bool.eq_iff_iff]; simp only [decide_eq_true_iff]; omega
      · symm; rw [decide_eq_false_iff_not]; omega
theorem over_any (a b : Nat) (w : World) (ha : a < 6277101735386680763835789423207666416102355444464034512896) (hb : b < 6277101735386680763835789423207666416102355444464034512896) :
    Calls Tryd.prog 119 #[.agg (wideV a), .agg (wideV b)] w fun e w' => e = .returned (.bool (decide (b < a))) ∧ Below w.heap.size w w' := by
  rw [← overL_wide ha hb]
  exact over_L _ _ _ _ _ _ w

end Go.Proofs.YtdmgmpagnmmehaaDoor
