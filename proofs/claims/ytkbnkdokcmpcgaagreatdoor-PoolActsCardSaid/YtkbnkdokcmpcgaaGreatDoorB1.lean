/- Walks: num's wide numbers, Frac. Walk: num.Frac. Rows of words; a row that is stored into itself; two results that lie in memory. Over any program. Walk: sha's consts. -/
import Derived.Test.YtkbnkdokcmpcgaaGreatDoorB0
import Derived.Lib.Mul64
import Derived.Laws.Bits64b
import Derived.Laws.Externs
import Derived.LoopN
import Derived.BigQuiet
import Derived.Laws.CopyRow
namespace Go.Proofs.YtkbnkdokcmpcgaaGreatDoor
open Go.RowKit

theorem m64_mask (a : Nat) (ha : a < 18446744073709551616) : bits .and .u64 (a : Int) 4294967295 = ((a % 4294967296 : Nat) : Int) := by
  have h := bits_and_u64_nat a 4294967295 ha (by omega)
  have e : a &&& 4294967295 = a % 4294967296 := Nat.and_two_pow_sub_one_eq_mod a 32
  rw [e] at h
  exact h
theorem m64_div (a : Nat) : (a : Int) / 4294967296 = ((a / 4294967296 : Nat) : Int) := by omega
theorem m64_mul (a b : Nat) : (a : Int) * (b : Int) = ((a * b : Nat) : Int) := (Int.natCast_mul a b).symm
theorem m64_add (a b : Nat) : (a : Int) + (b : Int) = ((a + b : Nat) : Int) := (Int.natCast_add a b).symm
theorem m64_wrap (a : Nat) (ha : a < 18446744073709551616) : IntKind.u64.wrap (a : Int) = (a : Int) := by rw [IntKind.wrap_u64]; omega
theorem m64_wrapM (a : Nat) : IntKind.u64.wrap (a : Int) = ((a % 18446744073709551616 : Nat) : Int) := by rw [IntKind.wrap_u64]; omega

set_option maxHeartbeats 1000000 in
theorem mul64_any (x y : Nat) (hx : x < 18446744073709551616) (hy : y < 18446744073709551616) (w : World) :
    Calls Tryz.prog 204 #[.int .u64 x, .int .u64 y] w fun e w' => e = .returned (.tuple #[.int .u64 ((x * y / 18446744073709551616 : Nat) : Int), .int .u64 ((x * y % 18446744073709551616 : Nat) : Int)]) ∧ w = w' := by
  obtain ⟨bd, bt, bw, hhi⟩ := Lib.mul64_hi x y hx hy
  have ba := Lib.half_mul_le (a := x / 4294967296) (b := y / 4294967296) (by omega) (by omega)
  have bb := Lib.half_mul_le (a := x / 4294967296) (b := y % 4294967296) (by omega) (by omega)
  have bc := Lib.half_mul_le (a := x % 4294967296) (b := y / 4294967296) (by omega) (by omega)
  have ba' : x / 4294967296 * (y / 4294967296) < 18446744073709551616 := by omega
  have bb' : x / 4294967296 * (y % 4294967296) < 18446744073709551616 := by omega
  have bc' : x % 4294967296 * (y / 4294967296) < 18446744073709551616 := by omega
  have bh1 : x / 4294967296 * (y / 4294967296) + (x / 4294967296 * (y % 4294967296) + x % 4294967296 * (y % 4294967296) / 4294967296) / 4294967296 < 18446744073709551616 := by omega
  have bh : x / 4294967296 * (y / 4294967296) + (x / 4294967296 * (y % 4294967296) + x % 4294967296 * (y % 4294967296) / 4294967296) / 4294967296 + ((x / 4294967296 * (y % 4294967296) + x % 4294967296 * (y % 4294967296) / 4294967296) % 4294967296 + x % 4294967296 * (y / 4294967296)) / 4294967296 < 18446744073709551616 := by omega
  go_enter Tryz.func204, Tryz.ntmps204
  go_wp2
  simp only [m64_mask x hx, m64_mask y hy, m64_div, m64_mul, m64_add, m64_wrap _ bd, m64_wrap _ bb', m64_wrap _ bt, m64_mask _ bt, m64_wrap _ bc', m64_wrap _ bw, m64_wrap _ ba', m64_wrap _ bh1, m64_wrap _ bh, m64_wrapM (x * y)]
  rw [hhi]
  go_ret2
  exact ⟨rfl, rfl⟩

theorem add64_run (x y : Nat) (w : World) : (callFunc 205 #[.int .u64 x, .int .u64 y, .int .u64 0]).run Tryz.prog w =
    .ok (.value (.tuple #[.int .u64 (((x + y) % 18446744073709551616 : Nat) : Int), .int .u64 (((x + y) / 18446744073709551616 : Nat) : Int)])) w := by
  rw [run_callFunc_extern (e := add64Entry) Tryz.func205 (by kernel_rfl) (by kernel_rfl) (by kernel_rfl) (by kernel_rfl), run_add64 _ _ _ (by omega) (by omega) (by omega) (by omega)]
  simp [Result.andThen]

def W0 (a : Nat) : Nat := a / 340282366920938463463374607431768211456 % 18446744073709551616
def W1 (a : Nat) : Nat := a / 18446744073709551616 % 18446744073709551616
def W2 (a : Nat) : Nat := a % 18446744073709551616
def wideV (a : Nat) : Array Value := #[.int .u64 (W0 a : Int), .int .u64 (W1 a : Int), .int .u64 (W2 a : Int)]
theorem W0_lt (a : Nat) : W0 a < 18446744073709551616 := Nat.mod_lt _ (by decide)
theorem W1_lt (a : Nat) : W1 a < 18446744073709551616 := Nat.mod_lt _ (by decide)
theorem W2_lt (a : Nat) : W2 a < 18446744073709551616 := Nat.mod_lt _ (by decide)

theorem add64_zero (x : Nat) (hx : x < 18446744073709551616) (w : World) : (callFunc 205 #[.int .u64 x, .int .u64 0, .int .u64 0]).run Tryz.prog w = .ok (.value (.tuple #[.int .u64 (x : Int), .int .u64 0])) w := by
  have h := add64_run x 0 w
  rw [Nat.add_zero, Nat.mod_eq_of_lt hx, Nat.div_eq_of_lt hx] at h
  exact h
theorem add64_sum (x y z : Nat) (w : World) : (callFunc 205 #[.int .u64 x, .int .u64 ((y : Int) + (z : Int)), .int .u64 0]).run Tryz.prog w =
    .ok (.value (.tuple #[.int .u64 (((x + (y + z)) % 18446744073709551616 : Nat) : Int), .int .u64 (((x + (y + z)) / 18446744073709551616 : Nat) : Int)])) w := by
  have h := add64_run x (y + z) w
  rw [Int.natCast_add y z] at h
  exact h

theorem W2_mul (a x : Nat) : W2 (a * x) = W2 a * x % 18446744073709551616 := by
  unfold W2
  rw [Nat.mod_mul_mod]
theorem mul_parts (a x : Nat) : a * x = W2 a * x + 18446744073709551616 * (W1 a * x + 18446744073709551616 * (W0 a * x + 18446744073709551616 * (a / 6277101735386680763835789423207666416102355444464034512896 * x))) := by
  have h1 : a = W2 a + 18446744073709551616 * (W1 a + 18446744073709551616 * (W0 a + 18446744073709551616 * (a / 6277101735386680763835789423207666416102355444464034512896))) := by
    unfold W0 W1 W2; omega
  conv => lhs; rw [h1]
  simp only [Nat.add_mul, Nat.mul_assoc]
theorem W1_mul (a x : Nat) : W1 (a * x) = (W1 a * x % 18446744073709551616 + W2 a * x / 18446744073709551616) % 18446744073709551616 := by
  have h := mul_parts a x
  generalize a / 6277101735386680763835789423207666416102355444464034512896 * x = p3 at h
  generalize W0 a * x = p0 at *
  generalize W1 a * x = p1 at *
  generalize W2 a * x = p2 at *
  rw [h]
  unfold W1
  omega
theorem W0_mul (a x : Nat) : W0 (a * x) = (W0 a * x % 18446744073709551616 + (W1 a * x / 18446744073709551616 + (W1 a * x % 18446744073709551616 + W2 a * x / 18446744073709551616) / 18446744073709551616)) % 18446744073709551616 := by
  have h := mul_parts a x
  generalize a / 6277101735386680763835789423207666416102355444464034512896 * x = p3 at h
  generalize W0 a * x = p0 at *
  generalize W1 a * x = p1 at *
  generalize W2 a * x = p2 at *
  rw [h]
  unfold W0
  omega
theorem mul_hi_lt {a x : Nat} (ha : a < 18446744073709551616) (hx : x < 18446744073709551616) : a * x / 18446744073709551616 + 1 < 18446744073709551616 := by
  have h : a * x ≤ 18446744073709551615 * 18446744073709551615 := Nat.mul_le_mul (by omega) (by omega)
  omega

set_option maxRecDepth 100000 in
set_option maxHeartbeats 4000000 in
theorem times_any (a x : Nat) (hx : x < 18446744073709551616) (w : World) :
    Calls Tryz.prog 190 #[.agg (wideV a), .int .u64 (x : Int)] w fun e w' => e = .returned (.agg (wideV (a * x))) ∧ Below w.heap.size w w' := by
  have e2 := W2_mul a x
  have e1 := W1_mul a x
  have e0 := W0_mul a x
  have h0 := mul_hi_lt (W0_lt a) hx
  have h1 := mul_hi_lt (W1_lt a) hx
  have h2 := mul_hi_lt (W2_lt a) hx
  have l2 : W2 a * x % 18446744073709551616 < 18446744073709551616 := Nat.mod_lt _ (by decide)
  have l1 : W1 a * x % 18446744073709551616 < 18446744073709551616 := Nat.mod_lt _ (by decide)
  have l0 : W0 a * x % 18446744073709551616 < 18446744073709551616 := Nat.mod_lt _ (by decide)
  have m0 := fun w => mul64_any (W0 a) x (W0_lt a) hx w
  have m1 := fun w => mul64_any (W1 a) x (W1_lt a) hx w
  have m2 := fun w => mul64_any (W2 a) x (W2_lt a) hx w
  generalize W2 a * x % 18446744073709551616 = L2 at *
  generalize W1 a * x % 18446744073709551616 = L1 at *
  generalize W0 a * x % 18446744073709551616 = L0 at *
  generalize W2 a * x / 18446744073709551616 = H2 at *
  generalize W1 a * x / 18446744073709551616 = H1 at *
  generalize W0 a * x / 18446744073709551616 = H0 at *
  have q2 := add64_zero L2 l2
  have q1 := add64_run L1 H2
  have c1 : (L1 + H2) / 18446744073709551616 ≤ 1 := by omega
  have q0 := add64_sum L0 H1 ((L1 + H2) / 18446744073709551616)
  have c0 : (L0 + (H1 + (L1 + H2) / 18446744073709551616)) / 18446744073709551616 ≤ 1 := by omega
  generalize (L1 + H2) % 18446744073709551616 = S1 at *
  generalize (L0 + (H1 + (L1 + H2) / 18446744073709551616)) % 18446744073709551616 = S0 at *
  generalize (L0 + (H1 + (L1 + H2) / 18446744073709551616)) / 18446744073709551616 = C0 at *
  generalize (L1 + H2) / 18446744073709551616 = C1 at *
  have g2 : IntKind.u64.wrap ((H2 : Int)) = (H2 : Int) := by rw [IntKind.wrap_u64]; omega
  have g1 : IntKind.u64.wrap ((H1 : Int) + (C1 : Int)) = (H1 : Int) + (C1 : Int) := by rw [IntKind.wrap_u64]; omega
  have g0 : IntKind.u64.wrap ((H0 : Int) + (C0 : Int)) = (H0 : Int) + (C0 : Int) := by rw [IntKind.wrap_u64]; omega
  have HE := Lib.hid (show wideV (a * x) = #[.int .u64 (S0 : Int), .int .u64 (S1 : Int), .int .u64 (L2 : Int)] by unfold wideV; rw [e0, e1, e2])
  have M0 := Lib.hid m0
  have M1 := Lib.hid m1
  have M2 := Lib.hid m2
  clear e0 e1 e2 h0 h1 h2 l0 l1 l2 m0 m1 m2 c1 c0 hx
  generalize wideV (a * x) = res at *
  unfold wideV
  generalize W0 a = a0 at *
  generalize W1 a = a1 at *
  generalize W2 a = a2 at *
  go_enter Tryz.func190, Tryz.ntmps190
  go_wp2_with fail
  refine wp_loop_rounds 4 ?_
  rw [rounds_succ]
  go_wp2_with fail
  refine (M2.out _).mono ?_
  rintro e w1 ⟨rfl, rfl⟩
  go_wp2_with fail
  rw [rounds_succ]
  go_wp2_with fail
  refine (M1.out _).mono ?_
  rintro e w1 ⟨rfl, rfl⟩
  go_wp2_with fail
  rw [rounds_succ]
  go_wp2_with fail
  refine (M0.out _).mono ?_
  rintro e w1 ⟨rfl, rfl⟩
  go_wp2_with fail
  rw [rounds_succ]
  go_wp2_with fail
  rw [HE.out]
  exact bodyPost_ret (v := .agg #[.int .u64 (S0 : Int), .int .u64 (S1 : Int), .int .u64 (L2 : Int)]) (by simp [results, Tryz.results190, go_sem]) rfl ⟨rfl, ((Below.refl _ w).alloc (Nat.le_refl _) _).alloc (by simp) _⟩

theorem info_wide : (Tryz.prog.info? 295).map (·.size) = some 3 := by kernel_rfl
theorem wideV_list (a : Nat) : (wideV a).toList = [.int .u64 (W0 a : Int), .int .u64 (W1 a : Int), .int .u64 (W2 a : Int)] := rfl
theorem wideV_one (a : Nat) : ∀ u ∈ (wideV a).toList, u.oneCell' = true := by
  intro u hu
  rw [wideV_list] at hu
  simp only [List.mem_cons, List.not_mem_nil, or_false] at hu
  rcases hu with rfl | rfl | rfl <;> rfl
theorem load_wide {ops : Array Oper} {rest : List Oper} {o : Oper} {a : Act} {w : World} {Q : Exit → Act → World → Prop} (hgd : o.guard = none) (x : Operand) (ho : o.op = .load 295 x)
    {b off : Nat} (hx : a.eval x = .pointer (some ⟨b, off, none⟩)) {arr : Array Value} (hc : At w b off arr.toList) (hl : arr.size = 3)
    (hK : wpList Tryz.prog ops Q rest (a.put o.dst (.agg arr)) w) : wpList Tryz.prog ops Q (o :: rest) a w :=
  wpList_load_at hgd _ x ho b off hx arr.toList _ hc Tryz.underlying295 rfl (by rw [info_wide, Array.length_toList, hl]) hK
theorem store_wide {ops : Array Oper} {rest : List Oper} {o : Oper} {a : Act} {w : World} {Q : Exit → Act → World → Prop} (hgd : o.guard = none) (x y : Operand) (ho : o.op = .store 295 x y)
    {b : Nat} (hx : a.eval x = .pointer (some ⟨b, 0, none⟩)) {arr : Array Value} (hy : a.eval y = .agg arr) {old : Array Value} {t : TypeId} (hb : w.heap[b]? = some (.cells old t (0, 0))) (ho2 : old.size = 3) (hl : arr.size = 3)
    (h1 : ∀ u ∈ arr.toList, u.oneCell' = true)
    (hK : ∀ w', w'.heap[b]? = some (.cells arr t (0, 0)) → Fr (fun k => k = b) w w' → w'.heap.size = w.heap.size → wpList Tryz.prog ops Q rest (a.put o.dst undef) w') : wpList Tryz.prog ops Q (o :: rest) a w :=
  wpList_store_row hgd _ x y ho b hx arr.toList (by simpa using hy) old _ hb (by simp [ho2, hl]) h1 (by rw [info_wide]; simp [hl]) (fun w' h1 h2 h3 => hK w' (by simpa using h1) h2 h3)
theorem ret_wide {fn : Func} {p : Tmp} (h : fn.results = #[.cell p 295]) {tmps : Array Value} {w : World} {g : Nat} {arr : Array Value} {t : TypeId} (hp : tmps.getD p undef = .pointer (some ⟨g, 0, none⟩))
    (hg : w.heap[g]? = some (.cells arr t (0, 0))) (hl : arr.size = 3) :
    (results fn tmps).run Tryz.prog w = .ok (.agg arr) w :=
  results_cell_row h tmps w g t arr _ _ hp hg Tryz.underlying295 rfl (by rw [info_wide, hl])

def PowRel (w : World) (x m : Nat) (wr : World) : Prop :=
  (∃ c, wr.heap[w.heap.size]? = some (.cells c 295 (0, 0)) ∧ c.size = 3) ∧ wr.heap[w.heap.size + 1]? = some (.cells (wideV (x ^ m)) 295 (0, 0)) ∧ Below w.heap.size w wr

set_option maxRecDepth 100000 in
set_option maxHeartbeats 4000000 in
theorem power_any (x k : Nat) (hx : x < 18446744073709551616) (hk : k ≤ 1000) (w : World) :
    Calls Tryz.prog 189 #[.int .u64 (x : Int), .int .i64 (k : Int)] w fun e w' => e = .returned (.agg (wideV (x ^ k))) ∧ Below w.heap.size w w' := by
  have HT := Lib.hid (fun a w => times_any a x hx w)
  clear hx
  go_enter Tryz.func189, Tryz.ntmps189
  go_wp2_with fail
  have hw1 : wideV (x ^ 0) = #[.int .u64 0, .int .u64 0, .int .u64 1] := by rw [Nat.pow_zero]; simp [wideV, W0, W1, W2]
  have hR0 : PowRel w x 0 ((w.alloc (.cells #[.int .u64 0, .int .u64 0, .int .u64 0] 295)).alloc (.cells #[.int .u64 0, .int .u64 0, .int .u64 1] 295)) := by
    have h := heap_alloc_new (w.alloc (.cells #[.int .u64 0, .int .u64 0, .int .u64 0] 295)) (.cells #[.int .u64 0, .int .u64 0, .int .u64 1] 295)
    rw [show (w.alloc (.cells #[.int .u64 0, .int .u64 0, .int .u64 0] 295)).heap.size = w.heap.size + 1 by simp] at h
    exact ⟨⟨_, (Below.heap_alloc _ _ _ (by simp)).trans (heap_alloc_new _ _), rfl⟩, by rw [hw1]; exact h, ((Below.refl _ w).alloc (Nat.le_refl _) _).alloc (by simp) _⟩
  clear hw1
  have HR0 := Lib.hid hR0
  clear hR0
  go_loopw [8] (fun i wr => ∃ m : Nat, m ≤ k ∧ i = .int .i64 m ∧ PowRel w x m wr) (fun i _ => k - (intOf i).toNat)
  case atStart => exact ⟨0, Nat.zero_le _, rfl, HR0.out⟩
  case round =>
    obtain ⟨m, hm, rfl, ⟨c, hc, hcs⟩, hrow, hb⟩ := hrel
    have HC := Lib.hid hc
    have HCs := Lib.hid hcs
    have HRow := Lib.hid hrow
    have HAt := Lib.hid (At.of_row (cs := (wideV (x ^ m)).toList) (by simpa using hrow))
    have HB := Lib.hid hb
    clear hc hrow hb hcs
    rcases Nat.lt_or_ge m k with hlt | hge
    · go_wp2_with (refine load_wide rfl (.tmp 5) rfl rfl HAt.out rfl ?_)
      refine (HT.out _ _).mono ?_
      rintro e w1 ⟨rfl, hb1⟩
      have hr1 := (hb1.block (w.heap.size + 1) (lt_of_block HRow.out)).trans HRow.out
      have hc1 := (hb1.block w.heap.size (lt_of_block HC.out)).trans HC.out
      have HRow1 := Lib.hid hr1
      have HC1 := Lib.hid hc1
      have HB1 := Lib.hid (HB.out.trans (hb1.mono HB.out.size))
      clear hb1 hr1 hc1
      go_wp2_with (refine store_wide rfl (.tmp 5) (.tmp 12) rfl rfl rfl HRow1.out rfl rfl (wideV_one _) ?_)
      intro w2 hg2 hf2 hs2
      have HG2 := Lib.hid hg2
      have HC2 := Lib.hid ((hf2.block w.heap.size (lt_of_block HC1.out) (by omega)).trans HC1.out)
      have HB2 := Lib.hid (HB1.out.trans (hf2.below HB1.out.size (fun j hj => by omega)))
      clear hg2 hf2 hs2
      go_wp2
      go_roundw
      case rel => exact ⟨m + 1, by omega, by go_num, ⟨_, HC2.out, HCs.out⟩, by rw [Nat.pow_succ]; exact HG2.out, HB2.out⟩
      case measure => simp [intOf]; omega
    · obtain rfl : m = k := by omega
      go_wp2_with (first | refine load_wide rfl (.tmp 5) rfl rfl HAt.out rfl ?_ | (refine store_wide rfl (.tmp 4) (.tmp 14) rfl rfl rfl HC.out HCs.out rfl (wideV_one _) ?_; intro w2 hg2 hf2 hs2))
      have HG2 := Lib.hid hg2
      have HB2 := Lib.hid (HB.out.trans (hf2.below HB.out.size (fun j hj => by omega)))
      clear hg2 hf2 hs2
      go_wp2
      exact bodyPost_ret (ret_wide rfl rfl HG2.out rfl) rfl ⟨rfl, HB2.out⟩

def overL (a0 a1 a2 b0 b1 b2 : Nat) : Bool := if a0 ≠ b0 then decide (b0 < a0) else if a1 ≠ b1 then decide (b1 < a1) else if a2 ≠ b2 then decide (b2 < a2) else false

theorem belowDrewN {B : Nat} {w w' : World} (h : Below B w w') (n : Nat) : Below B w (w'.drewN n) := ⟨h.os, h.tape, h.output, h.size, h.block⟩

set_option maxRecDepth 100000 in
set_option maxHeartbeats 4000000 in
theorem over_L (a0 a1 a2 b0 b1 b2 : Nat) (w : World) :
    Calls Tryz.prog 191 #[.agg #[.int .u64 (a0 : Int), .int .u64 (a1 : Int), .int .u64 (a2 : Int)], .agg #[.int .u64 (b0 : Int), .int .u64 (b1 : Int), .int .u64 (b2 : Int)]] w fun e w' => e = .returned (.bool (overL a0 a1 a2 b0 b1 b2)) ∧ Below w.heap.size w w' := by
  obtain ⟨r, hr⟩ : ∃ r, r = overL a0 a1 a2 b0 b1 b2 := ⟨_, rfl⟩
  rw [← hr]
  unfold overL at hr
  have hB := ((Below.refl w.heap.size w).alloc (Nat.le_refl _) (.cells #[.int .u64 (a0 : Int), .int .u64 (a1 : Int), .int .u64 (a2 : Int)] 295)).alloc (by simp) (.cells #[.int .u64 (b0 : Int), .int .u64 (b1 : Int), .int .u64 (b2 : Int)] 295)
  have HB := Lib.hid hB
  clear hB
  by_cases h0 : a0 = b0
  · rw [if_neg (by simpa using h0)] at hr
    have t0 : ((a0 : Int) != (b0 : Int)) = false := by subst h0; simp
    by_cases h1 : a1 = b1
    · rw [if_neg (by simpa using h1)] at hr
      have t1 : ((a1 : Int) != (b1 : Int)) = false := by subst h1; simp
      by_cases h2 : a2 = b2
      · rw [if_neg (by simpa using h2)] at hr
        have t2 : ((a2 : Int) != (b2 : Int)) = false := by subst h2; simp
        have HD := Lib.hid hr
        clear hr h0 h1 h2
        go_enter Tryz.func191, Tryz.ntmps191
        go_wp2_with fail
        refine wp_loop_rounds 4 ?_
        rw [rounds_succ]
        go_wp2_with fail
        go_quiet (fail)
        go_wp2_with fail
        rw [rounds_succ]
        go_wp2_with fail
        go_quiet (fail)
        go_wp2_with fail
        rw [rounds_succ]
        go_wp2_with fail
        go_quiet (fail)
        go_wp2_with fail
        rw [rounds_succ]
        go_wp2_with fail
        go_ret
        exact ⟨by rw [HD.out]; rfl, by repeat (first | exact HB.out | refine belowDrewN ?_ _)⟩
      · rw [if_pos h2] at hr
        have t2 : ((a2 : Int) != (b2 : Int)) = true := by rw [bne_iff_ne]; omega
        have HD := Lib.hid hr
        clear hr h0 h1 h2
        go_enter Tryz.func191, Tryz.ntmps191
        go_wp2_with fail
        refine wp_loop_rounds 4 ?_
        rw [rounds_succ]
        go_wp2_with fail
        go_quiet (fail)
        go_wp2_with fail
        rw [rounds_succ]
        go_wp2_with fail
        go_quiet (fail)
        go_wp2_with fail
        rw [rounds_succ]
        go_wp2_with fail
        go_quiet (fail)
        go_wp2_with fail
        go_quiet (fail)
        go_wp2_with fail
        go_ret
        exact ⟨by rw [HD.out]; rfl, by repeat (first | exact HB.out | refine belowDrewN ?_ _)⟩
    · rw [if_pos h1] at hr
      have t1 : ((a1 : Int) != (b1 : Int)) = true := by rw [bne_iff_ne]; omega
      have HD := Lib.hid hr
      clear hr h0 h1
      go_enter Tryz.func191, Tryz.ntmps191
      go_wp2_with fail
      refine wp_loop_rounds 4 ?_
      rw [rounds_succ]
      go_wp2_with fail
      go_quiet (fail)
      go_wp2_with fail
      rw [rounds_succ]
      go_wp2_with fail
      go_quiet (fail)
      go_wp2_with fail
      go_quiet (fail)
      go_wp2_with fail
      go_ret
      exact ⟨by rw [HD.out]; rfl, by repeat (first | exact HB.out | refine belowDrewN ?_ _)⟩
  · rw [if_pos h0] at hr
    have t0 : ((a0 : Int) != (b0 : Int)) = true := by rw [bne_iff_ne]; omega
    have HD := Lib.hid hr
    clear hr h0
    go_enter Tryz.func191, Tryz.ntmps191
    go_wp2_with fail
    refine wp_loop_rounds 4 ?_
    rw [rounds_succ]
    go_wp2_with fail
    go_quiet (fail)
    go_wp2_with fail
    go_quiet (fail)
    go_wp2_with fail
    go_ret
    exact ⟨by rw [HD.out]; rfl, by repeat (first | exact HB.out | refine belowDrewN ?_ _)⟩

theorem overL_wide {a b : Nat} (ha : a < 6277101735386680763835789423207666416102355444464034512896) (hb : b < 6277101735386680763835789423207666416102355444464034512896) :
    overL (W0 a) (W1 a) (W2 a) (W0 b) (W1 b) (W2 b) = decide (b < a) := by
  unfold overL W0 W1 W2
  split
  · rw [Bool.eq_iff_iff]; simp only [decide_eq_true_iff]; omega
  · split
    · rw [Bool.eq_iff_iff]; simp only [decide_eq_true_iff]; omega
    · split
      · rw [Bool.eq_iff_iff]; simp only [decide_eq_true_iff]; omega
      · symm; rw [decide_eq_false_iff_not]; omega
theorem over_any (a b : Nat) (w : World) (ha : a < 6277101735386680763835789423207666416102355444464034512896) (hb : b < 6277101735386680763835789423207666416102355444464034512896) :
    Calls Tryz.prog 191 #[.agg (wideV a), .agg (wideV b)] w fun e w' => e = .returned (.bool (decide (b < a))) ∧ Below w.heap.size w w' := by
  rw [← overL_wide ha hb]
  exact over_L _ _ _ _ _ _ w

end Go.Proofs.YtkbnkdokcmpcgaaGreatDoor
namespace Go.Proofs.YtkbnkdokcmpcgaaGreatDoor
open Go.RowKit

theorem root_or (p k n : Nat) (h : n < 41) : bits BinOp.or IntKind.u64 (rootTo p k n : Int) (IntKind.u64.wrap (2 ^ (40 - n))) = ((rootTo p k n + 2 ^ (40 - n) : Nat) : Int) := by
  have h1 := rootTo_lt p k n (by omega)
  have h2 : 2 ^ (40 - n) ≤ 2 ^ 40 := Nat.pow_le_pow_right (by decide) (by omega)
  have e : ((2 : Int) ^ (40 - n)) = ((2 ^ (40 - n) : Nat) : Int) := by rw [Int.natCast_pow]; rfl
  rw [e, m64_wrap _ (by omega), u64_or_nat _ _ (by omega) (by omega), rootTo_or p k n h]
theorem want_lt {p k : Nat} (hk : k = 2 ∨ k = 3) (hp : p ≤ 65535) : 4294967296 ^ k * p < 6277101735386680763835789423207666416102355444464034512896 := by
  rcases hk with rfl | rfl <;> omega
theorem next_lt {x k : Nat} (hk : k = 2 ∨ k = 3) (hx : x < 2 ^ 41) : x ^ k < 6277101735386680763835789423207666416102355444464034512896 := by
  have h : x ^ k ≤ (2 ^ 41) ^ 3 := Nat.le_trans (Nat.pow_le_pow_left (Nat.le_of_lt hx) k) (Nat.pow_le_pow_right (by decide) (by omega))
  exact Nat.lt_of_le_of_lt h (by decide)

def FracRel (w : World) (B want : Nat) (wr : World) : Prop := wr.heap[B]? = some (.cells (wideV want) 295 (0, 0)) ∧ Below w.heap.size w wr

set_option maxRecDepth 100000 in
set_option maxHeartbeats 4000000 in
theorem frac_any (p k : Nat) (hk : k = 2 ∨ k = 3) (hp : 1 ≤ p) (hp2 : p ≤ 65535) (w : World) :
    Calls Tryz.prog 160 #[.int .u32 (p : Int), .int .i64 (k : Int)] w fun e w' => e = .returned (.tuple #[.int .u32 (fracN p k : Int), .int .i64 0]) ∧ Below w.heap.size w w' := by
  have HPw := Lib.hid (fun w => power_any 4294967296 k (by decide) (by omega) w)
  have HTm := Lib.hid (fun w => times_any (4294967296 ^ k) p (by omega) w)
  have g1 : ¬ (k : Int) < 2 := by omega
  have g2 : ¬ (3 : Int) < (k : Int) := by omega
  have g3 : ¬ (p : Int) < 1 := by omega
  have g4 : ¬ (65535 : Int) < (p : Int) := by omega
  go_enter Tryz.func160, Tryz.ntmps160
  go_wp2_with fail
  refine (HPw.out _).mono ?_
  rintro e w1 ⟨rfl, hb1⟩
  have HB1 := Lib.hid hb1
  clear hb1
  go_wp2_with fail
  refine (HTm.out _).mono ?_
  rintro e w2 ⟨rfl, hb2⟩
  have HB2 := Lib.hid (HB1.out.trans (hb2.mono HB1.out.size))
  clear hb2
  go_wp2_with (refine store_wide rfl (.tmp 6) (.tmp 28) rfl rfl rfl (heap_alloc_new _ _) rfl rfl (wideV_one _) ?_)
  intro w3 hg3 hf3 hs3
  have HR0 := Lib.hid (show FracRel w w2.heap.size (4294967296 ^ k * p) w3 from ⟨hg3, HB2.out.trans (((Below.refl _ w2).alloc (Nat.le_refl _) _ |>.trans (hf3.below (by simp) (fun j hj => by omega))).mono HB2.out.size)⟩)
  have hB2 := HB2.out.size
  clear hg3 hf3 hs3
  have HK := Lib.hid hk
  have HP := Lib.hid hp
  have HP2 := Lib.hid hp2
  clear hk hp hp2 g1 g2 g3 g4
  obtain ⟨B, hBB⟩ : ∃ B, B = w2.heap.size := ⟨_, rfl⟩
  rw [← hBB] at HR0 hB2 ⊢
  clear hBB
  go_wp2_with fail
  go_loopw [7, 8, 9] (fun r b x wr => ∃ n : Nat, n ≤ 41 ∧ r = .int .u64 (rootTo p k n : Int) ∧ b = .int .i64 (40 - (n : Int)) ∧ FracRel w B (4294967296 ^ k * p) wr) (fun _ b _ _ => (intOf b + 1).toNat)
  case atStart => exact ⟨0, by omega, rfl, rfl, HR0.out⟩
  case round =>
    obtain ⟨n, hn, rfl, rfl, hrow, hb⟩ := hrel
    have HRow := Lib.hid hrow
    have HB := Lib.hid hb
    clear hrow hb
    rcases Nat.lt_or_ge n 41 with hlt | hge
    · have q := root_or p k n hlt
      have hx := rootTo_next_lt p k n hlt
      have hstep : rootTo p k (n + 1) = if (rootTo p k n + 2 ^ (40 - n)) ^ k ≤ p * 4294967296 ^ k then rootTo p k n + 2 ^ (40 - n) else rootTo p k n := rfl
      rw [Nat.mul_comm p] at hstep
      obtain ⟨X, hX⟩ : ∃ X, X = rootTo p k n + 2 ^ (40 - n) := ⟨_, rfl⟩
      rw [← hX] at q hx hstep
      have hpw := fun (u : Wd wr.heap.size wr) => Calls.wd u (Nat.le_refl _) (power_any X k (by omega) (by have := HK.out; omega) u.to)
      have hov := fun (u : Wd wr.heap.size wr) => Calls.wd u (Nat.le_refl _) (over_any (X ^ k) (4294967296 ^ k * p) u.to (next_lt HK.out hx) (want_lt HK.out HP2.out))
      have HAt := Lib.hid (At.of_row (cs := (wideV (4294967296 ^ k * p)).toList) (by simpa using HRow.out))
      have HU := Lib.hid (fun w' (hw : ∃ u : Wd wr.heap.size wr, w' = u.to) => (by obtain ⟨u, rfl⟩ := hw; exact u.at HAt.out : At w' B 0 _))
      have HPW := Lib.hid hpw
      have HQ := Lib.hid q
      obtain ⟨R, hR⟩ : ∃ R, R = rootTo p k n := ⟨_, rfl⟩
      rw [← hR] at q hstep ⊢
      clear hX hpw hx HQ hR
      by_cases hle : X ^ k ≤ 4294967296 ^ k * p
      · rw [if_pos hle] at hstep
        rw [decide_eq_false (by omega)] at hov
        have HStep := Lib.hid hstep
        have HOV := Lib.hid hov
        clear hle hstep hov
        go_wp2_with fail
        refine wp_region_wd wr.heap.size (by kernel_rfl) (by kernel_rfl) ?_
        repeat (first
          | (refine wpQuiet_load_at rfl 295 (.tmp 6) rfl B 0 rfl _ _ HU.out Tryz.underlying295 rfl (by rw [info_wide]; rfl) ?_; simp only [Act.put, List.setIfInBounds_toArray, List.set_cons_succ, List.set_cons_zero, Array.toArray_toList])
          | go_big_quiet_step (first | with_reducible exact HPW.out _ | with_reducible exact HOV.out _))
        refine wpQuiet_nil ?_
        rintro _ ⟨⟨w6, hb6⟩, rfl⟩
        have HRow6 := Lib.hid ((hb6.block B (lt_of_block HRow.out)).trans HRow.out)
        have HB6 := Lib.hid (HB.out.trans (hb6.mono HB.out.size))
        clear hb6
        go_wp2
        go_roundw
        case rel => exact ⟨n + 1, by omega, by rw [HStep.out], by go_num, HRow6.out, HB6.out⟩
        case measure => simp [intOf]; omega
      · rw [if_neg hle] at hstep
        rw [decide_eq_true (by omega)] at hov
        have HStep := Lib.hid hstep
        have HOV := Lib.hid hov
        clear hle hstep hov
        go_wp2_with fail
        refine wp_region_wd wr.heap.size (by kernel_rfl) (by kernel_rfl) ?_
        repeat (first
          | (refine wpQuiet_load_at rfl 295 (.tmp 6) rfl B 0 rfl _ _ HU.out Tryz.underlying295 rfl (by rw [info_wide]; rfl) ?_; simp only [Act.put, List.setIfInBounds_toArray, List.set_cons_succ, List.set_cons_zero, Array.toArray_toList])
          | go_big_quiet_step (first | with_reducible exact HPW.out _ | with_reducible exact HOV.out _))
        refine wpQuiet_nil ?_
        rintro _ ⟨⟨w6, hb6⟩, rfl⟩
        have HRow6 := Lib.hid ((hb6.block B (lt_of_block HRow.out)).trans HRow.out)
        have HB6 := Lib.hid (HB.out.trans (hb6.mono HB.out.size))
        clear hb6
        go_wp2
        go_roundw
        case rel => exact ⟨n + 1, by omega, by rw [HStep.out], by go_num, HRow6.out, HB6.out⟩
        case measure => simp [intOf]; omega
    · obtain rfl : n = 41 := by omega
      clear hn hge
      have HF := Lib.hid (show (rootTo p k 41 : Int) % 4294967296 = (fracN p k : Int) by unfold fracN; omega)
      have hlt := rootTo_lt p k 41 (by omega)
      obtain ⟨R, hR⟩ : ∃ R, R = rootTo p k 41 := ⟨_, rfl⟩
      rw [← hR] at HF hlt ⊢
      clear hR hlt
      go_wp2
      go_ret2
      exact ⟨by rw [← HF.out]; rfl, HB.out⟩
end Go.Proofs.YtkbnkdokcmpcgaaGreatDoor
namespace Go.Proofs.YtkbnkdokcmpcgaaGreatDoor
open Go.RowKit

def U32 (n : Nat) : Value := .int .u32 (n : Int)
theorem U32_one (xs : List Nat) : ∀ u ∈ xs.map U32, u.oneCell' = true := by
  intro u hu
  obtain ⟨_, _, rfl⟩ := List.mem_map.1 hu
  rfl
def rowZ (m : Nat) (l : List Nat) : List Value := l.map U32 ++ List.replicate (m - l.length) (U32 0)
theorem rowZ_set (m : Nat) (l : List Nat) (x : Nat) (h : l.length < m) : (rowZ m l).set l.length (U32 x) = rowZ m (l ++ [x]) := by
  unfold rowZ
  rw [List.set_append_right _ _ (by simp), List.length_map, Nat.sub_self, List.map_append, List.length_append, List.append_assoc]
  congr 1
  obtain ⟨j, hj⟩ : ∃ j, m - l.length = j + 1 := ⟨m - 1 - l.length, by omega⟩
  rw [hj, List.replicate_succ, List.set_cons_zero]
  simp
  omega
theorem rowZ_get (m : Nat) (l : List Nat) (i : Nat) (h : l.length ≤ m) (hi : i < m) : (rowZ m l)[i]? = some (U32 (l.getD i 0)) := by
  unfold rowZ
  rcases Nat.lt_or_ge i l.length with h1 | h1
  · rw [List.getElem?_append_left (by simpa using h1), List.getElem?_map, List.getD_eq_getElem?_getD, List.getElem?_eq_getElem h1]; rfl
  · rw [List.getElem?_append_right (by simpa using h1), List.getElem?_replicate, if_pos (by simp; omega), List.getD_eq_getElem?_getD, List.getElem?_eq_none h1]; rfl
theorem rowZ_full (m : Nat) (l : List Nat) (h : l.length = m) : rowZ m l = l.map U32 := by unfold rowZ; simp [h]
section
variable {P : Program} {ops : Array Oper}

theorem wpQuiet_store_self {C : World → Prop} {Q : Act → Prop} {rest : List Oper} {o : Oper} {a : Act} (hw : Region.wanted o (yielded ops a.tmps) = true) (ty : TypeId) (x y : Operand) (ho : o.op = .store ty x y)
    (b : Nat) (hx : a.eval x = .pointer (some ⟨b, 0, none⟩)) (cs : List Value) (hy : a.eval y = .agg cs.toArray) (t : TypeId) (hb : ∀ w', C w' → w'.heap[b]? = some (.cells cs.toArray t (0, 0)))
    (h1 : ∀ u ∈ cs, u.oneCell' = true) (hi : (P.info? ty).map (·.size) = some cs.length)
    (h : wpQuiet P ops C Q rest (a.put o.dst undef)) : wpQuiet P ops C Q (o :: rest) a :=
  BigFrame.wpQuiet_want hw fun K hK => ⟨undef, fun w' hw' => by
    have hb' := hb w' hw'
    have hst := run_storeCells_at P b 0 t cs 0 cs.toArray w' hb' (by simp) h1
    have he : (cs.toArray.toList.take (0 + 0) ++ cs ++ cs.toArray.toList.drop (0 + 0 + cs.length)).toArray = cs.toArray := by simp
    rw [he, setRow_self w' b cs.toArray t (0, 0) hb'] at hst
    cases hq : P.info? ty with
    | none => simp [hq] at hi
    | some i =>
      have hs : i.size = cs.length := by simpa [hq] using hi
      have hr : (Instr.storeAt ty (.pointer (some ⟨b, 0, none⟩)) (.agg cs.toArray)).run P w' = .ok () w' := by
        simp [Instr.storeAt, Instr.sureAddr, storeVar, sizeOf, typeInfo, hq, hs, Value.cells, Sem.run_bind, hst]
      unfold Oper.quietAt execOp
      simp only [ho, hx, hy, Sem.run_bind, Sem.run_pure, Result.andThen_ok, hr]
      exact ⟨rfl, rfl⟩, hK _ h⟩

theorem results_two {fn : Func} {p q : Tmp} {ty tz : TypeId} (h : fn.results = #[.cell p ty, .cell q tz]) (tmps : Array Value) (w : World) :
    (results fn tmps).run P w =
      ((asAddr (tmps.getD p undef)).run P w).andThen fun a w₁ => ((loadVar ty a).run P w₁).andThen fun v w₂ => ((asAddr (tmps.getD q undef)).run P w₂).andThen fun b w₃ => ((loadVar tz b).run P w₃).andThen fun u w₄ => .ok (.tuple #[v, u]) w₄ := by
  simp only [results, h]
  simp [Sem.run_bind, Result.andThen]
theorem results_cell_cell {fn : Func} {p q : Tmp} {ty tz : TypeId} (h : fn.results = #[.cell p ty, .cell q tz]) {tmps : Array Value} {w : World} {a b : Addr} {u v : Value} (hp : tmps.getD p undef = .pointer (some a)) (hq : tmps.getD q undef = .pointer (some b))
    (ha : (loadVar ty a).run P w = .ok u w) (hb : (loadVar tz b).run P w = .ok v w) : (results fn tmps).run P w = .ok (.tuple #[u, v]) w := by
  rw [results_two h, hp, hq]
  simp [Result.andThen, asAddr, ha, hb]
end

end Go.Proofs.YtkbnkdokcmpcgaaGreatDoor
namespace Go.Proofs.YtkbnkdokcmpcgaaGreatDoor
open Go.RowKit


theorem info_u32 : (Tryz.prog.info? 41).map (fun i => (i.zero, i.size, i.bytes)) = some (some (.int .u32 0), 1, 4) := by kernel_rfl

theorem append_u32 {w : World} {ops : Array Oper} {rest : List Oper} {o : Oper} {a : Act} {Q : Exit → Act → World → Prop} (hgd : o.guard = none) (s x : Operand)
    (ho : o.op = .call { callee := .builtin .append, args := #[s, x], argTypes := #[54, 54] })
    {base : Nat} {v : Value} {n : Nat} {xs : List Nat} (hown : w.ownsRow base 41 1 v n (xs.map U32)) {vx : Value} {m : Nat} {news : List Nat} (hx : Sl w 1 vx m (news.map U32))
    (hs : a.eval s = v) (hxe : a.eval x = vx) (hr : n + m ≤ 34359738368) (hbase : base ≤ w.heap.size)
    (h : ∀ aa cc w', w'.ownsRow base 41 1 (.slice aa (n + m) cc) (n + m) ((xs ++ news).map U32) → Fr (fun k => v.ownBlock = some k) w w' → ((Value.slice aa (n + m) cc).ownBlock = v.ownBlock ∨ (Value.slice aa (n + m) cc).ownBlock = some w.heap.size) →
      wpList Tryz.prog ops Q rest (a.put o.dst (.slice aa (n + m) cc)) w') : wpList Tryz.prog ops Q (o :: rest) a w := by
  obtain ⟨i0, hi, hz0, hz1, hz2⟩ := info_parts info_u32
  refine wpList_append_sl hgd s x 54 ho base 41 i0 (.int .u32 0) 1 4 Tryz.underlying54 hi hz0 hz1 hz2 rfl (by decide) v n _ hs hown vx m _ hxe hx (U32_one _) (by unfold maxLen; omega) (by omega) hbase ?_
  intro aa cc w' h2 hg h3
  rw [← List.map_append] at h2
  exact h aa cc w' h2 ((Fr.refl _ w).grown hg (fun k hk => Or.inl hk)) h3

theorem divides_any (q p g : Nat) (w : World) (hq : 1 ≤ q) (hc : w.cell? ⟨g, 0, none⟩ = some (U32 p)) :
    Calls Tryz.prog 159 #[.int .u32 (q : Int), .pointer (some ⟨g, 0, none⟩)] w fun e w' => e = .returned (.bool (p % q == 0)) ∧ w = w' := by
  have e : ((p : Int) % (q : Int) == 0) = (p % q == 0) := by rw [Bool.eq_iff_iff, beq_iff_eq, beq_iff_eq]; omega
  have E := Lib.hid e
  clear e
  unfold U32 at *
  go_enter Tryz.func159, Tryz.ntmps159
  go_wp2
  go_ret
  exact ⟨by rw [← E.out]; rfl, rfl⟩

def DivPost (b : Bool) (w : World) (e : Ending) (w' : World) : Prop := ∃ r : Int, e = .returned (.int .i64 r) ∧ decide (0 ≤ r) = b ∧ w = w'
def divB (l : List Nat) (p : Nat) : Bool := l.any (fun q => p % q == 0)
set_option maxHeartbeats 1000000 in
theorem indexDiv_any (v : Value) (l : List Nat) (p g : Nat) (w : World) (h : Sl w 1 v l.length (l.map U32)) (hr : l.length ≤ 100000) (hl : ∀ q ∈ l, 1 ≤ q) (hc : w.cell? ⟨g, 0, none⟩ = some (U32 p)) :
    Calls Tryz.prog 188 #[v, .func (.func 159) #[] #[.pointer (some ⟨g, 0, none⟩)]] w (DivPost (divB l p) w) := by
  obtain ⟨hlen, a, cap, rfl, hlc, hnil, hel⟩ := h
  have HE := Lib.hid hel
  have HC := Lib.hid hc
  have HL := Lib.hid hl
  clear hlen hnil hel hc hl
  go_enter Tryz.func188, Tryz.ntmps188
  go_wp2
  go_loop [8] (fun i => ∃ k : Nat, k ≤ l.length ∧ i = .int .i64 k ∧ ∀ j (hj : j < l.length), j < k → (p % l[j] == 0) = false) (fun i => l.length - (intOf i).toNat)
  case atStart => exact ⟨0, Nat.zero_le _, rfl, fun j _ hj => by omega⟩
  case round =>
    obtain ⟨k, hk, rfl, hz⟩ := hrel
    have HZ := Lib.hid hz
    clear hz
    rcases Nat.lt_or_ge k l.length with hlt | hge
    · obtain ⟨b, o, rfl, hc⟩ := HE.out k (U32 (l[k]'hlt)) (by simp [hlt])
      obtain ⟨s, hs⟩ : ∃ s, s = l[k]'hlt := ⟨_, rfl⟩
      rw [← hs] at hc
      have HS := Lib.hid hs
      have hs1 : 1 ≤ s := by rw [hs]; exact HL.out _ (List.getElem_mem hlt)
      have HD := Lib.hid (divides_any s p g w hs1 HC.out)
      unfold U32 at hc
      clear hs hs1
      go_wp2_with fail
      refine HD.out.mono ?_
      rintro e w1 ⟨rfl, rfl⟩
      cases h9 : (p % s == 0) with
      | true =>
        have HF := Lib.hid (show divB l p = true from List.any_eq_true.2 ⟨s, by rw [HS.out]; exact List.getElem_mem hlt, h9⟩)
        clear h9
        go_wp2
        go_ret
        exact ⟨k, rfl, by rw [HF.out]; simp, rfl⟩
      | false =>
        have H9 := Lib.hid h9
        clear h9
        go_wp2
        go_round
        case rel =>
          refine ⟨k + 1, by omega, by go_num, fun j hj hjk => ?_⟩
          rcases Nat.lt_or_ge j k with h | h
          · exact HZ.out j hj h
          · obtain rfl : j = k := by omega
            rw [← HS.out]; exact H9.out
        case measure => simp [intOf]; omega
    · have HF := Lib.hid (show divB l p = false from List.any_eq_false.2 fun x hx => by
        obtain ⟨j, hj, rfl⟩ := List.getElem_of_mem hx
        have := HZ.out j hj (by omega)
        rw [this]; exact Bool.false_ne_true)
      obtain rfl : k = l.length := by omega
      go_wp2
      go_ret
      exact ⟨-1, rfl, by rw [HF.out]; rfl, rfl⟩

theorem containsDiv_any (v : Value) (l : List Nat) (p g : Nat) (w : World) (h : Sl w 1 v l.length (l.map U32)) (hr : l.length ≤ 100000) (hl : ∀ q ∈ l, 1 ≤ q) (hc : w.cell? ⟨g, 0, none⟩ = some (U32 p)) :
    Calls Tryz.prog 158 #[v, .func (.func 159) #[] #[.pointer (some ⟨g, 0, none⟩)]] w fun e w' => e = .returned (.bool (divB l p)) ∧ w = w' := by
  have HH := Lib.hid (indexDiv_any v l p g w h hr hl hc)
  clear h hc hl
  go_enter Tryz.func158, Tryz.ntmps158
  go_wp2_with fail
  refine HH.out.mono ?_
  rintro e w1 ⟨r, rfl, hr, rfl⟩
  have HR := Lib.hid hr
  clear hr
  go_wp2
  go_ret
  exact ⟨by rw [← HR.out]; rfl, rfl⟩

theorem own_alloc' {w : World} {B t sz n : Nat} {v : Value} {l : List Value} (h : w.ownsRow B t sz v n l) (o : Obj) : (w.alloc o).ownsRow B t sz v n l := h.fr ((Fr.refl (fun _ => False) w).alloc _) (fun _ _ => id)
theorem sl_row' {w : World} {b : Nat} {cs : Array Value} {t : TypeId} {size n : Nat} {xs : List Value} (hb : w.heap[b]? = some (.cells cs t (0, 0))) (hcs : cs.toList = xs) (hn : xs.length = n * size) : Sl w size (.slice (some ⟨b, 0, none⟩) n n) n xs := by
  refine ⟨hn, some ⟨b, 0, none⟩, n, rfl, Nat.le_refl _, fun h => (by cases h), fun i u hu => ⟨b, 0, rfl, ?_⟩⟩
  rw [Nat.zero_add, cell_of_row _ b i cs t _ hb, ← hu, ← hcs, Array.getElem?_toList]

structure ConstRel (w : World) (hl kl sl : List Nat) (q : Nat) (v : Value) (g : Nat) (wr : World) : Prop where
  h : wr.heap[w.heap.size]? = some (.cells (rowZ 8 hl).toArray 225 (0, 0))
  k : wr.heap[w.heap.size + 1]? = some (.cells (rowZ 64 kl).toArray 226 (0, 0))
  p : wr.heap[g]? = some (.cells #[U32 q] 41 (0, 0))
  own : wr.ownsRow (w.heap.size + 2) 41 1 v sl.length (sl.map U32)
  ne : v.ownBlock ≠ some g
  low : w.heap.size + 2 ≤ g
  below : Below w.heap.size w wr
def pOf (ptr : Value) (wr : World) : Nat := match ptr with
  | .pointer (some a) => (intOf ((wr.cell? a).getD undef)).toNat
  | _ => 0
section
variable {w wr w1 : World} {hl kl sl : List Nat} {q g : Nat} {v : Value}
theorem ConstRel.pOf (h : ConstRel w hl kl sl q v g wr) : pOf (.pointer (some ⟨g, 0, none⟩)) wr = q := by
  show (intOf ((wr.cell? ⟨g, 0, none⟩).getD undef)).toNat = q
  rw [cell_of_one h.p]
  simp [U32, intOf]
theorem ConstRel.fr {S : Nat → Prop} (h : ConstRel w hl kl sl q v g wr) (hf : Fr S wr w1) (h1 : ∀ k, S k → w.heap.size + 2 ≤ k ∧ k ≠ g ∧ v.ownBlock ≠ some k) : ConstRel w hl kl sl q v g w1 :=
  ⟨(hf.block _ (lt_of_block h.h) (fun x => by have := (h1 _ x).1; omega)).trans h.h, (hf.block _ (lt_of_block h.k) (fun x => by have := (h1 _ x).1; omega)).trans h.k, (hf.block _ (lt_of_block h.p) (fun x => (h1 _ x).2.1 rfl)).trans h.p,
    h.own.fr hf (fun k hk x => (h1 k x).2.2 hk), h.ne, h.low, h.below.trans (hf.below h.below.size (fun k x => by have := (h1 k x).1; omega))⟩
theorem ConstRel.bel (h : ConstRel w hl kl sl q v g wr) (hb : Below wr.heap.size wr w1) : ConstRel w hl kl sl q v g w1 := h.fr (Fr.of_below (S := fun _ => False) hb) (fun _ x => x.elim)
theorem ConstRel.cellP (h : ConstRel w hl kl sl q v g wr) : wr.cell? ⟨g, 0, none⟩ = some (.int .u32 (q : Int)) := cell_of_one h.p
theorem ConstRel.cellH (h : ConstRel w hl kl sl q v g wr) (hn : hl.length < 8) : wr.cell? ⟨w.heap.size, hl.length, none⟩ = some (.int .u32 0) := by
  rw [cell_of_row _ _ hl.length _ _ _ h.h, List.getElem?_toArray, rowZ_get 8 hl _ (by omega) hn, List.getD_eq_getElem?_getD, List.getElem?_eq_none (Nat.le_refl _)]; rfl
theorem ConstRel.freeH (h : ConstRel w hl kl sl q v g wr) (i : Nat) : wr.frozen? ⟨w.heap.size, i, none⟩ = false := by simp [World.frozen?, h.h]
theorem ConstRel.cellK (h : ConstRel w hl kl sl q v g wr) (hn : kl.length < 64) : wr.cell? ⟨w.heap.size + 1, kl.length, none⟩ = some (.int .u32 0) := by
  rw [cell_of_row _ _ kl.length _ _ _ h.k, List.getElem?_toArray, rowZ_get 64 kl _ (by omega) hn, List.getD_eq_getElem?_getD, List.getElem?_eq_none (Nat.le_refl _)]; rfl
theorem ConstRel.freeK (h : ConstRel w hl kl sl q v g wr) (i : Nat) : wr.frozen? ⟨w.heap.size + 1, i, none⟩ = false := by simp [World.frozen?, h.k]
theorem ConstRel.setH (h : ConstRel w hl kl sl q v g wr) (hn : hl.length < 8) (x : Nat) : ConstRel w (hl ++ [x]) kl sl q v g (wr.setCell ⟨w.heap.size, hl.length, none⟩ (U32 x)) := by
  have e := heap_setCell_same wr w.heap.size hl.length _ _ (U32 x) h.h
  rw [List.setIfInBounds_toArray, rowZ_set 8 hl x hn] at e
  have hf := Fr.set (S := fun k => k = w.heap.size) (Fr.refl _ wr) w.heap.size hl.length rfl (U32 x)
  refine ⟨e, (hf.block _ (lt_of_block h.k) (by omega)).trans h.k, (hf.block _ (lt_of_block h.p) (by have := h.low; omega)).trans h.p, h.own.fr hf (fun k hk x => by have := (h.own.lt k hk).1; omega), h.ne, h.low, h.below.trans (hf.below h.below.size (fun k x => by omega))⟩
theorem ConstRel.setK (h : ConstRel w hl kl sl q v g wr) (hn : kl.length < 64) (x : Nat) : ConstRel w hl (kl ++ [x]) sl q v g (wr.setCell ⟨w.heap.size + 1, kl.length, none⟩ (U32 x)) := by
  have e := heap_setCell_same wr (w.heap.size + 1) kl.length _ _ (U32 x) h.k
  rw [List.setIfInBounds_toArray, rowZ_set 64 kl x hn] at e
  have hf := Fr.set (S := fun k => k = w.heap.size + 1) (Fr.refl _ wr) (w.heap.size + 1) kl.length rfl (U32 x)
  refine ⟨(hf.block _ (lt_of_block h.h) (by omega)).trans h.h, e, (hf.block _ (lt_of_block h.p) (by have := h.low; omega)).trans h.p, h.own.fr hf (fun k hk x => by have := (h.own.lt k hk).1; omega), h.ne, h.low, h.below.trans (hf.below h.below.size (fun k x => by omega))⟩
theorem ConstRel.bump (h : ConstRel w hl kl sl q v g wr) (y : Nat) : ConstRel w hl kl sl y v wr.heap.size (wr.alloc (.cells #[U32 y] 41)) :=
  have hb : Below wr.heap.size wr (wr.alloc (.cells #[U32 y] 41)) := (Below.refl _ wr).alloc (Nat.le_refl _) _
  have h1 := h.bel hb
  ⟨h1.h, h1.k, heap_alloc_new _ _, h1.own, fun e => by have := (h.own.lt _ e).2; omega, by have := lt_of_block h.p; have := h.low; omega, h1.below⟩
theorem ConstRel.app (h : ConstRel w hl kl sl q v g wr) {x L m : Nat} {v1 : Value} (hL : L = sl.length) (ho : w1.ownsRow (w.heap.size + 2) 41 1 v1 (L + 1) (sl.map U32 ++ [U32 x])) (hf : Fr (fun k => v.ownBlock = some k) wr w1) (hm : wr.heap.size ≤ m) (h3 : v1.ownBlock = v.ownBlock ∨ v1.ownBlock = some m) : ConstRel w hl kl (sl ++ [x]) q v1 g w1 :=
  ⟨(hf.block _ (lt_of_block h.h) (fun e => by have := (h.own.lt _ e).1; omega)).trans h.h, (hf.block _ (lt_of_block h.k) (fun e => by have := (h.own.lt _ e).1; omega)).trans h.k, (hf.block _ (lt_of_block h.p) (fun e => h.ne e)).trans h.p,
    by subst hL; rw [List.length_append, List.map_append]; exact ho, fun e => by
      rcases h3 with h3 | h3
      · rw [h3] at e; exact h.ne e
      · rw [h3] at e; have := lt_of_block h.p; simp at e; omega, h.low, h.below.trans (hf.below h.below.size (fun k e => by have := (h.own.lt _ e).1; omega))⟩
end
def hTo (n : Nat) : List Nat := ((sieve n).take 8).map (fracN · 2)
def kTo (n : Nat) : List Nat := (sieve n).map (fracN · 3)
theorem hTo_length (n : Nat) : (hTo n).length = min 8 (sieve n).length := by simp [hTo]
theorem kTo_length (n : Nat) : (kTo n).length = (sieve n).length := by simp [kTo]
theorem sieve_skip {n : Nat} (h : divB (sieve n) (n + 2) = true) : sieve (n + 1) = sieve n := by
  show (if (sieve n).any (fun q => (n + 2) % q == 0) then _ else _) = _
  unfold divB at h
  rw [if_pos h]
theorem sieve_take {n : Nat} (h : divB (sieve n) (n + 2) = false) : sieve (n + 1) = sieve n ++ [n + 2] := by
  show (if (sieve n).any (fun q => (n + 2) % q == 0) then _ else _) = _
  rw [if_neg (by unfold divB at h; rw [h]; exact Bool.false_ne_true)]
theorem hTo_take {n : Nat} (h : divB (sieve n) (n + 2) = false) (hn : (sieve n).length < 8) : hTo (n + 1) = hTo n ++ [fracN (n + 2) 2] := by
  unfold hTo
  rw [sieve_take h, List.take_of_length_le (by simp; omega), List.take_of_length_le (by omega), List.map_append]; rfl
theorem hTo_stay {n : Nat} (h : divB (sieve n) (n + 2) = false) (hn : 8 ≤ (sieve n).length) : hTo (n + 1) = hTo n := by
  unfold hTo
  rw [sieve_take h, List.take_append_of_le_length hn]
theorem kTo_take {n : Nat} (h : divB (sieve n) (n + 2) = false) : kTo (n + 1) = kTo n ++ [fracN (n + 2) 3] := by
  unfold kTo
  rw [sieve_take h, List.map_append]; rfl

theorem info_state : (Tryz.prog.info? 225).map (·.size) = some 8 := by kernel_rfl
theorem info_w64 : (Tryz.prog.info? 226).map (·.size) = some 64 := by kernel_rfl

theorem hTo_310 : hTo 310 = hInit := rfl
theorem kTo_310 : kTo 310 = kInit := rfl

set_option maxRecDepth 100000 in
set_option maxHeartbeats 8000000 in
theorem consts_any (w : World) :
    Calls Tryz.prog 124 #[] w fun e w' => e = .returned (.tuple #[.agg (hInit.map U32).toArray, .agg (kInit.map U32).toArray]) ∧ Below w.heap.size w w' := by
  obtain ⟨hs, hhs⟩ : ∃ hs, hs = hInit := ⟨_, rfl⟩
  obtain ⟨ks, hks⟩ : ∃ ks, ks = kInit := ⟨_, rfl⟩
  rw [← hhs, ← hks]
  have HHs := Lib.hid hhs
  have HKs := Lib.hid hks
  clear hhs hks
  go_enter Tryz.func124, Tryz.ntmps124
  go_wp2_with fail
  have hw0 : ConstRel w (hTo 0) (kTo 0) (sieve 0) 2 (.slice none 0 0) (w.heap.size + 2) (((w.alloc (.cells (rowZ 8 (hTo 0)).toArray 225)).alloc (.cells (rowZ 64 (kTo 0)).toArray 226)).alloc (.cells #[U32 2] 41)) := by
    have hs1 : (w.alloc (.cells (rowZ 8 (hTo 0)).toArray 225)).heap.size = w.heap.size + 1 := by simp
    have hs2 : ((w.alloc (.cells (rowZ 8 (hTo 0)).toArray 225)).alloc (.cells (rowZ 64 (kTo 0)).toArray 226)).heap.size = w.heap.size + 2 := by simp
    have a0 := heap_alloc_new w (.cells (rowZ 8 (hTo 0)).toArray 225)
    have a1 := heap_alloc_new (w.alloc (.cells (rowZ 8 (hTo 0)).toArray 225)) (.cells (rowZ 64 (kTo 0)).toArray 226)
    have a2 := heap_alloc_new ((w.alloc (.cells (rowZ 8 (hTo 0)).toArray 225)).alloc (.cells (rowZ 64 (kTo 0)).toArray 226)) (.cells #[U32 2] 41)
    rw [hs1] at a1
    rw [hs2] at a2
    exact ⟨(Below.heap_alloc _ _ _ (by simp; omega)).trans ((Below.heap_alloc _ _ _ (by simp)).trans a0), (Below.heap_alloc _ _ _ (by simp)).trans a1, a2, World.ownsRow_nil _ _ _ _, by simp [Value.ownBlock], Nat.le_refl _,
      (((Below.refl _ w).alloc (Nat.le_refl _) _).alloc (by simp) _).alloc (by simp; omega) _⟩
  have HW0 := Lib.hid hw0
  clear hw0
  go_loopw [2, 3, 4] (fun c v ptr wr => ∃ n g : Nat, n ≤ 310 ∧ c = .int .i64 ((sieve n).length : Int) ∧ ptr = .pointer (some ⟨g, 0, none⟩) ∧ ConstRel w (hTo n) (kTo n) (sieve n) (n + 2) v g wr) (fun _ _ ptr wr => 400 - pOf ptr wr)
  case atStart => exact ⟨0, w.heap.size + 2, by omega, rfl, rfl, HW0.out⟩
  case round =>
    obtain ⟨n, g, hn, rfl, rfl, hr⟩ := hrel
    obtain ⟨q, hq⟩ : ∃ q, q = n + 2 := ⟨_, rfl⟩
    rw [← hq] at hr
    have HR := Lib.hid hr
    obtain ⟨L, hL⟩ : ∃ L, L = (sieve n).length := ⟨_, rfl⟩
    have hLe := sieve_le n hn
    rw [← hL] at hLe ⊢
    rcases Nat.lt_or_ge L 64 with hlt | hge
    · have hn9 := sieve_small n (by omega)
      have hq9 : q < 350 := by rw [hq]; omega
      have hq1 : 1 ≤ q := by rw [hq]; omega
      have hpc := hr.cellP
      have HCall := Lib.hid (containsDiv_any u3 (sieve n) q g wr (Sl.own hr.own) (by omega) (fun q hq => by have := sieve_lt n q hq; omega) (cell_of_one hr.p))
      have HLn := Lib.hid hL
      have HPw := Lib.hid (fun k w hk => frac_any q k hk (by omega) (by omega) w)
      have HQ := Lib.hid hq
      clear hr hL hq
      go_wp2_with fail
      refine HCall.out.mono ?_
      rintro e w1 ⟨rfl, rfl⟩
      cases hd : divB (sieve n) q with
      | true =>
        have HD := Lib.hid (show divB (sieve n) (n + 2) = true by rw [← HQ.out]; exact hd)
        clear hd
        go_wp2
        have hnew := HR.out.bump (q + 1)
        have he : (.int .u32 (((q + 1 : Nat)) : Int) : Value) = .int .u32 ((q : Int) + 1) := by go_num
        unfold U32 at hnew
        rw [he] at hnew
        have hp1 := hnew.pOf
        have hp0 := HR.out.pOf
        go_roundw
        case rel =>
          refine ⟨n + 1, _, by omega, by rw [sieve_skip HD.out, ← HLn.out], rfl, ?_⟩
          have e1 : hTo (n + 1) = hTo n := by unfold hTo; rw [sieve_skip HD.out]
          have e2 : kTo (n + 1) = kTo n := by unfold kTo; rw [sieve_skip HD.out]
          rw [e1, e2, sieve_skip HD.out, show n + 1 + 2 = q + 1 by rw [HQ.out]]
          exact hnew
        case measure => rw [hp1, hp0]; omega
      | false =>
        have HD := Lib.hid (show divB (sieve n) (n + 2) = false by rw [← HQ.out]; exact hd)
        have hown0 := own_alloc' HR.out.own (.cells #[.int .u32 (q : Int)] 41)
        rw [← HLn.out] at hown0
        have HOwn := Lib.hid hown0
        have HLit := Lib.hid (show Sl (wr.alloc (.cells #[.int .u32 (q : Int)] 41)) 1 (.slice (some ⟨wr.heap.size, 0, none⟩) 1 1) 1 ([q].map U32) from sl_row' (heap_alloc_new _ _) rfl rfl)
        have HBase := Lib.hid (show w.heap.size + 2 ≤ (wr.alloc (.cells #[.int .u32 (q : Int)] 41)).heap.size by have := lt_of_block HR.out.p; have := HR.out.low; simp; omega)
        clear hd hown0
        go_wp2_with (at_builtin; refine append_u32 rfl (.tmp 12) (.tmp 14) rfl HOwn.out HLit.out rfl rfl (by omega) HBase.out ?_)
        intro aa cc w1 hown hf h3
        have hr1 := (HR.out.bel ((Below.refl _ wr).alloc (Nat.le_refl _) (.cells #[.int .u32 (q : Int)] 41))).app HLn.out hown hf (by simp) h3
        have hpc1 := hr1.cellP
        have HR1 := Lib.hid hr1
        clear hown hf h3 hr1 hpc
        have HE := Lib.hid (show sieve (n + 1) = sieve n ++ [q] by rw [sieve_take HD.out, HQ.out])
        rcases Nat.lt_or_ge L 8 with h8 | h8
        · go_wp2_with fail
          refine (HPw.out 2 _ (by omega)).mono ?_
          rintro e w2 ⟨rfl, hb2⟩
          have hr2 := HR1.out.bel hb2
          have hLh : (hTo n).length = L := by rw [hTo_length, ← HLn.out]; omega
          have hcH := hr2.cellH (by omega)
          have hfH := hr2.freeH L
          rw [hLh] at hcH
          have hr3 := hr2.setH (by omega) (fracN q 2)
          rw [hLh] at hr3
          have HR3 : Hid (ConstRel w (hTo (n + 1)) (kTo n) (sieve n ++ [q]) q (.slice aa (L + 1) cc) g (w2.setCell ⟨w.heap.size, L, none⟩ (.int .u32 (fracN q 2 : Int)))) := Lib.hid (by rw [hTo_take HD.out (by rw [← HLn.out]; exact h8), ← HQ.out]; exact hr3)
          have hpc3 := HR3.out.cellP
          clear hb2 hr2 hr3 hpc1 hLh
          go_wp2_with fail
          refine (HPw.out 3 _ (by omega)).mono ?_
          rintro e w4 ⟨rfl, hb4⟩
          have hr4 := HR3.out.bel hb4
          have hLk : (kTo n).length = L := by rw [kTo_length, ← HLn.out]
          have hcK := hr4.cellK (by omega)
          have hfK := hr4.freeK L
          rw [hLk] at hcK
          have hr5 := hr4.setK (by omega) (fracN q 3)
          rw [hLk] at hr5
          have HR5 : Hid (ConstRel w (hTo (n + 1)) (kTo (n + 1)) (sieve (n + 1)) q (.slice aa (L + 1) cc) g (w4.setCell ⟨w.heap.size + 1, L, none⟩ (.int .u32 (fracN q 3 : Int)))) := Lib.hid (by rw [kTo_take HD.out, ← HQ.out, HE.out]; exact hr5)
          have hpc5 := HR5.out.cellP
          clear hb4 hr4 hr5 hpc3 hLk
          go_wp2
          have hnew := HR5.out.bump (q + 1)
          have he : (.int .u32 (((q + 1 : Nat)) : Int) : Value) = .int .u32 ((q : Int) + 1) := by go_num
          unfold U32 at hnew
          rw [he] at hnew
          have hp1 := hnew.pOf
          have hp0 := HR.out.pOf
          go_roundw
          case rel =>
            refine ⟨n + 1, _, by omega, by rw [HE.out, List.length_append, ← HLn.out]; go_num, rfl, ?_⟩
            rw [show n + 1 + 2 = q + 1 by rw [HQ.out]]
            simpa using hnew
          case measure =>
            rw [show (w4.setCell ⟨w.heap.size + 1, L, none⟩ (.int .u32 (fracN q 3 : Int))).heap.size = w4.heap.size by simp] at hp1
            rw [hp1, hp0]; omega
        · have HR3 : Hid (ConstRel w (hTo (n + 1)) (kTo n) (sieve n ++ [q]) q (.slice aa (L + 1) cc) g w1) := Lib.hid (by rw [hTo_stay HD.out (by rw [← HLn.out]; exact h8)]; exact HR1.out)
          have hpc3 := HR3.out.cellP
          clear hpc1
          go_wp2_with fail
          refine (HPw.out 3 _ (by omega)).mono ?_
          rintro e w4 ⟨rfl, hb4⟩
          have hr4 := HR3.out.bel hb4
          have hLk : (kTo n).length = L := by rw [kTo_length, ← HLn.out]
          have hcK := hr4.cellK (by omega)
          have hfK := hr4.freeK L
          rw [hLk] at hcK
          have hr5 := hr4.setK (by omega) (fracN q 3)
          rw [hLk] at hr5
          have HR5 : Hid (ConstRel w (hTo (n + 1)) (kTo (n + 1)) (sieve (n + 1)) q (.slice aa (L + 1) cc) g (w4.setCell ⟨w.heap.size + 1, L, none⟩ (.int .u32 (fracN q 3 : Int)))) := Lib.hid (by rw [kTo_take HD.out, ← HQ.out, HE.out]; exact hr5)
          have hpc5 := HR5.out.cellP
          clear hb4 hr4 hr5 hpc3 hLk
          go_wp2
          have hnew := HR5.out.bump (q + 1)
          have he : (.int .u32 (((q + 1 : Nat)) : Int) : Value) = .int .u32 ((q : Int) + 1) := by go_num
          unfold U32 at hnew
          rw [he] at hnew
          have hp1 := hnew.pOf
          have hp0 := HR.out.pOf
          go_roundw
          case rel =>
            refine ⟨n + 1, _, by omega, by rw [HE.out, List.length_append, ← HLn.out]; go_num, rfl, ?_⟩
            rw [show n + 1 + 2 = q + 1 by rw [HQ.out]]
            simpa using hnew
          case measure =>
            rw [show (w4.setCell ⟨w.heap.size + 1, L, none⟩ (.int .u32 (fracN q 3 : Int))).heap.size = w4.heap.size by simp] at hp1
            rw [hp1, hp0]; omega
    · obtain rfl : L = 64 := by omega
      have h310 : n = 310 := by
        rcases Nat.lt_or_ge n 310 with h | h
        · have := sieve_mono n 309 (by omega); rw [sieve_309] at this; omega
        · omega
      have HH := Lib.hid (show wr.heap[w.heap.size]? = some (.cells (hs.map U32).toArray 225 (0, 0)) by
        rw [hr.h, h310, hTo_310, rowZ_full 8 _ hInit_length, HHs.out])
      have HK := Lib.hid (show wr.heap[w.heap.size + 1]? = some (.cells (ks.map U32).toArray 226 (0, 0)) by
        rw [hr.k, h310, kTo_310, rowZ_full 64 _ kInit_length, HKs.out])
      have HBe := Lib.hid hr.below
      have HLh := Lib.hid (show (hs.map U32).length = 8 by rw [List.length_map, HHs.out, hInit_length])
      have HLk := Lib.hid (show (ks.map U32).length = 64 by rw [List.length_map, HKs.out, kInit_length])
      clear hr hL h310 hq hn hge hLe
      go_wp2_with fail
      refine wp_region_quiet_lit (by kernel_rfl) (by kernel_rfl) ?_
      refine wpQuiet_load_at rfl 225 (.tmp 0) rfl w.heap.size 0 rfl (hs.map U32) _ (by rintro _ ⟨m, rfl⟩; exact At.of_row (by simpa using HH.out)) Tryz.underlying225 rfl (by rw [info_state, HLh.out]) ?_
      simp only [Act.put, sA, sB, sC]
      refine wpQuiet_load_at rfl 226 (.tmp 1) rfl (w.heap.size + 1) 0 rfl (ks.map U32) _ (by rintro _ ⟨m, rfl⟩; exact At.of_row (by simpa using HK.out)) Tryz.underlying226 rfl (by rw [info_w64, HLk.out]) ?_
      simp only [Act.put, sA, sB, sC]
      refine wpQuiet_store_self rfl 225 (.tmp 0) (.tmp 35) rfl w.heap.size rfl (hs.map U32) rfl 225 (by rintro _ ⟨m, rfl⟩; exact HH.out) (U32_one hs) (by rw [info_state, HLh.out]) ?_
      simp only [Act.put]
      refine wpQuiet_store_self rfl 226 (.tmp 1) (.tmp 36) rfl (w.heap.size + 1) rfl (ks.map U32) rfl 226 (by rintro _ ⟨m, rfl⟩; exact HK.out) (U32_one ks) (by rw [info_w64, HLk.out]) ?_
      simp only [Act.put]
      refine wpQuiet_nil ?_
      rintro _ ⟨m, rfl⟩
      go_wp2
      refine bodyPost_ret (results_cell_cell rfl rfl rfl (run_loadVar_at _ w.heap.size 0 _ (hs.map U32) _ (At.of_row (by simpa using HH.out)) Tryz.underlying225 rfl (by rw [info_state, HLh.out]))
        (run_loadVar_at _ (w.heap.size + 1) 0 _ (ks.map U32) _ (At.of_row (by simpa using HK.out)) Tryz.underlying226 rfl (by rw [info_w64, HLk.out]))) rfl ⟨rfl, belowDrewN HBe.out _⟩
end Go.Proofs.YtkbnkdokcmpcgaaGreatDoor
