/- A region that draws its order, walked by hand: what is taken first, what is forced, the rest quiet and in the order of the text. Over any program. A region that draws its order, whose operations read what was there and whose callees lay new memory alone: one walk, in the order of the text. Over any program. Walks: num's wide numbers, Frac. Walk: num.Frac. Rows of words; a row that is stored into itself; two results that lie in memory. Over any program. -/
import Derived.Test.YtkbnkdokcmpcgaaGreatDoorB0
import Derived.Deep.QuietTactic
import Derived.BigQuiet
import Derived.BigRegion
import Derived.Lib.Mul64
import Derived.Laws.Bits64b
import Derived.Laws.Externs
import Derived.LoopN
import Derived.Laws.CopyRow
namespace Go.Proofs.YtkbnkdokcmpcgaaGreatDoor
open Go.RowKit

theorem flat_get {α : Type} (m : Nat) : ∀ (ls : List (List α)), (∀ l ∈ ls, l.length = m) → ∀ i (hi : i < ls.length) j, j < m → ls.flatten[i * m + j]? = (ls[i])[j]?
  | [], _, i, hi, _, _ => by simp at hi
  | l :: ls, h, 0, _, j, hj => by
    have hl := h l (by simp)
    rw [List.flatten_cons, Nat.zero_mul, Nat.zero_add, List.getElem?_append_left (by omega)]
    rfl
  | l :: ls, h, i + 1, hi, j, hj => by
    have hl := h l (by simp)
    rw [List.flatten_cons, List.getElem?_append_right (by rw [Nat.succ_mul]; omega)]
    have e : (i + 1) * m + j - l.length = i * m + j := by rw [Nat.succ_mul]; omega
    rw [e, flat_get m ls (fun x hx => h x (by simp [hx])) i (by simpa using hi) j hj]
    rfl

section
variable {P : Program} {md : Region.Mode} {ops : Array Oper} {Q : Exit → Act → World → Prop}

theorem wpAny_forced {fuel : Nat} {listed : Array Bool} {a : Act} {w : World} (i : Nat) {o : Oper} (hr : Region.ready md ops listed = [i]) (ho : ops[i]? = some o) (hw : Region.wanted o (yielded ops a.tmps) = true)
    (h : ∀ K' : Act → World → Prop, (∀ a w, wpAny P md ops Q fuel (listed.setIfInBounds i true) a w → K' a w) → Oper.wp P o a w K' Q) : wpAny P md ops Q (fuel + 1) listed a w :=
  wpAny_ready hr (by simp) (BigFrame.allReady_want ho hw h AllReady.nil)

theorem wpAny_rest {listed : Array Bool} {a : Act} {w : World} (k : Nat) (l : List Oper) (hs : Region.noSelect ops = true) (hl : ∀ j, l[j]? = ops[k + j]?) (hB : Region.lexFrom md ops l.length k listed = true)
    (h : wpQuiet P ops (fun w' => ∃ n, w' = w.drewN n) (fun a' => ∀ w', (∃ n, w' = w.drewN n) → Q .normal a' w') l a) : wpAny P md ops Q l.length listed a w :=
  wpAny_of_quiet (C := fun w' => ∃ n, w' = w.drewN n) (Q := fun a' => ∀ w', (∃ n, w' = w.drewN n) → Q .normal a' w') (fun _ w' hw' h => h w' hw') _ _ _ _ ⟨0, rfl⟩ (wpAnyQ_lex hs l k listed a hl hB h)

theorem wpAny_tail {fuel : Nat} {listed : Array Bool} {a : Act} {w : World} (k : Nat) (hf : fuel = (ops.toList.drop k).length) (hs : Region.noSelect ops = true) (hB : Region.lexFrom md ops fuel k listed = true)
    (h : wpQuiet P ops (fun w' => ∃ n, w' = w.drewN n) (fun a' => ∀ w', (∃ n, w' = w.drewN n) → Q .normal a' w') (ops.toList.drop k) a) : wpAny P md ops Q fuel listed a w := by
  subst hf
  exact wpAny_rest k (ops.toList.drop k) hs (fun j => by simp) hB h

/-- A struct or an array, read at an address, at a forced step. -/
theorem wp_load_at {o : Oper} {a : Act} {w : World} {K : Act → World → Prop} (ty : TypeId) (x : Operand) (ho : o.op = .load ty x)
    (b off : Nat) (hx : a.eval x = .pointer (some ⟨b, off, none⟩)) (cs : List Value) (d : TypeDesc) (hc : At w b off cs)
    (hu : P.underlying ty = some d) (hd : (match d with | .struct _ | .array _ _ => true | _ => false) = true) (hi : (P.info? ty).map (·.size) = some cs.length)
    (h : K (a.put o.dst (.agg cs.toArray)) w) : Oper.wp P o a w K Q := by
  unfold Oper.wp execOp
  simp only [ho, hx, Instr.loadAt, Instr.sureAddr, Sem.run_bind, Sem.run_pure, Result.andThen_ok, run_loadVar_at w b off ty cs d hc hu hd hi]
  exact h
/-- .. at a guarded operation that is carried out. -/
theorem gload_at {rest : List Oper} {o : Oper} {a : Act} {w : World} (hw : Region.wanted o (yielded ops a.tmps) = true) (ty : TypeId) (x : Operand) (ho : o.op = .load ty x)
    (b off : Nat) (hx : a.eval x = .pointer (some ⟨b, off, none⟩)) (cs : List Value) (d : TypeDesc) (hc : At w b off cs)
    (hu : P.underlying ty = some d) (hd : (match d with | .struct _ | .array _ _ => true | _ => false) = true) (hi : (P.info? ty).map (·.size) = some cs.length)
    (h : wpList P ops Q rest (a.put o.dst (.agg cs.toArray)) w) : wpList P ops Q (o :: rest) a w :=
  BigFrame.wpList_want hw fun _ hK => wp_load_at ty x ho b off hx cs d hc hu hd hi (hK _ _ h)
end

end Go.Proofs.YtkbnkdokcmpcgaaGreatDoor
namespace Go.Proofs.YtkbnkdokcmpcgaaGreatDoor
open Go.RowKit

/-- A world behind w in which all below B lies as it lay. -/
structure Wd (B : Nat) (w : World) where
  to : World
  hb : Below B w to
instance (B : Nat) (w : World) : Nonempty (Wd B w) := ⟨⟨w, Below.refl B w⟩⟩

theorem Wd.cell {B : Nat} {w : World} (u : Wd B w) {p : Addr} {v : Value} (h : w.cell? p = some v) (hp : p.block < B) : u.to.cell? p = some v := (u.hb.cell hp).trans h
theorem Wd.at {w : World} (u : Wd w.heap.size w) {b o : Nat} {l : List Value} (h : At w b o l) : At u.to b o l := fun i v hi => u.cell (h i v hi) (World.block_lt_of_cell? w ⟨b, o + i, none⟩ (h i v hi))
theorem Wd.cell' {w : World} (u : Wd w.heap.size w) {p : Addr} {v : Value} (h : w.cell? p = some v) : u.to.cell? p = some v := u.cell h (World.block_lt_of_cell? w p h)

section
variable {P : Program} {ops : Array Oper}

theorem wp_region_wd {id : Nat} {Q : Exit → Act → World → Prop} {a : Act} {w : World} {l : List Oper} (B : Nat) (hm : P.follows .mixedOrders = true) (hB : Region.lexB .any l.toArray = true)
    (h : wpQuiet P l.toArray (fun w' => ∃ u : Wd B w, w' = u.to) (fun a' => ∀ w', (∃ u : Wd B w, w' = u.to) → Q .normal a' w') l a) : (Code.region id l.toArray true).wp P Q a w :=
  wp_region_quiet (C := fun w' => ∃ u : Wd B w, w' = u.to) hm hB ⟨⟨{ w with drawn := w.drawn + 1 }, (Below.refl B w).drew⟩, rfl⟩ (by simpa using h)

theorem Calls.wd {f : FuncId} {args : Array Value} {w : World} {B : Nat} {v : Value} (u : Wd B w) (hB : B ≤ w.heap.size) (h : Calls P f args u.to fun e w' => e = .returned v ∧ Below u.to.heap.size u.to w') :
    Calls P f args u.to fun e w'' => e = .returned v ∧ ∃ u' : Wd B w, w'' = u'.to :=
  h.mono fun _ w' ⟨he, hb⟩ => ⟨he, ⟨w', u.hb.trans (hb.mono (Nat.le_trans hB u.hb.size))⟩, rfl⟩
theorem Calls.wd_same {f : FuncId} {args : Array Value} {w : World} {B : Nat} {v : Value} (u : Wd B w) (h : Calls P f args u.to fun e w' => e = .returned v ∧ u.to = w') :
    Calls P f args u.to fun e w'' => e = .returned v ∧ ∃ u' : Wd B w, w'' = u'.to :=
  h.mono fun _ _ ⟨he, hb⟩ => ⟨he, u, hb.symm⟩

/-- A struct or an array, read at an address. -/
theorem wpQuiet_load_at {C : World → Prop} {Q : Act → Prop} {rest : List Oper} {o : Oper} {a : Act} (hw : Region.wanted o (yielded ops a.tmps) = true) (ty : TypeId) (x : Operand) (ho : o.op = .load ty x)
    (b off : Nat) (hx : a.eval x = .pointer (some ⟨b, off, none⟩)) (cs : List Value) (d : TypeDesc) (hc : ∀ w', C w' → At w' b off cs)
    (hu : P.underlying ty = some d) (hd : (match d with | .struct _ | .array _ _ => true | _ => false) = true) (hi : (P.info? ty).map (·.size) = some cs.length)
    (h : wpQuiet P ops C Q rest (a.put o.dst (.agg cs.toArray))) : wpQuiet P ops C Q (o :: rest) a :=
  BigFrame.wpQuiet_want hw fun K hK => ⟨.agg cs.toArray, fun w' hw' => by
    unfold Oper.quietAt execOp
    simp only [ho, hx, Instr.loadAt, Instr.sureAddr, Sem.run_bind, Sem.run_pure, Result.andThen_ok, run_loadVar_at w' b off ty cs d (hc w' hw') hu hd hi]
    exact ⟨rfl, rfl⟩, hK _ h⟩
end

end Go.Proofs.YtkbnkdokcmpcgaaGreatDoor
namespace Go.Proofs.YtkbnkdokcmpcgaaGreatDoor
open Go.RowKit

theorem m64_mask (a : Nat) (ha : a < 18446744073709551616) : bits .and .u64 (a : Int) 4294967295 = ((a % 4294967296 : Nat) : Int) := by
  have h := bits_and_u64_nat a 4294967295 ha (by omega)
  have e : a &&& 4294967295 = a % 4294967296 := Nat.and_two_pow_sub_one_eq_mod a 32
  rw [e] at h
  exact h
theorem m64_div (a : Nat) : (a : Int) / 4294967296 = ((a / 4294967296 : Nat) : Int) := by omega
theorem m64_mul (a b : Nat) : (a : Int) * (b : Int) = ((a * b : Nat) : Int) := (Int.natCast_mul a b).symm
theorem m64_add (a b : Nat) : (a : Int) + (b : Int) = ((a + b : Nat) : Int) := (Int.natCast_add a b).symm
theorem m64_wrap (a : Nat) (ha : a < 18446744073709551616) : IntKind.u64.wrap (a : Int) = (a : Int) := by rw [IntKind.wrap_u64]; omega
theorem m64_wrapM (a : Nat) : IntKind.u64.wrap (a : Int) = ((a % 18446744073709551616 : Nat) : Int) := by rw [IntKind.wrap_u64]; omega

set_option maxHeartbeats 1000000 in
theorem mul64_any (x y : Nat) (hx : x < 18446744073709551616) (hy : y < 18446744073709551616) (w : World) :
    Calls Tryz.prog 204 #[.int .u64 x, .int .u64 y] w fun e w' => e = .returned (.tuple #[.int .u64 ((x * y / 18446744073709551616 : Nat) : Int), .int .u64 ((x * y % 18446744073709551616 : Nat) : Int)]) ∧ w = w' := by
  obtain ⟨bd, bt, bw, hhi⟩ := Lib.mul64_hi x y hx hy
  have ba := Lib.half_mul_le (a := x / 4294967296) (b := y / 4294967296) (by omega) (by omega)
  have bb := Lib.half_mul_le (a := x / 4294967296) (b := y % 4294967296) (by omega) (by omega)
  have bc := Lib.half_mul_le (a := x % 4294967296) (b := y / 4294967296) (by omega) (by omega)
  have ba' : x / 4294967296 * (y / 4294967296) < 18446744073709551616 := by omega
  have bb' : x / 4294967296 * (y % 4294967296) < 18446744073709551616 := by omega
  have bc' : x % 4294967296 * (y / 4294967296) < 18446744073709551616 := by omega
  have bh1 : x / 4294967296 * (y / 4294967296) + (x / 4294967296 * (y % 4294967296) + x % 4294967296 * (y % 4294967296) / 4294967296) / 4294967296 < 18446744073709551616 := by omega
  have bh : x / 4294967296 * (y / 4294967296) + (x / 4294967296 * (y % 4294967296) + x % 4294967296 * (y % 4294967296) / 4294967296) / 4294967296 + ((x / 4294967296 * (y % 4294967296) + x % 4294967296 * (y % 4294967296) / 4294967296) % 4294967296 + x % 4294967296 * (y / 4294967296)) / 4294967296 < 18446744073709551616 := by omega
  go_enter Tryz.func204, Tryz.ntmps204
  go_wp2
  simp only [m64_mask x hx, m64_mask y hy, m64_div, m64_mul, m64_add, m64_wrap _ bd, m64_wrap _ bb', m64_wrap _ bt, m64_mask _ bt, m64_wrap _ bc', m64_wrap _ bw, m64_wrap _ ba', m64_wrap _ bh1, m64_wrap _ bh, m64_wrapM (x * y)]
  rw [hhi]
  go_ret2
  exact ⟨rfl, rfl⟩

theorem add64_run (x y : Nat) (w : World) : (callFunc 205 #[.int .u64 x, .int .u64 y, .int .u64 0]).run Tryz.prog w =
    .ok (.value (.tuple #[.int .u64 (((x + y) % 18446744073709551616 : Nat) : Int), .int .u64 (((x + y) / 18446744073709551616 : Nat) : Int)])) w := by
  rw [run_callFunc_extern (e := add64Entry) Tryz.func205 (by kernel_rfl) (by kernel_rfl) (by kernel_rfl) (by kernel_rfl), run_add64 _ _ _ (by omega) (by omega) (by omega) (by omega)]
  simp [Result.andThen]

/-- A number as three words, the highest first. -/
def W0 (a : Nat) : Nat := a / 340282366920938463463374607431768211456 % 18446744073709551616
def W1 (a : Nat) : Nat := a / 18446744073709551616 % 18446744073709551616
def W2 (a : Nat) : Nat := a % 18446744073709551616
def wideV (a : Nat) : Array Value := #[.int .u64 (W0 a : Int), .int .u64 (W1 a : Int), .int .u64 (W2 a : Int)]
theorem W0_lt (a : Nat) : W0 a < 18446744073709551616 := Nat.mod_lt _ (by decide)
theorem W1_lt (a : Nat) : W1 a < 18446744073709551616 := Nat.mod_lt _ (by decide)
theorem W2_lt (a : Nat) : W2 a < 18446744073709551616 := Nat.mod_lt _ (by decide)

theorem add64_zero (x : Nat) (hx : x < 18446744073709551616) (w : World) : (callFunc 205 #[.int .u64 x, .int .u64 0, .int .u64 0]).run Tryz.prog w = .ok (.value (.tuple #[.int .u64 (x : Int), .int .u64 0])) w := by
  have h := add64_run x 0 w
  rw [Nat.add_zero, Nat.mod_eq_of_lt hx, Nat.div_eq_of_lt hx] at h
  exact h
theorem add64_sum (x y z : Nat) (w : World) : (callFunc 205 #[.int .u64 x, .int .u64 ((y : Int) + (z : Int)), .int .u64 0]).run Tryz.prog w =
    .ok (.value (.tuple #[.int .u64 (((x + (y + z)) % 18446744073709551616 : Nat) : Int), .int .u64 (((x + (y + z)) / 18446744073709551616 : Nat) : Int)])) w := by
  have h := add64_run x (y + z) w
  rw [Int.natCast_add y z] at h
  exact h

theorem W2_mul (a x : Nat) : W2 (a * x) = W2 a * x % 18446744073709551616 := by
  unfold W2
  rw [Nat.mod_mul_mod]
theorem mul_parts (a x : Nat) : a * x = W2 a * x + 18446744073709551616 * (W1 a * x + 18446744073709551616 * (W0 a * x + 18446744073709551616 * (a / 6277101735386680763835789423207666416102355444464034512896 * x))) := by
  have h1 : a = W2 a + 18446744073709551616 * (W1 a + 18446744073709551616 * (W0 a + 18446744073709551616 * (a / 6277101735386680763835789423207666416102355444464034512896))) := by
    unfold W0 W1 W2; omega
  conv => lhs; rw [h1]
  simp only [Nat.add_mul, Nat.mul_assoc]
theorem W1_mul (a x : Nat) : W1 (a * x) = (W1 a * x % 18446744073709551616 + W2 a * x / 18446744073709551616) % 18446744073709551616 := by
  have h := mul_parts a x
  generalize a / 6277101735386680763835789423207666416102355444464034512896 * x = p3 at h
  generalize W0 a * x = p0 at *
  generalize W1 a * x = p1 at *
  generalize W2 a * x = p2 at *
  rw [h]
  unfold W1
  omega
theorem W0_mul (a x : Nat) : W0 (a * x) = (W0 a * x % 18446744073709551616 + (W1 a * x / 18446744073709551616 + (W1 a * x % 18446744073709551616 + W2 a * x / 18446744073709551616) / 18446744073709551616)) % 18446744073709551616 := by
  have h := mul_parts a x
  generalize a / 6277101735386680763835789423207666416102355444464034512896 * x = p3 at h
  generalize W0 a * x = p0 at *
  generalize W1 a * x = p1 at *
  generalize W2 a * x = p2 at *
  rw [h]
  unfold W0
  omega
theorem mul_hi_lt {a x : Nat} (ha : a < 18446744073709551616) (hx : x < 18446744073709551616) : a * x / 18446744073709551616 + 1 < 18446744073709551616 := by
  have h : a * x ≤ 18446744073709551615 * 18446744073709551615 := Nat.mul_le_mul (by omega) (by omega)
  omega

set_option maxRecDepth 100000 in
set_option maxHeartbeats 4000000 in
theorem times_any (a x : Nat) (hx : x < 18446744073709551616) (w : World) :
    Calls Tryz.prog 190 #[.agg (wideV a), .int .u64 (x : Int)] w fun e w' => e = .returned (.agg (wideV (a * x))) ∧ Below w.heap.size w w' := by
  have e2 := W2_mul a x
  have e1 := W1_mul a x
  have e0 := W0_mul a x
  have h0 := mul_hi_lt (W0_lt a) hx
  have h1 := mul_hi_lt (W1_lt a) hx
  have h2 := mul_hi_lt (W2_lt a) hx
  have l2 : W2 a * x % 18446744073709551616 < 18446744073709551616 := Nat.mod_lt _ (by decide)
  have l1 : W1 a * x % 18446744073709551616 < 18446744073709551616 := Nat.mod_lt _ (by decide)
  have l0 : W0 a * x % 18446744073709551616 < 18446744073709551616 := Nat.mod_lt _ (by decide)
  have m0 := fun w => mul64_any (W0 a) x (W0_lt a) hx w
  have m1 := fun w => mul64_any (W1 a) x (W1_lt a) hx w
  have m2 := fun w => mul64_any (W2 a) x (W2_lt a) hx w
  generalize W2 a * x % 18446744073709551616 = L2 at *
  generalize W1 a * x % 18446744073709551616 = L1 at *
  generalize W0 a * x % 18446744073709551616 = L0 at *
  generalize W2 a * x / 18446744073709551616 = H2 at *
  generalize W1 a * x / 18446744073709551616 = H1 at *
  generalize W0 a * x / 18446744073709551616 = H0 at *
  have q2 := add64_zero L2 l2
  have q1 := add64_run L1 H2
  have c1 : (L1 + H2) / 18446744073709551616 ≤ 1 := by omega
  have q0 := add64_sum L0 H1 ((L1 + H2) / 18446744073709551616)
  have c0 : (L0 + (H1 + (L1 + H2) / 18446744073709551616)) / 18446744073709551616 ≤ 1 := by omega
  generalize (L1 + H2) % 18446744073709551616 = S1 at *
  generalize (L0 + (H1 + (L1 + H2) / 18446744073709551616)) % 18446744073709551616 = S0 at *
  generalize (L0 + (H1 + (L1 + H2) / 18446744073709551616)) / 18446744073709551616 = C0 at *
  generalize (L1 + H2) / 18446744073709551616 = C1 at *
  have g2 : IntKind.u64.wrap ((H2 : Int)) = (H2 : Int) := by rw [IntKind.wrap_u64]; omega
  have g1 : IntKind.u64.wrap ((H1 : Int) + (C1 : Int)) = (H1 : Int) + (C1 : Int) := by rw [IntKind.wrap_u64]; omega
  have g0 : IntKind.u64.wrap ((H0 : Int) + (C0 : Int)) = (H0 : Int) + (C0 : Int) := by rw [IntKind.wrap_u64]; omega
  have HE := Lib.hid (show wideV (a * x) = #[.int .u64 (S0 : Int), .int .u64 (S1 : Int), .int .u64 (L2 : Int)] by unfold wideV; rw [e0, e1, e2])
  have M0 := Lib.hid m0
  have M1 := Lib.hid m1
  have M2 := Lib.hid m2
  clear e0 e1 e2 h0 h1 h2 l0 l1 l2 m0 m1 m2 c1 c0 hx
  generalize wideV (a * x) = res at *
  unfold wideV
  generalize W0 a = a0 at *
  generalize W1 a = a1 at *
  generalize W2 a = a2 at *
  go_enter Tryz.func190, Tryz.ntmps190
  go_wp2_with fail
  refine wp_loop_rounds 4 ?_
  rw [rounds_succ]
  go_wp2_with fail
  refine (M2.out _).mono ?_
  rintro e w1 ⟨rfl, rfl⟩
  go_wp2_with fail
  rw [rounds_succ]
  go_wp2_with fail
  refine (M1.out _).mono ?_
  rintro e w1 ⟨rfl, rfl⟩
  go_wp2_with fail
  rw [rounds_succ]
  go_wp2_with fail
  refine (M0.out _).mono ?_
  rintro e w1 ⟨rfl, rfl⟩
  go_wp2_with fail
  rw [rounds_succ]
  go_wp2_with fail
  rw [HE.out]
  exact bodyPost_ret (v := .agg #[.int .u64 (S0 : Int), .int .u64 (S1 : Int), .int .u64 (L2 : Int)]) (by simp [results, Tryz.results190, go_sem]) rfl ⟨rfl, ((Below.refl _ w).alloc (Nat.le_refl _) _).alloc (by simp) _⟩

theorem info_wide : (Tryz.prog.info? 295).map (·.size) = some 3 := by kernel_rfl
theorem wideV_list (a : Nat) : (wideV a).toList = [.int .u64 (W0 a : Int), .int .u64 (W1 a : Int), .int .u64 (W2 a : Int)] := rfl
theorem wideV_one (a : Nat) : ∀ u ∈ (wideV a).toList, u.oneCell' = true := by
  intro u hu
  rw [wideV_list] at hu
  simp only [List.mem_cons, List.not_mem_nil, or_false] at hu
  rcases hu with rfl | rfl | rfl <;> rfl
theorem load_wide {ops : Array Oper} {rest : List Oper} {o : Oper} {a : Act} {w : World} {Q : Exit → Act → World → Prop} (hgd : o.guard = none) (x : Operand) (ho : o.op = .load 295 x)
    {b off : Nat} (hx : a.eval x = .pointer (some ⟨b, off, none⟩)) {arr : Array Value} (hc : At w b off arr.toList) (hl : arr.size = 3)
    (hK : wpList Tryz.prog ops Q rest (a.put o.dst (.agg arr)) w) : wpList Tryz.prog ops Q (o :: rest) a w :=
  wpList_load_at hgd _ x ho b off hx arr.toList _ hc Tryz.underlying295 rfl (by rw [info_wide, Array.length_toList, hl]) hK
theorem store_wide {ops : Array Oper} {rest : List Oper} {o : Oper} {a : Act} {w : World} {Q : Exit → Act → World → Prop} (hgd : o.guard = none) (x y : Operand) (ho : o.op = .store 295 x y)
    {b : Nat} (hx : a.eval x = .pointer (some ⟨b, 0, none⟩)) {arr : Array Value} (hy : a.eval y = .agg arr) {old : Array Value} {t : TypeId} (hb : w.heap[b]? = some (.cells old t (0, 0))) (ho2 : old.size = 3) (hl : arr.size = 3)
    (h1 : ∀ u ∈ arr.toList, u.oneCell' = true)
    (hK : ∀ w', w'.heap[b]? = some (.cells arr t (0, 0)) → Fr (fun k => k = b) w w' → w'.heap.size = w.heap.size → wpList Tryz.prog ops Q rest (a.put o.dst undef) w') : wpList Tryz.prog ops Q (o :: rest) a w :=
  wpList_store_row hgd _ x y ho b hx arr.toList (by simpa using hy) old _ hb (by simp [ho2, hl]) h1 (by rw [info_wide]; simp [hl]) (fun w' h1 h2 h3 => hK w' (by simpa using h1) h2 h3)
theorem ret_wide {fn : Func} {p : Tmp} (h : fn.results = #[.cell p 295]) {tmps : Array Value} {w : World} {g : Nat} {arr : Array Value} {t : TypeId} (hp : tmps.getD p undef = .pointer (some ⟨g, 0, none⟩))
    (hg : w.heap[g]? = some (.cells arr t (0, 0))) (hl : arr.size = 3) :
    (results fn tmps).run Tryz.prog w = .ok (.agg arr) w :=
  results_cell_row h tmps w g t arr _ _ hp hg Tryz.underlying295 rfl (by rw [info_wide, hl])

def PowRel (w : World) (x m : Nat) (wr : World) : Prop :=
  (∃ c, wr.heap[w.heap.size]? = some (.cells c 295 (0, 0)) ∧ c.size = 3) ∧ wr.heap[w.heap.size + 1]? = some (.cells (wideV (x ^ m)) 295 (0, 0)) ∧ Below w.heap.size w wr

set_option maxRecDepth 100000 in
set_option maxHeartbeats 4000000 in
theorem power_any (x k : Nat) (hx : x < 18446744073709551616) (hk : k ≤ 1000) (w : World) :
    Calls Tryz.prog 189 #[.int .u64 (x : Int), .int .i64 (k : Int)] w fun e w' => e = .returned (.agg (wideV (x ^ k))) ∧ Below w.heap.size w w' := by
  have HT := Lib.hid (fun a w => times_any a x hx w)
  clear hx
  go_enter Tryz.func189, Tryz.ntmps189
  go_wp2_with fail
  have hw1 : wideV (x ^ 0) = #[.int .u64 0, .int .u64 0, .int .u64 1] := by rw [Nat.pow_zero]; simp [wideV, W0, W1, W2]
  have hR0 : PowRel w x 0 ((w.alloc (.cells #[.int .u64 0, .int .u64 0, .int .u64 0] 295)).alloc (.cells #[.int .u64 0, .int .u64 0, .int .u64 1] 295)) := by
    have h := heap_alloc_new (w.alloc (.cells #[.int .u64 0, .int .u64 0, .int .u64 0] 295)) (.cells #[.int .u64 0, .int .u64 0, .int .u64 1] 295)
    rw [show (w.alloc (.cells #[.int .u64 0, .int .u64 0, .int .u64 0] 295)).heap.size = w.heap.size + 1 by simp] at h
    exact ⟨⟨_, (Below.heap_alloc _ _ _ (by simp)).trans (heap_alloc_new _ _), rfl⟩, by rw [hw1]; exact h, ((Below.refl _ w).alloc (Nat.le_refl _) _).alloc (by simp) _⟩
  clear hw1
  have HR0 := Lib.hid hR0
  clear hR0
  go_loopw [8] (fun i wr => ∃ m : Nat, m ≤ k ∧ i = .int .i64 m ∧ PowRel w x m wr) (fun i _ => k - (intOf i).toNat)
  case atStart => exact ⟨0, Nat.zero_le _, rfl, HR0.out⟩
  case round =>
    obtain ⟨m, hm, rfl, ⟨c, hc, hcs⟩, hrow, hb⟩ := hrel
    have HC := Lib.hid hc
    have HCs := Lib.hid hcs
    have HRow := Lib.hid hrow
    have HAt := Lib.hid (At.of_row (cs := (wideV (x ^ m)).toList) (by simpa using hrow))
    have HB := Lib.hid hb
    clear hc hrow hb hcs
    rcases Nat.lt_or_ge m k with hlt | hge
    · go_wp2_with (refine load_wide rfl (.tmp 5) rfl rfl HAt.out rfl ?_)
      refine (HT.out _ _).mono ?_
      rintro e w1 ⟨rfl, hb1⟩
      have hr1 := (hb1.block (w.heap.size + 1) (lt_of_block HRow.out)).trans HRow.out
      have hc1 := (hb1.block w.heap.size (lt_of_block HC.out)).trans HC.out
      have HRow1 := Lib.hid hr1
      have HC1 := Lib.hid hc1
      have HB1 := Lib.hid (HB.out.trans (hb1.mono HB.out.size))
      clear hb1 hr1 hc1
      go_wp2_with (refine store_wide rfl (.tmp 5) (.tmp 12) rfl rfl rfl HRow1.out rfl rfl (wideV_one _) ?_)
      intro w2 hg2 hf2 hs2
      have HG2 := Lib.hid hg2
      have HC2 := Lib.hid ((hf2.block w.heap.size (lt_of_block HC1.out) (by omega)).trans HC1.out)
      have HB2 := Lib.hid (HB1.out.trans (hf2.below HB1.out.size (fun j hj => by omega)))
      clear hg2 hf2 hs2
      go_wp2
      go_roundw
      case rel => exact ⟨m + 1, by omega, by go_num, ⟨_, HC2.out, HCs.out⟩, by rw [Nat.pow_succ]; exact HG2.out, HB2.out⟩
      case measure => simp [intOf]; omega
    · obtain rfl : m = k := by omega
      go_wp2_with (first | refine load_wide rfl (.tmp 5) rfl rfl HAt.out rfl ?_ | (refine store_wide rfl (.tmp 4) (.tmp 14) rfl rfl rfl HC.out HCs.out rfl (wideV_one _) ?_; intro w2 hg2 hf2 hs2))
      have HG2 := Lib.hid hg2
      have HB2 := Lib.hid (HB.out.trans (hf2.below HB.out.size (fun j hj => by omega)))
      clear hg2 hf2 hs2
      go_wp2
      exact bodyPost_ret (ret_wide rfl rfl HG2.out rfl) rfl ⟨rfl, HB2.out⟩

def overL (a0 a1 a2 b0 b1 b2 : Nat) : Bool := if a0 ≠ b0 then decide (b0 < a0) else if a1 ≠ b1 then decide (b1 < a1) else if a2 ≠ b2 then decide (b2 < a2) else false

theorem belowDrewN {B : Nat} {w w' : World} (h : Below B w w') (n : Nat) : Below B w (w'.drewN n) := ⟨h.os, h.tape, h.output, h.size, h.block⟩

set_option maxRecDepth 100000 in
set_option maxHeartbeats 4000000 in
theorem over_L (a0 a1 a2 b0 b1 b2 : Nat) (w : World) :
    Calls Tryz.prog 191 #[.agg #[.int .u64 (a0 : Int), .int .u64 (a1 : Int), .int .u64 (a2 : Int)], .agg #[.int .u64 (b0 : Int), .int .u64 (b1 : Int), .int .u64 (b2 : Int)]] w fun e w' => e = .returned (.bool (overL a0 a1 a2 b0 b1 b2)) ∧ Below w.heap.size w w' := by
  obtain ⟨r, hr⟩ : ∃ r, r = overL a0 a1 a2 b0 b1 b2 := ⟨_, rfl⟩
  rw [← hr]
  unfold overL at hr
  have hB := ((Below.refl w.heap.size w).alloc (Nat.le_refl _) (.cells #[.int .u64 (a0 : Int), .int .u64 (a1 : Int), .int .u64 (a2 : Int)] 295)).alloc (by simp) (.cells #[.int .u64 (b0 : Int), .int .u64 (b1 : Int), .int .u64 (b2 : Int)] 295)
  have HB := Lib.hid hB
  clear hB
  by_cases h0 : a0 = b0
  · rw [if_neg (by simpa using h0)] at hr
    have t0 : ((a0 : Int) != (b0 : Int)) = false := by subst h0; simp
    by_cases h1 : a1 = b1
    · rw [if_neg (by simpa using h1)] at hr
      have t1 : ((a1 : Int) != (b1 : Int)) = false := by subst h1; simp
      by_cases h2 : a2 = b2
      · rw [if_neg (by simpa using h2)] at hr
        have t2 : ((a2 : Int) != (b2 : Int)) = false := by subst h2; simp
        have HD := Lib.hid hr
        clear hr h0 h1 h2
        go_enter Tryz.func191, Tryz.ntmps191
        go_wp2_with fail
        refine wp_loop_rounds 4 ?_
        rw [rounds_succ]
        go_wp2_with fail
        go_quiet (fail)
        go_wp2_with fail
        rw [rounds_succ]
        go_wp2_with fail
        go_quiet (fail)
        go_wp2_with fail
        rw [rounds_succ]
        go_wp2_with fail
        go_quiet (fail)
        go_wp2_with fail
        rw [rounds_succ]
        go_wp2_with fail
        go_ret
        exact ⟨by rw [HD.out]; rfl, by repeat (first | exact HB.out | refine belowDrewN ?_ _)⟩
      · rw [if_pos h2] at hr
        have t2 : ((a2 : Int) != (b2 : Int)) = true := by rw [bne_iff_ne]; omega
        have HD := Lib.hid hr
        clear hr h0 h1 h2
        go_enter Tryz.func191, Tryz.ntmps191
        go_wp2_with fail
        refine wp_loop_rounds 4 ?_
        rw [rounds_succ]
        go_wp2_with fail
        go_quiet (fail)
        go_wp2_with fail
        rw [rounds_succ]
        go_wp2_with fail
        go_quiet (fail)
        go_wp2_with fail
        rw [rounds_succ]
        go_wp2_with fail
        go_quiet (fail)
        go_wp2_with fail
        go_quiet (fail)
        go_wp2_with fail
        go_ret
        exact ⟨by rw [HD.out]; rfl, by repeat (first | exact HB.out | refine belowDrewN ?_ _)⟩
    · rw [if_pos h1] at hr
      have t1 : ((a1 : Int) != (b1 : Int)) = true := by rw [bne_iff_ne]; omega
      have HD := Lib.hid hr
      clear hr h0 h1
      go_enter Tryz.func191, Tryz.ntmps191
      go_wp2_with fail
      refine wp_loop_rounds 4 ?_
      rw [rounds_succ]
      go_wp2_with fail
      go_quiet (fail)
      go_wp2_with fail
      rw [rounds_succ]
      go_wp2_with fail
      go_quiet (fail)
      go_wp2_with fail
      go_quiet (fail)
      go_wp2_with fail
      go_ret
      exact ⟨by rw [HD.out]; rfl, by repeat (first | exact HB.out | refine belowDrewN ?_ _)⟩
  · rw [if_pos h0] at hr
    have t0 : ((a0 : Int) != (b0 : Int)) = true := by rw [bne_iff_ne]; omega
    have HD := Lib.hid hr
    clear hr h0
    go_enter Tryz.func191, Tryz.ntmps191
    go_wp2_with fail
    refine wp_loop_rounds 4 ?_
    rw [rounds_succ]
    go_wp2_with fail
    go_quiet (fail)
    go_wp2_with fail
    go_quiet (fail)
    go_wp2_with fail
    go_ret
    exact ⟨by rw [HD.out]; rfl, by repeat (first | exact HB.out | refine belowDrewN ?_ _)⟩

theorem overL_wide {a b : Nat} (ha : a < 6277101735386680763835789423207666416102355444464034512896) (hb : b < 6277101735386680763835789423207666416102355444464034512896) :
    overL (W0 a) (W1 a) (W2 a) (W0 b) (W1 b) (W2 b) = decide (b < a) := by
  unfold overL W0 W1 W2
  split
  · rw [Bool.eq_iff_iff]; simp only [decide_eq_true_iff]; omega
  · split
    · rw [Bool.eq_iff_iff]; simp only [decide_eq_true_iff]; omega
    · split
      · rw [Bool.eq_iff_iff]; simp only [decide_eq_true_iff]; omega
      · symm; rw [decide_eq_false_iff_not]; omega
theorem over_any (a b : Nat) (w : World) (ha : a < 6277101735386680763835789423207666416102355444464034512896) (hb : b < 6277101735386680763835789423207666416102355444464034512896) :
    Calls Tryz.prog 191 #[.agg (wideV a), .agg (wideV b)] w fun e w' => e = .returned (.bool (decide (b < a))) ∧ Below w.heap.size w w' := by
  rw [← overL_wide ha hb]
  exact over_L _ _ _ _ _ _ w

end Go.Proofs.YtkbnkdokcmpcgaaGreatDoor
namespace Go.Proofs.YtkbnkdokcmpcgaaGreatDoor
open Go.RowKit

theorem root_or (p k n : Nat) (h : n < 41) : bits BinOp.or IntKind.u64 (rootTo p k n : Int) (IntKind.u64.wrap (2 ^ (40 - n))) = ((rootTo p k n + 2 ^ (40 - n) : Nat) : Int) := by
  have h1 := rootTo_lt p k n (by omega)
  have h2 : 2 ^ (40 - n) ≤ 2 ^ 40 := Nat.pow_le_pow_right (by decide) (by omega)
  have e : ((2 : Int) ^ (40 - n)) = ((2 ^ (40 - n) : Nat) : Int) := by rw [Int.natCast_pow]; rfl
  rw [e, m64_wrap _ (by omega), u64_or_nat _ _ (by omega) (by omega), rootTo_or p k n h]
theorem want_lt {p k : Nat} (hk : k = 2 ∨ k = 3) (hp : p ≤ 65535) : 4294967296 ^ k * p < 6277101735386680763835789423207666416102355444464034512896 := by
  rcases hk with rfl | rfl <;> omega
theorem next_lt {x k : Nat} (hk : k = 2 ∨ k = 3) (hx : x < 2 ^ 41) : x ^ k < 6277101735386680763835789423207666416102355444464034512896 := by
  have h : x ^ k ≤ (2 ^ 41) ^ 3 := Nat.le_trans (Nat.pow_le_pow_left (Nat.le_of_lt hx) k) (Nat.pow_le_pow_right (by decide) (by omega))
  exact Nat.lt_of_le_of_lt h (by decide)

def FracRel (w : World) (B want : Nat) (wr : World) : Prop := wr.heap[B]? = some (.cells (wideV want) 295 (0, 0)) ∧ Below w.heap.size w wr

set_option maxRecDepth 100000 in
set_option maxHeartbeats 4000000 in
theorem frac_any (p k : Nat) (hk : k = 2 ∨ k = 3) (hp : 1 ≤ p) (hp2 : p ≤ 65535) (w : World) :
    Calls Tryz.prog 160 #[.int .u32 (p : Int), .int .i64 (k : Int)] w fun e w' => e = .returned (.tuple #[.int .u32 (fracN p k : Int), .int .i64 0]) ∧ Below w.heap.size w w' := by
  have HPw := Lib.hid (fun w => power_any 4294967296 k (by decide) (by omega) w)
  have HTm := Lib.hid (fun w => times_any (4294967296 ^ k) p (by omega) w)
  have g1 : ¬ (k : Int) < 2 := by omega
  have g2 : ¬ (3 : Int) < (k : Int) := by omega
  have g3 : ¬ (p : Int) < 1 := by omega
  have g4 : ¬ (65535 : Int) < (p : Int) := by omega
  go_enter Tryz.func160, Tryz.ntmps160
  go_wp2_with fail
  refine (HPw.out _).mono ?_
  rintro e w1 ⟨rfl, hb1⟩
  have HB1 := Lib.hid hb1
  clear hb1
  go_wp2_with fail
  refine (HTm.out _).mono ?_
  rintro e w2 ⟨rfl, hb2⟩
  have HB2 := Lib.hid (HB1.out.trans (hb2.mono HB1.out.size))
  clear hb2
  go_wp2_with (refine store_wide rfl (.tmp 6) (.tmp 28) rfl rfl rfl (heap_alloc_new _ _) rfl rfl (wideV_one _) ?_)
  intro w3 hg3 hf3 hs3
  have HR0 := Lib.hid (show FracRel w w2.heap.size (4294967296 ^ k * p) w3 from ⟨hg3, HB2.out.trans (((Below.refl _ w2).alloc (Nat.le_refl _) _ |>.trans (hf3.below (by simp) (fun j hj => by omega))).mono HB2.out.size)⟩)
  have hB2 := HB2.out.size
  clear hg3 hf3 hs3
  have HK := Lib.hid hk
  have HP := Lib.hid hp
  have HP2 := Lib.hid hp2
  clear hk hp hp2 g1 g2 g3 g4
  obtain ⟨B, hBB⟩ : ∃ B, B = w2.heap.size := ⟨_, rfl⟩
  rw [← hBB] at HR0 hB2 ⊢
  clear hBB
  go_wp2_with fail
  go_loopw [7, 8, 9] (fun r b x wr => ∃ n : Nat, n ≤ 41 ∧ r = .int .u64 (rootTo p k n : Int) ∧ b = .int .i64 (40 - (n : Int)) ∧ FracRel w B (4294967296 ^ k * p) wr) (fun _ b _ _ => (intOf b + 1).toNat)
  case atStart => exact ⟨0, by omega, rfl, rfl, HR0.out⟩
  case round =>
    obtain ⟨n, hn, rfl, rfl, hrow, hb⟩ := hrel
    have HRow := Lib.hid hrow
    have HB := Lib.hid hb
    clear hrow hb
    rcases Nat.lt_or_ge n 41 with hlt | hge
    · have q := root_or p k n hlt
      have hx := rootTo_next_lt p k n hlt
      have hstep : rootTo p k (n + 1) = if (rootTo p k n + 2 ^ (40 - n)) ^ k ≤ p * 4294967296 ^ k then rootTo p k n + 2 ^ (40 - n) else rootTo p k n := rfl
      rw [Nat.mul_comm p] at hstep
      obtain ⟨X, hX⟩ : ∃ X, X = rootTo p k n + 2 ^ (40 - n) := ⟨_, rfl⟩
      rw [← hX] at q hx hstep
      have hpw := fun (u : Wd wr.heap.size wr) => Calls.wd u (Nat.le_refl _) (power_any X k (by omega) (by have := HK.out; omega) u.to)
      have hov := fun (u : Wd wr.heap.size wr) => Calls.wd u (Nat.le_refl _) (over_any (X ^ k) (4294967296 ^ k * p) u.to (next_lt HK.out hx) (want_lt HK.out HP2.out))
      have HAt := Lib.hid (At.of_row (cs := (wideV (4294967296 ^ k * p)).toList) (by simpa using HRow.out))
      have HU := Lib.hid (fun w' (hw : ∃ u : Wd wr.heap.size wr, w' = u.to) => (by obtain ⟨u, rfl⟩ := hw; exact u.at HAt.out : At w' B 0 _))
      have HPW := Lib.hid hpw
      have HQ := Lib.hid q
      obtain ⟨R, hR⟩ : ∃ R, R = rootTo p k n := ⟨_, rfl⟩
      rw [← hR] at q hstep ⊢
      clear hX hpw hx HQ hR
      by_cases hle : X ^ k ≤ 4294967296 ^ k * p
      · rw [if_pos hle] at hstep
        rw [decide_eq_false (by omega)] at hov
        have HStep := Lib.hid hstep
        have HOV := Lib.hid hov
        clear hle hstep hov
        go_wp2_with fail
        refine wp_region_wd wr.heap.size (by kernel_rfl) (by kernel_rfl) ?_
        repeat (first
          | (refine wpQuiet_load_at rfl 295 (.tmp 6) rfl B 0 rfl _ _ HU.out Tryz.underlying295 rfl (by rw [info_wide]; rfl) ?_; simp only [Act.put, List.setIfInBounds_toArray, List.set_cons_succ, List.set_cons_zero, Array.toArray_toList])
          | go_big_quiet_step (first | with_reducible exact HPW.out _ | with_reducible exact HOV.out _))
        refine wpQuiet_nil ?_
        rintro _ ⟨⟨w6, hb6⟩, rfl⟩
        have HRow6 := Lib.hid ((hb6.block B (lt_of_block HRow.out)).trans HRow.out)
        have HB6 := Lib.hid (HB.out.trans (hb6.mono HB.out.size))
        clear hb6
        go_wp2
        go_roundw
        case rel => exact ⟨n + 1, by omega, by rw [HStep.out], by go_num, HRow6.out, HB6.out⟩
        case measure => simp [intOf]; omega
      · rw [if_neg hle] at hstep
        rw [decide_eq_true (by omega)] at hov
        have HStep := Lib.hid hstep
        have HOV := Lib.hid hov
        clear hle hstep hov
        go_wp2_with fail
        refine wp_region_wd wr.heap.size (by kernel_rfl) (by kernel_rfl) ?_
        repeat (first
          | (refine wpQuiet_load_at rfl 295 (.tmp 6) rfl B 0 rfl _ _ HU.out Tryz.underlying295 rfl (by rw [info_wide]; rfl) ?_; simp only [Act.put, List.setIfInBounds_toArray, List.set_cons_succ, List.set_cons_zero, Array.toArray_toList])
          | go_big_quiet_step (first | with_reducible exact HPW.out _ | with_reducible exact HOV.out _))
        refine wpQuiet_nil ?_
        rintro _ ⟨⟨w6, hb6⟩, rfl⟩
        have HRow6 := Lib.hid ((hb6.block B (lt_of_block HRow.out)).trans HRow.out)
        have HB6 := Lib.hid (HB.out.trans (hb6.mono HB.out.size))
        clear hb6
        go_wp2
        go_roundw
        case rel => exact ⟨n + 1, by omega, by rw [HStep.out], by go_num, HRow6.out, HB6.out⟩
        case measure => simp [intOf]; omega
    · obtain rfl : n = 41 := by omega
      clear hn hge
      have HF := Lib.hid (show (rootTo p k 41 : Int) % 4294967296 = (fracN p k : Int) by unfold fracN; omega)
      have hlt := rootTo_lt p k 41 (by omega)
      obtain ⟨R, hR⟩ : ∃ R, R = rootTo p k 41 := ⟨_, rfl⟩
      rw [← hR] at HF hlt ⊢
      clear hR hlt
      go_wp2
      go_ret2
      exact ⟨by rw [← HF.out]; rfl, HB.out⟩
end Go.Proofs.YtkbnkdokcmpcgaaGreatDoor
namespace Go.Proofs.YtkbnkdokcmpcgaaGreatDoor
open Go.RowKit

def U32 (n : Nat) : Value := .int .u32 (n : Int)
theorem U32_one (xs : List Nat) : ∀ u ∈ xs.map U32, u.oneCell' = true := by
  intro u hu
  obtain ⟨_, _, rfl⟩ := List.mem_map.1 hu
  rfl
/-- A row of m words, of which the first ones are told. -/
def rowZ (m : Nat) (l : List Nat) : List Value := l.map U32 ++ List.replicate (m - l.length) (U32 0)
theorem rowZ_set (m : Nat) (l : List Nat) (x : Nat) (h : l.length < m) : (rowZ m l).set l.length (U32 x) = rowZ m (l ++ [x]) := by
  unfold rowZ
  rw [List.set_append_right _ _ (by simp), List.length_map, Nat.sub_self, List.map_append, List.length_append, List.append_assoc]
  congr 1
  obtain ⟨j, hj⟩ : ∃ j, m - l.length = j + 1 := ⟨m - 1 - l.length, by omega⟩
  rw [hj, List.replicate_succ, List.set_cons_zero]
  simp
  omega
theorem rowZ_get (m : Nat) (l : List Nat) (i : Nat) (h : l.length ≤ m) (hi : i < m) : (rowZ m l)[i]? = some (U32 (l.getD i 0)) := by
  unfold rowZ
  rcases Nat.lt_or_ge i l.length with h1 | h1
  · rw [List.getElem?_append_left (by simpa using h1), List.getElem?_map, List.getD_eq_getElem?_getD, List.getElem?_eq_getElem h1]; rfl
  · rw [List.getElem?_append_right (by simpa using h1), List.getElem?_replicate, if_pos (by simp; omega), List.getD_eq_getElem?_getD, List.getElem?_eq_none h1]; rfl
theorem rowZ_length (m : Nat) (l : List Nat) (h : l.length ≤ m) : (rowZ m l).length = m := by unfold rowZ; simp; omega
theorem rowZ_full (m : Nat) (l : List Nat) (h : l.length = m) : rowZ m l = l.map U32 := by unfold rowZ; simp [h]
theorem rowZ_one (m : Nat) (l : List Nat) : ∀ u ∈ rowZ m l, u.oneCell' = true := by
  intro u hu
  unfold rowZ at hu
  rcases List.mem_append.1 hu with h | h
  · exact U32_one l u h
  · rw [List.eq_of_mem_replicate h]; rfl

section
variable {P : Program} {ops : Array Oper}

/-- A row that is stored where it lies leaves all as it was. -/
theorem wpQuiet_store_self {C : World → Prop} {Q : Act → Prop} {rest : List Oper} {o : Oper} {a : Act} (hw : Region.wanted o (yielded ops a.tmps) = true) (ty : TypeId) (x y : Operand) (ho : o.op = .store ty x y)
    (b : Nat) (hx : a.eval x = .pointer (some ⟨b, 0, none⟩)) (cs : List Value) (hy : a.eval y = .agg cs.toArray) (t : TypeId) (hb : ∀ w', C w' → w'.heap[b]? = some (.cells cs.toArray t (0, 0)))
    (h1 : ∀ u ∈ cs, u.oneCell' = true) (hi : (P.info? ty).map (·.size) = some cs.length)
    (h : wpQuiet P ops C Q rest (a.put o.dst undef)) : wpQuiet P ops C Q (o :: rest) a :=
  BigFrame.wpQuiet_want hw fun K hK => ⟨undef, fun w' hw' => by
    have hb' := hb w' hw'
    have hst := run_storeCells_at P b 0 t cs 0 cs.toArray w' hb' (by simp) h1
    have he : (cs.toArray.toList.take (0 + 0) ++ cs ++ cs.toArray.toList.drop (0 + 0 + cs.length)).toArray = cs.toArray := by simp
    rw [he, setRow_self w' b cs.toArray t (0, 0) hb'] at hst
    cases hq : P.info? ty with
    | none => simp [hq] at hi
    | some i =>
      have hs : i.size = cs.length := by simpa [hq] using hi
      have hr : (Instr.storeAt ty (.pointer (some ⟨b, 0, none⟩)) (.agg cs.toArray)).run P w' = .ok () w' := by
        simp [Instr.storeAt, Instr.sureAddr, storeVar, sizeOf, typeInfo, hq, hs, Value.cells, Sem.run_bind, hst]
      unfold Oper.quietAt execOp
      simp only [ho, hx, hy, Sem.run_bind, Sem.run_pure, Result.andThen_ok, hr]
      exact ⟨rfl, rfl⟩, hK _ h⟩

theorem results_two {fn : Func} {p q : Tmp} {ty tz : TypeId} (h : fn.results = #[.cell p ty, .cell q tz]) (tmps : Array Value) (w : World) :
    (results fn tmps).run P w =
      ((asAddr (tmps.getD p undef)).run P w).andThen fun a w₁ => ((loadVar ty a).run P w₁).andThen fun v w₂ => ((asAddr (tmps.getD q undef)).run P w₂).andThen fun b w₃ => ((loadVar tz b).run P w₃).andThen fun u w₄ => .ok (.tuple #[v, u]) w₄ := by
  simp only [results, h]
  simp [Sem.run_bind, Result.andThen]
/-- Two results that lie in memory. -/
theorem results_cell_cell {fn : Func} {p q : Tmp} {ty tz : TypeId} (h : fn.results = #[.cell p ty, .cell q tz]) {tmps : Array Value} {w : World} {a b : Addr} {u v : Value} (hp : tmps.getD p undef = .pointer (some a)) (hq : tmps.getD q undef = .pointer (some b))
    (ha : (loadVar ty a).run P w = .ok u w) (hb : (loadVar tz b).run P w = .ok v w) : (results fn tmps).run P w = .ok (.tuple #[u, v]) w := by
  rw [results_two h, hp, hq]
  simp [Result.andThen, asAddr, ha, hb]
end

end Go.Proofs.YtkbnkdokcmpcgaaGreatDoor
