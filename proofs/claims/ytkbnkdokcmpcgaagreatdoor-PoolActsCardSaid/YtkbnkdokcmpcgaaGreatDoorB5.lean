/- What every law's row shares: a law that answers true, and below whose heap nothing is turned, meets its row. Sets of numbers as words of 64 bits: plain. Walks: space.New, is, at, Has, Mark, Free. Walks: space.New, Take, Set, Left, Taken. A world for the witnesses of this seat's cards: the settled one, the three listed tables holding what they are laid with; and what a row's condition says of the bit table. -/
import Derived.Test.YtkbnkdokcmpcgaaGreatDoorB0
import Derived.Test.YtkbnkdokcmpcgaaGreatDoorB1
import Derived.Test.YtkbnkdokcmpcgaaGreatDoorRows
import Derived.WalkKit
import Derived.ProofKit
import Derived.OpenShut
import Derived.Lib.TrailingZeros
import Derived.Laws.BitsAllLaws
import Derived.Shelf.Spec.TrailingZeros
import Derived.Test.YtkbnkdokcmpcgaaGreatDoorCards
import Derived.Test.YtkbnkdokcmpcgaaGreatDoorTie
import Derived.Deep.DeepHandedRow
import Derived.Lib.LaidTab
import Derived.MakeChecks
namespace Go.Proofs.YtkbnkdokcmpcgaaGreatDoor
open Go.ChangeShapes Go.WideShapes Go.ChangeAt Go.RowKit

theorem own : ownKnob Tryz.prog.godebug = none := by kernel_rfl
theorem laidOut : laidOutB Tryz.prog = true := by kernel_rfl

theorem trodAll_below {H : Type} {enc : TypeId × Value → H} {W W' : World} (hb : Below W.heap.size W W') :
    ∀ (ts : List TypeId) (vs : List Value) (ds : List (DataW H)) (ps : List MemPlace), (∀ t ∈ ts, Tryz.prog.readableRec t = true ∧ t < Tryz.prog.types.size) → (∀ x ∈ ps, x.block < W.heap.size) →
      DataW.TrodAll enc Tryz.prog W 0 (fun _ => true) true ts vs ds ps → DataW.TrodAll enc Tryz.prog W' 0 (fun b => decide (b < W.heap.size)) true ts vs ds ps
  | [], vs, ds, ps, _, _, h => by obtain ⟨rfl, rfl, rfl⟩ := trodAll_nil h; exact trodAll_mk0
  | t :: ts, vs, ds, ps, ht, hlt, h => by
    obtain ⟨v, vs', d, ds', p, q, rfl, rfl, rfl, h0, r0⟩ := trodAll_cons h
    have h1 := ht t (by simp)
    exact trodAll_cons_mk (Below.trod laidOut h1.1 h1.2 h0 hb (fun x hx => hlt x (by simp [hx])))
      (trodAll_below hb ts vs' ds' q (fun t ht' => ht t (by simp [ht'])) (fun x hx => hlt x (by simp [hx])) r0)

theorem post_law {H : Type} {enc : TypeId × Value → H} {f : Func} {s : ChangeSpec} {W W' : World} {args : Array Value} {ds : List (DataW H)} {ps : List MemPlace}
    (hp : ∀ t ∈ f.params.toList, Tryz.prog.readableRec t = true ∧ t < Tryz.prog.types.size) (hrt : f.resultTypes = #[4]) (hs : s.vars = []) (hfn : s.fn H (ds ++ []) = { results := [.lit (.bool true)], args := ds })
    (hW : DataW.Whole enc Tryz.prog f.params.toList s.vars false W args.toList ds [] ps) (hb : Below W.heap.size W W') : s.post enc Tryz.prog f false true false false W args (.bool true) W' := by
  have hW' := hW
  obtain ⟨p, q, hA, hV, rfl, hfz, hnd⟩ := hW
  rw [hs] at hV
  obtain ⟨-, rfl⟩ := trodVars_none hV
  refine ⟨ds, [], _, [], p, [], hW', ?_, ?_, ?_, hb.frame _, fun h => by cases h⟩
  · rw [hfn, hrt]; exact trodAll_mk1 (shut_bool Tryz.underlying4 _)
  · rw [hfn]; exact trodAll_below hb _ _ _ _ hp (fun x hx => by simpa using hW'.lt x (by simp [hx])) hA
  · rw [hfn, hs]; rfl

end Go.Proofs.YtkbnkdokcmpcgaaGreatDoor
namespace Go.Proofs.YtkbnkdokcmpcgaaGreatDoor

theorem ctz_spec (x : Nat) (h0 : x ≠ 0) (h : x < 2 ^ 64) : Lib.ctz 64 x < 64 ∧ x.testBit (Lib.ctz 64 x) = true ∧ ∀ j, j < Lib.ctz 64 x → x.testBit j = false := by
  unfold Lib.ctz
  rw [if_neg h0]
  obtain ⟨m, hm, hk⟩ := Lib.ctzFrom_spec 64 x (Nat.pos_of_ne_zero h0) h
  obtain ⟨k, hkk⟩ : ∃ k, k = Lib.ctzFrom 64 x := ⟨_, rfl⟩
  rw [← hkk] at hm hk ⊢
  refine ⟨hk, ?_, fun j hj => ?_⟩
  · rw [hm, Nat.testBit_two_pow_mul]; simp
  · rw [hm, Nat.testBit_two_pow_mul]; simp [Nat.not_le.2 hj]
def WsOk (ws : List Nat) (size : Nat) (t : Nat → Bool) : Prop :=
  ws.length = (size + 63) / 64 ∧ (∀ x ∈ ws, x < 2 ^ 64) ∧ ∀ i j, i < ws.length → j < 64 → (ws.getD i 0).testBit j = t (64 * i + j)
def TOk (size : Nat) (t : Nat → Bool) : Prop := ∀ a, t a = true → 2 ≤ a ∧ a < size
def updT (t : Nat → Bool) (a : Nat) (b : Bool) : Nat → Bool := fun c => if c = a then b else t c
def noneT : Nat → Bool := fun _ => false

theorem getD_lt {ws : List Nat} {size : Nat} {t : Nat → Bool} (h : WsOk ws size t) (i : Nat) : ws.getD i 0 < 2 ^ 64 := by
  rw [List.getD_eq_getElem?_getD]
  cases hq : ws[i]? with
  | none => decide
  | some x => exact h.2.1 x (List.mem_of_getElem? hq)
theorem idx_lt {ws : List Nat} {size : Nat} {t : Nat → Bool} (h : WsOk ws size t) {a : Nat} (ha : a < size) : a / 64 < ws.length := by rw [h.1]; omega
theorem getD_idx {ws : List Nat} {i : Nat} (h : i < ws.length) : ws[i]? = some (ws.getD i 0) := by rw [List.getD_eq_getElem?_getD, List.getElem?_eq_getElem h]; rfl

theorem and_pow_ne (x k : Nat) : (x &&& 2 ^ k ≠ 0) ↔ x.testBit k = true := by
  constructor
  · intro h
    cases hb : x.testBit k with
    | true => rfl
    | false =>
      exfalso; apply h
      apply Nat.eq_of_testBit_eq
      intro j
      rw [Nat.testBit_and, Nat.testBit_two_pow, Nat.zero_testBit]
      by_cases e : k = j
      · subst e; simp [hb]
      · simp [e]
  · intro h e
    have := congrArg (fun y => y.testBit k) e
    simp [Nat.testBit_and, h] at this

theorem has_iff {ws : List Nat} {size : Nat} {t : Nat → Bool} (h : WsOk ws size t) {a : Nat} (ha : a < size) : (ws.getD (a / 64) 0 &&& 2 ^ (a % 64) ≠ 0) ↔ t a = true := by
  rw [and_pow_ne, h.2.2 _ _ (idx_lt h ha) (Nat.mod_lt _ (by decide)), Nat.div_add_mod]

theorem WsOk.set {ws : List Nat} {size : Nat} {t : Nat → Bool} (h : WsOk ws size t) {a : Nat} (_ha : a < size) (b : Bool) {y : Nat} (hy : y < 2 ^ 64)
    (hb : ∀ j, j < 64 → y.testBit j = if j = a % 64 then b else (ws.getD (a / 64) 0).testBit j) : WsOk (ws.set (a / 64) y) size (updT t a b) := by
  refine ⟨by rw [List.length_set, h.1], fun x hx => ?_, fun i j hi hj => ?_⟩
  · rcases List.mem_or_eq_of_mem_set hx with hx | rfl
    · exact h.2.1 x hx
    · exact hy
  · rw [List.length_set] at hi
    rw [List.getD_eq_getElem?_getD, List.getElem?_set]
    by_cases e : a / 64 = i
    · subst e
      rw [if_pos rfl, if_pos hi]
      show y.testBit j = _
      rw [hb j hj]
      unfold updT
      by_cases e2 : j = a % 64
      · rw [if_pos e2, if_pos (by rw [e2]; omega)]
      · rw [if_neg e2, if_neg (by omega), h.2.2 _ _ hi hj]
    · rw [if_neg e]
      unfold updT
      rw [if_neg (by omega)]
      have := h.2.2 i j hi hj
      rwa [List.getD_eq_getElem?_getD] at this
theorem WsOk.mark {ws : List Nat} {size : Nat} {t : Nat → Bool} (h : WsOk ws size t) {a : Nat} (ha : a < size) : WsOk (ws.set (a / 64) (ws.getD (a / 64) 0 ||| 2 ^ (a % 64))) size (updT t a true) := by
  refine h.set ha true (Nat.or_lt_two_pow (getD_lt h _) (Nat.pow_lt_pow_right (by decide) (Nat.mod_lt _ (by decide)))) fun j hj => ?_
  rw [Nat.testBit_or, Nat.testBit_two_pow]
  by_cases e : j = a % 64
  · simp [e]
  · rw [if_neg e]; simp [Ne.symm e]
theorem not64_bit (y j : Nat) (hy : y < 2 ^ 64) (hj : j < 64) : (18446744073709551615 - y).testBit j = !y.testBit j := by
  have := Nat.testBit_two_pow_sub_succ hy j
  rw [show 18446744073709551615 - y = 2 ^ 64 - (y + 1) by omega, this]; simp [hj]
theorem WsOk.clear {ws : List Nat} {size : Nat} {t : Nat → Bool} (h : WsOk ws size t) {a : Nat} (ha : a < size) : WsOk (ws.set (a / 64) (ws.getD (a / 64) 0 &&& (18446744073709551615 - 2 ^ (a % 64)))) size (updT t a false) := by
  refine h.set ha false (Nat.lt_of_le_of_lt Nat.and_le_left (getD_lt h _)) fun j hj => ?_
  have hp : 2 ^ (a % 64) < 2 ^ 64 := Nat.pow_lt_pow_right (by decide) (Nat.mod_lt _ (by decide))
  rw [Nat.testBit_and, not64_bit _ _ hp hj, Nat.testBit_two_pow]
  by_cases e : j = a % 64
  · simp [e]
  · rw [if_neg e]; simp [Ne.symm e]

def cntT (t : Nat → Bool) (size : Nat) : Nat := ((List.range size).filter t).length
def listT (t : Nat → Bool) (size : Nat) : List Nat := (List.range size).filter t
theorem cntT_le (t : Nat → Bool) (size : Nat) : cntT t size ≤ size := by
  have := List.length_filter_le t (List.range size)
  simpa [cntT] using this
theorem cntT_succ (t : Nat → Bool) (n : Nat) : cntT t (n + 1) = cntT t n + if t n then 1 else 0 := by
  unfold cntT
  rw [List.range_succ, List.filter_append, List.length_append]
  cases h : t n <;> simp [h]
theorem cntT_congr {t u : Nat → Bool} : ∀ n, (∀ a, a < n → t a = u a) → cntT t n = cntT u n
  | 0, _ => rfl
  | n + 1, h => by rw [cntT_succ, cntT_succ, cntT_congr n (fun a ha => h a (by omega)), h n (by omega)]
theorem cntT_mark (t : Nat → Bool) (a : Nat) (h : t a = false) : ∀ n, a < n → cntT (updT t a true) n = cntT t n + 1
  | 0, hn => by omega
  | n + 1, hn => by
    rw [cntT_succ, cntT_succ]
    by_cases e : a = n
    · subst e
      rw [cntT_congr (u := t) a (fun c hc => by unfold updT; rw [if_neg (by omega)])]
      simp [updT, h]
    · rw [cntT_mark t a h n (by omega)]
      simp only [updT, if_neg (Ne.symm e)]; omega
theorem updT_back (t : Nat → Bool) (a : Nat) (b c : Bool) : updT (updT t a b) a c = updT t a c := by funext x; unfold updT; split <;> rfl
theorem updT_same (t : Nat → Bool) (a : Nat) (b : Bool) (h : t a = b) : updT t a b = t := by funext x; unfold updT; split; (· rename_i e; rw [e, h]); (· rfl)
theorem cntT_free (t : Nat → Bool) (a n : Nat) (h : t a = true) (hn : a < n) : cntT t n = cntT (updT t a false) n + 1 := by
  have := cntT_mark (updT t a false) a (by simp [updT]) n hn
  rw [updT_back, updT_same t a true h] at this
  exact this
theorem cntT_none (n : Nat) : cntT noneT n = 0 := by unfold cntT noneT; simp
theorem TOk.none (size : Nat) : TOk size noneT := fun a h => by cases h
theorem TOk.mark {size : Nat} {t : Nat → Bool} (h : TOk size t) {a : Nat} (h2 : 2 ≤ a) (ha : a < size) : TOk size (updT t a true) := fun c hc => by
  unfold updT at hc; split at hc
  · rename_i e; rw [e]; exact ⟨h2, ha⟩
  · exact h c hc
theorem TOk.free {size : Nat} {t : Nat → Bool} (h : TOk size t) (a : Nat) : TOk size (updT t a false) := fun c hc => by
  unfold updT at hc; split at hc
  · cases hc
  · exact h c hc
theorem WsOk.none (size : Nat) : WsOk (List.replicate ((size + 63) / 64) 0) size noneT := by
  refine ⟨by simp, fun x hx => ?_, fun i j hi hj => ?_⟩
  · rw [(List.mem_replicate.1 hx).2]; decide
  · rw [List.length_replicate] at hi
    rw [List.getD_eq_getElem?_getD, List.getElem?_replicate, if_pos hi]
    simp [noneT]
def ofL (l : List Nat) : Nat → Bool := fun a => l.contains a
theorem TOk.list {size : Nat} {l : List Nat} (h : ∀ a ∈ l, 2 ≤ a ∧ a < size) : TOk size (ofL l) := fun a ha => h a (by simpa [ofL] using ha)

def lowT (t : Nat → Bool) (size : Nat) : Option Nat := (List.range size).find? fun a => decide (2 ≤ a) && !t a
theorem lowT_some {t : Nat → Bool} {size a : Nat} (h2 : 2 ≤ a) (ha : a < size) (hf : t a = false) (hl : ∀ c, 2 ≤ c → c < a → t c = true) : lowT t size = some a := by
  unfold lowT
  rw [List.find?_eq_some_iff_append]
  refine ⟨by simp [h2, hf], List.range a, (List.range (size - a - 1)).map (a + 1 + ·), ?_, fun c hc => ?_⟩
  · have e : size = a + (1 + (size - a - 1)) := by omega
    conv => lhs; rw [e, List.range_add, List.range_add]
    simp [List.range_succ, Nat.add_assoc]
  · have := List.mem_range.1 hc
    by_cases h2c : 2 ≤ c
    · simp [hl c h2c this]
    · simp [h2c]
theorem lowT_none {t : Nat → Bool} {size : Nat} (hl : ∀ c, 2 ≤ c → c < size → t c = true) : lowT t size = none := by
  unfold lowT
  rw [List.find?_eq_none]
  intro c hc
  have := List.mem_range.1 hc
  by_cases h2 : 2 ≤ c
  · simp [hl c h2 this]
  · simp [h2]

def wordT (ws : List Nat) (i : Nat) : Nat := if i = 0 then ws.getD 0 0 ||| 3 else ws.getD i 0
theorem wordT_lt {ws : List Nat} {size : Nat} {t : Nat → Bool} (h : WsOk ws size t) (i : Nat) : wordT ws i < 2 ^ 64 := by
  unfold wordT; split
  · exact Nat.or_lt_two_pow (getD_lt h _) (by decide)
  · exact getD_lt h _
theorem three_bit (j : Nat) : (3 : Nat).testBit j = decide (j < 2) := Nat.testBit_two_pow_sub_one 2 j
theorem wordT_bit {ws : List Nat} {size : Nat} {t : Nat → Bool} (h : WsOk ws size t) {i j : Nat} (hi : i < ws.length) (hj : j < 64) : (wordT ws i).testBit j = (decide (64 * i + j < 2) || t (64 * i + j)) := by
  unfold wordT
  split
  · rename_i e; subst e
    rw [Nat.testBit_or, three_bit, h.2.2 0 j hi hj, Nat.mul_zero, Nat.zero_add, Bool.or_comm]
  · rw [h.2.2 i j hi hj, show decide (64 * i + j < 2) = false by simp; omega, Bool.false_or]

end Go.Proofs.YtkbnkdokcmpcgaaGreatDoor
namespace Go.Proofs.YtkbnkdokcmpcgaaGreatDoor
open Go.RowKit

def UV (x : Nat) : Value := .int .u64 (x : Int)
def SpAt (w : World) (S W : Nat) (size : Nat) (t : Nat → Bool) : Prop :=
  S ≠ W ∧ 16 ≤ size ∧ size ≤ 4096 ∧ TOk size t ∧ w.heap[S]? = some (.cells #[.int .i64 (size : Int), .slice (some ⟨W, 0, none⟩) ((size + 63) / 64) ((size + 63) / 64), .int .i64 (cntT t size : Int)] 207 (0, 0)) ∧
    ∃ ws, WsOk ws size t ∧ w.heap[W]? = some (.cells (ws.map UV).toArray 40 (0, 0))
theorem SpAt.fr {F : Nat → Prop} {w w' : World} {S W size : Nat} {t : Nat → Bool} (h : SpAt w S W size t) (hf : Fr F w w') (h1 : ¬ F S) (h2 : ¬ F W) : SpAt w' S W size t := by
  obtain ⟨a, b, c, d, e, ws, f, g⟩ := h
  exact ⟨a, b, c, d, (hf.block _ (lt_of_block e) h1).trans e, ws, f, (hf.block _ (lt_of_block g) h2).trans g⟩
theorem SpAt.below {w w' : World} {S W size : Nat} {t : Nat → Bool} (h : SpAt w S W size t) (hf : Below w.heap.size w w') : SpAt w' S W size t := h.fr (Fr.of_below (S := fun _ => False) hf) id id
theorem SpAt.lt {w : World} {S W size : Nat} {t : Nat → Bool} (h : SpAt w S W size t) : S < w.heap.size ∧ W < w.heap.size := by
  obtain ⟨a, b, c, d, e, ws, f, g⟩ := h
  exact ⟨lt_of_block e, lt_of_block g⟩

def isE (size a : Nat) : Int := if 2 ≤ a ∧ a < size then 0 else 2
theorem isE_ok {size a : Nat} (h : 2 ≤ a ∧ a < size) : isE size a = 0 := if_pos h
theorem isE_bad {size a : Nat} (h : ¬ (2 ≤ a ∧ a < size)) : isE size a = 2 := if_neg h

set_option maxHeartbeats 1000000 in
theorem spIs_any (S W size a : Nat) (t : Nat → Bool) (w : World) (h : SpAt w S W size t) (ha : a < 4294967296) :
    Calls Tryz.prog 122 #[.pointer (some ⟨S, 0, none⟩), .int .u32 (a : Int)] w fun e w' => e = .returned (.int .i64 (isE size a)) ∧ w = w' := by
  obtain ⟨_, h1, h2, _, hS, _⟩ := h
  have c0 : w.cell? ⟨S, 0, none⟩ = some (.int .i64 (size : Int)) := by rw [cell_of_row _ _ 0 _ _ _ hS]; rfl
  clear hS
  rcases Nat.lt_or_ge a 2 with hlt | hge
  · have HE := Lib.hid (isE_bad (size := size) (a := a) (by omega))
    have b1 : decide ((a : Int) < 2) = true := by simp; omega
    go_enter Tryz.func122, Tryz.ntmps122
    go_wp2
    go_ret
    exact ⟨by rw [HE.out]; rfl, rfl⟩
  · have b1 : decide ((a : Int) < 2) = false := by simp; omega
    rcases Nat.lt_or_ge a size with hs | hs
    · have HE := Lib.hid (isE_ok (size := size) (a := a) ⟨hge, hs⟩)
      have b2 : decide ((size : Int) ≤ (a : Int)) = false := by simp; omega
      have b3 : decide (size ≤ a) = false := by simp; omega
      go_enter Tryz.func122, Tryz.ntmps122
      go_wp2
      go_ret
      exact ⟨by rw [HE.out]; rfl, rfl⟩
    · have HE := Lib.hid (isE_bad (size := size) (a := a) (by omega))
      have b2 : decide ((size : Int) ≤ (a : Int)) = true := by simp; omega
      have b3 : decide (size ≤ a) = true := by simp; omega
      go_enter Tryz.func122, Tryz.ntmps122
      go_wp2
      go_ret
      exact ⟨by rw [HE.out]; rfl, rfl⟩

theorem and63 (a : Nat) (ha : a < 4294967296) : bits .and .u32 (a : Int) 63 = ((a % 64 : Nat) : Int) := by
  rw [show (63 : Int) = ((63 : Nat) : Int) from rfl, u32_and_nat a 63 ha (by decide)]
  have := Nat.and_two_pow_sub_one_eq_mod a 6
  rw [show (2 : Nat) ^ 6 - 1 = 63 from rfl, show (2 : Nat) ^ 6 = 64 from rfl] at this
  rw [this]

theorem wrap_pow (k : Nat) (h : k < 64) : IntKind.u64.wrap ((2 : Int) ^ k) = ((2 ^ k : Nat) : Int) := by
  have h1 : (2 : Nat) ^ k < 2 ^ 64 := Nat.pow_lt_pow_right (by decide) h
  rw [IntKind.wrap_u64]
  have e : ((2 : Int) ^ k) = ((2 ^ k : Nat) : Int) := by rw [Int.natCast_pow]; rfl
  rw [e]
  generalize (2 : Nat) ^ k = p at h1 ⊢
  omega

set_option maxHeartbeats 1000000 in
theorem spAt_any (a : Nat) (w : World) (ha : a < 4294967296) :
    Calls Tryz.prog 142 #[.int .u32 (a : Int)] w fun e w' => e = .returned (.tuple #[.int .i64 ((a / 64 : Nat) : Int), .int .u64 ((2 ^ (a % 64) : Nat) : Int)]) ∧ w = w' := by
  have h63 := and63 a ha
  have HW := Lib.hid (wrap_pow (a % 64) (Nat.mod_lt _ (by decide)))
  go_enter Tryz.func142, Tryz.ntmps142
  go_wp2
  go_ret2
  exact ⟨by rw [← HW.out]; rfl, rfl⟩

theorem SpAt.parts {w : World} {S W size : Nat} {t : Nat → Bool} (h : SpAt w S W size t) {a : Nat} (ha : a < size) : ∃ ws, WsOk ws size t ∧ w.heap[W]? = some (.cells (ws.map UV).toArray 40 (0, 0)) ∧
    w.cell? ⟨S, 1, none⟩ = some (.slice (some ⟨W, 0, none⟩) ((size + 63) / 64) ((size + 63) / 64)) ∧ w.cell? ⟨S, 2, none⟩ = some (.int .i64 (cntT t size : Int)) ∧ w.cell? ⟨W, a / 64, none⟩ = some (.int .u64 (ws.getD (a / 64) 0 : Int)) ∧
    w.frozen? ⟨W, a / 64, none⟩ = false ∧ w.frozen? ⟨S, 2, none⟩ = false ∧ a / 64 < (size + 63) / 64 := by
  obtain ⟨_, _, _, _, e, ws, f, g⟩ := h
  refine ⟨ws, f, g, by rw [cell_of_row _ _ 1 _ _ _ e]; rfl, by rw [cell_of_row _ _ 2 _ _ _ e]; rfl, ?_, by simp [World.frozen?, g], by simp [World.frozen?, e], by omega⟩
  rw [cell_of_row _ _ _ _ _ _ g, List.getElem?_toArray, List.getElem?_map, getD_idx (idx_lt f ha)]; rfl

set_option maxHeartbeats 1000000 in
theorem spHas_any (S W size a : Nat) (t : Nat → Bool) (w : World) (h : SpAt w S W size t) (ha : a < 4294967296) :
    Calls Tryz.prog 141 #[.pointer (some ⟨S, 0, none⟩), .int .u32 (a : Int)] w fun e w' => e = .returned (.bool (t a)) ∧ w = w' := by
  have his := spIs_any S W size a t w h ha
  rcases Classical.em (2 ≤ a ∧ a < size) with hr | hr
  · rw [isE_ok hr] at his
    have hat := spAt_any a w ha
    obtain ⟨pw, hpw⟩ : ∃ pw, pw = 2 ^ (a % 64) := ⟨_, rfl⟩
    obtain ⟨q, hq⟩ : ∃ q, q = a / 64 := ⟨_, rfl⟩
    rw [← hpw, ← hq] at hat
    obtain ⟨ws, hws, -, c1, -, cw, -, -, hlt⟩ := h.parts hr.2
    have hiff := has_iff hws hr.2
    have hx := getD_lt hws (a / 64)
    rw [← hpw] at hiff
    rw [← hq] at cw hlt hiff hx
    obtain ⟨x, hxx⟩ : ∃ x, x = ws.getD q 0 := ⟨_, rfl⟩
    rw [← hxx] at cw hiff hx
    have hp : pw < 2 ^ 64 := by rw [hpw]; exact Nat.pow_lt_pow_right (by decide) (Nat.mod_lt _ (by decide))
    have hv := u64_and_nat x pw hx hp
    obtain ⟨z, hz⟩ : ∃ z, z = x &&& pw := ⟨_, rfl⟩
    rw [← hz] at hv hiff
    have hs := h.2.2.1
    have HIs := Lib.hid his
    have HAt := Lib.hid hat
    have HIff := Lib.hid (show (z != 0) = t a by
      cases ht : t a with
      | true => have := hiff.2 ht; simp [this]
      | false => 
        have : z = 0 := by
          by_cases h0 : z = 0
          · exact h0
          · rw [hiff.1 h0] at ht; cases ht
        simp [this])
    have hnb : ((z : Int) != 0) = (z != 0) := by
      rw [Bool.eq_iff_iff]; simp
    clear his hat hws hpw hq hxx hz hiff hx hp h hr
    go_enter Tryz.func141, Tryz.ntmps141
    go_wp2_with fail
    refine HIs.out.mono ?_
    rintro e w1 ⟨rfl, rfl⟩
    go_wp2_with fail
    refine HAt.out.mono ?_
    rintro e w1 ⟨rfl, rfl⟩
    go_wp2
    go_ret
    exact ⟨by rw [← HIff.out]; rfl, rfl⟩
  · rw [isE_bad hr] at his
    have HT := Lib.hid (show t a = false by
      cases ht : t a with
      | false => rfl
      | true => exact absurd (h.2.2.2.1 a ht) hr)
    have HIs := Lib.hid his
    clear his h hr
    go_enter Tryz.func141, Tryz.ntmps141
    go_wp2_with fail
    refine HIs.out.mono ?_
    rintro e w1 ⟨rfl, rfl⟩
    go_wp2
    go_ret
    exact ⟨by rw [HT.out]; rfl, rfl⟩

theorem spMark_bad (S W size a : Nat) (t : Nat → Bool) (w : World) (h : SpAt w S W size t) (ha : a < 4294967296) (hr : ¬ (2 ≤ a ∧ a < size)) :
    Calls Tryz.prog 109 #[.pointer (some ⟨S, 0, none⟩), .int .u32 (a : Int)] w fun e w' => e = .returned (.int .i64 2) ∧ w = w' := by
  have his := spIs_any S W size a t w h ha
  rw [isE_bad hr] at his
  have HIs := Lib.hid his
  clear his h hr
  go_enter Tryz.func109, Tryz.ntmps109
  go_wp2_with fail
  refine HIs.out.mono ?_
  rintro e w1 ⟨rfl, rfl⟩
  go_wp2
  go_ret
  exact ⟨rfl, rfl⟩
theorem spMark_there (S W size a : Nat) (t : Nat → Bool) (w : World) (h : SpAt w S W size t) (ha : a < 4294967296) (ht : t a = true) :
    Calls Tryz.prog 109 #[.pointer (some ⟨S, 0, none⟩), .int .u32 (a : Int)] w fun e w' => e = .returned (.int .i64 9) ∧ w = w' := by
  have his := spIs_any S W size a t w h ha
  rw [isE_ok (h.2.2.2.1 a ht)] at his
  have hhas := spHas_any S W size a t w h ha
  rw [ht] at hhas
  have HIs := Lib.hid his
  have HHas := Lib.hid hhas
  clear his hhas h ht
  go_enter Tryz.func109, Tryz.ntmps109
  go_wp2_with fail
  refine HIs.out.mono ?_
  rintro e w1 ⟨rfl, rfl⟩
  go_wp2_with fail
  refine HHas.out.mono ?_
  rintro e w1 ⟨rfl, rfl⟩
  go_wp2
  go_ret
  exact ⟨rfl, rfl⟩

theorem SpAt.turned {w w1 w2 : World} {S W size : Nat} {t u : Nat → Bool} {ws : List Nat} (h : SpAt w S W size t) (hu : TOk size u) (hws : WsOk ws size u) {i : Nat} {y : Nat} {x : Int}
    (hW : (w.setCell ⟨W, i, none⟩ (.int .u64 (y : Int))).heap[W]? = some (.cells (ws.map UV).toArray 40 (0, 0)))
    (hx : x = (cntT u size : Int)) (e1 : w1 = w.setCell ⟨W, i, none⟩ (.int .u64 (y : Int))) (e2 : w2 = w1.setCell ⟨S, 2, none⟩ (.int .i64 x)) : SpAt w2 S W size u ∧ Fr (fun k => k = S ∨ k = W) w w2 := by
  subst e1 e2 hx
  obtain ⟨hne, a, b, _, e, _⟩ := h
  have f1 := (Fr.refl (fun k => k = S ∨ k = W) w).set W i (Or.inr rfl) (.int .u64 (y : Int))
  have f2 := f1.set S 2 (Or.inl rfl) (.int .i64 (cntT u size : Int))
  refine ⟨⟨hne, a, b, hu, ?_, ws, hws, ?_⟩, f2⟩
  · have e' : (w.setCell ⟨W, i, none⟩ (.int .u64 (y : Int))).heap[S]? = _ := (((Fr.refl (fun k => k = W) w).set W i rfl (.int .u64 (y : Int))).block S (lt_of_block e) hne).trans e
    exact heap_setCell_same _ S 2 _ _ _ e'
  · exact (((Fr.refl (fun k => k = S) (w.setCell ⟨W, i, none⟩ (.int .u64 (y : Int)))).set S 2 rfl (.int .i64 (cntT u size : Int))).block W (lt_of_block hW) (Ne.symm hne)).trans hW

set_option maxHeartbeats 1000000 in
theorem spMark_ok (S W size a : Nat) (t : Nat → Bool) (w : World) (h : SpAt w S W size t) (hr : 2 ≤ a ∧ a < size) (ht : t a = false) :
    Calls Tryz.prog 109 #[.pointer (some ⟨S, 0, none⟩), .int .u32 (a : Int)] w fun e w' => e = .returned (.int .i64 0) ∧ SpAt w' S W size (updT t a true) ∧ Fr (fun k => k = S ∨ k = W) w w' := by
  have hs := h.2.2.1
  have ha : a < 4294967296 := by omega
  have his := spIs_any S W size a t w h ha
  rw [isE_ok hr] at his
  have hhas := spHas_any S W size a t w h ha
  rw [ht] at hhas
  have hat := spAt_any a w ha
  obtain ⟨pw, hpw⟩ : ∃ pw, pw = 2 ^ (a % 64) := ⟨_, rfl⟩
  obtain ⟨q, hq⟩ : ∃ q, q = a / 64 := ⟨_, rfl⟩
  rw [← hpw, ← hq] at hat
  obtain ⟨ws, hws, hW, c1, c2, cw, fw, fs, hlt⟩ := h.parts hr.2
  have hx := getD_lt hws (a / 64)
  have hws' := hws.mark hr.2
  rw [← hq] at cw hlt hx fw hws'
  rw [← hpw] at hws'
  obtain ⟨x, hxx⟩ : ∃ x, x = ws.getD q 0 := ⟨_, rfl⟩
  rw [← hxx] at cw hx hws'
  have hp : pw < 2 ^ 64 := by rw [hpw]; exact Nat.pow_lt_pow_right (by decide) (Nat.mod_lt _ (by decide))
  have hv := u64_or_nat x pw hx hp
  obtain ⟨z, hz⟩ : ∃ z, z = x ||| pw := ⟨_, rfl⟩
  rw [← hz] at hv hws'
  have hW' := heap_setCell_same w W q _ _ (UV z) hW
  rw [List.setIfInBounds_toArray, ← List.map_set] at hW'
  have hcnt := cntT_mark t a ht size hr.2
  have hle := cntT_le t size
  have cs2 : (w.setCell ⟨W, q, none⟩ (.int .u64 (z : Int))).cell? ⟨S, 2, none⟩ = some (.int .i64 (cntT t size : Int)) := by
    rw [World.cell?_setCell_other _ _ _ _ (fun e => h.1 (by have := congrArg Addr.block e; exact this.symm))]; exact c2
  obtain ⟨n, hn⟩ : ∃ n, n = cntT t size := ⟨_, rfl⟩
  rw [← hn] at c2 cs2 hle hcnt
  have HEnd := Lib.hid (fun w2 (e2 : w2 = (w.setCell ⟨W, q, none⟩ (.int .u64 (z : Int))).setCell ⟨S, 2, none⟩ (.int .i64 ((n : Int) + 1))) => h.turned (h.2.2.2.1.mark hr.1 hr.2) hws' hW' (x := (n : Int) + 1) (by rw [hcnt]; push_cast; rfl) rfl e2)
  have HIs := Lib.hid his
  have HHas := Lib.hid hhas
  have HAt := Lib.hid hat
  have HNe := Lib.hid h.1
  clear his hhas hat hws hpw hq hxx hz hx hp h hr hW hW' hws' ht hcnt hn
  go_enter Tryz.func109, Tryz.ntmps109
  go_wp2_with fail
  refine HIs.out.mono ?_
  rintro e w1 ⟨rfl, rfl⟩
  go_wp2_with fail
  refine HHas.out.mono ?_
  rintro e w1 ⟨rfl, rfl⟩
  go_wp2_with fail
  refine HAt.out.mono ?_
  rintro e w1 ⟨rfl, rfl⟩
  go_wp2
  go_ret
  exact ⟨rfl, HEnd.out _ rfl⟩

set_option maxHeartbeats 1000000 in
theorem spFree_ok (S W size a : Nat) (t : Nat → Bool) (w : World) (h : SpAt w S W size t) (hr : 2 ≤ a ∧ a < size) (ht : t a = true) :
    Calls Tryz.prog 111 #[.pointer (some ⟨S, 0, none⟩), .int .u32 (a : Int)] w fun e w' => e = .returned (.int .i64 0) ∧ SpAt w' S W size (updT t a false) ∧ Fr (fun k => k = S ∨ k = W) w w' := by
  have hs := h.2.2.1
  have ha : a < 4294967296 := by omega
  have his := spIs_any S W size a t w h ha
  rw [isE_ok hr] at his
  have hhas := spHas_any S W size a t w h ha
  rw [ht] at hhas
  have hat := spAt_any a w ha
  obtain ⟨pw, hpw⟩ : ∃ pw, pw = 2 ^ (a % 64) := ⟨_, rfl⟩
  obtain ⟨q, hq⟩ : ∃ q, q = a / 64 := ⟨_, rfl⟩
  rw [← hpw, ← hq] at hat
  obtain ⟨ws, hws, hW, c1, c2, cw, fw, fs, hlt⟩ := h.parts hr.2
  have hx := getD_lt hws (a / 64)
  have hws' := hws.clear hr.2
  rw [← hq] at cw hlt hx fw hws'
  rw [← hpw] at hws'
  obtain ⟨x, hxx⟩ : ∃ x, x = ws.getD q 0 := ⟨_, rfl⟩
  rw [← hxx] at cw hx hws'
  have hp : pw < 2 ^ 64 := by rw [hpw]; exact Nat.pow_lt_pow_right (by decide) (Nat.mod_lt _ (by decide))
  have hv := u64_andNot_nat x pw hx hp
  obtain ⟨z, hz⟩ : ∃ z, z = x &&& (18446744073709551615 - pw) := ⟨_, rfl⟩
  rw [← hz] at hv hws'
  have hW' := heap_setCell_same w W q _ _ (UV z) hW
  rw [List.setIfInBounds_toArray, ← List.map_set] at hW'
  have hcnt := cntT_free t a size ht hr.2
  have hle := cntT_le t size
  have hge : 1 ≤ cntT t size := by omega
  have cs2 : (w.setCell ⟨W, q, none⟩ (.int .u64 (z : Int))).cell? ⟨S, 2, none⟩ = some (.int .i64 (cntT t size : Int)) := by
    rw [World.cell?_setCell_other _ _ _ _ (fun e => h.1 (by have := congrArg Addr.block e; exact this.symm))]; exact c2
  obtain ⟨n, hn⟩ : ∃ n, n = cntT t size := ⟨_, rfl⟩
  rw [← hn] at c2 cs2 hle hge hcnt
  have HEnd := Lib.hid (fun w2 (e2 : w2 = (w.setCell ⟨W, q, none⟩ (.int .u64 (z : Int))).setCell ⟨S, 2, none⟩ (.int .i64 ((n : Int) - 1))) => h.turned (h.2.2.2.1.free a) hws' hW' (x := (n : Int) - 1) (by omega) rfl e2)
  have HIs := Lib.hid his
  have HHas := Lib.hid hhas
  have HAt := Lib.hid hat
  have HNe := Lib.hid h.1
  clear his hhas hat hws hpw hq hxx hz hx hp h hr hW hW' hws' ht hcnt hn
  go_enter Tryz.func111, Tryz.ntmps111
  go_wp2_with fail
  refine HIs.out.mono ?_
  rintro e w1 ⟨rfl, rfl⟩
  go_wp2_with fail
  refine HHas.out.mono ?_
  rintro e w1 ⟨rfl, rfl⟩
  go_wp2_with fail
  refine HAt.out.mono ?_
  rintro e w1 ⟨rfl, rfl⟩
  go_wp2
  go_ret
  exact ⟨rfl, HEnd.out _ rfl⟩

end Go.Proofs.YtkbnkdokcmpcgaaGreatDoor
namespace Go.Proofs.YtkbnkdokcmpcgaaGreatDoor
open Go.RowKit

def Tz (w : World) : Prop := TabAt 0 Lib.deBruijn64tab w
theorem Tz.cells {w w' : World} (h : Tz w) (hc : ∀ p u, p.block = 0 → w.cell? p = some u → w'.cell? p = some u) : Tz w' := fun j hj => hc _ _ rfl (h j hj)
theorem Tz.lt {w : World} (h : Tz w) : 0 < w.heap.size := World.block_lt_of_cell? w ⟨0, 0, none⟩ (h 0 (by decide))
theorem Tz.fr {F : Nat → Prop} {w w' : World} (h : Tz w) (hf : Fr F w w') (hg : ¬ F 0) : Tz w' := h.cells fun p u hp hc => hf.cell hc (by rw [hp]; exact hg)
theorem Tz.below {w w' : World} (h : Tz w) (hf : Below w.heap.size w w') : Tz w' := h.fr (Fr.of_below (S := fun _ => False) hf) id

set_option maxHeartbeats 1000000 in
theorem tz_core (x k idx : Nat) (w : World) (hx0 : ((x : Int) == 0) = false)
    (key : IntKind.u64.wrap (bits BinOp.and IntKind.u64 (x : Int) (IntKind.u64.wrap (-(x : Int))) * 285870213051353865) / 288230376151711744 = (idx : Int))
    (hi : idx < 64) (hk : k < 64) (hcell : w.cell? ⟨0, idx, none⟩ = some (.int .u8 k)) :
    Calls Tryz.prog 108 #[.int .u64 x] w fun e w' => e = .returned (.int .i64 k) ∧ w' = w := by
  go_enter Tryz.func108, Tryz.ntmps108
  go_wp2_with (simp only [key])
  go_ret
  exact ⟨rfl, rfl⟩
theorem tz_zero (w : World) : Calls Tryz.prog 108 #[.int .u64 0] w fun e w' => e = .returned (.int .i64 64) ∧ w' = w := by
  go_enter Tryz.func108, Tryz.ntmps108
  go_wp2
  go_ret
  exact ⟨rfl, rfl⟩
theorem tz_any (x : Nat) (hx : x < 18446744073709551616) (w : World) (hT : Tz w) :
    Calls Tryz.prog 108 #[.int .u64 x] w fun e w' => e = .returned (.int .i64 (Lib.ctz 64 x : Int)) ∧ w = w' := by
  by_cases hx0 : x = 0
  · subst hx0
    exact (tz_zero w).mono fun e w' ⟨h1, h2⟩ => ⟨h1, h2.symm⟩
  · obtain ⟨hlow, hk⟩ := Lib.lowest_bit 64 x hx0 hx
    obtain ⟨hi, htab⟩ := Lib.deBruijn64_at _ hk
    have hcell := hT _ hi
    rw [htab] at hcell
    exact (tz_core x _ _ w (by simp; omega) (tz64_key x _ hx hx0 hlow) hi hk hcell).mono fun e w' ⟨h1, h2⟩ => ⟨h1, h2.symm⟩

theorem info_u64 : (Tryz.prog.info? 40).map (fun i => (i.zero, i.size, i.bytes)) = some (some (.int .u64 0), 1, 8) := by kernel_rfl

set_option maxHeartbeats 1000000 in
theorem spNew_ok (size : Nat) (w : World) (h1 : 16 ≤ size) (h2 : size ≤ 4096) :
    Calls Tryz.prog 66 #[.int .i64 (size : Int)] w fun e w' => ∃ S W, e = .returned (.tuple #[.pointer (some ⟨S, 0, none⟩), .int .i64 0]) ∧ w.heap.size ≤ S ∧ w.heap.size ≤ W ∧ SpAt w' S W size noneT ∧ Below w.heap.size w w' := by
  have b1 : decide ((size : Int) < 16) = false := by simp; omega
  have b2 : decide ((4096 : Int) < (size : Int)) = false := by simp; omega
  obtain ⟨i0, hi, hz0, hz1, hz2⟩ := info_parts info_u64
  have HI := Lib.hid (And.intro hi (And.intro hz0 (And.intro hz1 hz2)))
  clear hi hz0 hz1 hz2
  go_enter Tryz.func66, Tryz.ntmps66
  go_wp2_with (at_make; refine wpList_make_full _ rfl _ _ 205 rfl w.heap.size 40 i0 (.int .u64 0) 1 Tryz.underlying205 HI.out.1 HI.out.2.1 HI.out.2.2.1 .i64 .i64 _ _ ((size + 63) / 64) rfl rfl (by omega) (by omega) (by rw [HI.out.2.2.2]; omega) (by unfold maxLen; omega) (Nat.le_refl _) ?_)
  intro w1 hown hg
  have hb1 := (Below.refl w.heap.size w).grown hg (Nat.le_refl _) (fun k h => by cases h)
  have hrow : w1.heap[w.heap.size]? = some (.cells ((List.replicate ((size + 63) / 64) 0).map UV).toArray 40 (0, 0)) := by
    rcases hown.2 with ⟨e, h0⟩ | ⟨g, cap, cur, e, _, hgg, _, _, hcs, htk⟩
    · simp at e
    · simp only [Value.slice.injEq, Option.some.injEq, Addr.mk.injEq, and_true, true_and] at e
      obtain ⟨rfl, rfl⟩ := e
      rw [hgg]
      congr 2
      apply Array.toList_inj.1
      rw [← List.take_of_length_le (l := cur.toList) (i := (size + 63) / 64 * 1) (by rw [Array.length_toList, hcs]; exact Nat.le_refl _), htk, List.map_replicate]
      have := toList_madeCells_one (.int .u64 0) ((size + 63) / 64)
      exact this
  have HRow := Lib.hid hrow
  have HB1 := Lib.hid hb1
  have hsz1 : w.heap.size < w1.heap.size := lt_of_block hrow
  clear hown hg hb1 hrow
  have hsp : ∀ o, SpAt (w1.alloc (.cells #[.int .i64 (size : Int), .slice (some ⟨w.heap.size, 0, none⟩) ((size + 63) / 64) ((size + 63) / 64), .int .i64 0] 207)) w1.heap.size o size noneT ∨ o ≠ w.heap.size := by
    intro o
    by_cases ho : o = w.heap.size
    · subst ho
      refine Or.inl ⟨by omega, h1, h2, TOk.none size, ?_, _, WsOk.none size, ?_⟩
      · rw [cntT_none]; exact heap_alloc_new _ _
      · exact ((Below.refl _ w1).alloc (Nat.le_refl _) _).block _ hsz1 |>.trans HRow.out
    · exact Or.inr ho
  have HSp := Lib.hid ((hsp w.heap.size).resolve_right (fun h => h rfl))
  clear hsp HRow
  go_wp2
  go_ret2
  exact ⟨_, _, rfl, by omega, Nat.le_refl _, HSp.out, HB1.out.alloc (by omega) _⟩

set_option maxHeartbeats 1000000 in
theorem spLeft_any (S W size : Nat) (t : Nat → Bool) (w : World) (h : SpAt w S W size t) :
    Calls Tryz.prog 75 #[.pointer (some ⟨S, 0, none⟩)] w fun e w' => e = .returned (.int .i64 ((size : Int) - 2 - (cntT t size : Int))) ∧ ∃ n, w' = w.drewN n := by
  obtain ⟨_, h1, h2, _, hS, _⟩ := h
  have c0 : w.cell? ⟨S, 0, none⟩ = some (.int .i64 (size : Int)) := by rw [cell_of_row _ _ 0 _ _ _ hS]; rfl
  have c2 : w.cell? ⟨S, 2, none⟩ = some (.int .i64 (cntT t size : Int)) := by rw [cell_of_row _ _ 2 _ _ _ hS]; rfl
  have hle := cntT_le t size
  obtain ⟨n, hn⟩ : ∃ n, n = cntT t size := ⟨_, rfl⟩
  rw [← hn] at c2 hle ⊢
  clear hS hn
  go_enter Tryz.func75, Tryz.ntmps75
  go_wp2
  go_quiet (fail)
  go_wp2
  go_ret
  exact ⟨rfl, _, rfl⟩

theorem not64 (y : Nat) (hy : y < 2 ^ 64) : bits .xor .u64 IntKind.u64.max (y : Int) = ((18446744073709551615 - y : Nat) : Int) := by
  rw [show (IntKind.u64.max : Int) = ((18446744073709551615 : Nat) : Int) from rfl, u64_xor_nat _ _ (by decide) hy]
  congr 1
  apply Nat.eq_of_testBit_eq
  intro j
  by_cases hj : j < 64
  · rw [Nat.testBit_xor, not64_bit y j hy hj, show (18446744073709551615 : Nat) = 2 ^ 64 - 1 from rfl, Nat.testBit_two_pow_sub_one]; simp [hj]
  · have e1 : ∀ x, x < 2 ^ 64 → x.testBit j = false := fun x hx => Nat.testBit_lt_two_pow (Nat.lt_of_lt_of_le hx (Nat.pow_le_pow_right (by decide) (by omega)))
    rw [Nat.testBit_xor, e1 _ (by decide), e1 _ hy, e1 _ (by omega)]; rfl
theorem i64_or_nat (a b : Nat) (ha : a < 9223372036854775808) (hb : b < 9223372036854775808) : bits .or .i64 (a : Int) (b : Int) = ((a ||| b : Nat) : Int) := by
  have hx : a ||| b < 2 ^ 63 := Nat.or_lt_two_pow (by omega) (by omega)
  show IntKind.i64.wrap ((BitVec.ofInt 64 (a : Int) ||| BitVec.ofInt 64 (b : Int)).toNat : Int) = _
  rw [BitVec.toNat_or, ofInt_u64 a (by omega), ofInt_u64 b (by omega), IntKind.wrap_i64]
  omega
theorem or64 (i k : Nat) (hk : k < 64) : (64 * i) ||| k = 64 * i + k := by
  have := Nat.two_pow_add_eq_or_of_lt (i := 6) hk i
  rw [show (2 : Nat) ^ 6 = 64 from rfl] at this
  rw [← this]

def TkPost (w : World) (S W size : Nat) (t : Nat → Bool) (e : Ending) (w' : World) : Prop :=
  match lowT t size with
  | some a => e = .returned (.tuple #[.int .u32 (a : Int), .int .i64 0]) ∧ SpAt w' S W size (updT t a true) ∧ Fr (fun k => k = S ∨ k = W) w w'
  | none => e = .returned (.tuple #[.int .u32 0, .int .i64 6]) ∧ w = w'
theorem TkPost.some {w : World} {S W size a : Nat} {t : Nat → Bool} {w' : World} (h : lowT t size = some a) (h1 : SpAt w' S W size (updT t a true)) (h2 : Fr (fun k => k = S ∨ k = W) w w') : TkPost w S W size t (.returned (.tuple #[.int .u32 (a : Int), .int .i64 0])) w' := by
  unfold TkPost; rw [h]; exact ⟨rfl, h1, h2⟩
theorem TkPost.none {w : World} {S W size : Nat} {t : Nat → Bool} (h : lowT t size = none) : TkPost w S W size t (.returned (.tuple #[.int .u32 0, .int .i64 6])) w := by
  unfold TkPost; rw [h]; exact ⟨rfl, rfl⟩

set_option maxHeartbeats 2000000 in
theorem spTake_any (S W size : Nat) (t : Nat → Bool) (w : World) (h : SpAt w S W size t) (hT : Tz w) :
    Calls Tryz.prog 63 #[.pointer (some ⟨S, 0, none⟩)] w (TkPost w S W size t) := by
  obtain ⟨ws, hws, hW, c1, -, -, -, -, -⟩ := h.parts (a := 2) (by have := h.2.1; omega)
  have hle := h.2.2.1
  obtain ⟨nw, hnw⟩ : ∃ n, n = (size + 63) / 64 := ⟨_, rfl⟩
  rw [← hnw] at c1
  have hn64 : nw ≤ 64 := by omega
  have HN := Lib.hid hnw
  have HWs := Lib.hid hws
  have HW := Lib.hid hW
  have HH := Lib.hid h
  have HT := Lib.hid hT
  clear hnw hws hW h hT
  go_enter Tryz.func63, Tryz.ntmps63
  go_wp2_with fail
  go_loop [16, 4, 5, 6, 7, 8] (fun ii _ _ _ _ _ => ∃ i : Nat, i ≤ nw ∧ ii = .int .i64 i ∧ ∀ c, 2 ≤ c → c < size → c < 64 * i → t c = true) (fun ii _ _ _ _ _ => nw - (intOf ii).toNat)
  case atStart => exact ⟨0, Nat.zero_le _, rfl, fun c _ _ h => by omega⟩
  case round =>
    obtain ⟨i, hi, rfl, hlow⟩ := hrel
    have HLow := Lib.hid hlow
    clear hlow
    rcases Nat.lt_or_ge i nw with hlt | hge
    · have cw : w.cell? ⟨W, i, none⟩ = some (.int .u64 (ws.getD i 0 : Int)) := by
        rw [cell_of_row _ _ _ _ _ _ HW.out, List.getElem?_toArray, List.getElem?_map, getD_idx (by rw [HWs.out.1, ← HN.out]; exact hlt)]; rfl
      rcases Nat.eq_zero_or_pos i with rfl | h0
      · have hv := u64_or_nat (ws.getD 0 0) 3 (getD_lt HWs.out 0) (by decide)
        rw [show ((3 : Nat) : Int) = 3 from rfl] at hv
        have hyl := wordT_lt HWs.out 0
        have HBit := Lib.hid (fun j => wordT_bit HWs.out (i := 0) (j := j) (by rw [HWs.out.1, ← HN.out]; exact hlt))
        obtain ⟨y, hy⟩ : ∃ y, y = wordT ws 0 := ⟨_, rfl⟩
        rw [← hy] at hyl HBit
        rw [show ws.getD 0 0 ||| 3 = y from hy.symm] at hv
        obtain ⟨x, hx⟩ : ∃ x, x = ws.getD 0 0 := ⟨_, rfl⟩
        rw [← hx] at cw hv
        clear hx hy
        go_wp2_with fail
        have hnot := not64 y hyl
        obtain ⟨z, hz⟩ : ∃ z, z = 18446744073709551615 - y := ⟨_, rfl⟩
        rw [← hz] at hnot
        rw [hnot]
        have htz := tz_any z (by omega) w HT.out
        rcases Nat.eq_zero_or_pos z with h0z | h0z
        · have hk : Lib.ctz 64 z = 64 := by rw [h0z]; rfl
          rw [hk] at htz
          have HFull := Lib.hid (show ∀ c, 2 ≤ c → c < size → c < 64 * (0 + 1) → t c = true from fun c h2 hs hc => by
            rcases Nat.lt_or_ge c (64 * 0) with h | h
            · exact HLow.out c h2 hs h
            · have hb := HBit.out (c - 64 * 0) (by omega)
              have hn := not64_bit y (c - 64 * 0) hyl (by omega)
              rw [← hz, h0z, Nat.zero_testBit] at hn
              rw [show 64 * 0 + (c - 64 * 0) = c by omega, show decide (c < 2) = false by simp; omega, Bool.false_or] at hb
              rw [← hb]; simpa using hn)
          clear h0z hk hnot hz
          refine htz.mono ?_
          rintro e w1 ⟨rfl, rfl⟩
          go_wp2_with fail
          exact ⟨⟨0 + 1, by omega, by go_num, HFull.out⟩, by simp [intOf]; omega⟩
        · obtain ⟨hk64, hk1, hk0⟩ := ctz_spec z (by omega) (by omega)
          obtain ⟨k, hk⟩ : ∃ k, k = Lib.ctz 64 z := ⟨_, rfl⟩
          rw [← hk] at htz hk64 hk1 hk0
          have hbk := HBit.out k hk64
          rw [hz, not64_bit y k hyl hk64] at hk1
          have hyk : y.testBit k = false := by simpa using hk1
          rw [hyk] at hbk
          have HTa := Lib.hid (show 2 ≤ 64 * 0 + k ∧ t (64 * 0 + k) = false by
            have h := (Bool.or_eq_false_iff.1 hbk.symm)
            exact ⟨by simpa using h.1, h.2⟩)
          have HFull := Lib.hid (show ∀ c, 2 ≤ c → c < size → c < 64 * 0 + k → t c = true from fun c h2 hs hc => by
            rcases Nat.lt_or_ge c (64 * 0) with h | h
            · exact HLow.out c h2 hs h
            · have hb := HBit.out (c - 64 * 0) (by omega)
              have hn := not64_bit y (c - 64 * 0) hyl (by omega)
              rw [← hz, hk0 _ (by omega)] at hn
              rw [show 64 * 0 + (c - 64 * 0) = c by omega, show decide (c < 2) = false by simp; omega, Bool.false_or] at hb
              rw [← hb]; simpa using hn)
          clear h0z hk hnot hz hbk hyk hk1 hk0
          refine htz.mono ?_
          rintro e w1 ⟨rfl, rfl⟩
          have hor := i64_or_nat (64 * 0) k (by omega) (by omega)
          rw [or64 0 k hk64] at hor
          obtain ⟨a, ha⟩ : ∃ a, a = 64 * 0 + k := ⟨_, rfl⟩
          have hal : a < 4294967296 := by omega
          rw [← ha] at HTa HFull hor
          have HA := Lib.hid ha
          have HOr := Lib.hid (show bits .or .i64 0 (k : Int) % 4294967296 = (a : Int) by rw [show (0 : Int) = ((64 * 0 : Nat) : Int) by omega, hor]; omega)
          have bk : decide ((k : Int) < 64) = true := by simp; omega
          clear ha hor
          go_wp2_with fail
          rw [HOr.out]
          rcases Nat.lt_or_ge a size with has | has
          · have hl := lowT_some HTa.out.1 has HTa.out.2 (fun c h2 hc => HFull.out c h2 (by omega) hc)
            have HL := Lib.hid hl
            refine (spMark_ok S W size a t w HH.out ⟨HTa.out.1, has⟩ HTa.out.2).mono ?_
            clear hl
            rintro e w2 ⟨rfl, hs2, hf2⟩
            have HS2 := Lib.hid (And.intro hs2 hf2)
            clear hs2 hf2
            go_wp2
            go_ret2
            exact TkPost.some HL.out HS2.out.1 HS2.out.2
          · refine (spMark_bad S W size a t w HH.out hal (by omega)).mono ?_
            rintro e w2 ⟨rfl, rfl⟩
            go_wp2_with fail
            exact ⟨⟨0 + 1, by omega, by go_num, fun c h2 hs hc => HFull.out c h2 hs (by omega)⟩, by simp [intOf]; omega⟩
      · have b0 : ((i : Int) == 0) = false := by simp; omega
        have hyl := wordT_lt HWs.out i
        have HBit := Lib.hid (fun j => wordT_bit HWs.out (i := i) (j := j) (by rw [HWs.out.1, ← HN.out]; exact hlt))
        rw [show wordT ws i = ws.getD i 0 from if_neg (by omega)] at hyl HBit
        obtain ⟨y, hy⟩ : ∃ y, y = ws.getD i 0 := ⟨_, rfl⟩
        rw [← hy] at hyl HBit cw
        clear hy
        go_wp2_with fail
        have hnot := not64 y hyl
        obtain ⟨z, hz⟩ : ∃ z, z = 18446744073709551615 - y := ⟨_, rfl⟩
        rw [← hz] at hnot
        rw [hnot]
        have htz := tz_any z (by omega) w HT.out
        rcases Nat.eq_zero_or_pos z with h0z | h0z
        · have hk : Lib.ctz 64 z = 64 := by rw [h0z]; rfl
          rw [hk] at htz
          have HFull := Lib.hid (show ∀ c, 2 ≤ c → c < size → c < 64 * (i + 1) → t c = true from fun c h2 hs hc => by
            rcases Nat.lt_or_ge c (64 * i) with h | h
            · exact HLow.out c h2 hs h
            · have hb := HBit.out (c - 64 * i) (by omega)
              have hn := not64_bit y (c - 64 * i) hyl (by omega)
              rw [← hz, h0z, Nat.zero_testBit] at hn
              rw [show 64 * i + (c - 64 * i) = c by omega, show decide (c < 2) = false by simp; omega, Bool.false_or] at hb
              rw [← hb]; simpa using hn)
          clear h0z hk hnot hz
          refine htz.mono ?_
          rintro e w1 ⟨rfl, rfl⟩
          go_wp2_with fail
          exact ⟨⟨i + 1, by omega, by go_num, HFull.out⟩, by simp [intOf]; omega⟩
        · obtain ⟨hk64, hk1, hk0⟩ := ctz_spec z (by omega) (by omega)
          obtain ⟨k, hk⟩ : ∃ k, k = Lib.ctz 64 z := ⟨_, rfl⟩
          rw [← hk] at htz hk64 hk1 hk0
          have hbk := HBit.out k hk64
          rw [hz, not64_bit y k hyl hk64] at hk1
          have hyk : y.testBit k = false := by simpa using hk1
          rw [hyk] at hbk
          have HTa := Lib.hid (show 2 ≤ 64 * i + k ∧ t (64 * i + k) = false by
            have h := (Bool.or_eq_false_iff.1 hbk.symm)
            exact ⟨by simpa using h.1, h.2⟩)
          have HFull := Lib.hid (show ∀ c, 2 ≤ c → c < size → c < 64 * i + k → t c = true from fun c h2 hs hc => by
            rcases Nat.lt_or_ge c (64 * i) with h | h
            · exact HLow.out c h2 hs h
            · have hb := HBit.out (c - 64 * i) (by omega)
              have hn := not64_bit y (c - 64 * i) hyl (by omega)
              rw [← hz, hk0 _ (by omega)] at hn
              rw [show 64 * i + (c - 64 * i) = c by omega, show decide (c < 2) = false by simp; omega, Bool.false_or] at hb
              rw [← hb]; simpa using hn)
          clear h0z hk hnot hz hbk hyk hk1 hk0
          refine htz.mono ?_
          rintro e w1 ⟨rfl, rfl⟩
          have hor := i64_or_nat (64 * i) k (by omega) (by omega)
          rw [or64 i k hk64] at hor
          obtain ⟨a, ha⟩ : ∃ a, a = 64 * i + k := ⟨_, rfl⟩
          have hal : a < 4294967296 := by omega
          rw [← ha] at HTa HFull hor
          have HA := Lib.hid ha
          have HOr := Lib.hid (show bits .or .i64 ((i : Int) * 64) (k : Int) % 4294967296 = (a : Int) by rw [show (i : Int) * 64 = ((64 * i : Nat) : Int) by omega, hor]; omega)
          have bk : decide ((k : Int) < 64) = true := by simp; omega
          clear ha hor
          go_wp2_with fail
          rw [HOr.out]
          rcases Nat.lt_or_ge a size with has | has
          · have hl := lowT_some HTa.out.1 has HTa.out.2 (fun c h2 hc => HFull.out c h2 (by omega) hc)
            have HL := Lib.hid hl
            refine (spMark_ok S W size a t w HH.out ⟨HTa.out.1, has⟩ HTa.out.2).mono ?_
            clear hl
            rintro e w2 ⟨rfl, hs2, hf2⟩
            have HS2 := Lib.hid (And.intro hs2 hf2)
            clear hs2 hf2
            go_wp2
            go_ret2
            exact TkPost.some HL.out HS2.out.1 HS2.out.2
          · refine (spMark_bad S W size a t w HH.out hal (by omega)).mono ?_
            rintro e w2 ⟨rfl, rfl⟩
            go_wp2_with fail
            exact ⟨⟨i + 1, by omega, by go_num, fun c h2 hs hc => HFull.out c h2 hs (by omega)⟩, by simp [intOf]; omega⟩
    · obtain rfl : i = nw := by omega
      go_wp2
      go_ret2
      exact TkPost.none (lowT_none fun c h2 hs => HLow.out c h2 hs (by have := HN.out; omega))

theorem zeroCells_u64 (n : Nat) : (Builtin.zeroCells #[.int .u64 0] n).toList = (List.replicate n 0).map UV := by
  unfold Builtin.zeroCells
  rw [Array.toList_map, List.map_replicate]
  apply List.ext_getElem?
  intro i
  rw [List.getElem?_map, List.getElem?_replicate]
  by_cases h : i < n
  · rw [if_pos h, Array.getElem?_toList, Array.getElem?_range, if_pos (by simpa using h)]
    simp [UV, Nat.mod_one]
  · rw [if_neg h, Array.getElem?_toList, Array.getElem?_range, if_neg (by simpa using h)]; rfl
theorem clear_u64 {ops : Array Oper} {rest : List Oper} {o : Oper} {a : Act} {w : World} {Q : Exit → Act → World → Prop} (hgd : o.guard = none) (x : Operand)
    (ho : o.op = .call { callee := .builtin .clear, args := #[x], argTypes := #[205] }) {W n c : Nat} (hx : a.eval x = .slice (some ⟨W, 0, none⟩) n c) (hn : 0 < n) {cur : Array Value} {t : TypeId} (hg : w.heap[W]? = some (.cells cur t (0, 0))) (hs : cur.size = n)
    (hK : ∀ w', w'.heap[W]? = some (.cells ((List.replicate n 0).map UV).toArray t (0, 0)) → Fr (fun k => k = W) w w' → wpList Tryz.prog ops Q rest (a.put o.dst (.tuple #[])) w') : wpList Tryz.prog ops Q (o :: rest) a w := by
  obtain ⟨i0, hi, hz0, hz1, hz2⟩ := info_parts info_u64
  refine wpList_plain hgd fun K hKK => ?_
  have hz : (zeroValue 40).run Tryz.prog w = .ok (.int .u64 0) w := by simp [zeroValue, typeInfo, hi, hz0]
  have hst := run_storeCells_at (P := Tryz.prog) W 0 t ((List.replicate n 0).map UV) 0 cur w hg (by simp [hs]) (by intro v hv; obtain ⟨_, _, rfl⟩ := List.mem_map.1 hv; rfl)
  have e : (cur.toList.take (0 + 0) ++ (List.replicate n 0).map UV ++ cur.toList.drop (0 + 0 + ((List.replicate n 0).map UV).length)) = (List.replicate n 0).map UV := by
    rw [List.length_map, List.length_replicate, List.drop_of_length_le (by simp [hs])]; simp
  rw [e] at hst
  have hr : ∀ ty, (Builtin.clear_ #[205] ty #[.slice (some ⟨W, 0, none⟩) n c]).run Tryz.prog w = .ok (.tuple #[]) (w.setRow W ((List.replicate n 0).map UV).toArray) := by
    intro ty
    unfold Builtin.clear_
    obtain ⟨n', rfl⟩ : ∃ m, n = m + 1 := ⟨n - 1, by omega⟩
    simp only [List.getElem?_toArray, List.getElem?_cons_zero, Sem.run_bind, run_underlying Tryz.underlying205, Result.andThen, hz, Value.cells, zeroCells_u64, hst]
    rfl
  unfold Oper.wp execOp
  simp only [ho, resolve, invoke, builtin, Sem.run_bind, Sem.run_pure, Result.andThen_ok, List.map_toArray, List.map_cons, List.map_nil, hx, hr]
  refine hKK _ _ (hK _ ?_ ?_)
  · exact setRow_heap w W _ _ t _ hg
  · exact ⟨rfl, rfl, rfl, by simp, fun k _ hk => setRow_other w W k _ hk⟩

end Go.Proofs.YtkbnkdokcmpcgaaGreatDoor
namespace Go.Proofs.YtkbnkdokcmpcgaaGreatDoor
open Go.ChangeShapes Go.WideShapes Go.ChangeAt Go.RowKit

noncomputable def firstCellsOf : Array Value := (Go.Pinned.utf8FirstZ.map fun n : Nat => Value.int .u8 (n : Int)).toArray
noncomputable def acceptCellsOf : Array Value := ([128, 191, 160, 191, 128, 159, 144, 191, 128, 143, 0, 0, 0, 0, 0, 0, 0, 0, 0, 0, 0, 0, 0, 0, 0, 0, 0, 0, 0, 0, 0, 0].map fun n : Nat => Value.int .u8 (n : Int)).toArray
noncomputable def bitCellsOf : Array Value := (Lib.deBruijn64tab.map fun n : Nat => Value.int .u8 (n : Int)).toArray

def putCells (cs : Array Value) : Obj → Obj
  | .cells _ t fr => .cells cs t fr
  | o => o

noncomputable def laidWorld (os : Os) : World :=
  { World.holding Tryz.prog os ⟨#[], #[], []⟩ with heap := (((World.holding Tryz.prog os ⟨#[], #[], []⟩).heap.modify 2 (putCells firstCellsOf)).modify 3 (putCells acceptCellsOf)).modify 0 (putCells bitCellsOf) }

theorem tz_of_laid {W : World} {rest : List (String × DataW Unit)} (h : laidMetH Tryz.prog (("math/bits.deBruijn64tab", Rows.laid_math_bits_deBruijn64tab) :: rest) W) (hr : (rest.all fun x => x.2.handleName?.isNone) = true) : Tz W := by
  rw [MakeChecks.laidMetH_plain _ _ _ (by rw [List.all_cons, hr]; rfl)] at h
  have e : (Rows.laid_math_bits_deBruijn64tab : DataW Unit) = Lib.tabData .u8 (Lib.deBruijn64tab.map fun n : Nat => (n : Int)) := rfl
  rw [e] at h
  have ht := Lib.tabIs_of_head (P := Tryz.prog) (W := W) (g := 0) (t := 249) (e := 5) (n := 64) (by kernel_rfl) (by kernel_rfl) Tryz.underlying249 Tryz.underlying5 (by kernel_rfl) (by kernel_rfl) h
  intro j hj
  have h2 := ht.cell (g := 0) (by kernel_rfl) j (by simpa using hj)
  rw [h2]
  simp [List.getD_eq_getElem?_getD, List.getElem?_map, List.getElem?_eq_getElem hj]

end Go.Proofs.YtkbnkdokcmpcgaaGreatDoor
