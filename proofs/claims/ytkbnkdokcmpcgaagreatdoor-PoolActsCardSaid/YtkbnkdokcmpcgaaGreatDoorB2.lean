/- Walks of num.Put and num.Get. A region that draws its order, whose operations read and whose callees leave all as it was, but for the last ones: the first ones by the cheap walk, the last in the order of the text. Over any program. Walk: sha's spread. Walk: the state behind a block. Walks: slices.Clone over bytes; codec.Writer. -/
import Derived.Test.YtkbnkdokcmpcgaaGreatDoorB0
import Derived.Test.YtkbnkdokcmpcgaaGreatDoorB1
import Derived.StillTailTactics
import Derived.Laws.CopyOwn
namespace Go.Proofs.YtkbnkdokcmpcgaaGreatDoor
open Go.RowKit

theorem shr_int (x n : Nat) : (x : Int) / 2 ^ (8 * n) = ((x / 256 ^ n : Nat) : Int) := by
  have e : (256 : Nat) ^ n = 2 ^ (8 * n) := by rw [Nat.pow_mul]
  rw [e, Int.natCast_ediv, Int.natCast_pow]; rfl
theorem shr_fit (x n : Nat) (h : x < 256 ^ n) : ¬ 0 < (x : Int) / 2 ^ (8 * n) := by
  rw [shr_int, Nat.div_eq_of_lt h]; simp
theorem u8_of (x d : Nat) : Value.int .u8 ((x : Int) / 2 ^ (8 * d) % 256) = Bv (UInt8.ofNat (x / 256 ^ d)) := by
  rw [shr_int]
  simp only [Bv, UInt8.toNat_ofNat']
  rfl

set_option maxRecDepth 100000 in
set_option maxHeartbeats 400000 in
theorem numPut_ok (x n : Nat) (w : World) (h8 : n ≤ 8) (hfit : n = 8 ∨ x < 256 ^ n) :
    Calls Tryz.prog 126 #[.int .u64 (x : Int), .int .i64 (n : Int)] w fun e w' => ∃ aa cc, e = .returned (.tuple #[.slice aa n cc, .int .i64 0]) ∧
      w'.ownsRow w.heap.size 5 1 (.slice aa n cc) n ((putB x n).map Bv) ∧ Below w.heap.size w w' := by
  have b1 : decide ((n : Int) < 0) = false := by simp
  have b2 : decide ((8 : Int) < (n : Int)) = false := by simp; omega
  have b3 : n < 8 → ¬ 0 < (x : Int) / 2 ^ (8 * n) := fun h => shr_fit x n (hfit.resolve_left (by omega))
  clear hfit
  have B3 := Lib.hid b3
  clear b3
  rcases Nat.lt_or_ge n 8 with h9 | h9
  all_goals
    have b3 := B3.out
    go_enter Tryz.func126, Tryz.ntmps126
    go_wp2_with (at_make; refine make_u8 rfl (.tmp 26) (.tmp 26) rfl n rfl rfl (by omega) ?_)
    intro w1 hown hb
    have HO := Lib.hid hown
    have HB := Lib.hid hb
    clear hown hb
    go_wp2_with fail
    go_loopw [30] (fun i wr => ∃ k : Nat, k ≤ n ∧ i = .int .i64 k ∧ wr.ownsRow w.heap.size 5 1 (.slice (some ⟨w.heap.size, 0, none⟩) n n) n ((putTo x n k).map Bv) ∧ Below w.heap.size w wr) (fun i _ => n - (intOf i).toNat)
    case atStart => exact ⟨0, Nat.zero_le _, rfl, by rw [putTo_zero]; simpa using HO.out, HB.out⟩
    case round =>
      obtain ⟨k, hk, rfl, hown, hb⟩ := hrel
      rcases Nat.lt_or_ge k n with hlt | hge
      · have hc : wr.cell? ⟨w.heap.size, k, none⟩ = some (Bv (if k < k then UInt8.ofNat (x / 256 ^ (n - 1 - k)) else 0)) := by
          rw [hown.cellAt k (by omega)]; simp [putTo, hlt]
        have hf := hown.frozenAt k
        have HO := Lib.hid hown
        have HB := Lib.hid hb
        clear hown hb
        go_wp2
        go_roundw
        case rel =>
          refine ⟨k + 1, by omega, by go_num, ?_, HB.out.setCell (Nat.le_refl _) _⟩
          have h2 := (HO.out.stored k (.int .u8 ((x : Int) / 2 ^ (8 * (n - 1 - k)) % 256))).1
          rw [u8_of x (n - 1 - k), ← List.map_set, putTo_succ x n k hlt] at h2
          rw [u8_of x (n - 1 - k)]
          exact h2
        case measure => simp [intOf]; omega
      · obtain rfl : k = n := by omega
        have HO := Lib.hid hown
        have HB := Lib.hid hb
        clear hown hb
        go_wp2
        go_ret2
        exact ⟨_, _, rfl, by rw [← putTo_all]; exact HO.out, HB.out⟩

theorem getB_snoc (l : List UInt8) (k : Nat) (h : k < l.length) : getB (l.take (k + 1)) = getB (l.take k) * 256 + l[k].toNat := by
  rw [List.take_succ_eq_append_getElem h]; unfold getB; rw [List.foldl_append]; rfl
theorem getB_step (l : List UInt8) (k : Nat) (h : k < l.length) (h8 : l.length ≤ 8) :
    Value.int .u64 (bits .or .u64 (IntKind.u64.wrap ((getB (l.take k) : Int) * 256)) ((l[k].toNat : Nat) : Int)) = .int .u64 (getB (l.take (k + 1)) : Int) := by
  have h1 := getB_lt (l.take k)
  have h2 : (256 : Nat) ^ (l.take k).length ≤ 256 ^ 7 := Nat.pow_le_pow_right (by decide) (by simp; omega)
  have h3 : (256 : Nat) ^ 7 = 72057594037927936 := by decide
  have h4 := l[k].toNat_lt
  rw [getB_snoc l k h, IntKind.wrap_u64, show ((getB (l.take k) : Int) * 256) % 18446744073709551616 = ((getB (l.take k) * 256 : Nat) : Int) by omega, u64_or_nat _ _ (by omega) (by omega),
    nat_join 8 _ _ (by omega) (by omega)]

set_option maxHeartbeats 400000 in
theorem numGet_ok (v : Value) (l : List UInt8) (n : Nat) (w : World) (hv : Sl w 1 v n (l.map Bv)) (h8 : n ≤ 8) :
    Calls Tryz.prog 149 #[v] w fun e w' => e = .returned (.tuple #[.int .u64 (getB l : Int), .int .i64 0]) ∧ w = w' := by
  obtain ⟨hl, a, cap, rfl, hlc, hnil, hc⟩ := hv
  have hl' : l.length = n := by simpa using hl
  have HC := Lib.hid hc
  clear hl hc hnil
  go_enter Tryz.func149, Tryz.ntmps149
  go_wp2
  go_loop [2, 11] (fun x i => ∃ k : Nat, k ≤ n ∧ i = .int .i64 k ∧ x = .int .u64 (getB (l.take k) : Int)) (fun _ i => n - (intOf i).toNat)
  case atStart => exact ⟨0, Nat.zero_le _, rfl, by simp [getB]⟩
  case round =>
    obtain ⟨k, hk, rfl, rfl⟩ := hrel
    rcases Nat.lt_or_ge k n with hlt | hge
    · obtain ⟨b, o, rfl, hc⟩ := HC.out k (Bv (l[k]'(by omega))) (by simp [show k < l.length by omega])
      have hb := (l[k]'(by omega)).toNat_lt
      unfold Bv at hc
      have S := Lib.hid (getB_step l k (by omega) (by omega))
      go_wp2
      go_round
      case rel => exact ⟨k + 1, by omega, by go_num, S.out⟩
      case measure => simp [intOf]; omega
    · obtain rfl : k = n := by omega
      have e : l.take k = l := List.take_of_length_le (by omega)
      have E := Lib.hid e
      clear e hl'
      go_wp2
      go_ret2
      rw [E.out]
      exact ⟨rfl, rfl⟩
end Go.Proofs.YtkbnkdokcmpcgaaGreatDoor
namespace Go.Proofs.YtkbnkdokcmpcgaaGreatDoor
open Go.RowKit

section
variable {P : Program} {ops : Array Oper}

theorem still_of_quiet {o : Oper} {a : Act} {w : World} {K : Act → Prop} (h : o.quiet P a (fun w' => w' = w) K) : o.still P a w K := by
  obtain ⟨v, h1, h2⟩ := h
  have h3 := h1 w rfl
  unfold Oper.quietAt at h3
  unfold Oper.still
  generalize (execOp a.eval o).run P w = r at *
  cases r with
  | ok n w' =>
    cases n <;> simp only [Oper.quietUpon] at h3 <;> simp only [Oper.stillUpon]
    case value u => obtain ⟨e1, e2⟩ := h3; exact ⟨e1, by rw [e2]; exact h2⟩
    case skip => obtain ⟨e1, e2⟩ := h3; exact ⟨e1, by rw [← e2]; exact h2⟩
    case enter f args => obtain ⟨e1, hc⟩ := h3; exact ⟨e1, v, hc, h2⟩
  | halt x w' => simp only [Oper.quietUpon] at h3
theorem wpStill_of_quiet {w : World} {Q : Act → Prop} : ∀ (l : List Oper) (a : Act), wpQuiet P ops (fun w' => w' = w) Q l a → wpStill P ops w Q l a
  | [], _, h => h
  | o :: l, a, h => by
    unfold wpQuiet at h
    unfold wpStill
    split
    · rename_i hw
      rw [if_pos hw] at h
      exact Oper.still_mono (fun a' => wpStill_of_quiet l a') (still_of_quiet h)
    · rename_i hw
      rw [if_neg hw] at h
      exact wpStill_of_quiet l _ h

theorem wp_region_quiet_tail {id : Nat} {Q : Exit → Act → World → Prop} {a : Act} {w : World} {l : List Oper} (n : Nat) (hm : P.follows .mixedOrders = true) (hB : Region.lexTailB .any l.toArray n = true)
    (h : wpQuiet P l.toArray (fun w' => w' = w.drew) (fun a' => wpList P l.toArray Q (l.drop n) a' w.drew) (l.take n) a) : (Code.region id l.toArray true).wp P Q a w :=
  wp_region_still_tail n hm hB (wpStill_of_quiet _ _ h)
theorem quiet_same {f : FuncId} {args : Array Value} {v : Value} (h : ∀ w, Calls P f args w fun e w' => e = .returned v ∧ w = w') (w' : World) : Calls P f args w' fun e w'' => e = .returned v ∧ w'' = w' :=
  (h w').mono fun _ _ ⟨h1, h2⟩ => ⟨h1, h2.symm⟩
end

/- The same over a class of worlds: what stands ahead of the last operations may lay memory. -/
section
variable {P : Program} {ops : Array Oper} {md : Region.Mode} {C : World → Prop}

def wpHead (P : Program) (md : Region.Mode) (ops : Array Oper) (C : World → Prop) (n : Nat) (L : Array Bool → Act → Prop) : Nat → Array Bool → Act → Prop
  | 0, listed, a => L listed a
  | f + 1, listed, a => (∃ i, i ∈ Region.ready md ops listed) ∧ ∀ i ∈ Region.ready md ops listed, i < n ∧ qOp P ops C i (wpHead P md ops C n L f (listed.setIfInBounds i true)) a

theorem wpAny_of_wpHead {n g : Nat} {L : Array Bool → Act → Prop} {Q' : Exit → Act → World → Prop} (hL : ∀ listed a w, C w → L listed a → wpAny P md ops Q' g listed a w) :
    ∀ (f : Nat) (listed : Array Bool) (a : Act) (w : World), C w → wpHead P md ops C n L f listed a → wpAny P md ops Q' (f + g) listed a w
  | 0, listed, a, w, hw, h => by rw [Nat.zero_add]; exact hL _ _ _ hw h
  | f + 1, listed, a, w, hw, h => by
    have e : f + 1 + g = (f + g) + 1 := by omega
    rw [e]
    refine ⟨fun h0 => ?_, fun i hi => wpOp_of_qOp hw (fun a' w' hw' h' => wpAny_of_wpHead hL f _ a' w' hw' h') (h.2 i hi).2⟩
    obtain ⟨i, hi⟩ := h.1
    rw [h0] at hi
    cases hi

theorem wpHead_first {n i : Nat} {oi : Oper} {v : Value} {L : Array Bool → Act → Prop} (hi : ops[i]? = some oi) (hsel : ∀ (j : Nat) (o : Oper) cs b, ops[j]? = some o → o.op ≠ .select cs b)
    (hs : Region.sinkB md ops n = true) (hc : Region.chainB md ops n = true) (hn : n < ops.size) (hin : i < n) (hdone : ∀ listed a, L listed a → ∀ j ∈ Region.ready md ops listed, n ≤ j) :
    ∀ (f : Nat) (listed : Array Bool) (a : Act), HeadInv md ops n listed →
      (∀ j oj, ops[j]? = some oj → j ≠ i → listed.getD j true = false → (∀ e ∈ oj.after, Region.binds md e = true → e.on ≠ i) → oi.apart ops oj = true) →
      i ∈ Region.ready md ops listed → YieldsIn P ops C oi v a → wpHead P md ops C n L f (listed.setIfInBounds i true) (a.put oi.dst v) → wpHead P md ops C n L (f + 1) listed a := by
  intro f
  induction f with
  | zero =>
    intro listed a inv _ hr hy H
    refine ⟨⟨i, hr⟩, fun j hj => ?_⟩
    have hjn : j < n := Nat.lt_of_not_le fun h => tail_waits hs hc hn inv _ i rfl hin (mem_ready.1 hr).1 j h hj
    by_cases hji : j = i
    · subst hji; exact ⟨hjn, hy.qOp hi H⟩
    · have := hdone _ _ H j (ready_mono hj hji)
      omega
  | succ f ih =>
    intro listed a inv hfree hr hy H
    have hun := (mem_ready.1 hr).1
    refine ⟨⟨i, hr⟩, fun j hj => ?_⟩
    have hjn : j < n := Nat.lt_of_not_le fun h => tail_waits hs hc hn inv _ i rfl hin hun j h hj
    by_cases hji : j = i
    · subst hji; exact ⟨hjn, hy.qOp hi H⟩
    · obtain ⟨hjun, oj, hoj, hall⟩ := mem_ready.1 hj
      have hnot : ∀ e ∈ oj.after, Region.binds md e = true → e.on ≠ i := by
        intro e he hb heq
        have h1 := hall e he hb
        rw [heq, getD_both hun] at h1
        cases h1
      have h2 := qOp_put hoj (hfree j oj hoj hji hjun hnot) (fun cs b => hsel i oi cs b hi) (fun cs b => hsel j oj cs b hoj) hy (H.2 j (ready_mono hj hji)).2
      refine ⟨hjn, qOp_mono (fun a' h3 => ih (listed.setIfInBounds j true) a' (inv.set hj hjn) ?_ (ready_mono hr (Ne.symm hji)) h3.1 ?_) h2⟩
      · intro k ok hk hki hku hno
        refine hfree k ok hk hki ?_ hno
        by_cases hjk : j = k
        · subst hjk; exact hjun
        · rwa [getD_set_ne true hjk] at hku
      · rw [Array.setIfInBounds_comm _ _ hji]
        exact h3.2

theorem wpHead_lex {n g : Nat} {Lq : Act → Prop} (hsel : Region.noSelect ops = true) (hs : Region.sinkB md ops n = true) (hc : Region.chainB md ops n = true) (hn : n < ops.size) :
    ∀ (l : List Oper) (k : Nat) (listed : Array Bool) (a : Act), (∀ j, j < l.length → l[j]? = ops[k + j]?) → k + l.length = n → HeadInv md ops n listed →
    Region.lexHead md ops g l.length k listed = true → wpQuiet P ops C Lq l a →
    wpHead P md ops C n (fun listed' a' => Region.seqB md ops g n listed' = true ∧ Lq a') l.length listed a
  | [], k, listed, a, _, hk, _, hB, h => by
    obtain rfl : k = n := by simpa using hk
    exact ⟨by simpa [Region.lexHead] using hB, h⟩
  | o :: l, k, listed, a, hl, hk, inv, hB, h => by
    have h0 : ops[k]? = some o := by simpa using (hl 0 (by simp)).symm
    simp only [List.length_cons, Region.lexHead, Bool.and_eq_true] at hB
    simp only [List.length_cons] at hk
    have hkn : k < n := by omega
    have hr : k ∈ Region.ready md ops listed := by simpa using hB.1.1
    have hq : qOp P ops C k (wpQuiet P ops C Lq l) a := by unfold qOp; simp only [h0]; exact h
    obtain ⟨v, hy, hK⟩ := yieldsIn_of_qOp h0 hq
    refine wpHead_first h0 (Region.noSelect_spec hsel) hs hc hn hkn (fun listed' a' hL => seqB_ready hL.1) l.length listed a inv (Region.free_spec h0 hB.1.2) hr hy ?_
    exact wpHead_lex hsel hs hc hn l (k + 1) _ _ (fun j hj => by have := hl (j + 1) (by simp; omega); simpa [Nat.add_assoc, Nat.add_comm 1 j] using this) (by omega) (inv.set hr hkn) hB.2 hK

theorem wpAny_class_tail {Q : Exit → Act → World → Prop} {a : Act} {w : World} {l : List Oper} (n : Nat) (hB : Region.lexTailB .any l.toArray n = true) (hC : C w)
    (h : wpQuiet P l.toArray C (fun a' => ∀ w', C w' → wpList P l.toArray Q (l.drop n) a' w') (l.take n) a) : wpAny P .any l.toArray Q l.toArray.size (Array.replicate l.toArray.size false) a w := by
  simp only [Region.lexTailB, Bool.and_eq_true, decide_eq_true_eq] at hB
  obtain ⟨⟨⟨⟨hsel, hn⟩, hs⟩, hc⟩, hlex⟩ := hB
  have htl : (l.take n).length = n := by simp at hn; simp; omega
  have hdl : (l.drop n).length = l.toArray.size - n := by simp
  have inv0 : HeadInv .any l.toArray n (Array.replicate l.toArray.size false) :=
    ⟨by simp, fun j oj _ hl => (by rw [getD_replicate_false] at hl; cases hl), fun t _ ht => getD_in (by simpa using ht) (getD_replicate_false _ _)⟩
  have H := wpHead_lex (md := .any) (g := l.toArray.size - n) hsel hs hc hn (l.take n) 0 _ a (fun j hj => by
    rw [htl] at hj
    simp [hj]) (by simpa using htl) inv0 (by rw [htl]; exact hlex) h
  have h2 := wpAny_of_wpHead (Q' := Q) (g := l.toArray.size - n) (fun listed a' w' hw' hL => by
    have h3 := wpAny_of_seq (md := .any) (Q' := Q) (l.drop n) n listed a' w' (fun j => by simp [List.getElem?_drop]) (by rw [hdl]; exact hL.1) (hL.2 w' hw')
    rwa [hdl] at h3) _ _ _ _ hC H
  rw [htl, show n + (l.toArray.size - n) = l.toArray.size by omega] at h2
  exact h2
theorem wp_region_class_tail {id : Nat} {Q : Exit → Act → World → Prop} {a : Act} {w : World} {l : List Oper} (n : Nat) (hm : P.follows .mixedOrders = true) (hB : Region.lexTailB .any l.toArray n = true) (hC : C { w with drawn := w.drawn + 1 })
    (h : wpQuiet P l.toArray C (fun a' => ∀ w', C w' → wpList P l.toArray Q (l.drop n) a' w') (l.take n) a) : (Code.region id l.toArray true).wp P Q a w :=
  wp_region_any hm (wpAny_class_tail n hB hC h)
theorem wpAny_list {Q : Exit → Act → World → Prop} {fuel : Nat} {listed : Array Bool} {a : Act} {w : World} (n : Nat) (hf : fuel = (ops.toList.drop n).length) (hB : Region.seqB md ops fuel n listed = true)
    (h : wpList P ops Q (ops.toList.drop n) a w) : wpAny P md ops Q fuel listed a w := by
  subst hf
  exact wpAny_of_seq _ n listed a w (fun j => by simp) hB h
end

end Go.Proofs.YtkbnkdokcmpcgaaGreatDoor
namespace Go.Proofs.YtkbnkdokcmpcgaaGreatDoor
open Go.RowKit

theorem wnext_val {x0 x1 x9 x14 : Nat} (b1 : x1 < 4294967296) (b14 : x14 < 4294967296) :
    (Value.int .u32 (((x0 : Int) + (x9 : Int) + bits .xor .u32 (bits .xor .u32 (rotl x1 25 : Int) (rotl x1 14 : Int)) ((x1 : Int) / 8) + bits .xor .u32 (bits .xor .u32 (rotl x14 15 : Int) (rotl x14 13 : Int)) ((x14 : Int) / 1024)) % 4294967296)) =
      U32 ((x0 + x9 + smallN x1 7 18 3 + smallN x14 17 19 10) % 4294967296) := by
  have h1 : (x1 : Int) / 8 = ((x1 / 8 : Nat) : Int) := by omega
  have h2 : (x14 : Int) / 1024 = ((x14 / 1024 : Nat) : Int) := by omega
  rw [h1, h2, u32_xor_nat _ _ (rotl_lt _ b1) (rotl_lt _ b1), u32_xor_nat _ _ (xor_lt32 (rotl_lt _ b1) (rotl_lt _ b1)) (by omega), u32_xor_nat _ _ (rotl_lt _ b14) (rotl_lt _ b14), u32_xor_nat _ _ (xor_lt32 (rotl_lt _ b14) (rotl_lt _ b14)) (by omega)]
  unfold U32 smallN
  congr 1
theorem info_w64' : (Tryz.prog.info? 226).map (·.size) = some 64 := by kernel_rfl

theorem Fr_drewN' (S : Nat → Prop) (w : World) (n : Nat) : Fr S w (w.drewN n) := ⟨rfl, rfl, rfl, Nat.le_refl _, fun _ _ _ => rfl⟩
def SpreadRel (w0 : World) (R : Nat) (l : List Nat) (wr : World) : Prop := wr.heap[R]? = some (.cells (rowZ 64 l).toArray 226 (0, 0)) ∧ Fr (fun k => k = R) w0 wr

set_option maxRecDepth 100000 in
set_option maxHeartbeats 8000000 in
theorem spread_any (v : Value) (b : List UInt8) (w : World) (h : Sl w 1 v 64 (b.map Bv)) :
    Calls Tryz.prog 161 #[v] w fun e w' => e = .returned (.agg ((spreadL b 64).map U32).toArray) ∧ Below w.heap.size w w' := by
  have hl : b.length = 64 := by simpa using h.1
  obtain ⟨a, cap, rfl, _⟩ := h.len
  have HS := Lib.hid (fun (w' : World) (hh : Below w.heap.size w w') => (h.below hh : Sl w' 1 (.slice a 64 cap) 64 (b.map Bv)))
  clear h
  go_enter Tryz.func161, Tryz.ntmps161
  go_wp2_with fail
  have hR0 : SpreadRel (w.alloc (.cells (rowZ 64 []).toArray 226)) w.heap.size (spreadL b 0) (w.alloc (.cells (rowZ 64 []).toArray 226)) := ⟨heap_alloc_new _ _, Fr.refl _ _⟩
  have hB0 : Below w.heap.size w (w.alloc (.cells (rowZ 64 []).toArray 226)) := (Below.refl _ w).alloc (Nat.le_refl _) _
  obtain ⟨w0, hw0⟩ : ∃ w0, w0 = w.alloc (.cells (rowZ 64 []).toArray 226) := ⟨_, rfl⟩
  have HR0 := Lib.hid (show SpreadRel w0 w.heap.size (spreadL b 0) (w.alloc (.cells (rowZ 64 []).toArray 226)) by rw [hw0]; exact hR0)
  have HB0 := Lib.hid (show Below w.heap.size w w0 by rw [hw0]; exact hB0)
  clear hR0 hB0 hw0
  go_loopw [9, 3, 4, 5] (fun i _ _ _ wr => ∃ k : Nat, k ≤ 16 ∧ i = .int .i64 k ∧ SpreadRel w0 w.heap.size (spreadL b k) wr) (fun i _ _ _ _ => 16 - (intOf i).toNat)
  case atStart => exact ⟨0, Nat.zero_le _, rfl, HR0.out⟩
  case round =>
    obtain ⟨k, hk, rfl, hrow, hfr⟩ := hrel
    rcases Nat.lt_or_ge k 16 with hlt | hge
    · have hsl := HS.out wr (HB0.out.trans (hfr.below HB0.out.size (fun j hj => by omega)))
      obtain ⟨A, C, q, hA⟩ := cut_u8 hsl (lo := 4 * k) (hi := 4 * k + 4) (by omega) (by omega)
      have HRow := Lib.hid hrow
      have HFr := Lib.hid hfr
      have e4 : 4 * k + 4 - 4 * k = 4 := by omega
      rw [e4] at q hA
      have ec : ((4 * k : Nat) : Int) = 4 * (k : Int) := by omega
      have ec2 : ((4 * k + 4 : Nat) : Int) = 4 * (k : Int) + 4 := by omega
      rw [ec, ec2] at q
      have HA := Lib.hid hA
      clear hrow hfr hsl e4 ec ec2 hA
      have hx : spreadL b (k + 1) = spreadL b k ++ [getB ((b.drop (4 * k)).take 4)] := by
        show spreadL b k ++ [if k < 16 then getB ((b.drop (4 * k)).take 4) else wNext (spreadL b k) k] = _
        rw [if_pos hlt]
      have hx32 : getB ((b.drop (4 * k)).take 4) < 4294967296 := spreadL_lt b (k + 1) _ (by rw [hx]; simp)
      have HX := Lib.hid hx
      obtain ⟨X, hX⟩ : ∃ X, X = getB ((b.drop (4 * k)).take 4) := ⟨_, rfl⟩
      have HGet := Lib.hid (numGet_ok (.slice A 4 C) ((b.drop (4 * k)).take 4) 4 wr HA.out (by omega))
      rw [← hX] at HX HGet hx32
      have HLk := Lib.hid (spreadL_length b k)
      clear hx hX
      go_wp2_with fail
      refine HGet.out.mono ?_
      rintro e w2 ⟨rfl, rfl⟩
      have c0 : wr.cell? ⟨w.heap.size, k, none⟩ = some (.int .u32 0) := by
        rw [cell_of_row _ _ k _ _ _ HRow.out, List.getElem?_toArray]
        have h1 := rowZ_get 64 (spreadL b k) k (by rw [HLk.out]; omega) (by omega)
        rw [h1, List.getD_eq_getElem?_getD, List.getElem?_eq_none (by rw [HLk.out]; exact Nat.le_refl _)]
        rfl
      have f0 : wr.frozen? ⟨w.heap.size, k, none⟩ = false := by simp [World.frozen?, HRow.out]
      go_wp2
      go_roundw
      case rel =>
        refine ⟨k + 1, by omega, by go_num, ?_, HFr.out.set _ _ rfl _⟩
        have h1 := heap_setCell_same _ _ k _ _ (U32 X) HRow.out
        rw [HX.out]
        rw [List.setIfInBounds_toArray] at h1
        have h2 := rowZ_set 64 (spreadL b k) X (by rw [HLk.out]; omega)
        rw [HLk.out] at h2
        rw [h2] at h1
        exact h1
      case measure => simp [intOf]; omega
    · obtain rfl : k = 16 := by omega
      have HR16 := Lib.hid (show SpreadRel w0 w.heap.size (spreadL b 16) wr from ⟨hrow, hfr⟩)
      clear hrow hfr hk hge
      go_wp2_with fail
      obtain ⟨wo, hwo⟩ : ∃ wo : World, wo = wr := ⟨_, rfl⟩
      rw [← hwo] at HR16 ⊢
      clear hwo
      go_loopw [6, 7, 8] (fun i _ _ wr => ∃ m : Nat, m ≤ 48 ∧ i = .int .i64 ((m : Int) + 16) ∧ SpreadRel w0 w.heap.size (spreadL b (m + 16)) wr) (fun i _ _ _ => 64 - (intOf i).toNat)
      case atStart => exact ⟨0, by omega, rfl, HR16.out⟩
      case round =>
        obtain ⟨m, hm, rfl, hrow, hfr⟩ := hrel
        rcases Nat.lt_or_ge m 48 with hlt | hge
        · have HRow := Lib.hid hrow
          have HFr := Lib.hid hfr
          have HLk := Lib.hid (spreadL_length b (m + 16))
          have hc : ∀ j, j < 64 → wr.cell? ⟨w.heap.size, j, none⟩ = some (.int .u32 (((spreadL b (m + 16)).getD j 0 : Nat) : Int)) := fun j hj => by
            rw [cell_of_row _ _ j _ _ _ HRow.out, List.getElem?_toArray]
            exact rowZ_get 64 _ _ (by rw [HLk.out]; omega) hj
          have hlt32 : ∀ j, (spreadL b (m + 16)).getD j 0 < 4294967296 := fun j => by
            rw [List.getD_eq_getElem?_getD]
            cases hq : (spreadL b (m + 16))[j]? with
            | none => decide
            | some x => exact spreadL_lt b (m + 16) x (List.mem_of_getElem? hq)
          have d0 := hc m (by omega)
          have d1 := hc (m + 1) (by omega)
          have d9 := hc (m + 9) (by omega)
          have d14 := hc (m + 14) (by omega)
          have d16 := hc (m + 16) (by omega)
          have f16 : wr.frozen? ⟨w.heap.size, m + 16, none⟩ = false := by simp [World.frozen?, HRow.out]
          obtain ⟨x0, hx0⟩ : ∃ x0, x0 = (spreadL b (m + 16)).getD m 0 := ⟨_, rfl⟩
          obtain ⟨x1, hx1⟩ : ∃ x1, x1 = (spreadL b (m + 16)).getD (m + 1) 0 := ⟨_, rfl⟩
          obtain ⟨x9, hx9⟩ : ∃ x9, x9 = (spreadL b (m + 16)).getD (m + 9) 0 := ⟨_, rfl⟩
          obtain ⟨x14, hx14⟩ : ∃ x14, x14 = (spreadL b (m + 16)).getD (m + 14) 0 := ⟨_, rfl⟩
          have b0 : x0 < 4294967296 := by rw [hx0]; exact hlt32 _
          have b1 : x1 < 4294967296 := by rw [hx1]; exact hlt32 _
          have b9 : x9 < 4294967296 := by rw [hx9]; exact hlt32 _
          have b14 : x14 < 4294967296 := by rw [hx14]; exact hlt32 _
          rw [← hx0] at d0
          rw [← hx1] at d1
          rw [← hx9] at d9
          rw [← hx14] at d14
          have HXs := Lib.hid (And.intro hx0 (And.intro hx1 (And.intro hx9 hx14)))
          clear hrow hfr hc hlt32 hx0 hx1 hx9 hx14
          go_wp2_with fail
          go_quiet (fail)
          have t1 := Lib.hid (quiet_same (fun w => turn_any x1 25 (-7) w b1 (by decide) (by decide)))
          have t2 := Lib.hid (quiet_same (fun w => turn_any x1 14 (-18) w b1 (by decide) (by decide)))
          have t3 := Lib.hid (quiet_same (fun w => turn_any x14 15 (-17) w b14 (by decide) (by decide)))
          have t4 := Lib.hid (quiet_same (fun w => turn_any x14 13 (-19) w b14 (by decide) (by decide)))
          go_wp2_with fail
          refine wp_region_quiet_tail 29 (by kernel_rfl) (by kernel_rfl) ?_
          simp only [List.take_succ_cons, List.take_zero, List.drop_succ_cons, List.drop_zero]
          repeat (first | go_big_quiet_step (fail) | (go_big_quiet_want; go_big_quiet_op; apply Exists.intro; refine ⟨?_, ?_⟩; (focus (first | with_reducible exact t1.out _ | with_reducible exact t2.out _ | with_reducible exact t3.out _ | with_reducible exact t4.out _)); go_big_quiet_on))
          refine wpQuiet_nil ?_
          have HV := Lib.hid (wnext_val (x0 := x0) (x9 := x9) b1 b14)
          clear b0 b1 b9 b14 t1 t2 t3 t4
          go_wp2_with fail
          go_roundw
          case rel =>
            refine ⟨m + 1, by omega, by go_num, ?_, (HFr.out.trans (Fr_drewN' _ wr _)).set _ _ rfl _⟩
            have hx : spreadL b (m + 1 + 16) = spreadL b (m + 16) ++ [(x0 + x9 + smallN x1 7 18 3 + smallN x14 17 19 10) % 4294967296] := by
              rw [show m + 1 + 16 = m + 16 + 1 by omega]
              show spreadL b (m + 16) ++ [if m + 16 < 16 then getB ((b.drop (4 * (m + 16))).take 4) else wNext (spreadL b (m + 16)) (m + 16)] = _
              obtain ⟨q0, q1, q9, q14⟩ := HXs.out
              rw [if_neg (by omega), wNext, show m + 16 - 16 = m by omega, show m + 16 - 7 = m + 9 by omega, show m + 16 - 15 = m + 1 by omega, show m + 16 - 2 = m + 14 by omega, ← q0, ← q1, ← q9, ← q14]
            have h1 := heap_setCell_same (wr.drewN (nq + 1)) _ (m + 16) _ _ (U32 ((x0 + x9 + smallN x1 7 18 3 + smallN x14 17 19 10) % 4294967296)) HRow.out
            rw [List.setIfInBounds_toArray] at h1
            have h2 := rowZ_set 64 (spreadL b (m + 16)) ((x0 + x9 + smallN x1 7 18 3 + smallN x14 17 19 10) % 4294967296) (by rw [HLk.out]; omega)
            rw [HLk.out] at h2
            rw [h2, ← hx] at h1
            rw [HV.out]
            exact h1
          case measure => simp [intOf]; omega
        · obtain rfl : m = 48 := by omega
          have HRow := Lib.hid (show wr.heap[w.heap.size]? = some (.cells ((spreadL b 64).map U32).toArray 226 (0, 0)) by rw [hrow, rowZ_full 64 _ (spreadL_length b 64)])
          have HB := Lib.hid (HB0.out.trans (hfr.below HB0.out.size (fun j hj => by omega)))
          have HLn := Lib.hid (show ((spreadL b 64).map U32).length = 64 by rw [List.length_map, spreadL_length])
          clear hrow hfr hm hge
          obtain ⟨sp, hsp⟩ : ∃ sp, sp = spreadL b 64 := ⟨_, rfl⟩
          rw [← hsp] at HRow HLn
          have HSp := Lib.hid hsp
          clear hsp
          go_wp2_with (first | (refine wpList_load_at rfl 226 (.tmp 2) rfl w.heap.size 0 rfl (sp.map U32) _ (At.of_row (by simpa using HRow.out)) Tryz.underlying226 rfl (by rw [info_w64', HLn.out]) ?_) | (refine wpList_store_row rfl 226 (.tmp 2) (.tmp 69) rfl w.heap.size rfl (sp.map U32) rfl _ _ HRow.out (by rw [List.size_toArray]) (U32_one sp) (by rw [info_w64', HLn.out]) ?_; intro w9 hg9 hf9 hs9))
          have HG9 := Lib.hid hg9
          have HB9 := Lib.hid (HB.out.trans (hf9.below HB.out.size (fun j hj => by omega)))
          clear hg9 hf9 hs9
          go_wp2
          exact bodyPost_ret (results_cell_row rfl _ w9 w.heap.size _ _ _ _ rfl HG9.out Tryz.underlying226 rfl (by rw [info_w64', List.size_toArray, HLn.out])) rfl ⟨by rw [HSp.out], HB9.out⟩

end Go.Proofs.YtkbnkdokcmpcgaaGreatDoor
namespace Go.Proofs.YtkbnkdokcmpcgaaGreatDoor
open Go.RowKit

theorem info_u32s : (Tryz.prog.info? 41).map (·.size) = some 1 := by kernel_rfl
theorem info_state' : (Tryz.prog.info? 225).map (·.size) = some 8 := by kernel_rfl

def St.arr (s : St) : Array Value := (s.list.map U32).toArray
theorem St.arr_one (s : St) : ∀ u ∈ s.arr.toList, u.oneCell' = true := U32_one s.list
theorem load_state {ops : Array Oper} {rest : List Oper} {o : Oper} {a : Act} {w : World} {Q : Exit → Act → World → Prop} (hgd : o.guard = none) (x : Operand) (ho : o.op = .load 225 x)
    {b off : Nat} (hx : a.eval x = .pointer (some ⟨b, off, none⟩)) {arr : Array Value} (hc : At w b off arr.toList) (hl : arr.size = 8)
    (hK : wpList Tryz.prog ops Q rest (a.put o.dst (.agg arr)) w) : wpList Tryz.prog ops Q (o :: rest) a w :=
  wpList_load_at hgd _ x ho b off hx arr.toList _ hc Tryz.underlying225 rfl (by rw [info_state', Array.length_toList, hl]) hK
theorem store_state {ops : Array Oper} {rest : List Oper} {o : Oper} {a : Act} {w : World} {Q : Exit → Act → World → Prop} (hgd : o.guard = none) (x y : Operand) (ho : o.op = .store 225 x y)
    {b : Nat} (hx : a.eval x = .pointer (some ⟨b, 0, none⟩)) {arr : Array Value} (hy : a.eval y = .agg arr) {old : Array Value} {t : TypeId} (hb : w.heap[b]? = some (.cells old t (0, 0))) (ho2 : old.size = 8) (hl : arr.size = 8)
    (h1 : ∀ u ∈ arr.toList, u.oneCell' = true)
    (hK : ∀ w', w'.heap[b]? = some (.cells arr t (0, 0)) → Fr (fun k => k = b) w w' → w'.heap.size = w.heap.size → wpList Tryz.prog ops Q rest (a.put o.dst undef) w') : wpList Tryz.prog ops Q (o :: rest) a w :=
  wpList_store_row hgd _ x y ho b hx arr.toList (by simpa using hy) old _ hb (by simp [ho2, hl]) h1 (by rw [info_state']; simp [hl]) (fun w' h1 h2 h3 => hK w' (by simpa using h1) h2 h3)
theorem store_w64 {ops : Array Oper} {rest : List Oper} {o : Oper} {a : Act} {w : World} {Q : Exit → Act → World → Prop} (hgd : o.guard = none) (x y : Operand) (ho : o.op = .store 226 x y)
    {b : Nat} (hx : a.eval x = .pointer (some ⟨b, 0, none⟩)) {l : List Nat} (hy : a.eval y = .agg (l.map U32).toArray) {old : Array Value} {t : TypeId} (hb : w.heap[b]? = some (.cells old t (0, 0))) (ho2 : old.size = 64) (hl : l.length = 64)
    (hK : ∀ w', w'.heap[b]? = some (.cells (l.map U32).toArray t (0, 0)) → Fr (fun k => k = b) w w' → w'.heap.size = w.heap.size → wpList Tryz.prog ops Q rest (a.put o.dst undef) w') : wpList Tryz.prog ops Q (o :: rest) a w :=
  wpList_store_row hgd _ x y ho b hx (l.map U32) hy old _ hb (by simp [ho2, hl]) (U32_one l) (by rw [info_w64']; simp [hl]) (fun w' h1 h2 h3 => hK w' h1 h2 h3)

theorem copy_u32 {w : World} {ops : Array Oper} {rest : List Oper} {o : Oper} {a : Act} {Q : Exit → Act → World → Prop} (hgd : o.guard = none) (d s : Operand)
    (ho : o.op = .call { callee := .builtin .copy, args := #[d, s], argTypes := #[54, 54] })
    {g off dLen dCap sg so sCap : Nat} {cur ys : List Nat} {t : TypeId} (hg : w.heap[g]? = some (.cells (cur.map U32).toArray t (0, 0))) (hsrc : At w sg so (ys.map U32))
    (hd : a.eval d = .slice (some ⟨g, off, none⟩) dLen dCap) (hs : a.eval s = .slice (some ⟨sg, so, none⟩) dLen sCap) (hyl : ys.length = dLen) (hfit : off + dLen ≤ cur.length)
    (h : ∀ w', w'.heap[g]? = some (.cells ((cur.take off ++ (ys ++ cur.drop (off + ys.length))).map U32).toArray t (0, 0)) → Fr (fun k => k = g) w w' → wpList Tryz.prog ops Q rest (a.put o.dst (.int .i64 (dLen : Nat))) w') :
    wpList Tryz.prog ops Q (o :: rest) a w := by
  refine wpList_copy_own hgd d s _ _ ho 41 Tryz.underlying54 info_u32s g off dLen dCap ⟨sg, so, none⟩ dLen sCap hd hs _ t hg (ys.map U32) (by simp [hyl]) ?_ (by simpa [hyl] using hfit) (U32_one _) ?_
  · intro j u hj
    rw [Addr.add_lit]; exact hsrc j u hj
  · have e2 : (((cur.map U32).toArray).toList.take off ++ (ys.map U32 ++ ((cur.map U32).toArray).toList.drop (off + (ys.map U32).length))).toArray = ((cur.take off ++ (ys ++ cur.drop (off + ys.length))).map U32).toArray := by
      simp
    rw [e2]
    have e3 : goInt (ys.map U32).length = .int .i64 (dLen : Nat) := by rw [List.length_map, hyl]; rfl
    rw [e3]
    exact h _ (setRow_heap w g _ _ t _ hg) ⟨rfl, rfl, rfl, by simp, fun k _ hk => setRow_other w g k _ hk⟩

theorem addSt_list (x s : St) : (addSt x s).list = List.zipWith (fun a b => (a + b) % 4294967296) x.list s.list := rfl
theorem mid_set {xs ss : List Nat} (hx : xs.length = 8) (hs : ss.length = 8) {n : Nat} (hn : n < 8) :
    ((List.zipWith (fun a b => (a + b) % 4294967296) xs ss).take n ++ xs.drop n).set n ((xs.getD n 0 + ss.getD n 0) % 4294967296) = (List.zipWith (fun a b => (a + b) % 4294967296) xs ss).take (n + 1) ++ xs.drop (n + 1) := by
  have hl : ((List.zipWith (fun a b => (a + b) % 4294967296) xs ss).take n).length = n := by simp; omega
  rw [List.set_append_right _ _ (by rw [hl]; exact Nat.le_refl _), hl, Nat.sub_self, List.drop_eq_getElem_cons (by omega : n < xs.length), List.set_cons_zero, List.take_succ_eq_append_getElem (by simp; omega), List.append_assoc]
  congr 1
  rw [List.getElem_zipWith, List.getD_eq_getElem?_getD, List.getD_eq_getElem?_getD, List.getElem?_eq_getElem (by omega), List.getElem?_eq_getElem (by omega)]
  rfl
def AddRel (w : World) (X : Nat) (x s : St) (n : Nat) (wr : World) : Prop := wr.heap[X]? = some (.cells (((addSt x s).list.take n ++ x.list.drop n).map U32).toArray 225 (0, 0)) ∧ Fr (fun k => k = X) w wr
def TakeRel (w : World) (X : Nat) (x : St) (wr : World) : Prop := wr.heap[X]? = some (.cells x.arr 225 (0, 0)) ∧ Fr (fun k => k = X) w wr
set_option maxRecDepth 100000 in
set_option maxHeartbeats 8000000 in
theorem take_any (s : St) (hs : s.Ok) (v : Value) (b : List UInt8) (kb ko : Nat) (ks : List Nat) (w : World) (h : Sl w 1 v 64 (b.map Bv)) (hk : At w kb ko (ks.map U32)) (hkl : ks.length = 64) (hk32 : ∀ x ∈ ks, x < 4294967296) :
    Calls Tryz.prog 125 #[.agg s.arr, v, .pointer (some ⟨kb, ko, none⟩)] w fun e w' => e = .returned (.agg (addSt (roundsN s ks (spreadL b 64) 64) s).arr) ∧ Below w.heap.size w w' := by
  obtain ⟨R, hR⟩ : ∃ R, R = addSt (roundsN s ks (spreadL b 64) 64) s := ⟨_, rfl⟩
  rw [← hR]
  obtain ⟨arr, harr⟩ : ∃ arr, arr = s.arr := ⟨_, rfl⟩
  rw [← harr]
  have HArr := Lib.hid harr
  have HRes := Lib.hid hR
  have HSp := Lib.hid (fun w' hw => spread_any v b w' hw)
  have HS := Lib.hid h
  have HK := Lib.hid hk
  have HKl := Lib.hid hkl
  have HK32 := Lib.hid hk32
  have HOk := Lib.hid hs
  clear hR harr h hk hkl hk32 hs
  go_enter Tryz.func125, Tryz.ntmps125
  go_wp2_with fail
  have hbel0 : Below w.heap.size w ((w.alloc (.cells arr 225)).alloc (.cells #[.int .u32 0, .int .u32 0, .int .u32 0, .int .u32 0, .int .u32 0, .int .u32 0, .int .u32 0, .int .u32 0] 225)) := ((Below.refl _ w).alloc (Nat.le_refl _) _).alloc (by simp) _
  have hsz0 : ((w.alloc (.cells arr 225)).alloc (.cells #[.int .u32 0, .int .u32 0, .int .u32 0, .int .u32 0, .int .u32 0, .int .u32 0, .int .u32 0, .int .u32 0] 225)).heap.size = w.heap.size + 2 := by simp
  have hs0 : ((w.alloc (.cells arr 225)).alloc (.cells #[.int .u32 0, .int .u32 0, .int .u32 0, .int .u32 0, .int .u32 0, .int .u32 0, .int .u32 0, .int .u32 0] 225)).heap[w.heap.size]? = some (.cells arr 225 (0, 0)) :=
    (Below.heap_alloc _ _ _ (by simp)).trans (heap_alloc_new _ _)
  have hr0 : ((w.alloc (.cells arr 225)).alloc (.cells #[.int .u32 0, .int .u32 0, .int .u32 0, .int .u32 0, .int .u32 0, .int .u32 0, .int .u32 0, .int .u32 0] 225)).heap[w.heap.size + 1]? = some (.cells #[.int .u32 0, .int .u32 0, .int .u32 0, .int .u32 0, .int .u32 0, .int .u32 0, .int .u32 0, .int .u32 0] 225 (0, 0)) := by
    have h := heap_alloc_new (w.alloc (.cells arr 225)) (.cells #[.int .u32 0, .int .u32 0, .int .u32 0, .int .u32 0, .int .u32 0, .int .u32 0, .int .u32 0, .int .u32 0] 225)
    rwa [show (w.alloc (.cells arr 225)).heap.size = w.heap.size + 1 by simp] at h
  refine (HSp.out _ (HS.out.below hbel0)).mono ?_
  rintro e w1 ⟨rfl, hb1⟩
  have HB1 := Lib.hid (hbel0.trans (hb1.mono hbel0.size))
  have HS1 := Lib.hid ((hb1.block w.heap.size (by rw [hsz0]; omega)).trans hs0)
  have HR1 := Lib.hid ((hb1.block (w.heap.size + 1) (by rw [hsz0]; omega)).trans hr0)
  have hsz1 : w.heap.size + 2 ≤ w1.heap.size := by have := hb1.size; rw [hsz0] at this; exact this
  clear hb1 hbel0 hsz0 hs0 hr0 HSp
  obtain ⟨ws, hws⟩ : ∃ ws, ws = spreadL b 64 := ⟨_, rfl⟩
  have HWs := Lib.hid hws
  have HWl := Lib.hid (show ws.length = 64 by rw [hws, spreadL_length])
  have HW32 := Lib.hid (show ∀ x ∈ ws, x < 4294967296 by rw [hws]; exact spreadL_lt b 64)
  rw [← hws] at HRes ⊢
  clear hws
  go_wp2_with (refine store_w64 rfl (.tmp 7) (.tmp 20) rfl rfl rfl (heap_alloc_new _ _) rfl HWl.out ?_)
  intro w2 hg2 hf2 hs2
  have hbel2 : Below w1.heap.size w1 w2 := ((Below.refl _ w1).alloc (Nat.le_refl _) _).trans (hf2.below (by simp) (fun j hj => by omega))
  have HW2 := Lib.hid hg2
  have HB2 := Lib.hid (HB1.out.trans (hbel2.mono HB1.out.size))
  have HS2 := Lib.hid ((hbel2.block w.heap.size (lt_of_block HS1.out)).trans HS1.out)
  have HR2 := Lib.hid ((hbel2.block (w.heap.size + 1) (lt_of_block HR1.out)).trans HR1.out)
  have hsz2 : w1.heap.size < w2.heap.size := by rw [hs2]; simp
  clear hg2 hf2 hs2 hbel2
  have HAs := Lib.hid (show arr.size = 8 by rw [HArr.out]; rfl)
  have HA1 := Lib.hid (show ∀ u ∈ arr.toList, u.oneCell' = true by rw [HArr.out]; exact St.arr_one s)
  have HAt := Lib.hid (At.of_row (cs := arr.toList) (by simpa using HS2.out))
  go_wp2_with (first | (refine load_state rfl (.tmp 3) rfl rfl HAt.out HAs.out ?_) | (refine store_state rfl (.tmp 8) (.tmp 21) rfl rfl rfl (heap_alloc_new _ _) rfl HAs.out HA1.out ?_; intro w3 hg3 hf3 hs3))
  have hbel3 : Below w2.heap.size w2 w3 := ((Below.refl _ w2).alloc (Nat.le_refl _) _).trans (hf3.below (by simp) (fun j hj => by omega))
  have HW3 := Lib.hid ((hbel3.block w1.heap.size (lt_of_block HW2.out)).trans HW2.out)
  have HB3 := Lib.hid (HB2.out.trans (hbel3.mono HB2.out.size))
  have HS3 := Lib.hid ((hbel3.block w.heap.size (lt_of_block HS2.out)).trans HS2.out)
  have HR3 := Lib.hid ((hbel3.block (w.heap.size + 1) (lt_of_block HR2.out)).trans HR2.out)
  rw [HArr.out] at hg3
  have HX3 := Lib.hid (show TakeRel w3 w2.heap.size (roundsN s ks ws 0) w3 from ⟨hg3, Fr.refl _ _⟩)
  clear hg3 hf3 hs3 hbel3
  obtain ⟨X, hX⟩ : ∃ X, X = w2.heap.size := ⟨_, rfl⟩
  obtain ⟨WB, hWB⟩ : ∃ WB, WB = w1.heap.size := ⟨_, rfl⟩
  rw [← hX] at hsz2 HX3 ⊢
  rw [← hWB] at hsz1 hsz2 HW3 ⊢
  clear hX hWB HS1 HS2 HR1 HR2 HW2 HAt HB1 HB2 HS
  go_wp2_with fail
  go_loopw [22] (fun i wr => ∃ n : Nat, n ≤ 64 ∧ i = .int .i64 n ∧ TakeRel w3 X (roundsN s ks ws n) wr) (fun i _ => 64 - (intOf i).toNat)
  case atStart => exact ⟨0, by omega, rfl, HX3.out⟩
  case round =>
    obtain ⟨n, hn, rfl, hrow, hfr⟩ := hrel
    rcases Nat.lt_or_ge n 64 with hlt | hge
    · obtain ⟨x, hx⟩ : ∃ x, x = roundsN s ks ws n := ⟨_, rfl⟩
      rw [← hx] at hrow
      have hok : x.Ok := by rw [hx]; exact roundsN_ok _ _ HOk.out n
      have hnext : roundsN s ks ws (n + 1) = roundN x (ks.getD n 0) (ws.getD n 0) := by rw [hx]; rfl
      have hkc : wr.cell? ⟨kb, ko + n, none⟩ = some (.int .u32 ((ks.getD n 0 : Nat) : Int)) := by
        have h1 := HK.out n (U32 (ks.getD n 0)) (by rw [List.getElem?_map, List.getD_eq_getElem?_getD, List.getElem?_eq_getElem (by rw [HKl.out]; omega)]; rfl)
        have h2 := World.block_lt_of_cell? w _ h1
        have h3 := (HB3.out.cell (p := ⟨kb, ko + n, none⟩) h2).trans h1
        exact hfr.cell h3 (by simp at h2 ⊢; omega)
      have hwc : wr.cell? ⟨WB, n, none⟩ = some (.int .u32 ((ws.getD n 0 : Nat) : Int)) := by
        have h0 := (hfr.block WB (lt_of_block HW3.out) (by omega)).trans HW3.out
        rw [cell_of_row _ _ n _ _ _ h0, List.getElem?_toArray, List.getElem?_map, List.getD_eq_getElem?_getD, List.getElem?_eq_getElem (by rw [HWl.out]; omega)]; rfl
      have hk32 : ks.getD n 0 < 4294967296 := getD_lt32 HK32.out n
      have hw32 : ws.getD n 0 < 4294967296 := getD_lt32 HW32.out n
      obtain ⟨kn, hkn⟩ : ∃ kn, kn = ks.getD n 0 := ⟨_, rfl⟩
      obtain ⟨wn, hwn⟩ : ∃ wn, wn = ws.getD n 0 := ⟨_, rfl⟩
      rw [← hkn] at hkc hk32 hnext
      rw [← hwn] at hwc hw32 hnext
      have HNext := Lib.hid hnext
      clear hx hnext hkn hwn
      obtain ⟨xa, xb, xc, xd, xe, xf, xg, xh⟩ := x
      obtain ⟨ba, bb, bc, bd, be, bf, bg, bh⟩ := hok
      simp only at ba bb bc bd be bf bg bh
      have hc : ∀ j, wr.cell? ⟨X, j, none⟩ = (St.arr ⟨xa, xb, xc, xd, xe, xf, xg, xh⟩)[j]? := fun j => cell_of_row _ _ j _ _ _ hrow
      have c0 : wr.cell? ⟨X, 0, none⟩ = some (.int .u32 (xa : Int)) := hc 0
      have c1 : wr.cell? ⟨X, 1, none⟩ = some (.int .u32 (xb : Int)) := hc 1
      have c2 : wr.cell? ⟨X, 2, none⟩ = some (.int .u32 (xc : Int)) := hc 2
      have c4 : wr.cell? ⟨X, 4, none⟩ = some (.int .u32 (xe : Int)) := hc 4
      have c5 : wr.cell? ⟨X, 5, none⟩ = some (.int .u32 (xf : Int)) := hc 5
      have c6 : wr.cell? ⟨X, 6, none⟩ = some (.int .u32 (xg : Int)) := hc 6
      have c7 : wr.cell? ⟨X, 7, none⟩ = some (.int .u32 (xh : Int)) := hc 7
      have HRow := Lib.hid hrow
      have HFr := Lib.hid hfr
      have q1 := u32_xor_nat xf xg bf bg
      have q2 := u32_and_nat xe (xf ^^^ xg) be (xor_lt32 bf bg)
      have q3 := u32_xor_nat xg (xe &&& (xf ^^^ xg)) bg (and_lt32 be)
      have q4 := u32_or_nat xb xc bb bc
      have q5 := u32_and_nat xa (xb ||| xc) ba (or_lt32 bb bc)
      have q6 := u32_and_nat xb xc bb bc
      have q7 := u32_or_nat (xa &&& (xb ||| xc)) (xb &&& xc) (and_lt32 ba) (and_lt32 bb)
      have hm1 : ∀ (w0 : World) (n0 m : Nat), Calls Tryz.prog 162 #[.int .u32 (xe : Int), .int .i64 6, .int .i64 11, .int .i64 25] (w0.drewN (n0 + m)) fun e w' => e = .returned (.int .u32 (mixN xe 6 11 25 : Int)) ∧ ∃ j, w' = w0.drewN (n0 + j) :=
        fun w0 n0 m => (mix_any xe 6 11 25 (w0.drewN (n0 + m)) be (by omega) (by omega) (by omega)).mono fun _ _ ⟨h1, h2⟩ => ⟨h1, m, h2.symm⟩
      have hm2 : ∀ (w0 : World), Calls Tryz.prog 162 #[.int .u32 (xa : Int), .int .i64 2, .int .i64 13, .int .i64 22] w0 fun e w' => e = .returned (.int .u32 (mixN xa 2 13 22 : Int)) ∧ w0 = w' := fun w0 => mix_any xa 2 13 22 w0 ba (by omega) (by omega) (by omega)
      have bm1 := mixN_lt 6 11 25 be
      have bm2 := mixN_lt 2 13 22 ba
      obtain ⟨M1, hM1⟩ : ∃ M1, M1 = mixN xe 6 11 25 := ⟨_, rfl⟩
      obtain ⟨M2, hM2⟩ : ∃ M2, M2 = mixN xa 2 13 22 := ⟨_, rfl⟩
      obtain ⟨C1, hC1⟩ : ∃ C1, C1 = xg ^^^ (xe &&& (xf ^^^ xg)) := ⟨_, rfl⟩
      obtain ⟨C2, hC2⟩ : ∃ C2, C2 = (xa &&& (xb ||| xc)) ||| (xb &&& xc) := ⟨_, rfl⟩
      have bC1 : C1 < 4294967296 := by rw [hC1]; exact xor_lt32 bg (and_lt32 be)
      have bC2 : C2 < 4294967296 := by rw [hC2]; exact or_lt32 (and_lt32 ba) (and_lt32 bb)
      rw [← hM1] at hm1 bm1
      rw [← hM2] at hm2 bm2
      rw [← hC1] at q3
      rw [← hC2] at q7
      have HM1 := Lib.hid hm1
      have HM2 := Lib.hid hm2
      have HEq := Lib.hid (And.intro hM1 (And.intro hM2 (And.intro hC1 hC2)))
      clear hrow hfr hm1 hm2 hc hM1 hM2 hC1 hC2
      go_wp2_with fail
      go_quiet (fail)
      go_wp2_with fail
      go_quiet (with_reducible exact HM1.out _ _ _)
      go_wp2_with fail
      go_quiet (fail)
      go_wp2_with fail
      refine (HM2.out _).mono ?_
      rintro e w4 ⟨rfl, rfl⟩
      go_wp2_with fail
      generalize hw5 : wr.drewN _ = w5
      have HRow5 := Lib.hid (show w5.heap[X]? = some (.cells ([xa, xb, xc, xd, xe, xf, xg, xh].map U32).toArray 225 (0, 0)) by rw [← hw5]; exact HRow.out)
      have HFr5 := Lib.hid (show Fr (fun k => k = X) w3 w5 by rw [← hw5]; exact HFr.out.trans (Fr_drewN' _ _ _))
      have HAt5 := Lib.hid (show At w5.drew X 0 ([xa, xb, xc, xd, xe, xf, xg].map U32) from (At.of_row (w := w5.drew) (cs := [xa, xb, xc, xd, xe, xf, xg, xh].map U32) HRow5.out).part (xs := []) (ys := [U32 xh]))
      clear hw5 c0 c1 c2 c4 c5 c6 c7 hkc hwc q1 q2 q3 q4 q5 q6 q7
      refine wp_region_quiet_tail 2 (by kernel_rfl) (by kernel_rfl) ?_
      simp only [List.take_succ_cons, List.take_zero, List.drop_succ_cons, List.drop_zero]
      repeat (go_big_quiet_step (fail))
      refine wpQuiet_nil ?_
      refine copy_u32 rfl (.tmp 72) (.tmp 73) rfl HRow5.out HAt5.out rfl rfl rfl (Nat.le_refl 8) ?_
      intro w6 hg6 hf6
      have HRow6 := Lib.hid (show w6.heap[X]? = some (.cells #[.int .u32 (xa : Int), .int .u32 (xa : Int), .int .u32 (xb : Int), .int .u32 (xc : Int), .int .u32 (xd : Int), .int .u32 (xe : Int), .int .u32 (xf : Int), .int .u32 (xg : Int)] 225 (0, 0)) from hg6)
      have HFr6 := Lib.hid (HFr5.out.trans ((Fr.refl (fun k => k = X) w5).drew.trans hf6))
      have hc : ∀ j, w6.cell? ⟨X, j, none⟩ = (#[.int .u32 (xa : Int), .int .u32 (xa : Int), .int .u32 (xb : Int), .int .u32 (xc : Int), .int .u32 (xd : Int), .int .u32 (xe : Int), .int .u32 (xf : Int), .int .u32 (xg : Int)] : Array Value)[j]? := fun j => cell_of_row _ _ j _ _ _ HRow6.out
      have c0 : w6.cell? ⟨X, 0, none⟩ = some (.int .u32 (xa : Int)) := hc 0
      have c4 : w6.cell? ⟨X, 4, none⟩ = some (.int .u32 (xd : Int)) := hc 4
      have f0 : w6.frozen? ⟨X, 0, none⟩ = false := by simp [World.frozen?, HRow6.out]
      have f4 : w6.frozen? ⟨X, 4, none⟩ = false := by simp [World.frozen?, HRow6.out]
      clear hg6 hf6 hc
      go_wp2
      go_roundw
      case rel =>
        refine ⟨n + 1, by omega, by go_num, ?_⟩
        rw [HNext.out]
        obtain ⟨e1, e2, e3, e4⟩ := HEq.out
        have h1 := heap_setCell_same _ X 0 _ _ (.int .u32 (((xh : Int) + M1 + C1 + kn + wn + (M2 + C2)) % 4294967296)) HRow6.out
        have h2 := heap_setCell_same _ X 4 _ _ (.int .u32 (((xd : Int) + (xh + M1 + C1 + kn + wn)) % 4294967296)) h1
        refine ⟨?_, (HFr6.out.set _ _ rfl _).set _ _ rfl _⟩
        rw [h2]
        have ea : t1N ⟨xa, xb, xc, xd, xe, xf, xg, xh⟩ kn wn = (xh + M1 + C1 + kn + wn) % 4294967296 := by rw [e1, e3]; rfl
        have eb : t2N ⟨xa, xb, xc, xd, xe, xf, xg, xh⟩ = (M2 + C2) % 4294967296 := by rw [e2, e4]; rfl
        have e0 : (Value.int .u32 (((xh : Int) + M1 + C1 + kn + wn + (M2 + C2)) % 4294967296)) = .int .u32 (((t1N ⟨xa, xb, xc, xd, xe, xf, xg, xh⟩ kn wn + t2N ⟨xa, xb, xc, xd, xe, xf, xg, xh⟩) % 4294967296 : Nat) : Int) := by
          rw [ea, eb]; congr 1; omega
        have e5 : (Value.int .u32 (((xd : Int) + (xh + M1 + C1 + kn + wn)) % 4294967296)) = .int .u32 (((xd + t1N ⟨xa, xb, xc, xd, xe, xf, xg, xh⟩ kn wn) % 4294967296 : Nat) : Int) := by
          rw [ea]; congr 1; omega
        rw [e0, e5]
        rfl
      case measure => simp [intOf]; omega
    · obtain rfl : n = 64 := by omega
      have HSl := Lib.hid (show w3.heap[w.heap.size]? = some (.cells (s.list.map U32).toArray 225 (0, 0)) by rw [HS3.out, HArr.out]; rfl)
      obtain ⟨x, hx⟩ : ∃ x, x = roundsN s ks ws 64 := ⟨_, rfl⟩
      rw [← hx] at hrow HRes
      have HA0 := Lib.hid (show AddRel w3 X x s 0 wr from ⟨by rw [List.take_zero, List.drop_zero, List.nil_append]; exact hrow, hfr⟩)
      have HXok := Lib.hid (show x.Ok by rw [hx]; exact roundsN_ok _ _ HOk.out 64)
      clear hrow hfr hx hn hge
      go_wp2_with fail
      obtain ⟨wo, hwo⟩ : ∃ wo : World, wo = wr := ⟨_, rfl⟩
      rw [← hwo] at HA0 ⊢
      clear hwo
      go_loopw [85] (fun i wr => ∃ n : Nat, n ≤ 8 ∧ i = .int .i64 n ∧ AddRel w3 X x s n wr) (fun i _ => 8 - (intOf i).toNat)
      case atStart => exact ⟨0, by omega, rfl, HA0.out⟩
      case round =>
        obtain ⟨n, hn, rfl, hrow, hfr⟩ := hrel
        rcases Nat.lt_or_ge n 8 with hlt | hge
        · have hxl : x.list.length = 8 := rfl
          have hsl : s.list.length = 8 := rfl
          have hset := mid_set hxl hsl hlt
          have hxc : wr.cell? ⟨X, n, none⟩ = some (.int .u32 ((x.list.getD n 0 : Nat) : Int)) := by
            rw [cell_of_row _ _ n _ _ _ hrow, List.getElem?_toArray, List.getElem?_map, List.getElem?_append_right (by simp [addSt_list]; omega)]
            rw [show ((addSt x s).list.take n).length = n by rw [List.length_take]; exact Nat.min_eq_left (by show n ≤ 8; omega), Nat.sub_self, List.getElem?_drop, Nat.add_zero, List.getD_eq_getElem?_getD, List.getElem?_eq_getElem (by omega)]
            rfl
          have hsc : wr.cell? ⟨w.heap.size, n, none⟩ = some (.int .u32 ((s.list.getD n 0 : Nat) : Int)) := by
            have h0 := (hfr.block w.heap.size (lt_of_block HSl.out) (by omega)).trans HSl.out
            rw [cell_of_row _ _ n _ _ _ h0, List.getElem?_toArray, List.getElem?_map, List.getD_eq_getElem?_getD, List.getElem?_eq_getElem (by omega)]; rfl
          have hf : wr.frozen? ⟨X, n, none⟩ = false := by simp [World.frozen?, hrow]
          obtain ⟨u, hu⟩ : ∃ u, u = x.list.getD n 0 := ⟨_, rfl⟩
          obtain ⟨v', hv'⟩ : ∃ v', v' = s.list.getD n 0 := ⟨_, rfl⟩
          rw [← hu] at hxc hset
          rw [← hv'] at hsc hset
          have HSet := Lib.hid hset
          have HRow := Lib.hid hrow
          have HFr := Lib.hid hfr
          clear hset hrow hfr hu hv' hxl hsl
          go_wp2_with fail
          refine wp_region_quiet_tail 8 (by kernel_rfl) (by kernel_rfl) ?_
          simp only [List.take_succ_cons, List.take_zero, List.drop_succ_cons, List.drop_zero]
          repeat (go_big_quiet_step (fail))
          refine wpQuiet_nil ?_
          go_wp2_with fail
          go_roundw
          case rel =>
            refine ⟨n + 1, by omega, by go_num, ?_, (HFr.out.trans (Fr.refl (fun k => k = X) wr).drew).set _ _ rfl _⟩
            have h1 := heap_setCell_same wr.drew X n _ _ (U32 ((u + v') % 4294967296)) HRow.out
            rw [List.setIfInBounds_toArray, ← List.map_set, addSt_list, HSet.out] at h1
            rw [addSt_list]
            have e : (Value.int .u32 (((u : Int) + (v' : Int)) % 4294967296)) = U32 ((u + v') % 4294967296) := by unfold U32; congr 1
            rw [e]
            exact h1
          case measure => simp [intOf]; omega
        · obtain rfl : n = 8 := by omega
          have HFin := Lib.hid (show wr.heap[X]? = some (.cells R.arr 225 (0, 0)) by
            rw [hrow, HRes.out]; rfl)
          have HRz := Lib.hid ((hfr.block (w.heap.size + 1) (lt_of_block HR3.out) (by omega)).trans HR3.out)
          have HBf := Lib.hid (HB3.out.trans (hfr.below HB3.out.size (fun j hj => by omega)))
          have HAtF := Lib.hid (At.of_row (cs := R.arr.toList) (by simpa using HFin.out))
          clear hrow hfr hn hge
          go_wp2_with (first | (refine load_state rfl (.tmp 8) rfl rfl HAtF.out rfl ?_) | (refine store_state rfl (.tmp 6) (.tmp 97) rfl rfl rfl HRz.out rfl rfl (St.arr_one R) ?_; intro w9 hg9 hf9 hs9))
          have HG9 := Lib.hid hg9
          have HB9 := Lib.hid (HBf.out.trans (hf9.below HBf.out.size (fun j hj => by omega)))
          clear hg9 hf9 hs9
          go_wp2
          exact bodyPost_ret (results_cell_row rfl _ w9 (w.heap.size + 1) _ _ _ _ rfl HG9.out Tryz.underlying225 rfl (by rw [info_state']; rfl)) rfl ⟨rfl, HB9.out⟩
end Go.Proofs.YtkbnkdokcmpcgaaGreatDoor
namespace Go.Proofs.YtkbnkdokcmpcgaaGreatDoor
open Go.RowKit

set_option maxHeartbeats 400000 in
theorem clone_any (v : Value) (xs : List UInt8) (n : Nat) (w : World) (h : Sl w 1 v n (xs.map Bv)) (hr : n ≤ 140737488351232) :
    Calls Tryz.prog 80 #[v] w fun e w' => ∃ aa cc, e = .returned (.slice aa n cc) ∧ w'.ownsRow w.heap.size 5 1 (.slice aa n cc) n (xs.map Bv) ∧ Below w.heap.size w w' := by
  obtain ⟨a, cap, rfl, hlc⟩ := h.len
  have q := fun (w : World) => Lib.run_eql_slice_nil (P := Tryz.prog) w 26 5 a n cap 0 0 Tryz.underlying26
  cases a with
  | none =>
    obtain ⟨hl, a', cap', e, hlc', hnil, hc⟩ := h
    simp only [Value.slice.injEq, true_and] at e
    obtain ⟨rfl, rfl⟩ := e
    obtain rfl : cap = 0 := hnil rfl
    obtain rfl : n = 0 := by omega
    have hx : xs = [] := List.eq_nil_of_length_eq_zero (by simpa using hl)
    subst hx
    clear hl hnil hc
    go_enter Tryz.func80, Tryz.ntmps80
    go_wp2
    go_ret
    exact ⟨_, _, rfl, World.ownsRow_nil _ _ _ _, Below.refl _ _⟩
  | some ad =>
    have HH := Lib.hid (h.below ((Below.refl _ w).alloc (Nat.le_refl _) (.cells #[] 5)))
    have HO := Lib.hid (own_empty w)
    clear h
    go_enter Tryz.func80, Tryz.ntmps80
    go_wp2_with (at_builtin; refine append_u8 rfl (.tmp 5) (.tmp 6) rfl HO.out HH.out rfl rfl (by omega) (by simp) ?_)
    intro aa cc w1 hown hg h3
    have hb : Below w.heap.size w w1 := ((Below.refl _ _).alloc (Nat.le_refl _) _).trans (hg.below (by simp) (fun k h => by simp [Value.ownBlock] at h; omega))
    have HB := Lib.hid hb
    have HO := Lib.hid hown
    clear hb hown hg h3
    go_wp2
    go_ret
    exact ⟨_, _, rfl, by simpa using HO.out, HB.out⟩

def Wr (w : World) (base b : Nat) (row : Option Nat) (xs : List UInt8) : Prop :=
  ∃ v, w.heap[b]? = some (.cells #[v] 198 (0, 0)) ∧ w.ownsRow base 5 1 v xs.length (xs.map Bv) ∧ v.ownBlock = row

theorem Wr.row_ne {w : World} {base b : Nat} {row : Option Nat} {xs : List UInt8} (h : Wr w base b row xs) : row ≠ some b := by
  obtain ⟨v, h1, h2, rfl⟩ := h
  rcases h2.2 with ⟨rfl, _⟩ | ⟨g, cap, cur, rfl, _, h3, _⟩
  · simp [Value.ownBlock]
  · simp only [Value.ownBlock, ne_eq, Option.some.injEq]
    rintro rfl
    rw [h1] at h3
    simp at h3
theorem Wr.lt {w : World} {base b : Nat} {row : Option Nat} {xs : List UInt8} (h : Wr w base b row xs) : b < w.heap.size ∧ ∀ k, row = some k → base ≤ k ∧ k < w.heap.size := by
  obtain ⟨v, h1, h2, rfl⟩ := h
  exact ⟨lt_of_block h1, h2.lt⟩
theorem Wr.fr {w w' : World} {S : Nat → Prop} {base b : Nat} {row : Option Nat} {xs : List UInt8} (h : Wr w base b row xs) (hf : Fr S w w') (h1 : ¬ S b) (h2 : ∀ k, row = some k → ¬ S k) : Wr w' base b row xs := by
  have hlt := h.lt
  obtain ⟨v, hb, ho, rfl⟩ := h
  refine ⟨v, (hf.block b hlt.1 h1).trans hb, ho.fr hf h2, rfl⟩

def WS (b : Nat) (row : Option Nat) (k : Nat) : Prop := k = b ∨ row = some k
def Laid (w w' : World) (base b : Nat) (row : Option Nat) (xs : List UInt8) : Prop :=
  ∃ row', Wr w' base b row' xs ∧ Fr (WS b row) w w' ∧ ∀ k, row' = some k → row = some k ∨ w.heap.size ≤ k

set_option maxHeartbeats 400000 in
theorem add_ok (b base : Nat) (row : Option Nat) (os xs : List UInt8) (v : Value) (w : World) (hw : Wr w base b row os) (hbase : base ≤ w.heap.size) (h : Sl w 1 v xs.length (xs.map Bv)) (hr : os.length + xs.length ≤ 140737488351232) :
    Calls Tryz.prog 138 #[.pointer (some ⟨b, 0, none⟩), v, .int .i64 0] w fun e w' => e = .returned (.int .i64 0) ∧ Laid w w' base b row (os ++ xs) := by
  have hrow := hw.row_ne
  have hrlt := hw.lt
  obtain ⟨v0, hb, ho, rfl⟩ := hw
  have c0 := cell_of_one hb
  have f0 := free_of_one hb
  have HO := Lib.hid ho
  have HH := Lib.hid h
  have HB := Lib.hid hb
  have HR := Lib.hid hrow
  have HL := Lib.hid hrlt
  clear ho h hb hrow hrlt
  go_enter Tryz.func138, Tryz.ntmps138
  go_wp2_with (at_builtin; refine append_u8 rfl (.tmp 15) (.tmp 16) rfl HO.out HH.out rfl rfl (by omega) hbase ?_)
  intro aa cc w1 hown hg h3
  have hb1 : w1.heap[b]? = some (.cells #[v0] 198 (0, 0)) := (hg.block b HL.out.1 (fun e => HR.out e)).trans HB.out
  have c1 := cell_of_one hb1
  have f1 := free_of_one hb1
  have HB1 := Lib.hid hb1
  have HO1 := Lib.hid hown
  have HG := Lib.hid hg
  have H3 := Lib.hid h3
  clear hb1 hown hg h3
  go_wp2
  go_ret
  have hne : (Value.slice aa (os.length + xs.length) cc).ownBlock ≠ some b := by
    rcases H3.out with e | e
    · rw [e]; exact HR.out
    · rw [e]; have := HL.out.1; simp; omega
  have hrow' : ∀ k, (Value.slice aa (os.length + xs.length) cc).ownBlock = some k → v0.ownBlock = some k ∨ w.heap.size ≤ k := by
    intro k hk
    rcases H3.out with e | e
    · exact Or.inl (e ▸ hk)
    · rw [e] at hk; simp at hk; exact Or.inr (by omega)
  refine ⟨rfl, _, ⟨_, one_setCell HB1.out, ?_, rfl⟩, Fr.set (S := WS b v0.ownBlock) (HG.out.mono (fun k _ h => Or.inr h)) b 0 (Or.inl rfl) _, hrow'⟩
  rw [List.length_append, List.map_append]
  exact HO1.out.set_other hne 0 _

set_option maxHeartbeats 400000 in
theorem wNum_ok (b base : Nat) (row : Option Nat) (os : List UInt8) (x n : Nat) (w : World) (hw : Wr w base b row os) (hbase : base ≤ w.heap.size) (h8 : n ≤ 8) (hfit : n = 8 ∨ x < 256 ^ n) (hr : os.length + n ≤ 140737488351232) :
    Calls Tryz.prog 103 #[.pointer (some ⟨b, 0, none⟩), .int .u64 (x : Int), .int .i64 (n : Int)] w fun e w' => e = .returned (.int .i64 0) ∧ Laid w w' base b row (os ++ putB x n) := by
  have HW := Lib.hid hw
  have HF := Lib.hid hfit
  clear hw hfit
  go_enter Tryz.func103, Tryz.ntmps103
  go_wp2_with fail
  refine (numPut_ok x n _ h8 HF.out).mono ?_
  rintro e w1 ⟨aa, cc, rfl, hown, hb⟩
  have hw1 : Wr w1 base b row os := HW.out.fr (Fr.of_below (S := fun _ => False) hb) id (fun _ _ => id)
  have hsl : Sl w1 1 (.slice aa n cc) (putB x n).length ((putB x n).map Bv) := by rw [putB_length]; exact Sl.own hown
  have hs1 := hb.size
  have H1 := Lib.hid hw1
  have H2 := Lib.hid hsl
  have HB := Lib.hid hb
  clear hw1 hsl hb hown
  go_wp2_with fail
  refine (add_ok b base row os (putB x n) _ w1 H1.out (by omega) H2.out (by rw [putB_length]; omega)).mono ?_
  rintro e w2 ⟨rfl, hl⟩
  have HL := Lib.hid hl
  clear hl
  go_wp2
  go_ret
  obtain ⟨row', a1, a2, a3⟩ := HL.out
  exact ⟨rfl, row', a1, (Fr.of_below HB.out).trans a2, fun k hk => (a3 k hk).imp id (fun h => by omega)⟩

set_option maxHeartbeats 400000 in
theorem wBytes_ok (b base : Nat) (row : Option Nat) (os : List UInt8) (w : World) (hw : Wr w base b row os) (hr : os.length ≤ 140737488351232) :
    Calls Tryz.prog 107 #[.pointer (some ⟨b, 0, none⟩)] w fun e w' => ∃ aa cc, e = .returned (.slice aa os.length cc) ∧ w'.ownsRow w.heap.size 5 1 (.slice aa os.length cc) os.length (os.map Bv) ∧ Below w.heap.size w w' := by
  obtain ⟨v0, hb, ho, rfl⟩ := hw
  have c0 := cell_of_one hb
  have HO := Lib.hid (Sl.own ho)
  clear ho hb
  go_enter Tryz.func107, Tryz.ntmps107
  go_wp2_with fail
  refine (clone_any v0 os os.length w HO.out hr).mono ?_
  rintro e w1 ⟨aa, cc, rfl, hown, hb⟩
  have HO1 := Lib.hid hown
  have HB := Lib.hid hb
  clear hown hb
  go_wp2
  go_ret
  exact ⟨_, _, rfl, HO1.out, HB.out⟩

def Rd (w : World) (b : Nat) (xs : List UInt8) : Prop :=
  ∃ v, w.heap[b]? = some (.cells #[v] 258 (0, 0)) ∧ Sl w 1 v xs.length (xs.map Bv)

theorem Rd.lt {w : World} {b : Nat} {xs : List UInt8} (h : Rd w b xs) : b < w.heap.size := by
  obtain ⟨v, h1, _⟩ := h; exact lt_of_block h1

end Go.Proofs.YtkbnkdokcmpcgaaGreatDoor
