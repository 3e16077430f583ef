/- Walks: the reference's Reader: Num, Str, Hash, End. -/
import Derived.Test.YtdhlcofjpkbgaaaDoorCodecD
import Derived.Deep.QuietTactic
import Derived.BigQuiet
namespace Go.Proofs.YtdhlcofjpkbgaaaDoor
open Go.RowKit

theorem Fr_drewN (S : Nat → Prop) (w : World) (n : Nat) : Fr S w (w.drewN n) := ⟨rfl, rfl, rfl, Nat.le_refl _, fun _ _ _ => rfl⟩

theorem getB_step' (l : List UInt8) (k : Nat) (h : k < l.length) (h8 : l.length ≤ 8) :
    Value.int .u64 (IntKind.u64.wrap ((getB (l.take k) : Int) * 256 + ((l[k].toNat : Nat) : Int))) = .int .u64 (getB (l.take (k + 1)) : Int) := by
  have h1 := getB_lt (l.take k)
  have h2 : (256 : Nat) ^ (l.take k).length ≤ 256 ^ 7 := Nat.pow_le_pow_right (by decide) (by simp; omega)
  have h3 : (256 : Nat) ^ 7 = 72057594037927936 := by decide
  have h4 := l[k].toNat_lt
  rw [getB_snoc l k h, IntKind.wrap_u64]
  congr 1
  omega

set_option maxHeartbeats 400000 in
theorem refNum_ok (v : Value) (l : List UInt8) (n : Nat) (w : World) (hv : Sl w 1 v n (l.map Bv)) (h8 : n ≤ 8) :
    Calls Tryd.prog 85 #[v] w fun e w' => e = .returned (.int .u64 (getB l : Int)) ∧ w = w' := by
  obtain ⟨hl, a, cap, rfl, hlc, hnil, hc⟩ := hv
  have hl' : l.length = n := by simpa using hl
  have HC := Lib.hid hc
  clear hl hc hnil
  go_enter Tryd.func85, Tryd.ntmps85
  go_wp2
  go_loop [3, 8] (fun x i => ∃ k : Nat, k ≤ n ∧ i = .int .i64 k ∧ x = .int .u64 (getB (l.take k) : Int)) (fun _ i => n - (intOf i).toNat)
  case atStart => exact ⟨0, Nat.zero_le _, rfl, by simp [getB]⟩
  case round =>
    obtain ⟨k, hk, rfl, rfl⟩ := hrel
    rcases Nat.lt_or_ge k n with hlt | hge
    · obtain ⟨b, o, rfl, hc⟩ := HC.out k (Bv (l[k]'(by omega))) (by simp [show k < l.length by omega])
      have hb := (l[k]'(by omega)).toNat_lt
      unfold Bv at hc
      have S := Lib.hid (getB_step' l k (by omega) (by omega))
      have hx1 := getB_lt (l.take k)
      have hx2 : (256 : Nat) ^ (l.take k).length ≤ 256 ^ 7 := Nat.pow_le_pow_right (by decide) (by simp; omega)
      have hx : getB (l.take k) < 72057594037927936 := Nat.lt_of_lt_of_le hx1 hx2
      have HX : IntKind.u64.wrap ((getB (l.take k) : Int) * 256) = (getB (l.take k) : Int) * 256 := by rw [IntKind.wrap_u64]; omega
      clear hx1 hx2 hx
      go_wp2
      go_round
      case rel => exact ⟨k + 1, by omega, by go_num, by first | exact S.out | (rw [← S.out]; simp [HX])⟩
      case measure => simp [intOf]; omega
    · obtain rfl : k = n := by omega
      have e : l.take k = l := List.take_of_length_le (by omega)
      have E := Lib.hid e
      clear e hl'
      go_wp2
      go_ret
      rw [E.out]
      exact ⟨rfl, rfl⟩

set_option maxHeartbeats 400000 in
theorem fNum_arg (b : Nat) (n : Int) (w : World) (h : n < 0 ∨ 8 < n) :
    Calls Tryd.prog 58 #[.pointer (some ⟨b, 0, none⟩), .int .i64 n] w fun e w' => e = .returned (.tuple #[.int .u64 0, .int .i64 2]) ∧ w = w' := by
  rcases h with h | h
  · go_enter Tryd.func58, Tryd.ntmps58
    go_wp2
    go_ret2
    exact ⟨rfl, rfl⟩
  · have h0 : ¬ n < 0 := by omega
    go_enter Tryd.func58, Tryd.ntmps58
    go_wp2
    go_ret2
    exact ⟨rfl, rfl⟩

set_option maxHeartbeats 400000 in
theorem fNum_short (b : Nat) (xs : List UInt8) (n : Nat) (w : World) (h : Rf w b xs) (h8 : n ≤ 8) (hn : xs.length < n) :
    Calls Tryd.prog 58 #[.pointer (some ⟨b, 0, none⟩), .int .i64 (n : Int)] w fun e w' => e = .returned (.tuple #[.int .u64 0, .int .i64 3]) ∧ w = w' := by
  have HH := Lib.hid h
  have b1 : decide ((n : Int) < 0) = false := by simp
  have b2 : decide ((8 : Int) < (n : Int)) = false := by simp; omega
  clear h
  go_enter Tryd.func58, Tryd.ntmps58
  go_wp2_with fail
  refine (fRaw_short b xs n _ HH.out (by omega)).mono ?_
  rintro e w1 ⟨rfl, rfl⟩
  go_wp2_with fail
  refine (refNum_ok _ [] 0 _ (Sl.nil _ 1) (by omega)).mono ?_
  rintro e w1 ⟨rfl, rfl⟩
  go_wp2
  go_ret2
  exact ⟨rfl, rfl⟩

set_option maxHeartbeats 400000 in
theorem fNum_ok (b : Nat) (ob : Option Nat) (xs : List UInt8) (n : Nat) (w : World) (h : RfO w b ob xs) (h8 : n ≤ 8) (hn : n ≤ xs.length) (hr : xs.length ≤ 140737488351232) :
    Calls Tryd.prog 58 #[.pointer (some ⟨b, 0, none⟩), .int .i64 (n : Int)] w fun e w' => e = .returned (.tuple #[.int .u64 (getB (xs.take n) : Int), .int .i64 0]) ∧ RfO w' b ob (xs.drop n) ∧ Fr (fun k => k = b) w w' := by
  have HH := Lib.hid h
  have b1 : decide ((n : Int) < 0) = false := by simp
  have b2 : decide ((8 : Int) < (n : Int)) = false := by simp; omega
  clear h
  go_enter Tryd.func58, Tryd.ntmps58
  go_wp2_with fail
  refine (fRaw_ok b ob xs n _ HH.out hn hr).mono ?_
  rintro e w1 ⟨aa, cc, rfl, hs, hrd, hf, hsz⟩
  have HS := Lib.hid hs
  have HR := Lib.hid hrd
  have HF := Lib.hid hf
  clear hs hrd hf hsz
  go_wp2_with fail
  refine (refNum_ok _ _ n _ HS.out h8).mono ?_
  rintro e w2 ⟨rfl, rfl⟩
  go_wp2
  go_ret2
  exact ⟨rfl, HR.out, HF.out⟩

set_option maxHeartbeats 400000 in
theorem fEnd_any (b : Nat) (xs : List UInt8) (w : World) (h : Rf w b xs) (hr : xs.length ≤ 140737488351232) :
    Calls Tryd.prog 57 #[.pointer (some ⟨b, 0, none⟩)] w fun e w' => e = .returned (.int .i64 (endE xs)) ∧ w = w' := by
  obtain ⟨a, cap, hc, hf, hb, hs⟩ := rf_pre h
  obtain ⟨_, a', cap', e', _, _, hcs⟩ := hs
  simp only [Value.slice.injEq, true_and] at e'
  obtain ⟨rfl, rfl⟩ := e'
  have HC := Lib.hid hcs
  clear hb hcs h hf
  go_enter Tryd.func57, Tryd.ntmps57
  go_wp2
  go_loop [10] (fun i => ∃ k : Nat, k ≤ xs.length ∧ i = .int .i64 k ∧ ∀ j, j < k → ∀ c, xs[j]? = some c → c = 0) (fun i => xs.length - (intOf i).toNat)
  case atStart => exact ⟨0, Nat.zero_le _, rfl, fun j hj => by omega⟩
  case round =>
    obtain ⟨k, hk, rfl, hz⟩ := hrel
    have HZ := Lib.hid hz
    clear hz
    rcases Nat.lt_or_ge k xs.length with hlt | hge
    · obtain ⟨b, o, rfl, hc2⟩ := HC.out k (Bv (xs[k]'hlt)) (by simp [hlt])
      unfold Bv at hc2
      obtain ⟨c0, hc0⟩ : ∃ c0, c0 = xs[k]'hlt := ⟨_, rfl⟩
      have hg : xs[k]? = some c0 := by rw [hc0]; exact List.getElem?_eq_getElem hlt
      rw [← hc0] at hc2
      have HG := Lib.hid hg
      clear hc0 hg
      by_cases h0 : c0 = 0
      · subst h0
        have hc3 : w.cell? ⟨b, o + k, none⟩ = some (.int .u8 0) := hc2
        clear hc2
        go_wp2
        go_round
        case rel =>
          refine ⟨k + 1, by omega, by go_num, fun j hj c hcj => ?_⟩
          rcases Nat.lt_or_ge j k with h | h
          · exact HZ.out j h c hcj
          · obtain rfl : j = k := by omega
            rw [HG.out] at hcj
            exact (Option.some.inj hcj).symm
        case measure => simp [intOf]; omega
      · have hne : ((c0.toNat : Int) != 0) = true := by
          have : c0.toNat ≠ 0 := fun e => h0 (UInt8.toNat_inj.1 (by simpa using e))
          simp; omega
        have HE := Lib.hid (endE_not (xs := xs) (fun h => h0 (h c0 (List.mem_of_getElem? HG.out))))
        clear h0
        go_wp2
        go_ret
        exact ⟨by rw [HE.out]; rfl, rfl⟩
    · obtain rfl : k = xs.length := by omega
      have HE := Lib.hid (endE_zero (xs := xs) (fun y hy => by
        obtain ⟨j, hj⟩ := List.getElem?_of_mem hy
        exact HZ.out j (List.getElem?_eq_some_iff.1 hj).1 y hj))
      go_wp2
      go_ret
      exact ⟨by rw [HE.out]; rfl, rfl⟩

theorem rf_first {w : World} {b : Nat} {ob : Option Nat} {c : UInt8} {xs : List UInt8} (h : RfO w b ob (c :: xs)) : ∃ b' o' cap, w.cell? ⟨b, 0, none⟩ = some (.slice (some ⟨b', o', none⟩) (xs.length + 1) cap) ∧ w.cell? ⟨b', o', none⟩ = some (.int .u8 (c.toNat : Int)) := by
  obtain ⟨v, hb, ⟨_, a', cap', rfl, _, _, hcs⟩, _⟩ := h
  obtain ⟨b', o', rfl, h0⟩ := hcs 0 (Bv c) rfl
  exact ⟨b', o', cap', cell_of_one hb, h0⟩

set_option maxHeartbeats 400000 in
theorem fStr_empty (b : Nat) (w : World) (h : Rf w b []) :
    Calls Tryd.prog 54 #[.pointer (some ⟨b, 0, none⟩)] w fun e w' => e = .returned (.tuple #[.string ⟨#[]⟩, .int .i64 3]) ∧ ∃ n, w' = w.drewN n := by
  obtain ⟨a, cap, hc, hf, hb, hs⟩ := rf_pre h
  have b0 : ((([] : List UInt8).length : Int) == 0) = true := rfl
  clear hb hs h hf
  go_enter Tryd.func54, Tryd.ntmps54
  go_wp2
  go_quiet (fail)
  go_wp2
  go_ret2
  exact ⟨rfl, _, rfl⟩

set_option maxHeartbeats 1000000 in
theorem fStr_cut (b : Nat) (ob : Option Nat) (c : UInt8) (xs : List UInt8) (w : World) (h : RfO w b ob (c :: xs)) (hn : xs.length < c.toNat) (hr : xs.length + 1 ≤ 140737488351232) :
    Calls Tryd.prog 54 #[.pointer (some ⟨b, 0, none⟩)] w fun e w' => e = .returned (.tuple #[.string ⟨#[]⟩, .int .i64 3]) ∧ ∃ n, w' = w.drewN n := by
  obtain ⟨b', o', cap, hc, hc0⟩ := rf_first h
  have hc256 := c.toNat_lt
  have b0 : (((xs.length + 1 : Nat) : Int) == 0) = false := by simp; omega
  have b0' : ((xs.length : Int) + 1 == 0) = false := by simp; omega
  have b1 : decide ((xs.length : Int) + 1 < 1 + (c.toNat : Int)) = true := by simp; omega
  have b1' : ((xs.length : Int) + 1 < 1 + (c.toNat : Int)) := by omega
  clear h
  go_enter Tryd.func54, Tryd.ntmps54
  go_wp2
  go_quiet (fail)
  go_wp2
  go_ret2
  exact ⟨rfl, _, rfl⟩

set_option maxHeartbeats 1000000 in
theorem fStr_ok (b : Nat) (ob : Option Nat) (c : UInt8) (xs : List UInt8) (w : World) (h : RfO w b ob (c :: xs)) (hn : c.toNat ≤ xs.length) (hr : xs.length + 1 ≤ 140737488351232) :
    Calls Tryd.prog 54 #[.pointer (some ⟨b, 0, none⟩)] w fun e w' => e = .returned (.tuple #[.string ⟨(xs.take c.toNat).toArray⟩, .int .i64 0]) ∧ RfO w' b ob (xs.drop c.toNat) ∧ Fr (fun k => k = b) w w' := by
  obtain ⟨b', o', cap, hc, hc0⟩ := rf_first h
  obtain ⟨v, hb, hs, rfl⟩ := h
  have hv : v = .slice (some ⟨b', o', none⟩) (xs.length + 1) cap := by
    have := cell_of_one hb; rw [hc] at this; exact (Option.some.inj this).symm
  subst hv
  obtain ⟨A, C, q, hA⟩ := cut_u8 hs (lo := 1) (hi := 1 + c.toNat) (by omega) (by rw [List.length_cons]; omega)
  obtain ⟨A', C', q', hA', hoA⟩ := cut_u8_lo' hs (lo := 1 + c.toNat) (by rw [List.length_cons]; omega)
  have hf := free_of_one hb
  have e1 : 1 + c.toNat - 1 = c.toNat := by omega
  rw [e1] at q hA
  have q1 : ∀ w', (Instr.slice 22 (.slice (some ⟨b', o', none⟩) (xs.length + 1) cap) (some (.int .i64 1)) (some (.int .i64 (1 + (c.toNat : Int)))) none).run Tryd.prog w' = .ok (.slice A c.toNat C) w' := fun w' => by
    have := q w'; rw [Int.natCast_add] at this; exact this
  have q2 : ∀ w', (Instr.slice 22 (.slice (some ⟨b', o', none⟩) (xs.length + 1) cap) (some (.int .i64 (1 + (c.toNat : Int)))) none none).run Tryd.prog w' = .ok (.slice A' ((c :: xs).length - (1 + c.toNat)) C') w' := fun w' => by
    have := q' w'; rw [Int.natCast_add] at this; exact this
  have q3 := fun n => toStr_u8 (w := w.drewN n) hA
  have ed : (c :: xs).drop 1 = xs := rfl
  rw [ed] at q3 hA
  have hc256 := c.toNat_lt
  have b0 : (((xs.length + 1 : Nat) : Int) == 0) = false := by simp; omega
  have b0' : ((xs.length : Int) + 1 == 0) = false := by simp; omega
  have b1 : decide ((xs.length : Int) + 1 < 1 + (c.toNat : Int)) = false := by simp; omega
  have HA' := Lib.hid hA'
  have HOA := Lib.hid hoA
  have HB := Lib.hid hb
  have HC := Lib.hid hc
  clear hA hA' hoA hb hs q q' e1 ed
  go_enter Tryd.func54, Tryd.ntmps54
  go_wp2
  go_quiet (fail)
  go_wp2
  go_ret2
  have hkeep : ∀ (ys : List UInt8) (p : Addr) (u : Value), u ∈ ys.map Bv → w.cell? p = some u → (w.setCell ⟨b, 0, none⟩ (.slice A' ((c :: xs).length - (1 + c.toNat)) C')).cell? p = some u := by
    intro ys p u hu hp
    obtain ⟨x, _, rfl⟩ := List.mem_map.1 hu
    exact cell_set_other hp HC.out (Bv_ne_slice x _ _ _)
  refine ⟨rfl, ⟨_, one_setCell HB.out, ?_, HOA.out⟩, Fr.set (S := fun k => k = b) (Fr_drewN _ w _) b 0 rfl _⟩
  have e2 : (xs.drop c.toNat).length = (c :: xs).length - (1 + c.toNat) := by rw [List.length_drop, List.length_cons]; omega
  have e3 : (c :: xs).drop (1 + c.toNat) = xs.drop c.toNat := by rw [Nat.add_comm, List.drop_succ_cons]
  rw [e2, ← e3]
  exact HA'.out.cells (hkeep _)

set_option maxRecDepth 100000 in
set_option maxHeartbeats 1000000 in
theorem fHash_ok (b : Nat) (ob : Option Nat) (xs : List UInt8) (w : World) (h : RfO w b ob xs) (hn : 32 ≤ xs.length) (hr : xs.length ≤ 140737488351232) :
    Calls Tryd.prog 55 #[.pointer (some ⟨b, 0, none⟩)] w fun e w' => e = .returned (.tuple #[.agg ((xs.take 32).map Bv).toArray, .int .i64 0]) ∧ RfO w' b ob (xs.drop 32) ∧ Fr (fun k => k = b) w w' := by
  have hlt := h.rf.lt
  have hobl := h.lt (by intro e; subst e; simp at hn)
  have HH := Lib.hid (h.fr (((Fr.refl (fun _ => False) w).alloc (.cells ((List.replicate 32 (0 : UInt8)).map Bv).toArray 46)).alloc (.cells ((List.replicate 32 (0 : UInt8)).map Bv).toArray 46)) id (fun _ _ => id))
  have HOL := Lib.hid hobl
  clear h hobl
  go_enter Tryd.func55, Tryd.ntmps55
  go_wp2_with fail
  refine (fRaw_ok b ob xs 32 _ HH.out hn hr).mono ?_
  rintro e w1 ⟨aa, cc, rfl, hs, hst, hfr, hsz⟩
  have HG0 := Lib.hid ((hfr.block w.heap.size (by simp; omega) (by omega)).trans (heap_alloc2_old w _ _))
  have HG := Lib.hid ((hfr.block (w.heap.size + 1) (by simp) (by omega)).trans (heap_alloc2_new w _ _))
  have HS := Lib.hid hs
  have HR := Lib.hid hst
  have HF := Lib.hid hfr
  clear hs hst hfr
  go_wp2_with (refine copy_u8 rfl (.tmp 12) (.tmp 13) rfl HG.out HS.out rfl rfl (by simp) ?_)
  intro w2 hg2 hf2
  have hov : over [0, 0, 0, 0, 0, 0, 0, 0, 0, 0, 0, 0, 0, 0, 0, 0, 0, 0, 0, 0, 0, 0, 0, 0, 0, 0, 0, 0, 0, 0, 0, 0] 0 (List.take 32 (List.take 32 xs)) = xs.take 32 := by
    rw [List.take_take, Nat.min_self]; exact over_all _ _ (by simp; omega)
  obtain ⟨y, hy⟩ : ∃ y, y = xs.take 32 := ⟨_, rfl⟩
  rw [hov, ← hy] at hg2
  have hlen : y.length = 32 := by rw [hy]; simp; omega
  have HLn := Lib.hid hlen
  have HY := Lib.hid hy
  have HA2 := Lib.hid (At.of_row (cs := y.map Bv) hg2)
  have HG2 := Lib.hid ((hf2.block w.heap.size (by rw [hsz]; simp only [World.size_alloc]; omega) (by omega)).trans HG0.out)
  have hF2 : Fr (fun k => k = b) w w2 := ((((Fr.refl (fun k => k = b) w).alloc (.cells ((List.replicate 32 (0 : UInt8)).map Bv).toArray 46)).alloc (.cells ((List.replicate 32 (0 : UInt8)).map Bv).toArray 46)).trans HF.out).step hf2 (fun k hk => Or.inr (by omega))
  have HF2 := Lib.hid hF2
  have HR2 := Lib.hid (HR.out.fr hf2 (by omega) (fun k hk e => by have := HOL.out k hk; omega))
  clear hg2 hf2 hov hlen hF2 hy hsz
  go_wp2_with (first | (refine load_hash' rfl (.tmp 4) rfl rfl HA2.out HLn.out ?_) | (refine store_hash rfl (.tmp 2) (.tmp 15) rfl rfl rfl HG2.out (by simp) HLn.out ?_))
  intro w3 hg3 hf3
  have HG3 := Lib.hid hg3
  have HF3 := Lib.hid hf3
  clear hg3 hf3
  go_wp2
  refine bodyPost_ret (ret_hash rfl rfl HG3.out HLn.out) rfl ?_
  exact ⟨by rw [HY.out]; rfl, HR2.out.fr HF3.out (by omega) (fun k hk e => by have := HOL.out k hk; omega), HF2.out.step HF3.out (fun k hk => Or.inr (by omega))⟩

set_option maxRecDepth 100000 in
set_option maxHeartbeats 1000000 in
theorem fHash_short (b : Nat) (xs : List UInt8) (w : World) (h : Rf w b xs) (hn : xs.length < 32) :
    Calls Tryd.prog 55 #[.pointer (some ⟨b, 0, none⟩)] w fun e w' => e = .returned (.tuple #[.agg ((List.replicate 32 (0 : UInt8)).map Bv).toArray, .int .i64 3]) ∧ Rf w' b xs ∧ Below w.heap.size w w' := by
  have hlt := h.lt
  have hb0 : Below w.heap.size w ((w.alloc (.cells ((List.replicate 32 (0 : UInt8)).map Bv).toArray 46)).alloc (.cells ((List.replicate 32 (0 : UInt8)).map Bv).toArray 46)) := ((Below.refl _ w).alloc (Nat.le_refl _) _).alloc (by simp) _
  have HH := Lib.hid (h.below hb0)
  have HB0 := Lib.hid hb0
  have HI := Lib.hid h
  clear h hb0
  go_enter Tryd.func55, Tryd.ntmps55
  go_wp2_with fail
  refine (fRaw_short b xs 32 _ HH.out (by omega)).mono ?_
  rintro e w1 ⟨rfl, hw1⟩
  have hg0 : w1.heap[w.heap.size]? = some (.cells ((List.replicate 32 (0 : UInt8)).map Bv).toArray 46 (0, 0)) := by rw [← hw1]; exact heap_alloc2_old w _ _
  have hg1 : w1.heap[w.heap.size + 1]? = some (.cells ((List.replicate 32 (0 : UInt8)).map Bv).toArray 46 (0, 0)) := by rw [← hw1]; exact heap_alloc2_new w _ _
  have hb1 : Below w.heap.size w w1 := by rw [← hw1]; exact HB0.out
  obtain ⟨y, hy⟩ : ∃ y, y = List.replicate 32 (0 : UInt8) := ⟨_, rfl⟩
  rw [← hy] at hg0 hg1
  have hlen : y.length = 32 := by rw [hy]; simp
  have HLn := Lib.hid hlen
  have HG0 := Lib.hid hg0
  have HG := Lib.hid hg1
  have HB1 := Lib.hid hb1
  have HY := Lib.hid hy
  clear hy hlen hg1 hg0 hb1 hw1
  go_wp2_with (refine copy_u8 (vs := .slice none 0 0) (n := 0) (ys := []) (cur := y) rfl (.tmp 12) (.tmp 13) rfl HG.out (Sl.nil w1 1) rfl rfl (by simp) ?_)
  intro w2 hg2 hf2
  have hg2' : w2.heap[w.heap.size + 1]? = some (.cells (y.map Bv).toArray 46 (0, 0)) := by simpa [over] using hg2
  have HG2 := Lib.hid ((hf2.block w.heap.size (lt_of_block HG0.out) (by omega)).trans HG0.out)
  have HA2 := Lib.hid (At.of_row (cs := y.map Bv) hg2')
  have hb2 := HB1.out.trans (hf2.below HB1.out.size (fun k hk => by omega))
  have HB2 := Lib.hid hb2
  clear hg2 hf2 hg2' hb2
  go_wp2_with (first | (refine load_hash' rfl (.tmp 4) rfl rfl HA2.out HLn.out ?_) | (refine store_hash rfl (.tmp 2) (.tmp 15) rfl rfl rfl HG2.out (by rw [List.size_toArray, List.length_map]; exact HLn.out) HLn.out ?_))
  intro w3 hg3 hf3
  have HG3 := Lib.hid hg3
  have hb3 := HB2.out.trans (hf3.below HB2.out.size (fun k hk => by omega))
  have HB3 := Lib.hid hb3
  clear hg3 hf3 hb3
  go_wp2
  refine bodyPost_ret (ret_hash rfl rfl HG3.out HLn.out) rfl ?_
  exact ⟨by rw [HY.out]; rfl, HI.out.below HB3.out, HB3.out⟩

end Go.Proofs.YtdhlcofjpkbgaaaDoor
