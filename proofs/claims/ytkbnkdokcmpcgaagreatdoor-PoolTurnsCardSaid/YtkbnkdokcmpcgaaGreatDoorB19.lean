/- The two Readers, each reading by one law, the block of their bytes kept in sight. Walks: ptr.Get, the reference's Get of a pointer. What bytes tell, as data; rows of strings and of pointers that grow; a node that is made. Walks: banyanlaw09's alive. -/
import Derived.Test.YtkbnkdokcmpcgaaGreatDoorB11
import Derived.Test.YtkbnkdokcmpcgaaGreatDoorB14
import Derived.Test.YtkbnkdokcmpcgaaGreatDoorB16
import Derived.Test.YtkbnkdokcmpcgaaGreatDoorB18
namespace Go.Proofs.YtkbnkdokcmpcgaaGreatDoor
open Go.RowKit

set_option maxHeartbeats 400000 in
theorem rNumO_ok (b : Nat) (ob : Option Nat) (xs : List UInt8) (n : Nat) (w : World) (h : RdO w b ob xs) (h8 : n ≤ 8) (hn : n ≤ xs.length) (hr : xs.length ≤ 140737488351232) :
    Calls Tryz.prog 118 #[.pointer (some ⟨b, 0, none⟩), .int .i64 (n : Int)] w fun e w' => e = .returned (.tuple #[.int .u64 (getB (xs.take n) : Int), .int .i64 0]) ∧ RdO w' b ob (xs.drop n) ∧ Fr (fun k => k = b) w w' := by
  have HH := Lib.hid h
  have b1 : decide ((n : Int) < 0) = false := by simp
  have b2 : decide ((8 : Int) < (n : Int)) = false := by simp; omega
  clear h
  go_enter Tryz.func118, Tryz.ntmps118
  go_wp2_with fail
  refine (take_stay b ob xs 0 n _ HH.out (by omega) hr).mono ?_
  rintro e w1 ⟨aa, cc, rfl, hown, hrd, hfr⟩
  have HS := Lib.hid (Sl.own hown)
  have HR := Lib.hid hrd
  have HF := Lib.hid hfr
  clear hown hrd hfr
  go_wp2_with fail
  refine (numGet_ok _ _ n _ HS.out h8).mono ?_
  rintro e w2 ⟨rfl, rfl⟩
  go_wp2
  go_ret2
  exact ⟨by simp, by simpa using HR.out, HF.out⟩

set_option maxHeartbeats 400000 in
theorem rStrO_ok (b : Nat) (ob : Option Nat) (c : UInt8) (xs : List UInt8) (w : World) (h : RdO w b ob (c :: xs)) (hn : c.toNat ≤ xs.length) (hr : xs.length + 1 ≤ 140737488351232) :
    Calls Tryz.prog 119 #[.pointer (some ⟨b, 0, none⟩)] w fun e w' => e = .returned (.tuple #[.string ⟨(xs.take c.toNat).toArray⟩, .int .i64 0]) ∧ RdO w' b ob (xs.drop c.toNat) ∧ Fr (fun k => k = b) w w' := by
  obtain ⟨a, cap, hc, hf, hb, hs⟩ := take_pre b _ w h.rd
  obtain ⟨b', o', rfl, hc0⟩ : ∃ b' o', a = some ⟨b', o', none⟩ ∧ w.cell? ⟨b', o', none⟩ = some (.int .u8 (c.toNat : Int)) := by
    obtain ⟨_, a', cap', e, _, _, hcs⟩ := hs
    obtain ⟨b', o', rfl, h0⟩ := hcs 0 (Bv c) rfl
    simp only [Value.slice.injEq, true_and] at e
    exact ⟨b', o', e.1, h0⟩
  have HH := Lib.hid h
  have hc256 := c.toNat_lt
  clear hb hs h hf
  go_enter Tryz.func119, Tryz.ntmps119
  go_wp2_with fail
  refine (rLeft_any b _ _ HH.out.rd).mono ?_
  rintro e w1 ⟨rfl, rfl⟩
  rw [List.length_cons]
  go_wp2_with fail
  refine (take_stay b ob (c :: xs) 1 c.toNat _ HH.out (by rw [List.length_cons]; omega) (by rw [List.length_cons]; omega)).mono ?_
  rintro e w1 ⟨aa, cc, rfl, hown, hrd, hfr⟩
  have q := toStr_u8 (Sl.own hown)
  have HR := Lib.hid hrd
  have HF := Lib.hid hfr
  clear hown hrd hfr
  go_wp2
  go_ret2
  refine ⟨rfl, ?_, HF.out⟩
  have := HR.out
  rwa [Nat.add_comm, List.drop_succ_cons] at this

set_option maxRecDepth 100000 in
set_option maxHeartbeats 1000000 in
theorem rHashO_ok (b : Nat) (ob : Option Nat) (xs : List UInt8) (w : World) (h : RdO w b ob xs) (hn : 32 ≤ xs.length) (hr : xs.length ≤ 140737488351232) :
    Calls Tryz.prog 151 #[.pointer (some ⟨b, 0, none⟩)] w fun e w' => e = .returned (.tuple #[.agg ((xs.take 32).map Bv).toArray, .int .i64 0]) ∧ RdO w' b ob (xs.drop 32) ∧ Fr (fun k => k = b) w w' := by
  have hlt := h.rd.lt
  have ho := h
  have hobl := ho.lt (by intro e; subst e; simp at hn)
  have HH := Lib.hid (ho.fr ((Fr.refl (fun _ => False) w).alloc (.cells ((List.replicate 32 (0 : UInt8)).map Bv).toArray 33)) id (fun _ _ => id))
  have HOL := Lib.hid hobl
  clear h ho hobl
  go_enter Tryz.func151, Tryz.ntmps151
  go_wp2_with fail
  refine (take_stay b ob xs 0 32 _ HH.out (by omega) hr).mono ?_
  rintro e w1 ⟨aa, cc, rfl, hown, hst, hfr⟩
  have HG := Lib.hid ((hfr.block w.heap.size (by simp) (by omega)).trans (alloc_zero32 w))
  have HS := Lib.hid (Sl.own hown)
  have HR := Lib.hid hst
  have HF := Lib.hid hfr
  clear hown hst hfr
  go_wp2_with (refine copy_u8 rfl (.tmp 10) (.tmp 11) rfl HG.out HS.out rfl rfl (by simp) ?_)
  intro w2 hg2 hf2
  have hov : over [0, 0, 0, 0, 0, 0, 0, 0, 0, 0, 0, 0, 0, 0, 0, 0, 0, 0, 0, 0, 0, 0, 0, 0, 0, 0, 0, 0, 0, 0, 0, 0] 0 (List.take 32 (List.take 32 xs)) = xs.take 32 := by
    rw [List.take_take, Nat.min_self]; exact over_all _ _ (by simp; omega)
  obtain ⟨y, hy⟩ : ∃ y, y = xs.take 32 := ⟨_, rfl⟩
  rw [hov, ← hy] at hg2
  have hlen : y.length = 32 := by rw [hy]; simp; omega
  have HG2 := Lib.hid hg2
  have HLn := Lib.hid hlen
  have HY := Lib.hid hy
  have HA2 := Lib.hid (At.of_row (cs := y.map Bv) hg2)
  have hF2 : Fr (fun k => k = b) w w2 := (((Fr.refl (fun k => k = b) w).alloc (.cells ((List.replicate 32 (0 : UInt8)).map Bv).toArray 33)).trans HF.out).step hf2 (fun k hk => Or.inr (by omega))
  have HF2 := Lib.hid hF2
  have HR2 := Lib.hid (HR.out.fr hf2 (by omega) (fun k hk e => by have := HOL.out k hk; omega))
  clear hg2 hf2 hov hlen hF2 hy
  go_wp2_with (first | (refine load_hash' rfl (.tmp 2) rfl rfl HA2.out HLn.out ?_) | (refine store_hash rfl (.tmp 2) (.tmp 13) rfl rfl rfl HG2.out (by rw [List.size_toArray, List.length_map]; exact HLn.out) HLn.out ?_))
  intro w3 hg3 hf3
  have HG3 := Lib.hid hg3
  have HF3 := Lib.hid hf3
  clear hg3 hf3
  go_wp2
  refine bodyPost_ret (ret_hash rfl rfl HG3.out HLn.out) rfl ?_
  refine ⟨by rw [HY.out]; rfl, ?_, HF2.out.step HF3.out (fun k hk => Or.inr (by omega))⟩
  have := (HR2.out.fr HF3.out (by omega) (fun k hk e => by have := HOL.out k hk; omega))
  simpa using this

theorem RdO.below {w w' : World} {b : Nat} {ob : Option Nat} {xs : List UInt8} (h : RdO w b ob xs) (hb : Below w.heap.size w w') : RdO w' b ob xs := h.fr (Fr.of_below (S := fun _ => False) hb) id (fun _ _ => id)
theorem rNumO_any (b : Nat) (ob : Option Nat) (n : Int) (xs : List UInt8) (w : World) (h : RdO w b ob xs) (hr : xs.length ≤ 140737488351232) :
    Calls Tryz.prog 118 #[.pointer (some ⟨b, 0, none⟩), .int .i64 n] w fun e w' => e = .returned (.tuple #[.int .u64 ((numOf n xs).1 : Int), .int .i64 (numOf n xs).2.1]) ∧ RdO w' b ob (numOf n xs).2.2 ∧ Fr (fun k => k = b) w w' := by
  unfold numOf
  by_cases h1 : n < 0 ∨ 8 < n
  · simp only [h1, if_true]
    exact (rNum_arg b n w h1).mono (by rintro e w' ⟨rfl, rfl⟩; exact ⟨rfl, h, Fr.refl _ _⟩)
  · simp only [h1, if_false]
    obtain ⟨k, rfl⟩ := Int.eq_ofNat_of_zero_le (show 0 ≤ n by omega)
    by_cases h2 : (xs.length : Int) < (k : Int)
    · simp only [h2, if_true]
      exact (rNum_short b xs k w h.rd (by omega) (by omega)).mono (by rintro e w' ⟨rfl, rfl⟩; exact ⟨rfl, h, Fr.refl _ _⟩)
    · simp only [h2, if_false]
      exact rNumO_ok b ob xs k w h (by omega) (by omega) hr
theorem rStrO_any (b : Nat) (ob : Option Nat) (xs : List UInt8) (w : World) (h : RdO w b ob xs) (hr : xs.length ≤ 140737488351232) :
    Calls Tryz.prog 119 #[.pointer (some ⟨b, 0, none⟩)] w fun e w' => e = .returned (.tuple #[.string (strOf xs).1, .int .i64 (strOf xs).2.1]) ∧ RdO w' b ob (strOf xs).2.2 ∧ Fr (fun k => k = b) w w' := by
  cases xs with
  | nil => exact (rStr_empty b w h.rd).mono (by rintro e w' ⟨rfl, rfl⟩; exact ⟨rfl, h, Fr.refl _ _⟩)
  | cons c xs =>
    unfold strOf
    rcases Nat.lt_or_ge xs.length c.toNat with hc | hc
    · simp only [hc, if_true]
      exact (rStr_cut b c xs w h.rd hc hr).mono (by rintro e w' ⟨rfl, rfl⟩; exact ⟨rfl, h, Fr.refl _ _⟩)
    · simp only [Nat.not_lt.2 hc, if_false]
      exact rStrO_ok b ob c xs w h hc hr
theorem rHashO_any (b : Nat) (ob : Option Nat) (xs : List UInt8) (w : World) (h : RdO w b ob xs) (hr : xs.length ≤ 140737488351232) :
    Calls Tryz.prog 151 #[.pointer (some ⟨b, 0, none⟩)] w fun e w' => e = .returned (.tuple #[.agg ((hashOf xs).1.map Bv).toArray, .int .i64 (hashOf xs).2.1]) ∧ RdO w' b ob (hashOf xs).2.2 ∧ Fr (fun k => k = b) w w' := by
  unfold hashOf
  rcases Nat.lt_or_ge xs.length 32 with h1 | h1
  · simp only [h1, if_true]
    exact (rHash_short b xs w h.rd h1).mono (by rintro e w' ⟨rfl, _, h2⟩; exact ⟨rfl, h.below h2, Fr.of_below h2⟩)
  · simp only [Nat.not_lt.2 h1, if_false]
    exact rHashO_ok b ob xs w h h1 hr
end Go.Proofs.YtkbnkdokcmpcgaaGreatDoor
namespace Go.Proofs.YtkbnkdokcmpcgaaGreatDoor
open Go.RowKit

section
variable {P : Program}
/-- A part of a row, stored. -/
theorem wpList_store_part {ops : Array Oper} {rest : List Oper} {o : Oper} {a : Act} {w : World} {Q : Exit → Act → World → Prop} (hgd : o.guard = none) (ty : TypeId) (x y : Operand) (ho : o.op = .store ty x y)
    (b off : Nat) (hx : a.eval x = .pointer (some ⟨b, off, none⟩)) (cs : List Value) (hy : a.eval y = .agg cs.toArray) (old : Array Value) (t : TypeId) (hb : w.heap[b]? = some (.cells old t (0, 0))) (hl : off + cs.length ≤ old.size)
    (h1 : ∀ u ∈ cs, u.oneCell' = true) (hi : (P.info? ty).map (·.size) = some cs.length)
    (h : ∀ w', w'.heap[b]? = some (.cells (old.toList.take off ++ cs ++ old.toList.drop (off + cs.length)).toArray t (0, 0)) → Fr (fun k => k = b) w w' → w'.heap.size = w.heap.size → wpList P ops Q rest (a.put o.dst undef) w') : wpList P ops Q (o :: rest) a w := by
  refine wpList_plain hgd fun K hK => ?_
  have hst := run_storeCells_at P b off t cs 0 old w hb (by omega) h1
  cases hq : P.info? ty with
  | none => simp [hq] at hi
  | some i =>
    have hs : i.size = cs.length := by simpa [hq] using hi
    rw [Nat.add_zero] at hst
    have hr : (Instr.storeAt ty (.pointer (some ⟨b, off, none⟩)) (.agg cs.toArray)).run P w = .ok () (w.setRow b (old.toList.take off ++ cs ++ old.toList.drop (off + cs.length)).toArray) := by
      simp [Instr.storeAt, Instr.sureAddr, storeVar, sizeOf, typeInfo, hq, hs, Value.cells, Sem.run_bind, hst]
    unfold Oper.wp execOp
    simp only [ho, hx, hy, Sem.run_bind, Sem.run_pure, Result.andThen_ok, hr]
    exact hK _ _ (h _ (setRow_heap w b old _ t _ hb) ⟨rfl, rfl, rfl, by simp, fun k _ hk => setRow_other w b k _ hk⟩ (by simp))
end

/-- What is read for a pointer. -/
def ptrOf (xs : List UInt8) : Pt × Int × List UInt8 :=
  if xs.length < 44 then (Pt.zero, 3, xs) else (⟨getB (xs.take 4), getB ((xs.drop 4).take 8), (xs.drop 12).take 32⟩, 0, xs.drop 44)
theorem ptrOf_wf (xs : List UInt8) : (ptrOf xs).1.Wf := by
  unfold ptrOf
  split
  · exact Pt.zero_wf
  · refine ⟨?_, ?_, ?_⟩
    · have := getB_lt (xs.take 4)
      rw [List.length_take, Nat.min_eq_left (by omega)] at this
      simpa using this
    · have := getB_lt ((xs.drop 4).take 8)
      rw [List.length_take, List.length_drop, Nat.min_eq_left (by omega)] at this
      simpa using this
    · simp; omega

theorem ret_ptr {fn : Func} {p u : Tmp} (h : fn.results = #[.cell p 43, .tmp u]) {tmps : Array Value} {w : World} {g : Nat} {q : Pt} {t : TypeId} (hp : tmps.getD p undef = .pointer (some ⟨g, 0, none⟩))
    (hg : w.heap[g]? = some (.cells q.arr t (0, 0))) (hl : q.Wf) :
    (results fn tmps).run Tryz.prog w = .ok (.tuple #[.agg q.arr, tmps.getD u undef]) w := by
  rw [results_cell_tmp h, hp]
  simp [asAddr, run_loadVar_row w g t 43 _ _ _ hg Tryz.underlying43 rfl (by rw [info_ptr]; simp [hl.size]), Result.andThen]

theorem hash_part {ops : Array Oper} {rest : List Oper} {o : Oper} {a : Act} {w : World} {Q : Exit → Act → World → Prop} (hgd : o.guard = none) (x y : Operand) (ho : o.op = .store 33 x y)
    {b : Nat} (hx : a.eval x = .pointer (some ⟨b, 2, none⟩)) {h : List UInt8} (hy : a.eval y = .agg (h.map Bv).toArray) {old : Array Value} {t : TypeId} (hb : w.heap[b]? = some (.cells old t (0, 0))) (hl : h.length = 32) {p : Pt} (hs : p.sum = h)
    (ho2 : ∃ c0 c1 l, old = (c0 :: c1 :: l).toArray ∧ l.length = 32 ∧ c0 = .int .u32 (p.addr : Int) ∧ c1 = .int .u64 (p.birth : Int))
    (hK : ∀ w', w'.heap[b]? = some (.cells p.arr t (0, 0)) → Fr (fun k => k = b) w w' → w'.heap.size = w.heap.size → wpList Tryz.prog ops Q rest (a.put o.dst undef) w') : wpList Tryz.prog ops Q (o :: rest) a w := by
  obtain ⟨c0, c1, l, rfl, hll, rfl, rfl⟩ := ho2
  refine wpList_store_part hgd _ x y ho b 2 hx (h.map Bv) hy _ t hb (by simp; omega) (Bv_oneCell _) (by rw [info_hash']; simp [hl]) (fun w' h1 h2 h3 => hK w' ?_ h2 h3)
  rw [h1]
  congr 2
  apply Array.toList_inj.1
  subst hs
  rw [List.length_map, hl]
  simp [Pt.arr, Pt.cells]
  omega

theorem zero_cells (c : Array Value) (h : c = Pt.zero.arr) (a b : Value) : ∃ l, (c.setIfInBounds 0 a).setIfInBounds 1 b = (a :: b :: l).toArray ∧ l.length = 32 := by
  subst h
  exact ⟨(List.replicate 32 0).map Bv, by simp [Pt.arr, Pt.cells, Pt.zero], by simp⟩

theorem getB4_lt (xs : List UInt8) : getB (xs.take 4) < 4294967296 := by
  have h1 := getB_lt (xs.take 4)
  have h2 : (xs.take 4).length ≤ 4 := by rw [List.length_take]; omega
  exact Nat.lt_of_lt_of_le h1 (by have := Nat.pow_le_pow_right (show 0 < 256 by decide) h2; simpa using this)

set_option maxRecDepth 100000 in
set_option maxHeartbeats 4000000 in
theorem ptrGet_any (b : Nat) (ob : Option Nat) (xs : List UInt8) (w : World) (h : RdO w b ob xs) (hob : ∀ k, ob = some k → k < w.heap.size) (hr : xs.length ≤ 140737488351232) :
    Calls Tryz.prog 120 #[.pointer (some ⟨b, 0, none⟩)] w fun e w' => e = .returned (.tuple #[.agg (ptrOf xs).1.arr, .int .i64 (ptrOf xs).2.1]) ∧ RdO w' b ob (ptrOf xs).2.2 ∧ Fr (fun k => k = b) w w' := by
  have hlt := h.rd.lt
  have HH := Lib.hid (h.below ((Below.refl _ w).alloc (Nat.le_refl _) (.cells Pt.zero.arr 43)))
  have HOB := Lib.hid hob
  have hg0 : ∀ w1, w.alloc (.cells Pt.zero.arr 43) = w1 → w1.heap[w.heap.size]? = some (.cells Pt.zero.arr 43 (0, 0)) := fun w1 e => by rw [← e]; exact heap_alloc_new _ _
  have HG0 := Lib.hid hg0
  clear h hg0 hob
  by_cases hs : xs.length < 44
  · have HQ := Lib.hid (show ptrOf xs = (Pt.zero, 3, xs) by unfold ptrOf; rw [if_pos hs])
    have m1 : (xs.length : Int) < 44 := by omega
    clear hs
    go_enter Tryz.func120, Tryz.ntmps120
    go_wp2_with fail
    refine (rLeft_any b xs _ HH.out.rd).mono ?_
    rintro e w1 ⟨rfl, hw1⟩
    have HG1 := Lib.hid (HG0.out w1 hw1)
    have HA1 := Lib.hid (show At w1 w.heap.size 0 Pt.zero.cells from At.of_row HG1.out)
    have HR1 := Lib.hid (show RdO w1 b ob xs by rw [← hw1]; exact HH.out)
    have HF1 := Lib.hid (show Fr (fun k => k = b) w w1 by rw [← hw1]; exact (Fr.refl _ w).alloc _)
    clear hw1
    go_wp2_with (first | (refine load_ptr rfl (.tmp 2) rfl rfl HA1.out Pt.zero_wf ?_) | (refine store_ptr rfl (.tmp 2) (.tmp 14) rfl rfl rfl HG1.out Pt.zero_wf.size Pt.zero_wf ?_))
    intro w2 hg2 hf2 hs2
    have HG2 := Lib.hid hg2
    have HR2 := Lib.hid (HR1.out.fr hf2 (by omega) (fun k hk e => by have := HOB.out k hk; omega))
    have HF2 := Lib.hid (HF1.out.step hf2 (fun k hk => Or.inr (by omega)))
    clear hg2 hf2 hs2
    go_wp2
    refine bodyPost_ret (ret_ptr rfl rfl HG2.out Pt.zero_wf) rfl ?_
    rw [HQ.out]
    exact ⟨rfl, HR2.out, HF2.out⟩
  · have hq : ptrOf xs = (⟨getB (xs.take 4), getB ((xs.drop 4).take 8), (xs.drop 12).take 32⟩, 0, xs.drop 44) := by unfold ptrOf; rw [if_neg hs]
    have hwf := ptrOf_wf xs
    rw [hq] at hwf
    have m1 : ¬ (xs.length : Int) < 44 := by omega
    have HN4 := Lib.hid (show numOf 4 xs = (getB (xs.take 4), 0, xs.drop 4) by unfold numOf; rw [if_neg (by omega), if_neg (by omega)]; rfl)
    have HN8 := Lib.hid (show numOf 8 (xs.drop 4) = (getB ((xs.drop 4).take 8), 0, xs.drop 12) by unfold numOf; rw [if_neg (by omega), if_neg (by rw [List.length_drop]; omega), List.drop_drop]; rfl)
    have HHs := Lib.hid (show hashOf (xs.drop 12) = ((xs.drop 12).take 32, 0, xs.drop 44) by unfold hashOf; rw [if_neg (by rw [List.length_drop]; omega), List.drop_drop])
    have hl32 : ((xs.drop 12).take 32).length = 32 := by simp; omega
    have HL32 := Lib.hid hl32
    obtain ⟨p, hp⟩ : ∃ p : Pt, p = ⟨getB (xs.take 4), getB ((xs.drop 4).take 8), (xs.drop 12).take 32⟩ := ⟨_, rfl⟩
    rw [← hp] at hq hwf
    have HQ := Lib.hid hq
    have HW := Lib.hid hwf
    have hp0 : getB (xs.take 4) = p.addr := by rw [hp]
    have hp1 : getB ((xs.drop 4).take 8) = p.birth := by rw [hp]
    have hp2 : (xs.drop 12).take 32 = p.sum := by rw [hp]
    rw [hp0] at HN4
    rw [hp1] at HN8
    rw [hp2] at HHs HL32
    have ha := hwf.addr
    clear hs hq hwf hl32 hp hp0 hp1 hp2
    go_enter Tryz.func120, Tryz.ntmps120
    go_wp2_with fail
    refine (rLeft_any b xs _ HH.out.rd).mono ?_
    rintro e w1 ⟨rfl, hw1⟩
    have HG1 := Lib.hid (HG0.out w1 hw1)
    have HR1 := Lib.hid (show RdO w1 b ob xs by rw [← hw1]; exact HH.out)
    have HF1 := Lib.hid (show Fr (fun k => k = b) w w1 by rw [← hw1]; exact (Fr.refl _ w).alloc _)
    clear hw1
    go_wp2_with fail
    refine (rNumO_any b ob 4 xs _ HR1.out hr).mono ?_
    rw [HN4.out]
    rintro e w2 ⟨rfl, hr2, hf2⟩
    have hg2 := (hf2.block w.heap.size (lt_of_block HG1.out) (by omega)).trans HG1.out
    have HG2 := Lib.hid hg2
    have HR2 := Lib.hid hr2
    have HF2 := Lib.hid (HF1.out.trans hf2)
    have c0 : w2.cell? ⟨w.heap.size, 0, none⟩ = some (.int .u32 0) := cell_of_row _ _ 0 _ _ _ hg2
    have f0 : w2.frozen? ⟨w.heap.size, 0, none⟩ = false := by simp [World.frozen?, hg2]
    clear hr2 hf2 hg2
    go_wp2_with fail
    obtain ⟨w3, hw3⟩ : ∃ w3, w3 = w2.setCell ⟨w.heap.size, 0, none⟩ (.int .u32 (p.addr : Int)) := ⟨_, rfl⟩
    have hg3 : w3.heap[w.heap.size]? = some (.cells (Pt.zero.arr.setIfInBounds 0 (.int .u32 (p.addr : Int))) 43 (0, 0)) := by rw [hw3]; exact heap_setCell_same _ _ _ _ _ _ HG2.out
    have hr3 : RdO w3 b ob (xs.drop 4) := by
      rw [hw3]
      exact HR2.out.fr ((Fr.refl (fun k => k = w.heap.size) _).set _ 0 rfl _) (by omega) (fun k hk e => by have := HOB.out k hk; omega)
    have hF3 : Fr (fun k => k = b) w w3 := by rw [hw3]; exact HF2.out.setCell (Or.inr (Nat.le_refl _)) _
    rw [← hw3]
    have HF3 := Lib.hid hF3
    clear hw3 hF3 c0 f0
    refine (rNumO_any b ob 8 (xs.drop 4) _ hr3 (by rw [List.length_drop]; omega)).mono ?_
    rw [HN8.out]
    rintro e w4 ⟨rfl, hr4, hf4⟩
    have hg4 := (hf4.block w.heap.size (lt_of_block hg3) (by omega)).trans hg3
    have HG4 := Lib.hid hg4
    have HR4 := Lib.hid hr4
    have HF4 := Lib.hid (HF3.out.trans hf4)
    have c1 : w4.cell? ⟨w.heap.size, 1, none⟩ = some (.int .u64 0) := (cell_of_row _ _ 1 _ _ _ hg4).trans rfl
    have f1 : w4.frozen? ⟨w.heap.size, 1, none⟩ = false := by simp [World.frozen?, hg4]
    clear hr4 hf4 hg4 hg3 hr3
    go_wp2_with fail
    obtain ⟨w5, hw5⟩ : ∃ w5, w5 = w4.setCell ⟨w.heap.size, 1, none⟩ (.int .u64 (p.birth : Int)) := ⟨_, rfl⟩
    have hg5 : w5.heap[w.heap.size]? = some (.cells ((Pt.zero.arr.setIfInBounds 0 (.int .u32 (p.addr : Int))).setIfInBounds 1 (.int .u64 (p.birth : Int))) 43 (0, 0)) := by rw [hw5]; exact heap_setCell_same _ _ _ _ _ _ HG4.out
    have hr5 : RdO w5 b ob (xs.drop 12) := by
      rw [hw5]
      exact HR4.out.fr ((Fr.refl (fun k => k = w.heap.size) _).set _ 1 rfl _) (by omega) (fun k hk e => by have := HOB.out k hk; omega)
    have hF5 : Fr (fun k => k = b) w w5 := by rw [hw5]; exact HF4.out.setCell (Or.inr (Nat.le_refl _)) _
    rw [← hw5]
    have HF5 := Lib.hid hF5
    clear hw5 hF5 c1 f1
    refine (rHashO_any b ob (xs.drop 12) _ hr5 (by rw [List.length_drop]; omega)).mono ?_
    rw [HHs.out]
    rintro e w6 ⟨rfl, hr6, hf6⟩
    have hg6 := (hf6.block w.heap.size (lt_of_block hg5) (by omega)).trans hg5
    obtain ⟨l6, hl6, hl6'⟩ := zero_cells Pt.zero.arr rfl (.int .u32 (p.addr : Int)) (.int .u64 (p.birth : Int))
    rw [hl6] at hg6
    have HG6 := Lib.hid hg6
    have HO6 := Lib.hid (show ∃ c0 c1 l, (Value.int IntKind.u32 (p.addr : Int) :: Value.int IntKind.u64 (p.birth : Int) :: l6).toArray = (c0 :: c1 :: l).toArray ∧ l.length = 32 ∧ c0 = .int .u32 (p.addr : Int) ∧ c1 = .int .u64 (p.birth : Int) from ⟨_, _, l6, rfl, hl6', rfl, rfl⟩)
    have HR6 := Lib.hid hr6
    have HF6 := Lib.hid (HF5.out.trans hf6)
    clear hr6 hf6 hg6 hg5 hr5 hl6 hl6'
    go_wp2_with (refine hash_part (p := p) rfl (.tmp 34) (.tmp 32) rfl rfl rfl HG6.out HL32.out rfl HO6.out ?_)
    intro w7 hg7 hf7 hs7
    have HG7 := Lib.hid hg7
    have HA7 := Lib.hid (show At w7 w.heap.size 0 p.cells from At.of_row hg7)
    have HR7 := Lib.hid (HR6.out.fr hf7 (by omega) (fun k hk e => by have := HOB.out k hk; omega))
    have HF7 := Lib.hid (HF6.out.step hf7 (fun k hk => Or.inr (by omega)))
    clear hg7 hf7 hs7
    go_wp2_with (first | (refine load_ptr rfl (.tmp 2) rfl rfl HA7.out HW.out ?_) | (refine store_ptr rfl (.tmp 2) (.tmp 35) rfl rfl rfl HG7.out HW.out.size HW.out ?_))
    intro w8 hg8 hf8 hs8
    have HG8 := Lib.hid hg8
    have HR8 := Lib.hid (HR7.out.fr hf8 (by omega) (fun k hk e => by have := HOB.out k hk; omega))
    have HF8 := Lib.hid (HF7.out.step hf8 (fun k hk => Or.inr (by omega)))
    clear hg8 hf8 hs8
    go_wp2
    refine bodyPost_ret (ret_ptr rfl rfl HG8.out HW.out) rfl ?_
    rw [HQ.out]
    exact ⟨rfl, HR8.out, HF8.out⟩

end Go.Proofs.YtkbnkdokcmpcgaaGreatDoor

namespace Go.Proofs.YtkbnkdokcmpcgaaGreatDoor
open Go.RowKit

theorem free_row {w : World} {b i : Nat} {cs : Array Value} {t : TypeId} (hg : w.heap[b]? = some (.cells cs t (0, 0))) : w.frozen? ⟨b, i, none⟩ = false := by
  obtain ⟨g, hgg⟩ : ∃ g, g = b := ⟨_, rfl⟩
  subst hgg
  simp [World.frozen?, hg]

end Go.Proofs.YtkbnkdokcmpcgaaGreatDoor
namespace Go.Proofs.YtkbnkdokcmpcgaaGreatDoor
open Go.RowKit

/-- What was told so far: keys, values, what is left, whether all went well. -/
structure Tk where
  keys : List ByteArray
  vals : List ByteArray
  rest : List UInt8
  ok : Bool
def stepKV (leaf : Bool) (s : Tk) : Tk :=
  if leaf then ⟨s.keys ++ [(strOf s.rest).1], s.vals ++ [(strOf (strOf s.rest).2.2).1], (strOf (strOf s.rest).2.2).2.2, (s.ok && ((strOf s.rest).2.1 == 0)) && ((strOf (strOf s.rest).2.2).2.1 == 0)⟩
  else ⟨s.keys ++ [(strOf s.rest).1], s.vals, (strOf s.rest).2.2, s.ok && ((strOf s.rest).2.1 == 0)⟩
def tellKV (leaf : Bool) : Nat → Tk → Tk
  | 0, s => s
  | k + 1, s => stepKV leaf (tellKV leaf k s)
structure Tp where
  kids : List Pt
  rest : List UInt8
  ok : Bool
def stepP (s : Tp) : Tp := ⟨s.kids ++ [(ptrOf s.rest).1], (ptrOf s.rest).2.2, s.ok && ((ptrOf s.rest).2.1 == 0)⟩
def tellP : Nat → Tp → Tp
  | 0, s => s
  | k + 1, s => stepP (tellP k s)

def kind (xs : List UInt8) : Nat := (numOf 1 xs).1
def count (xs : List UInt8) : Nat := (numOf 1 (numOf 1 xs).2.2).1
def tell1 (xs : List UInt8) : Tk := tellKV (kind xs == 1) (count xs) ⟨[], [], (numOf 1 (numOf 1 xs).2.2).2.2, kind xs == 1 || kind xs == 2⟩
def tell2 (xs : List UInt8) : Tp := if kind xs == 1 then ⟨[], (tell1 xs).rest, (tell1 xs).ok⟩ else tellP (count xs + 1) ⟨[], (tell1 xs).rest, (tell1 xs).ok⟩
def toldN (xs : List UInt8) : Nd := ⟨kind xs == 1, (tell1 xs).keys, (tell1 xs).vals, (tell2 xs).kids⟩
/-- Is it a node's? -/
def getOk (xs : List UInt8) : Bool := (tell2 xs).ok && (endE (tell2 xs).rest == 0) && (checkE (toldN xs) == 0)

theorem kind_le (xs : List UInt8) : kind xs ≤ 255 := by
  unfold kind numOf
  split
  · simp
  · split
    · simp
    · have h1 := getB_lt (xs.take (1 : Int).toNat)
      have h2 : (xs.take (1 : Int).toNat).length ≤ 1 := by rw [List.length_take]; simp; omega
      have h3 : 256 ^ (xs.take (1 : Int).toNat).length ≤ 256 ^ 1 := Nat.pow_le_pow_right (by decide) h2
      simp only
      omega
theorem count_le (xs : List UInt8) : count xs ≤ 255 := kind_le (numOf 1 xs).2.2

theorem tellKV_keys (leaf : Bool) (s : Tk) : ∀ k, (tellKV leaf k s).keys.length = s.keys.length + k
  | 0 => rfl
  | k + 1 => by
    have := tellKV_keys leaf s k
    unfold tellKV stepKV
    cases leaf <;> simp [this] <;> omega
theorem tellKV_vals (s : Tk) : ∀ k, (tellKV true k s).vals.length = s.vals.length + k
  | 0 => rfl
  | k + 1 => by
    have := tellKV_vals s k
    unfold tellKV stepKV
    simp [this]; omega
theorem tellKV_novals (s : Tk) : ∀ k, (tellKV false k s).vals = s.vals
  | 0 => rfl
  | k + 1 => by
    have := tellKV_novals s k
    unfold tellKV stepKV
    simpa using this
theorem tellP_kids (s : Tp) : ∀ k, (tellP k s).kids.length = s.kids.length + k
  | 0 => rfl
  | k + 1 => by
    have := tellP_kids s k
    unfold tellP stepP
    simp [this]; omega
theorem tellKV_rest (leaf : Bool) (s : Tk) : ∀ k, (tellKV leaf k s).rest.length ≤ s.rest.length
  | 0 => Nat.le_refl _
  | k + 1 => by
    have h1 := tellKV_rest leaf s k
    have h2 := strOf_le (tellKV leaf k s).rest
    have h3 := strOf_le (strOf (tellKV leaf k s).rest).2.2
    unfold tellKV stepKV
    cases leaf <;> simp only [if_true, Bool.false_eq_true, if_false] <;> omega
theorem ptrOf_le (xs : List UInt8) : (ptrOf xs).2.2.length ≤ xs.length := by
  unfold ptrOf; split
  · exact Nat.le_refl _
  · simp only [List.length_drop]; omega
theorem tellP_rest (s : Tp) : ∀ k, (tellP k s).rest.length ≤ s.rest.length
  | 0 => Nat.le_refl _
  | k + 1 => by
    have h1 := tellP_rest s k
    have h2 := ptrOf_le (tellP k s).rest
    unfold tellP stepP
    simp only
    omega

/-! ### Rows that grow -/

theorem info_str : (Tryz.prog.info? 9).map (fun i => (i.zero, i.size, i.bytes)) = some (some (.string ⟨#[]⟩), 1, 16) := by kernel_rfl
theorem append_strs {w : World} {ops : Array Oper} {rest : List Oper} {o : Oper} {a : Act} {Q : Exit → Act → World → Prop} (hgd : o.guard = none) (s x : Operand)
    (ho : o.op = .call { callee := .builtin .append, args := #[s, x], argTypes := #[22, 22] })
    {base : Nat} {v : Value} {l : List ByteArray} (hown : w.ownsRow base 9 1 v l.length (l.map Value.string)) {vx : Value} {t : ByteArray} (hx : Sl w 1 vx 1 [Value.string t])
    (hs : a.eval s = v) (hxe : a.eval x = vx) (hr : l.length ≤ 1000000) (hbase : base ≤ w.heap.size)
    (h : ∀ aa cc w', w'.ownsRow base 9 1 (.slice aa (l.length + 1) cc) (l.length + 1) ((l ++ [t]).map Value.string) → Fr (fun k => v.ownBlock = some k) w w' → ((Value.slice aa (l.length + 1) cc).ownBlock = v.ownBlock ∨ (Value.slice aa (l.length + 1) cc).ownBlock = some w.heap.size) →
      wpList Tryz.prog ops Q rest (a.put o.dst (.slice aa (l.length + 1) cc)) w') : wpList Tryz.prog ops Q (o :: rest) a w := by
  obtain ⟨i0, hi, hz0, hz1, hz2⟩ := info_parts info_str
  refine wpList_append_sl hgd s x 22 ho base 9 i0 (.string ⟨#[]⟩) 1 16 Tryz.underlying22 hi hz0 hz1 hz2 rfl (by decide) v l.length _ hs hown vx 1 _ hxe hx (by intro u hu; simp at hu; subst hu; rfl) (by unfold maxLen; omega) (by omega) hbase ?_
  intro aa cc w' h2 hg h3
  refine h aa cc w' ?_ ((Fr.refl _ w).grown hg (fun k hk => Or.inl hk)) h3
  rw [List.map_append]; exact h2

theorem info_ptrz : ((Tryz.prog.info? 43).map (fun i => (i.zero.isSome, i.size, i.bytes))) = some (true, 34, 48) := by kernel_rfl
theorem zero_ptrz : ((Tryz.prog.info? 43).bind (·.zero)).map (·.cells.size) = some 34 := by kernel_rfl
theorem info_ptrs : ∃ i0 z, Tryz.prog.info? 43 = some i0 ∧ i0.zero = some z ∧ i0.size = 34 ∧ i0.bytes = 48 ∧ z.cells.size = 34 := by
  have e1 := info_ptrz
  have e2 := zero_ptrz
  cases hq : Tryz.prog.info? 43 with
  | none => rw [hq] at e1; simp at e1
  | some i =>
    rw [hq] at e1 e2
    simp only [Option.map_some, Option.some.injEq, Prod.mk.injEq, Option.isSome_iff_exists] at e1
    obtain ⟨⟨z, hz⟩, e3, e4⟩ := e1
    simp only [Option.bind_some, hz, Option.map_some, Option.some.injEq] at e2
    exact ⟨i, z, rfl, hz, e3, e4, e2⟩
theorem append_ptrs {w : World} {ops : Array Oper} {rest : List Oper} {o : Oper} {a : Act} {Q : Exit → Act → World → Prop} (hgd : o.guard = none) (s x : Operand)
    (ho : o.op = .call { callee := .builtin .append, args := #[s, x], argTypes := #[23, 23] })
    {base : Nat} {v : Value} {l : List Pt} (hown : w.ownsRow base 43 34 v l.length (l.map Pt.cells).flatten) {vx : Value} {p : Pt} (_hp : p.Wf) (hx : Sl w 34 vx 1 p.cells)
    (hs : a.eval s = v) (hxe : a.eval x = vx) (hr : l.length ≤ 1000000) (hbase : base ≤ w.heap.size)
    (h : ∀ aa cc w', w'.ownsRow base 43 34 (.slice aa (l.length + 1) cc) (l.length + 1) ((l ++ [p]).map Pt.cells).flatten → Fr (fun k => v.ownBlock = some k) w w' → ((Value.slice aa (l.length + 1) cc).ownBlock = v.ownBlock ∨ (Value.slice aa (l.length + 1) cc).ownBlock = some w.heap.size) →
      wpList Tryz.prog ops Q rest (a.put o.dst (.slice aa (l.length + 1) cc)) w') : wpList Tryz.prog ops Q (o :: rest) a w := by
  obtain ⟨i0, z, hi, hz0, hz1, hz2, hz3⟩ := info_ptrs
  refine wpList_append_sl hgd s x 23 ho base 43 i0 z 34 48 Tryz.underlying23 hi hz0 hz1 hz2 hz3 (by decide) v l.length _ hs hown vx 1 _ hxe hx (by have := p.one; rwa [Pt.arr_toList] at this) (by unfold maxLen; omega) (by omega) hbase ?_
  intro aa cc w' h2 hg h3
  refine h aa cc w' ?_ ((Fr.refl _ w).grown hg (fun k hk => Or.inl hk)) h3
  rw [List.map_append, List.flatten_append]; simpa using h2

/-! ### A node that is made -/

/-- Its block, and its rows, each its own. -/
def NodeRel (wr : World) (B0 N : Nat) (leaf : Bool) (keys vals : List ByteArray) (kids : List Pt) (vk vv vp : Value) : Prop :=
  wr.heap[N]? = some (.cells #[.bool leaf, vk, vv, vp] 25 (0, 0)) ∧ wr.ownsRow B0 9 1 vk keys.length (keys.map Value.string) ∧ wr.ownsRow B0 9 1 vv vals.length (vals.map Value.string) ∧
    wr.ownsRow B0 43 34 vp kids.length (kids.map Pt.cells).flatten ∧ (∀ j, vk.ownBlock = some j → vv.ownBlock ≠ some j) ∧ (∀ j, vk.ownBlock = some j → vp.ownBlock ≠ some j) ∧ (∀ j, vv.ownBlock = some j → vp.ownBlock ≠ some j) ∧ (∀ p ∈ kids, p.Wf)

theorem NodeRel.fr {S : Nat → Prop} {w w' : World} {B0 N : Nat} {leaf : Bool} {keys vals : List ByteArray} {kids : List Pt} {vk vv vp : Value} (h : NodeRel w B0 N leaf keys vals kids vk vv vp) (hf : Fr S w w') (hN : ¬ S N) (hs : ∀ k, B0 ≤ k → k < w.heap.size → ¬ S k) :
    NodeRel w' B0 N leaf keys vals kids vk vv vp := by
  obtain ⟨h1, h2, h3, h4, h5⟩ := h
  exact ⟨(hf.block N (lt_of_block h1) hN).trans h1, h2.fr hf (fun k hk => hs k (h2.lt k hk).1 (h2.lt k hk).2), h3.fr hf (fun k hk => hs k (h3.lt k hk).1 (h3.lt k hk).2), h4.fr hf (fun k hk => hs k (h4.lt k hk).1 (h4.lt k hk).2), h5⟩
theorem NodeRel.is {w : World} {B0 N : Nat} {leaf : Bool} {keys vals : List ByteArray} {kids : List Pt} {vk vv vp : Value} (h : NodeRel w B0 N leaf keys vals kids vk vv vp) : NdIs w #[.bool leaf, vk, vv, vp] ⟨leaf, keys, vals, kids⟩ := by
  obtain ⟨h1, h2, h3, h4, _, _, _, h5⟩ := h
  exact ⟨vk, vv, vp, rfl, Sl.own h2, Sl.own h3, ⟨Sl.own h4, h5⟩⟩

section
variable {wr w1 w2 : World} {B0 N : Nat} {leaf : Bool} {keys vals : List ByteArray} {kids : List Pt} {vk vv vp : Value} {aa : Option Addr} {cc : Nat} {ob : Obj}
/-- One more key. -/
theorem NodeRel.key {s : ByteArray} (h : NodeRel wr B0 N leaf keys vals kids vk vv vp) (hN : N < B0) (_hB : B0 ≤ wr.heap.size) (hw1 : w1 = wr.alloc ob)
    (ho : w2.ownsRow B0 9 1 (.slice aa (keys.length + 1) cc) (keys.length + 1) ((keys ++ [s]).map Value.string)) (hf : Fr (fun k => vk.ownBlock = some k) w1 w2) (h3 : (Value.slice aa (keys.length + 1) cc).ownBlock = vk.ownBlock ∨ (Value.slice aa (keys.length + 1) cc).ownBlock = some w1.heap.size) :
    NodeRel (w2.setCell ⟨N, 1, none⟩ (.slice aa (keys.length + 1) cc)) B0 N leaf (keys ++ [s]) vals kids (.slice aa (keys.length + 1) cc) vv vp ∧ Fr (fun k => k = N ∨ B0 ≤ k) wr (w2.setCell ⟨N, 1, none⟩ (.slice aa (keys.length + 1) cc)) := by
  obtain ⟨g1, g2, g3, g4, g5, g6, g7, g8⟩ := h
  have hF1 : Fr (fun k => k = N ∨ B0 ≤ k) wr w1 := by rw [hw1]; exact (Fr.refl _ wr).alloc _
  have hs1 : w1.heap.size = wr.heap.size + 1 := by rw [hw1]; simp
  have hF2 : Fr (fun k => k = N ∨ B0 ≤ k) wr w2 := hF1.trans (hf.mono (fun k _ hk => Or.inr (g2.lt k hk).1))
  have hF3 := hF2.setCell (p := ⟨N, 1, none⟩) (Or.inl (Or.inl rfl)) (.slice aa (keys.length + 1) cc)
  have hN2 : w2.heap[N]? = some (.cells #[.bool leaf, vk, vv, vp] 25 (0, 0)) :=
    (hf.block N (by rw [hs1]; have := lt_of_block g1; omega) (fun e => by have := (g2.lt N e).1; omega)).trans (by rw [hw1]; exact (((Below.refl _ wr).alloc (Nat.le_refl _) _).block N (lt_of_block g1)).trans g1)
  have alloc_own : ∀ {t sz : Nat} {v : Value} {n : Nat} {l : List Value}, wr.ownsRow B0 t sz v n l → w1.ownsRow B0 t sz v n l := fun h => by rw [hw1]; exact h.fr ((Fr.refl (fun _ => False) wr).alloc _) (fun _ _ => id)
  have k3 := (alloc_own g3).fr hf (fun k hk e => g5 k e hk)
  have k4 := (alloc_own g4).fr hf (fun k hk e => g6 k e hk)
  have hown : ∀ j, (Value.slice aa (keys.length + 1) cc).ownBlock = some j → j ≠ N := fun j hj e => by have := (ho.lt j hj).1; omega
  refine ⟨⟨by have := heap_setCell_same _ N 1 _ _ (.slice aa (keys.length + 1) cc) hN2; simpa using this, by rw [List.length_append]; exact ho.set_other (fun e => hown N e rfl) 1 _, k3.set_other (fun e => by have := (k3.lt N e).1; omega) 1 _, k4.set_other (fun e => by have := (k4.lt N e).1; omega) 1 _, ?_, ?_, g7, g8⟩, hF3⟩
  · intro j hj hv
    rcases h3 with e | e
    · exact g5 j (e ▸ hj) hv
    · have h1 : j = w1.heap.size := by rw [hj] at e; exact Option.some.inj e
      have h2 := (g3.lt j hv).2
      omega
  · intro j hj hv
    rcases h3 with e | e
    · exact g6 j (e ▸ hj) hv
    · have h1 : j = w1.heap.size := by rw [hj] at e; exact Option.some.inj e
      have h2 := (g4.lt j hv).2
      omega
/-- One more value. -/
theorem NodeRel.val {s : ByteArray} (h : NodeRel wr B0 N leaf keys vals kids vk vv vp) (hN : N < B0) (_hB : B0 ≤ wr.heap.size) (hw1 : w1 = wr.alloc ob)
    (ho : w2.ownsRow B0 9 1 (.slice aa (vals.length + 1) cc) (vals.length + 1) ((vals ++ [s]).map Value.string)) (hf : Fr (fun k => vv.ownBlock = some k) w1 w2) (h3 : (Value.slice aa (vals.length + 1) cc).ownBlock = vv.ownBlock ∨ (Value.slice aa (vals.length + 1) cc).ownBlock = some w1.heap.size) :
    NodeRel (w2.setCell ⟨N, 2, none⟩ (.slice aa (vals.length + 1) cc)) B0 N leaf keys (vals ++ [s]) kids vk (.slice aa (vals.length + 1) cc) vp ∧ Fr (fun k => k = N ∨ B0 ≤ k) wr (w2.setCell ⟨N, 2, none⟩ (.slice aa (vals.length + 1) cc)) := by
  obtain ⟨g1, g2, g3, g4, g5, g6, g7, g8⟩ := h
  have hF1 : Fr (fun k => k = N ∨ B0 ≤ k) wr w1 := by rw [hw1]; exact (Fr.refl _ wr).alloc _
  have hs1 : w1.heap.size = wr.heap.size + 1 := by rw [hw1]; simp
  have hF2 : Fr (fun k => k = N ∨ B0 ≤ k) wr w2 := hF1.trans (hf.mono (fun k _ hk => Or.inr (g3.lt k hk).1))
  have hF3 := hF2.setCell (p := ⟨N, 2, none⟩) (Or.inl (Or.inl rfl)) (.slice aa (vals.length + 1) cc)
  have hN2 : w2.heap[N]? = some (.cells #[.bool leaf, vk, vv, vp] 25 (0, 0)) :=
    (hf.block N (by rw [hs1]; have := lt_of_block g1; omega) (fun e => by have := (g3.lt N e).1; omega)).trans (by rw [hw1]; exact (((Below.refl _ wr).alloc (Nat.le_refl _) _).block N (lt_of_block g1)).trans g1)
  have alloc_own : ∀ {t sz : Nat} {v : Value} {n : Nat} {l : List Value}, wr.ownsRow B0 t sz v n l → w1.ownsRow B0 t sz v n l := fun h => by rw [hw1]; exact h.fr ((Fr.refl (fun _ => False) wr).alloc _) (fun _ _ => id)
  have k2 := (alloc_own g2).fr hf (fun k hk e => g5 k hk e)
  have k4 := (alloc_own g4).fr hf (fun k hk e => g7 k e hk)
  have hown : ∀ j, (Value.slice aa (vals.length + 1) cc).ownBlock = some j → j ≠ N := fun j hj e => by have := (ho.lt j hj).1; omega
  refine ⟨⟨by have := heap_setCell_same _ N 2 _ _ (.slice aa (vals.length + 1) cc) hN2; simpa using this, k2.set_other (fun e => by have := (k2.lt N e).1; omega) 2 _, by rw [List.length_append]; exact ho.set_other (fun e => hown N e rfl) 2 _, k4.set_other (fun e => by have := (k4.lt N e).1; omega) 2 _, ?_, g6, ?_, g8⟩, hF3⟩
  · intro j hj hv
    rcases h3 with e | e
    · exact g5 j hj (e ▸ hv)
    · have h1 : j = w1.heap.size := by rw [hv] at e; exact Option.some.inj e
      have h2 := (g2.lt j hj).2
      omega
  · intro j hj hv
    rcases h3 with e | e
    · exact g7 j (e ▸ hj) hv
    · have h1 : j = w1.heap.size := by rw [hj] at e; exact Option.some.inj e
      have h2 := (g4.lt j hv).2
      omega
/-- One more kid. -/
theorem NodeRel.kid {p : Pt} (h : NodeRel wr B0 N leaf keys vals kids vk vv vp) (hp : p.Wf) (hN : N < B0) (_hB : B0 ≤ wr.heap.size) (hw1 : w1 = wr.alloc ob)
    (ho : w2.ownsRow B0 43 34 (.slice aa (kids.length + 1) cc) (kids.length + 1) ((kids ++ [p]).map Pt.cells).flatten) (hf : Fr (fun k => vp.ownBlock = some k) w1 w2) (h3 : (Value.slice aa (kids.length + 1) cc).ownBlock = vp.ownBlock ∨ (Value.slice aa (kids.length + 1) cc).ownBlock = some w1.heap.size) :
    NodeRel (w2.setCell ⟨N, 3, none⟩ (.slice aa (kids.length + 1) cc)) B0 N leaf keys vals (kids ++ [p]) vk vv (.slice aa (kids.length + 1) cc) ∧ Fr (fun k => k = N ∨ B0 ≤ k) wr (w2.setCell ⟨N, 3, none⟩ (.slice aa (kids.length + 1) cc)) := by
  obtain ⟨g1, g2, g3, g4, g5, g6, g7, g8⟩ := h
  have hF1 : Fr (fun k => k = N ∨ B0 ≤ k) wr w1 := by rw [hw1]; exact (Fr.refl _ wr).alloc _
  have hs1 : w1.heap.size = wr.heap.size + 1 := by rw [hw1]; simp
  have hF2 : Fr (fun k => k = N ∨ B0 ≤ k) wr w2 := hF1.trans (hf.mono (fun k _ hk => Or.inr (g4.lt k hk).1))
  have hF3 := hF2.setCell (p := ⟨N, 3, none⟩) (Or.inl (Or.inl rfl)) (.slice aa (kids.length + 1) cc)
  have hN2 : w2.heap[N]? = some (.cells #[.bool leaf, vk, vv, vp] 25 (0, 0)) :=
    (hf.block N (by rw [hs1]; have := lt_of_block g1; omega) (fun e => by have := (g4.lt N e).1; omega)).trans (by rw [hw1]; exact (((Below.refl _ wr).alloc (Nat.le_refl _) _).block N (lt_of_block g1)).trans g1)
  have alloc_own : ∀ {t sz : Nat} {v : Value} {n : Nat} {l : List Value}, wr.ownsRow B0 t sz v n l → w1.ownsRow B0 t sz v n l := fun h => by rw [hw1]; exact h.fr ((Fr.refl (fun _ => False) wr).alloc _) (fun _ _ => id)
  have k2 := (alloc_own g2).fr hf (fun k hk e => g6 k hk e)
  have k3 := (alloc_own g3).fr hf (fun k hk e => g7 k hk e)
  have hown : ∀ j, (Value.slice aa (kids.length + 1) cc).ownBlock = some j → j ≠ N := fun j hj e => by have := (ho.lt j hj).1; omega
  refine ⟨⟨by have := heap_setCell_same _ N 3 _ _ (.slice aa (kids.length + 1) cc) hN2; simpa using this, k2.set_other (fun e => by have := (k2.lt N e).1; omega) 3 _, k3.set_other (fun e => by have := (k3.lt N e).1; omega) 3 _, by rw [List.length_append]; exact ho.set_other (fun e => hown N e rfl) 3 _, g5, ?_, ?_, ?_⟩, hF3⟩
  · intro j hj hv
    rcases h3 with e | e
    · exact g6 j hj (e ▸ hv)
    · have h1 : j = w1.heap.size := by rw [hv] at e; exact Option.some.inj e
      have h2 := (g2.lt j hj).2
      omega
  · intro j hj hv
    rcases h3 with e | e
    · exact g7 j hj (e ▸ hv)
    · have h1 : j = w1.heap.size := by rw [hv] at e; exact Option.some.inj e
      have h2 := (g3.lt j hj).2
      omega
  · intro q hq
    rcases List.mem_append.1 hq with h | h
    · exact g8 q h
    · rw [List.mem_singleton] at h; subst h; exact hp
end

end Go.Proofs.YtkbnkdokcmpcgaaGreatDoor

namespace Go.Proofs.YtkbnkdokcmpcgaaGreatDoor
open Go.RowKit

/-- The two Readers, as one. -/
structure IsRdr (Rdr : World → List UInt8 → Prop) (rb : Nat) (ob : Option Nat) : Prop where
  fr : ∀ {S : Nat → Prop} {w w' : World} {ys : List UInt8}, Rdr w ys → Fr S w w' → ¬ S rb → (∀ k, ob = some k → ¬ S k) → Rdr w' ys
theorem isRdr_rd (rb : Nat) (ob : Option Nat) : IsRdr (fun w ys => RdO w rb ob ys) rb ob := ⟨fun h hf h1 h2 => h.fr hf h1 h2⟩
/-- Which blocks are which. -/
structure Places (w : World) (B0 N rb R : Nat) (ob : Option Nat) : Prop where
  pn : N < B0
  prb : rb < B0
  pr : R < B0
  pob : ∀ k, ob = some k → k < B0 ∧ k ≠ N ∧ k ≠ R ∧ k ≠ rb
  nrb : N ≠ rb
  nr : N ≠ R
  rbr : rb ≠ R
  wn : w.heap.size ≤ N
  wrb : w.heap.size ≤ rb
  wr : w.heap.size ≤ R

def zeroArr : Array Value := #[.bool false, .slice none 0 0, .slice none 0 0, .slice none 0 0]
def GRel (Rdr : World → List UInt8 → Prop) (w wr : World) (B0 N R : Nat) (leaf : Bool) (keys vals : List ByteArray) (kids : List Pt) (vk vv vp : Value) (rest : List UInt8) : Prop :=
  NodeRel wr B0 N leaf keys vals kids vk vv vp ∧ Rdr wr rest ∧ wr.heap[R]? = some (.cells zeroArr 25 (0, 0)) ∧ Below w.heap.size w wr ∧ B0 ≤ wr.heap.size

section
variable {Rdr : World → List UInt8 → Prop} {w wr w1 w2 : World} {B0 N R rb : Nat} {obk : Option Nat} {leaf : Bool} {keys vals : List ByteArray} {kids : List Pt} {vk vv vp : Value} {rest rest' : List UInt8} {aa : Option Addr} {cc : Nat} {o : Obj}

theorem GRel.read (hP : Places w B0 N rb R obk) (h : GRel Rdr w wr B0 N R leaf keys vals kids vk vv vp rest) (hf : Fr (fun k => k = rb) wr w1) (hr : Rdr w1 rest') :
    GRel Rdr w w1 B0 N R leaf keys vals kids vk vv vp rest' := by
  obtain ⟨h1, _, h3, h4, h5⟩ := h
  have a1 := hP.prb
  have a2 := hP.rbr
  have a3 := hP.wrb
  exact ⟨h1.fr hf hP.nrb (fun k hk _ => by omega), hr, (hf.block R (lt_of_block h3) (fun e => a2 e.symm)).trans h3, h4.trans (hf.below h4.size (fun k hk => by omega)), Nat.le_trans h5 hf.size⟩
theorem GRel.turn (hP : Places w B0 N rb R obk) (hR : IsRdr Rdr rb obk) (h : GRel Rdr w wr B0 N R leaf keys vals kids vk vv vp rest) {keys' vals' : List ByteArray} {kids' : List Pt} {vk' vv' vp' : Value}
    (h1 : NodeRel w1 B0 N leaf keys' vals' kids' vk' vv' vp') (hf : Fr (fun k => k = N ∨ B0 ≤ k) wr w1) : GRel Rdr w w1 B0 N R leaf keys' vals' kids' vk' vv' vp' rest := by
  obtain ⟨_, h2, h3, h4, h5⟩ := h
  have a0 := hP.pn
  have a1 := hP.prb
  have a2 := hP.pr
  have a3 := hP.nrb
  have a4 := hP.nr
  have a5 := hP.wn
  have a6 := hP.wr
  have a7 := h4.size
  refine ⟨h1, hR.fr h2 hf (by omega) (fun k hk => by have := hP.pob k hk; omega), (hf.block R (lt_of_block h3) (by omega)).trans h3, h4.trans (hf.below h4.size (fun k hk => by omega)), Nat.le_trans h5 hf.size⟩
theorem GRel.below (_hP : Places w B0 N rb R obk) (hR : IsRdr Rdr rb obk) (h : GRel Rdr w wr B0 N R leaf keys vals kids vk vv vp rest) (hb : Below wr.heap.size wr w1) : GRel Rdr w w1 B0 N R leaf keys vals kids vk vv vp rest := by
  obtain ⟨h1, h2, h3, h4, h5⟩ := h
  have hf := Fr.of_below (S := fun _ => False) hb
  exact ⟨h1.fr hf id (fun _ _ _ => id), hR.fr h2 hf id (fun _ _ => id), (hf.block R (lt_of_block h3) id).trans h3, h4.trans (hb.mono h4.size), Nat.le_trans h5 hb.size⟩
theorem GRel.cells (h : GRel Rdr w wr B0 N R leaf keys vals kids vk vv vp rest) : wr.cell? ⟨N, 0, none⟩ = some (.bool leaf) ∧ wr.cell? ⟨N, 1, none⟩ = some vk ∧ wr.cell? ⟨N, 2, none⟩ = some vv ∧ wr.cell? ⟨N, 3, none⟩ = some vp ∧ N < wr.heap.size := by
  have h1 := h.1.1
  exact ⟨(cell_of_row _ _ 0 _ _ _ h1).trans rfl, (cell_of_row _ _ 1 _ _ _ h1).trans rfl, (cell_of_row _ _ 2 _ _ _ h1).trans rfl, (cell_of_row _ _ 3 _ _ _ h1).trans rfl, lt_of_block h1⟩
theorem GRel.key {s : ByteArray} (hP : Places w B0 N rb R obk) (hR : IsRdr Rdr rb obk) (h : GRel Rdr w wr B0 N R leaf keys vals kids vk vv vp rest) (hw1 : w1 = wr.alloc o)
    (ho : w2.ownsRow B0 9 1 (.slice aa (keys.length + 1) cc) (keys.length + 1) ((keys ++ [s]).map Value.string)) (hf : Fr (fun k => vk.ownBlock = some k) w1 w2) (h3 : (Value.slice aa (keys.length + 1) cc).ownBlock = vk.ownBlock ∨ (Value.slice aa (keys.length + 1) cc).ownBlock = some w1.heap.size) :
    GRel Rdr w (w2.setCell ⟨N, 1, none⟩ (.slice aa (keys.length + 1) cc)) B0 N R leaf (keys ++ [s]) vals kids (.slice aa (keys.length + 1) cc) vv vp rest := by
  obtain ⟨k1, k2⟩ := h.1.key hP.pn h.2.2.2.2 hw1 ho hf h3
  exact h.turn hP hR k1 k2
theorem GRel.val {s : ByteArray} (hP : Places w B0 N rb R obk) (hR : IsRdr Rdr rb obk) (h : GRel Rdr w wr B0 N R leaf keys vals kids vk vv vp rest) (hw1 : w1 = wr.alloc o)
    (ho : w2.ownsRow B0 9 1 (.slice aa (vals.length + 1) cc) (vals.length + 1) ((vals ++ [s]).map Value.string)) (hf : Fr (fun k => vv.ownBlock = some k) w1 w2) (h3 : (Value.slice aa (vals.length + 1) cc).ownBlock = vv.ownBlock ∨ (Value.slice aa (vals.length + 1) cc).ownBlock = some w1.heap.size) :
    GRel Rdr w (w2.setCell ⟨N, 2, none⟩ (.slice aa (vals.length + 1) cc)) B0 N R leaf keys (vals ++ [s]) kids vk (.slice aa (vals.length + 1) cc) vp rest := by
  obtain ⟨k1, k2⟩ := h.1.val hP.pn h.2.2.2.2 hw1 ho hf h3
  exact h.turn hP hR k1 k2
theorem GRel.kid {p : Pt} (hp : p.Wf) (hP : Places w B0 N rb R obk) (hR : IsRdr Rdr rb obk) (h : GRel Rdr w wr B0 N R leaf keys vals kids vk vv vp rest) (hw1 : w1 = wr.alloc o)
    (ho : w2.ownsRow B0 43 34 (.slice aa (kids.length + 1) cc) (kids.length + 1) ((kids ++ [p]).map Pt.cells).flatten) (hf : Fr (fun k => vp.ownBlock = some k) w1 w2) (h3 : (Value.slice aa (kids.length + 1) cc).ownBlock = vp.ownBlock ∨ (Value.slice aa (kids.length + 1) cc).ownBlock = some w1.heap.size) :
    GRel Rdr w (w2.setCell ⟨N, 3, none⟩ (.slice aa (kids.length + 1) cc)) B0 N R leaf keys vals (kids ++ [p]) vk vv (.slice aa (kids.length + 1) cc) rest := by
  obtain ⟨k1, k2⟩ := h.1.kid hp hP.pn h.2.2.2.2 hw1 ho hf h3
  exact h.turn hP hR k1 k2
/-- What the append left of the node's block. -/
theorem GRel.kept {v : Value} (h : GRel Rdr w wr B0 N R leaf keys vals kids vk vv vp rest) (hP : Places w B0 N rb R obk) (hv : ∀ k, v.ownBlock = some k → B0 ≤ k) (hw1 : w1 = wr.alloc o) (hf : Fr (fun k => v.ownBlock = some k) w1 w2) :
    w2.heap[N]? = some (.cells #[.bool leaf, vk, vv, vp] 25 (0, 0)) := by
  have a0 := hP.pn
  have a1 := lt_of_block h.1.1
  exact (hf.block N (by rw [hw1]; simp; omega) (fun e => by have := hv N e; omega)).trans (by rw [hw1]; exact (((Below.refl _ wr).alloc (Nat.le_refl _) _).block N a1).trans h.1.1)
theorem GRel.own (h : GRel Rdr w wr B0 N R leaf keys vals kids vk vv vp rest) : (∀ k, vk.ownBlock = some k → B0 ≤ k) ∧ (∀ k, vv.ownBlock = some k → B0 ≤ k) ∧ (∀ k, vp.ownBlock = some k → B0 ≤ k) :=
  ⟨fun k hk => (h.1.2.1.lt k hk).1, fun k hk => (h.1.2.2.1.lt k hk).1, fun k hk => (h.1.2.2.2.1.lt k hk).1⟩
end

theorem own_shape {w : World} {B t sz n : Nat} {v : Value} {l : List Value} (h : w.ownsRow B t sz v n l) : ∃ a c, v = .slice a n c := by
  rcases h.2 with ⟨rfl, rfl⟩ | ⟨g, cap, cur, rfl, _⟩ <;> exact ⟨_, _, rfl⟩
theorem one_lit (w : World) (s : ByteArray) : Sl (w.alloc (.cells #[.string s] 9)) 1 (.slice (some ⟨w.heap.size, 0, none⟩) 1 1) 1 [.string s] := Sl_row (heap_alloc_new _ _) rfl rfl
theorem own_alloc {w : World} {B t sz n : Nat} {v : Value} {l : List Value} (h : w.ownsRow B t sz v n l) (o : Obj) : (w.alloc o).ownsRow B t sz v n l := h.fr ((Fr.refl (fun _ => False) w).alloc _) (fun _ _ => id)

/-- A node that is stored; that is handed back with an error. -/
theorem store_nd {ops : Array Oper} {rest : List Oper} {o : Oper} {a : Act} {w : World} {Q : Exit → Act → World → Prop} (hgd : o.guard = none) (x y : Operand) (ho : o.op = .store 25 x y)
    {b : Nat} (hx : a.eval x = .pointer (some ⟨b, 0, none⟩)) {arr : Array Value} (hy : a.eval y = .agg arr) {old : Array Value} {t : TypeId} (hb : w.heap[b]? = some (.cells old t (0, 0))) (ho2 : old.size = 4) (hl : arr.size = 4) (h1 : ∀ u ∈ arr.toList, u.oneCell' = true)
    (hK : ∀ w', w'.heap[b]? = some (.cells arr t (0, 0)) → Fr (fun k => k = b) w w' → w'.heap.size = w.heap.size → wpList Tryz.prog ops Q rest (a.put o.dst undef) w') : wpList Tryz.prog ops Q (o :: rest) a w :=
  wpList_store_row hgd _ x y ho b hx arr.toList (by simpa using hy) old _ hb (by rw [ho2, Array.length_toList, hl]) h1 (by rw [info_nd, Array.length_toList, hl]) (fun w' k1 k2 k3 => hK w' (by simpa using k1) k2 k3)
theorem ret_nd {fn : Func} {p u : Tmp} (h : fn.results = #[.cell p 25, .tmp u]) {tmps : Array Value} {w : World} {g : Nat} {arr : Array Value} {t : TypeId} (hp : tmps.getD p undef = .pointer (some ⟨g, 0, none⟩))
    (hg : w.heap[g]? = some (.cells arr t (0, 0))) (hl : arr.size = 4) :
    (results fn tmps).run Tryz.prog w = .ok (.tuple #[.agg arr, tmps.getD u undef]) w := by
  rw [results_cell_tmp h, hp]
  simp [asAddr, run_loadVar_row w g t 25 _ _ _ hg Tryz.underlying25 rfl (by rw [info_nd]; simp [hl]), Result.andThen]
theorem NdIs.one {w : World} {arr : Array Value} {n : Nd} (h : NdIs w arr n) : ∀ u ∈ arr.toList, u.oneCell' = true := by
  obtain ⟨ak, ck, av, cv, ap, cp, rfl, _⟩ := h.get
  intro u hu
  simp at hu
  rcases hu with rfl | rfl | rfl | rfl <;> rfl
def Nd.zero : Nd := ⟨false, [], [], []⟩
theorem zero_is (w : World) : NdIs w zeroArr Nd.zero := ⟨_, _, _, rfl, Sl.nil _ _, Sl.nil _ _, ⟨Sl.nil _ _, by simp [Nd.zero]⟩⟩

end Go.Proofs.YtkbnkdokcmpcgaaGreatDoor
namespace Go.Proofs.YtkbnkdokcmpcgaaGreatDoor
open Go.RowKit

theorem info_ptr2 : (Tryz.prog.info? 43).map (fun i => (i.zero.isSome, i.size)) = some (true, 34) := by kernel_rfl
theorem zero_ptr : ((Tryz.prog.info? 43).bind (·.zero)).map (·.cells.size) = some 34 := by kernel_rfl
theorem info_ptr3 : ∃ i0 z, Tryz.prog.info? 43 = some i0 ∧ i0.zero = some z ∧ i0.size = 34 ∧ z.cells.size = 34 := by
  have e1 := info_ptr2
  have e2 := zero_ptr
  cases hq : Tryz.prog.info? 43 with
  | none => rw [hq] at e1; simp at e1
  | some i =>
    rw [hq] at e1 e2
    simp only [Option.map_some, Option.some.injEq, Prod.mk.injEq, Option.isSome_iff_exists] at e1
    obtain ⟨⟨z, hz⟩, e3⟩ := e1
    simp only [Option.bind_some, hz, Option.map_some, Option.some.injEq] at e2
    exact ⟨i, z, rfl, hz, e3, e2⟩

/-- The example's pointer, and node. -/
def P0 : Pt := ⟨2, 1, List.replicate 32 0⟩
theorem P0_wf : P0.Wf := ⟨by decide, by decide, by decide⟩
def N0 : Nd := ⟨false, [⟨#[98]⟩, ⟨#[100]⟩], [], [P0, P0, P0]⟩
def E0 : Nd := ⟨true, [], [], []⟩
theorem E0_form : formB E0 = true := by decide
theorem E0_size : sizeN E0 ≤ 512 := by decide
theorem E0_fits : E0.Fits := ⟨by decide, by decide, by decide, by simp [E0], by simp [E0]⟩
theorem N0_fits : N0.Fits := ⟨by decide, by decide, by decide, by simp [N0]; decide, by simp [N0]⟩
theorem bl_bd : Op.bytesLess [98] [100] = true := by decide
theorem N0_lt : sLt (⟨#[98]⟩ : ByteArray) ⟨#[100]⟩ = true := by unfold sLt; simp only [ByteArray.toList_eq]; decide
theorem N0_rising : Rising N0.keys := by
  intro i j hj hij
  have h2 : N0.keys.length = 2 := rfl
  have e1 : i = 0 := by omega
  have e2 : j = 1 := by omega
  subst e1 e2
  exact N0_lt
theorem N0_check : checkE N0 = 0 := by
  have hf : formB N0 = true := by
    unfold formB keysB
    have h1 : (List.range N0.keys.length).all (keyAt N0.keys) = true := by
      show (List.range 2).all (keyAt N0.keys) = true
      rw [List.all_eq_true]
      intro i hi
      have : i = 0 ∨ i = 1 := by have := List.mem_range.1 hi; omega
      rcases this with rfl | rfl
      · decide
      · have e : keyAt N0.keys 1 = (decide ((⟨#[100]⟩ : ByteArray).size ≠ 0) && decide ((⟨#[100]⟩ : ByteArray).size ≤ 32) && sLt ⟨#[98]⟩ ⟨#[100]⟩) := rfl
        rw [e, N0_lt]; decide
    rw [h1]; decide
  have hs : ¬ 512 < sizeN N0 := by decide
  exact checkE_ok hf hs

theorem N0_c : findAt N0 ⟨#[99]⟩ = 1 ∧ findIs N0.keys ⟨#[99]⟩ = false := by
  unfold findAt findIs atP N0 sLt sEq
  simp only [ByteArray.toList_eq]
  decide
theorem N0_d : findAt N0 ⟨#[100]⟩ = 2 ∧ findIs N0.keys ⟨#[100]⟩ = true := by
  unfold findAt findIs atP N0 sLt sEq
  simp only [ByteArray.toList_eq]
  decide

theorem heap_alloc_k0 (w : World) (A B C : Obj) : (((w.alloc A).alloc B).alloc C).heap[w.heap.size + 1 + 1]? = some C := by
  have := heap_alloc_new ((w.alloc A).alloc B) C
  simpa using this
theorem heap_alloc_k1 (w : World) (A B C : Obj) : (((w.alloc A).alloc B).alloc C).heap[w.heap.size + 1]? = some B := by
  have h1 := heap_alloc_new (w.alloc A) B
  rw [World.size_alloc] at h1
  exact (((Below.refl _ ((w.alloc A).alloc B)).alloc (Nat.le_refl _) C).block (w.heap.size + 1) (by simp)).trans h1
theorem heap_alloc_k2 (w : World) (A B C : Obj) : (((w.alloc A).alloc B).alloc C).heap[w.heap.size]? = some A :=
  ((((Below.refl _ (w.alloc A)).alloc (Nat.le_refl _) B).alloc (by simp) C).block w.heap.size (by simp)).trans (heap_alloc_new w A)

theorem P0s_size : ∀ v ∈ [P0.arr, P0.arr, P0.arr], v.size = 34 := by
  intro v hv
  have : v = P0.arr := by simpa only [List.mem_cons, List.not_mem_nil, or_false, or_self] using hv
  subst this
  exact P0_wf.size

end Go.Proofs.YtkbnkdokcmpcgaaGreatDoor
