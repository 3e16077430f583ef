/- Plain: Get of what was put. Walks: banyanlaw10's of and alive. Walk: banyanlaw10's UberSizes. Plain: a number by its bits, turned: what banyanref01's Turn reckons is rotl. Walks: banyanref01's Bits, Of, Turn. Walks: banyanref02's three and small. Plain: numbers in base 10000, the lowest digit first. Rows of int; walk: banyanref01's of. -/
import Derived.Test.YtdmjnopjnaoepaaGreatDoorB0
import Derived.Test.YtdmjnopjnaoepaaGreatDoorB3
import Derived.Test.YtdmjnopjnaoepaaGreatDoorB9
import Derived.Laws.BitsAllLaws
import Derived.Deep.QuietTactic
import Derived.BigQuiet
namespace Go.Proofs.YtdmjnopjnaoepaaGreatDoor
open Go.RowKit

theorem getB_putB_of {x n : Nat} (h : x < 256 ^ n) : getB (putB x n) = x := by rw [getB_putB, Nat.mod_eq_of_lt h]
theorem ptrOf_put (p : Pt) (r : List UInt8) (h : p.Wf) : (ptrOf (ptrB p ++ r)).1 = p := by
  have e : ptrB p ++ r = putB p.addr 4 ++ (putB p.birth 8 ++ (p.sum ++ r)) := by unfold ptrB; simp
  have h1 : (putB p.addr 4 ++ (putB p.birth 8 ++ (p.sum ++ r))).length ≥ 44 := by simp [putB_length, h.sum]; omega
  unfold ptrOf
  rw [e, if_neg (by omega)]
  have e1 : (putB p.addr 4 ++ (putB p.birth 8 ++ (p.sum ++ r))).take 4 = putB p.addr 4 := List.take_left' (putB_length _ _)
  have e2 : (putB p.addr 4 ++ (putB p.birth 8 ++ (p.sum ++ r))).drop 4 = putB p.birth 8 ++ (p.sum ++ r) := List.drop_left' (putB_length _ _)
  have e3 : (putB p.addr 4 ++ (putB p.birth 8 ++ (p.sum ++ r))).drop 12 = p.sum ++ r := by
    rw [show 12 = 4 + 8 from rfl, ← List.drop_drop, e2]; exact List.drop_left' (putB_length _ _)
  rw [e1, e2, e3, List.take_left' (putB_length _ _), List.take_left' h.sum, getB_putB_of (by have := h.addr; omega), getB_putB_of (by have := h.birth; omega)]

theorem ubB_eq (u : Ub) : ubB u = markB ++ (putB u.txg 8 ++ (putB u.size 4 ++ (ptrB u.root ++ List.replicate 420 0))) := by unfold ubB ubH; simp only [List.append_assoc]
theorem ubB_drop4 (u : Ub) : (ubB u).drop 4 = putB u.txg 8 ++ (putB u.size 4 ++ (ptrB u.root ++ List.replicate 420 0)) := by rw [ubB_eq]; exact List.drop_left' rfl
theorem ubB_drop12 (u : Ub) : (ubB u).drop 12 = putB u.size 4 ++ (ptrB u.root ++ List.replicate 420 0) := by
  rw [show 12 = 4 + 8 from rfl, ← List.drop_drop, ubB_drop4]; exact List.drop_left' (putB_length _ _)
theorem ubB_drop16 (u : Ub) : (ubB u).drop 16 = ptrB u.root ++ List.replicate 420 0 := by
  rw [show 16 = 12 + 4 from rfl, ← List.drop_drop, ubB_drop12]; exact List.drop_left' (putB_length _ _)
theorem ubB_drop60 {u : Ub} (h : u.Wf) : (ubB u).drop 60 = List.replicate 420 0 := by
  rw [show 60 = 16 + 44 from rfl, ← List.drop_drop, ubB_drop16]; exact List.drop_left' (ptrB_length _ h.root)
theorem toldU_ubB {u : Ub} (h : u.Wf) : toldU (ubB u) = u := by
  unfold toldU
  rw [ubB_drop4, ubB_drop12, ubB_drop16, List.take_left' (putB_length _ _), List.take_left' (putB_length _ _), ptrOf_put _ _ h.root, getB_putB_of (by have := h.txg; omega), getB_putB_of (by have := h.size; omega)]
theorem ubB_inj {u v : Ub} (hu : u.Wf) (hv : v.Wf) (h : ubB u = ubB v) : u = v := by rw [← toldU_ubB hu, h, toldU_ubB hv]
theorem okU_ubB {u : Ub} (h : u.Wf) (hc : ubE u = 0) : okU (ubB u) = true := by
  unfold okU
  rw [toldU_ubB h, ubE_split.1 hc, ubB_drop60 h, endE_zero (fun y hy => (List.mem_replicate.1 hy).2), ubB_eq, List.take_left' (show markB.length = 4 from rfl), decide_eq_true rfl, decide_eq_true rfl]
  rfl
theorem ubS_take (key : List UInt8) {u : Ub} (h : u.Wf) : (ubS key u).take 480 = ubB u := List.take_left' (ubB_length h)
theorem ubS_drop (key : List UInt8) {u : Ub} (h : u.Wf) : (ubS key u).drop 480 = macN key (ubB u) := List.drop_left' (ubB_length h)
/-- What is put is got. -/
theorem errU_put (key : List UInt8) {u : Ub} (h : u.Wf) (hc : ubE u = 0) : errU key (ubS key u) = 0 := by
  unfold errU
  rw [if_pos (ubS_length key h), ubS_take key h, ubS_drop key h, if_pos rfl, if_pos (okU_ubB h hc)]
theorem getU_put (key : List UInt8) {u : Ub} (h : u.Wf) (hc : ubE u = 0) : getU key (ubS key u) = u := by
  unfold getU
  rw [if_pos (errU_put key h hc), ubS_take key h, toldU_ubB h]
theorem ub16_E {t : Nat} (h : t ≠ 0) : ubE (ub16 t) = 0 := ubE_ok (ub16_ok h)
theorem ubS_inj {key : List UInt8} {u v : Ub} (hu : u.Wf) (hv : v.Wf) (h : ubS key u = ubS key v) : u = v :=
  ubB_inj hu hv (by rw [← ubS_take key hu, h, ubS_take key hv])

theorem ret_ub1 {fn : Func} {p : Tmp} (h : fn.results = #[.cell p 32]) {tmps : Array Value} {w : World} {g : Nat} {q : Ub} {t : TypeId} (hp : tmps.getD p undef = .pointer (some ⟨g, 0, none⟩))
    (hg : w.heap[g]? = some (.cells q.arr t (0, 0))) (hl : q.Wf) : (results fn tmps).run Tryz.prog w = .ok (.agg q.arr) w :=
  results_cell_row h tmps w g t _ _ _ hp hg Tryz.underlying32 rfl (by rw [info_ub]; simp [hl.asize])

set_option maxRecDepth 100000 in
set_option maxHeartbeats 1000000 in
theorem of_any (t : Nat) (w : World) (h : t < 18446744073709551616) :
    Calls Tryz.prog 12 #[.int .u64 (t : Int)] w fun e w' => e = .returned (.agg (ub16 t).arr) ∧ Below w.heap.size w w' := by
  have HZ := Lib.hid (heap_alloc_new w (.cells Ub.zero.arr 32))
  have HB := Lib.hid ((Below.refl _ w).alloc (Nat.le_refl _) (.cells Ub.zero.arr 32))
  have HW := Lib.hid (ub16_wf h)
  go_enter Tryz.func12, Tryz.ntmps12
  go_wp2_with (refine store_ub (u := ub16 t) rfl (.tmp 2) (.tmp 5) rfl rfl rfl HZ.out Ub.zero_wf.asize HW.out ?_)
  intro w1 hg1 hf1 hs1
  have HG1 := Lib.hid hg1
  have HB1 := Lib.hid (HB.out.trans (hf1.below HB.out.size (fun k hk => by omega)))
  clear hg1 hf1 hs1
  go_wp2
  refine bodyPost_ret (ret_ub1 rfl rfl HG1.out HW.out) rfl ?_
  exact ⟨rfl, HB1.out⟩

theorem conv_key (w : World) (g : Nat) (hg : g = w.heap.size) :
    (convert 22 22 (.slice (some ⟨g, 0, none⟩) 3 3)).run Tryz.prog (w.alloc (.cells #[.int .u8 107, .int .u8 101, .int .u8 121] 5)) = .ok (.slice (some ⟨g, 0, none⟩) 3 3) (w.alloc (.cells #[.int .u8 107, .int .u8 101, .int .u8 121] 5 (3, 4))) :=
  Go.Joins.run_convert_bytes_const_at (P := Tryz.prog) w 22 5 #[.int .u8 107, .int .u8 101, .int .u8 121] 3 3 g hg Tryz.underlying22 Tryz.underlying5
def keyK : List UInt8 := [107, 101, 121]
theorem ubPut_ok' (vk : Value) (key : List UInt8) (n : Nat) (hn : n = key.length) (u : Ub) (w : World) (hk : Sl w 1 vk n (key.map Bv)) (hr : n ≤ 140737488351232) (hu : u.Wf) (hc : ubE u = 0) :
    Calls Tryz.prog 11 #[vk, .agg u.arr] w fun e w' => ∃ aa cc, e = .returned (.tuple #[.slice aa 512 cc, .int .i64 0]) ∧ Sl w' 1 (.slice aa 512 cc) 512 ((ubS key u).map Bv) ∧ Below w.heap.size w w' := by
  subst hn; exact ubPut_ok vk key u w hk hr hu hc
theorem ubChoose' (vk va vb : Value) (n na nb : Nat) (key xa xb : List UInt8) (w : World) (hk : Sl w 1 vk n (key.map Bv)) (hr : n ≤ 140737488351232) (ha : Sl w 1 va na (xa.map Bv)) (hb : Sl w 1 vb nb (xb.map Bv)) :
    Calls Tryz.prog 9 #[vk, va, vb] w fun e w' => e = .returned (.tuple #[.agg (chN key xa xb 2).1.arr, .int .i64 (chN key xa xb 2).2]) ∧ Below w.heap.size w w' := by
  have e1 : key.length = n := by simpa using hk.1
  have e2 : xa.length = na := by simpa using ha.1
  have e3 : xb.length = nb := by simpa using hb.1
  subst e1 e2 e3
  exact ubChoose_any vk va vb key xa xb w hk hr ha hb
/-- Of two that lie in their slots the newer one is chosen. -/
theorem chN_two {key xa xb : List UInt8} {u v : Ub} (ha : errU key xa = 0) (hb : errU key xb = 0) (hu : getU key xa = u) (hv : getU key xb = v) (h0 : u.txg % 2 = 0) (h1 : v.txg % 2 = 1) (hp : 0 < u.txg) :
    chN key xa xb 2 = (if u.txg < v.txg then v else u, 0) := by
  have e1 : chS (Ub.zero, 8) 0 (u, 0) = (u, 0) := by unfold chS; rw [if_pos ⟨rfl, h0, hp⟩]
  unfold chN
  simp only [ha, hb, hu, hv, e1]
  unfold chS
  by_cases h : u.txg < v.txg
  · rw [if_pos ⟨rfl, h1, h⟩, if_pos h]
  · rw [if_neg (fun hh => h hh.2.2), if_neg h]

set_option maxRecDepth 100000 in
set_option maxHeartbeats 4000000 in
theorem alive10 (w : World) : Calls Tryz.prog 5 #[] w fun e w' => e = .returned (.bool true) ∧ Below w.heap.size w w' := by
  have q1 := conv_key w w.heap.size rfl
  obtain ⟨w1, hw1⟩ : ∃ w1, w1 = w.alloc (.cells #[.int .u8 107, .int .u8 101, .int .u8 121] 5 (3, 4)) := ⟨_, rfl⟩
  have HB1 := Lib.hid (show Below w.heap.size w w1 by rw [hw1]; exact (Below.refl _ w).alloc (Nat.le_refl _) _)
  have HK1 := Lib.hid (show Sl w1 1 (.slice (some ⟨w.heap.size, 0, none⟩) 3 3) 3 (keyK.map Bv) by rw [hw1]; exact Sl_litm _ _ _ _ 3 rfl rfl rfl)
  rw [← hw1] at q1
  clear hw1
  have H4 := Lib.hid (fun w => of_any 4 w (by decide))
  have H5 := Lib.hid (fun w => of_any 5 w (by decide))
  have hch : chN keyK (ubS keyK (ub16 4)) (ubS keyK (ub16 5)) 2 = (ub16 5, 0) := by
    rw [chN_two (errU_put keyK (ub16_wf (by decide)) (ub16_E (by decide))) (errU_put keyK (ub16_wf (by decide)) (ub16_E (by decide))) (getU_put keyK (ub16_wf (by decide)) (ub16_E (by decide))) (getU_put keyK (ub16_wf (by decide)) (ub16_E (by decide))) rfl rfl (by decide), if_pos (by decide)]
  have HCh := Lib.hid hch
  have HZE := Lib.hid (show ubE Ub.zero = 4 by decide)
  clear hch
  go_enter Tryz.func5, Tryz.ntmps5
  go_wp2_with fail
  refine (H4.out _).mono ?_
  rintro e w2 ⟨rfl, hb2⟩
  have HB2 := Lib.hid (HB1.out.trans (hb2.mono HB1.out.size))
  have HK2 := Lib.hid (HK1.out.below hb2)
  clear hb2 q1
  go_wp2_with fail
  refine (ubPut_ok' _ keyK 3 rfl (ub16 4) _ HK2.out (by decide) (ub16_wf (by decide)) (ub16_E (by decide))).mono ?_
  rintro e w3 ⟨a3, c3, rfl, hs3, hb3⟩
  have HB3 := Lib.hid (HB2.out.trans (hb3.mono HB2.out.size))
  have HK3 := Lib.hid (HK2.out.below hb3)
  have HS3 := Lib.hid hs3
  clear hs3 hb3
  go_wp2_with fail
  refine (H5.out _).mono ?_
  rintro e w4 ⟨rfl, hb4⟩
  have HB4 := Lib.hid (HB3.out.trans (hb4.mono HB3.out.size))
  have HK4 := Lib.hid (HK3.out.below hb4)
  have HS4 := Lib.hid (HS3.out.below hb4)
  clear hb4
  go_wp2_with fail
  refine (ubPut_ok' _ keyK 3 rfl (ub16 5) _ HK4.out (by decide) (ub16_wf (by decide)) (ub16_E (by decide))).mono ?_
  rintro e w5 ⟨a5, c5, rfl, hs5, hb5⟩
  have HB5 := Lib.hid (HB4.out.trans (hb5.mono HB4.out.size))
  have HK5 := Lib.hid (HK4.out.below hb5)
  have HA5 := Lib.hid (HS4.out.below hb5)
  have HS5 := Lib.hid hs5
  clear hs5 hb5
  go_wp2_with fail
  refine (ubChoose' _ _ _ 3 512 512 keyK (ubS keyK (ub16 4)) (ubS keyK (ub16 5)) _ HK5.out (by decide) HA5.out HS5.out).mono ?_
  rw [HCh.out]
  rintro e w6 ⟨rfl, hb6⟩
  have HB6 := Lib.hid (HB5.out.trans (hb6.mono HB5.out.size))
  have HW5 := Lib.hid (ub16_wf (t := 5) (by decide))
  clear hb6
  go_wp2_with (refine store_ub (u := ub16 5) rfl (.tmp 6) (.tmp 27) rfl rfl rfl (heap_alloc_new _ _) rfl HW5.out ?_)
  intro w7 hg7 hf7 hs7
  have HB7 := Lib.hid (HB6.out.trans (((Below.refl _ w6).alloc (Nat.le_refl _) _ |>.trans (hf7.below (by simp) (fun k hk => by omega))).mono HB6.out.size))
  have c7 : w7.cell? ⟨w6.heap.size, 0, none⟩ = some (.int .u64 5) := (cell_of_row _ _ 0 _ _ _ hg7).trans (ub16 5).get0
  clear hg7 hf7 hs7
  go_wp2_with fail
  refine (ubCheck_any Ub.zero _ Ub.zero_wf).mono ?_
  rw [HZE.out]
  rintro e w8 ⟨rfl, hb8⟩
  have HB8 := Lib.hid (HB7.out.trans (hb8.mono HB7.out.size))
  clear hb8
  go_wp2
  go_ret
  exact ⟨rfl, HB8.out⟩
end Go.Proofs.YtdmjnopjnaoepaaGreatDoor
namespace Go.Proofs.YtdmjnopjnaoepaaGreatDoor
open Go.RowKit

theorem qeql_ub {ops : Array Oper} {C : World → Prop} {Q : Act → Prop} {rest : List Oper} {o : Oper} {a : Act} (hw : Region.wanted o (yielded ops a.tmps) = true) (x y : Operand) (yt : TypeId) (ho : o.op = .binOp .eql 32 x y yt)
    {u v : Ub} (hx : a.eval x = .agg u.arr) (hy : a.eval y = .agg v.arr) (h1 : u.Wf) (h2 : v.Wf) (h : wpQuiet Tryz.prog ops C Q rest (a.put o.dst (.bool (decide (u = v))))) : wpQuiet Tryz.prog ops C Q (o :: rest) a :=
  BigFrame.wpQuiet_want hw fun K hK => ⟨.bool (decide (u = v)), fun w _ => by
    unfold Oper.quietAt execOp
    simp only [ho, hx, hy, Sem.run_bind, run_eqGuard_agg w _ _ _ _ _ _ guard_ub, Result.andThen_ok, run_eql_struct, run_equalIn_ub u v h1 h2 w]
    exact ⟨rfl, rfl⟩, hK _ h⟩
theorem gneq_ub {ops : Array Oper} {rest : List Oper} {o : Oper} {a : Act} {w : World} {Q : Exit → Act → World → Prop} (hw : Region.wanted o (yielded ops a.tmps) = true) (x y : Operand) (yt : TypeId) (ho : o.op = .binOp .neq 32 x y yt)
    {u v : Ub} (hx : a.eval x = .agg u.arr) (hy : a.eval y = .agg v.arr) (h1 : u.Wf) (h2 : v.Wf)
    (hK : wpList Tryz.prog ops Q rest (a.put o.dst (.bool (!decide (u = v)))) w) : wpList Tryz.prog ops Q (o :: rest) a w := by
  refine BigFrame.wpList_want hw fun K hKK => ?_
  unfold Oper.wp execOp
  simp only [ho, hx, hy, Sem.run_bind, run_eqGuard_agg w _ _ _ _ _ _ guard_ub, Result.andThen_ok, run_neq_struct, run_equalIn_ub u v h1 h2 w]
  exact hKK _ _ hK
theorem gload_ub {ops : Array Oper} {rest : List Oper} {o : Oper} {a : Act} {w : World} {Q : Exit → Act → World → Prop} (hw : Region.wanted o (yielded ops a.tmps) = true) (x : Operand) (ho : o.op = .load 32 x)
    {b off : Nat} (hx : a.eval x = .pointer (some ⟨b, off, none⟩)) {u : Ub} (hc : At w b off u.cells) (hl : u.Wf)
    (hK : wpList Tryz.prog ops Q rest (a.put o.dst (.agg u.arr)) w) : wpList Tryz.prog ops Q (o :: rest) a w :=
  gload_at hw _ x ho b off hx u.cells _ hc Tryz.underlying32 rfl (by rw [info_ub, hl.len]) hK

/-- The same uber, of a later number, on a greater device. -/
def laterU (u : Ub) (k : Nat) : Ub := ⟨u.txg + k, min 4096 (u.size + k), u.root⟩
theorem laterU_wf {u : Ub} {k : Nat} (h : u.Wf) (ht : u.txg + k < 18446744073709551616) : (laterU u k).Wf := ⟨ht, (show min 4096 (u.size + k) < 4294967296 by omega), h.root⟩
theorem laterU_ok {u : Ub} {k : Nat} (hc : ubE u = 0) : ubE (laterU u k) = 0 := by
  rw [ubE_split] at hc ⊢
  unfold ubOk at hc ⊢
  simp only [Bool.and_eq_true, decide_eq_true_eq] at hc ⊢
  obtain ⟨⟨⟨h0, h1⟩, h2⟩, h3⟩ := hc
  refine ⟨⟨⟨?_, ?_⟩, ?_⟩, ?_⟩
  · show u.txg + k ≠ 0; omega
  · show 16 ≤ min 4096 (u.size + k); omega
  · show min 4096 (u.size + k) ≤ 4096; omega
  · show ptrOk u.root ((min 4096 (u.size + k) : Nat) : Int) = true
    unfold ptrOk at h3 ⊢
    split
    · rename_i h; rw [if_pos h] at h3; exact h3
    · rename_i h
      rw [if_neg h] at h3
      simp only [Bool.and_eq_true, decide_eq_true_eq] at h3 ⊢
      exact ⟨⟨h3.1.1, by omega⟩, h3.2⟩

end Go.Proofs.YtdmjnopjnaoepaaGreatDoor
namespace Go.Proofs.YtdmjnopjnaoepaaGreatDoor

/-- Bits' number, the lowest first. -/
def ofL : List UInt8 → Nat
  | [] => 0
  | c :: l => c.toNat + 2 * ofL l
def bitB (x i : Nat) : UInt8 := UInt8.ofNat (x / 2 ^ i % 2)
theorem bitB_le (x i : Nat) : (bitB x i).toNat ≤ 1 := by
  unfold bitB
  rw [UInt8.toNat_ofNat', Nat.mod_eq_of_lt (by have := Nat.mod_lt (x / 2 ^ i) (show 0 < 2 by decide); omega)]
  have := Nat.mod_lt (x / 2 ^ i) (show 0 < 2 by decide); omega
theorem bitB_toNat (x i : Nat) : (bitB x i).toNat = x / 2 ^ i % 2 := by
  unfold bitB
  rw [UInt8.toNat_ofNat', Nat.mod_eq_of_lt (by have := Nat.mod_lt (x / 2 ^ i) (show 0 < 2 by decide); omega)]
theorem ofL_testBit : ∀ (l : List UInt8), (∀ c ∈ l, c.toNat ≤ 1) → ∀ i, (ofL l).testBit i = decide ((l.getD i 0).toNat = 1)
  | [], _, i => by simp [ofL]
  | c :: l, h, 0 => by
    have hc := h c (by simp)
    unfold ofL
    rw [Nat.testBit_zero]
    simp only [List.getD_cons_zero]
    congr 1
    apply propext
    omega
  | c :: l, h, i + 1 => by
    have hc := h c (by simp)
    unfold ofL
    rw [Nat.testBit_succ, show (c.toNat + 2 * ofL l) / 2 = ofL l by omega, ofL_testBit l (fun d hd => h d (by simp [hd])) i]
    simp
theorem bit_one (x i : Nat) : decide ((bitB x i).toNat = 1) = x.testBit i := by
  rw [bitB_toNat, Nat.testBit_eq_decide_div_mod_eq]
theorem rotl_testBit {x k : Nat} (hx : x < 4294967296) (hk : k < 32) (i : Nat) (hi : i < 32) : (rotl x k).testBit i = x.testBit ((i + 32 - k) % 32) := by
  unfold rotl
  have e : (4294967296 : Nat) = 2 ^ 32 := rfl
  rw [e] at hx ⊢
  rw [Nat.testBit_or, Nat.testBit_mod_two_pow, Nat.testBit_mul_two_pow, Nat.testBit_div_two_pow, decide_eq_true hi, Bool.true_and]
  by_cases h : k ≤ i
  · rw [decide_eq_true h, Bool.true_and, show (i + 32 - k) % 32 = i - k by omega, Nat.testBit_lt_two_pow (x := x) (i := i + (32 - k)) (Nat.lt_of_lt_of_le hx (Nat.pow_le_pow_right (by decide) (by omega))), Bool.or_false]
  · rw [decide_eq_false h, Bool.false_and, Bool.false_or, show (i + 32 - k) % 32 = i + (32 - k) by omega]
theorem rotl_high {x k : Nat} (hx : x < 4294967296) (i : Nat) (hi : 32 ≤ i) : (rotl x k).testBit i = false :=
  Nat.testBit_lt_two_pow (Nat.lt_of_lt_of_le (rotl_lt k hx) (show 2 ^ 32 ≤ 2 ^ i from Nat.pow_le_pow_right (by decide) hi))
/-- A row of 32 bits, each moved by k, is the number turned by k. -/
theorem ofL_turn {x k : Nat} (hx : x < 4294967296) (hk : k < 32) (l : List UInt8) (hl : l.length = 32) (h : ∀ j, j < 32 → l.getD j 0 = bitB x ((j + 32 - k) % 32)) : ofL l = rotl x k := by
  have h1 : ∀ c ∈ l, c.toNat ≤ 1 := by
    intro c hc
    obtain ⟨j, hj, rfl⟩ := List.getElem_of_mem hc
    have := h j (by omega)
    rw [List.getD_eq_getElem?_getD, List.getElem?_eq_getElem hj] at this
    rw [show l[j] = bitB x ((j + 32 - k) % 32) from this]
    exact bitB_le _ _
  apply Nat.eq_of_testBit_eq
  intro i
  rw [ofL_testBit l h1]
  by_cases hi : i < 32
  · rw [h i hi, bit_one, rotl_testBit hx hk i hi]
  · rw [rotl_high hx i (by omega), List.getD_eq_getElem?_getD, List.getElem?_eq_none (by omega)]
    rfl
/-- Choosing by bits: both ways of saying it. -/
theorem ch_same {e f g : Nat} (he : e < 4294967296) (hg : g < 4294967296) : g ^^^ (e &&& (f ^^^ g)) = (e &&& f) ||| ((4294967295 ^^^ e) &&& g) := by
  apply Nat.eq_of_testBit_eq
  intro i
  simp only [Nat.testBit_xor, Nat.testBit_and, Nat.testBit_or]
  by_cases hi : i < 32
  · have : Nat.testBit 4294967295 i = true := by
      rw [show (4294967295 : Nat) = 2 ^ 32 - 1 from rfl, Nat.testBit_two_pow_sub_one, decide_eq_true hi]
    rw [this]
    cases e.testBit i <;> cases f.testBit i <;> cases g.testBit i <;> rfl
  · have h2 : ∀ {n : Nat}, n < 4294967296 → n.testBit i = false := fun h => Nat.testBit_lt_two_pow (Nat.lt_of_lt_of_le h (show 2 ^ 32 ≤ 2 ^ i from Nat.pow_le_pow_right (by decide) (by omega)))
    rw [h2 he, h2 hg]
    cases f.testBit i <;> simp
theorem maj_same (a b c : Nat) : (a &&& (b ||| c)) ||| (b &&& c) = (a &&& b) ||| (a &&& c) ||| (b &&& c) := by
  apply Nat.eq_of_testBit_eq
  intro i
  simp only [Nat.testBit_and, Nat.testBit_or]
  cases a.testBit i <;> cases b.testBit i <;> cases c.testBit i <;> rfl
end Go.Proofs.YtdmjnopjnaoepaaGreatDoor
namespace Go.Proofs.YtdmjnopjnaoepaaGreatDoor
open Go.RowKit

theorem wrap64_eq {z : Int} (h1 : -9223372036854775808 ≤ z) (h2 : z < 9223372036854775808) : wrap64 z = z := by unfold wrap64; omega
/-- The bits that are laid after k rounds. -/
def bitsTo (x k : Nat) : List UInt8 := (List.range 32).map fun i => if i < k then bitB x i else 0
theorem bitsTo_length (x k : Nat) : (bitsTo x k).length = 32 := by simp [bitsTo]
theorem bitsTo_zero (x : Nat) : bitsTo x 0 = List.replicate 32 0 := rfl
theorem bitsTo_succ (x k : Nat) (h : k < 32) : (bitsTo x k).set k (bitB x k) = bitsTo x (k + 1) := by
  apply List.ext_getElem?
  intro j
  rw [List.getElem?_set]
  by_cases hj : k = j
  · subst hj
    simp [bitsTo, h]
  · by_cases h1 : j < k
    · by_cases h2 : j < 32 <;> simp [bitsTo, hj, h1, h2, show j < k + 1 by omega]
    · by_cases h2 : j < 32 <;> simp [bitsTo, hj, h1, h2, show ¬ j < k + 1 by omega]
theorem bitsTo_get (x j : Nat) (h : j < 32) : (bitsTo x 32)[j]? = some (bitB x j) := by simp [bitsTo, h]
theorem ofL_drop (l : List UInt8) (i : Nat) (h : i < l.length) : ofL (l.drop i) = ofL (l.drop (i + 1)) * 2 + l[i].toNat := by
  rw [List.drop_eq_getElem_cons h]
  show l[i].toNat + 2 * ofL (l.drop (i + 1)) = _
  omega
theorem Sl.here' {w : World} {a : Option Addr} {n c : Nat} {ys : List UInt8} (h : Sl w 1 (.slice a n c) n (ys.map Bv)) (hn : 0 < n) : ∃ g o, a = some ⟨g, o, none⟩ ∧ At w g o (ys.map Bv) := by
  obtain ⟨hl, a', cap, e, _, _, h4⟩ := h
  simp only [Value.slice.injEq, true_and] at e
  obtain ⟨rfl, -⟩ := e
  have hl' : ys.length = n := by simpa using hl
  obtain ⟨y, l, rfl⟩ : ∃ y l, ys = y :: l := by cases ys with | nil => simp at hl'; omega | cons y l => exact ⟨y, l, rfl⟩
  obtain ⟨g, o, rfl, _⟩ := h4 0 (Bv y) rfl
  refine ⟨g, o, rfl, fun i u hu => ?_⟩
  obtain ⟨g', o', e', hc⟩ := h4 i u hu
  simp only [Option.some.injEq, Addr.mk.injEq, and_true] at e'
  obtain ⟨rfl, rfl⟩ := e'
  exact hc
theorem ofL_lt : ∀ (l : List UInt8), (∀ c ∈ l, c.toNat ≤ 1) → ofL l < 2 ^ l.length
  | [], _ => by simp [ofL]
  | c :: l, h => by
    have h1 := h c (by simp)
    have h2 := ofL_lt l (fun d hd => h d (by simp [hd]))
    rw [List.length_cons, Nat.pow_succ]
    unfold ofL
    omega

set_option maxRecDepth 100000 in
set_option maxHeartbeats 1000000 in
theorem bits01_any (x : Nat) (w : World) (hx : x < 4294967296) :
    Calls Tryz.prog 107 #[.int .u64 (x : Int), .int .i64 32] w fun e w' => ∃ aa cc, e = .returned (.slice aa 32 cc) ∧ w'.ownsRow w.heap.size 5 1 (.slice aa 32 cc) 32 ((bitsTo x 32).map Bv) ∧ Below w.heap.size w w' := by
  have HX := Lib.hid hx
  clear hx
  go_enter Tryz.func107, Tryz.ntmps107
  go_wp2_with (at_make; refine make_u8 rfl (.tmp 7) (.tmp 7) rfl 32 rfl rfl (by omega) ?_)
  intro w1 hown hb
  have HO := Lib.hid hown
  have HB := Lib.hid hb
  clear hown hb
  go_wp2_with fail
  go_loopw [0, 11] (fun y i wr => ∃ k : Nat, k ≤ 32 ∧ i = .int .i64 k ∧ y = .int .u64 ((x / 2 ^ k : Nat) : Int) ∧ wr.ownsRow w.heap.size 5 1 (.slice (some ⟨w.heap.size, 0, none⟩) 32 32) 32 ((bitsTo x k).map Bv) ∧ Below w.heap.size w wr) (fun _ i _ => 32 - (intOf i).toNat)
  case atStart => exact ⟨0, Nat.zero_le _, rfl, by simp, by rw [bitsTo_zero]; exact HO.out, HB.out⟩
  case round =>
    obtain ⟨k, hk, rfl, rfl, hown, hb⟩ := hrel
    rcases Nat.lt_or_ge k 32 with hlt | hge
    · have hc : ∃ u, wr.cell? ⟨w.heap.size, k, none⟩ = some (Bv u) := ⟨_, by rw [hown.cellAt k (by omega)]; simp [bitsTo, hlt]; rfl⟩
      obtain ⟨u, hc⟩ := hc
      have hf := hown.frozenAt k
      have HO := Lib.hid hown
      have HB := Lib.hid hb
      obtain ⟨y, hy⟩ : ∃ y, y = x / 2 ^ k := ⟨_, rfl⟩
      rw [← hy]
      have hyx : y < 4294967296 := by rw [hy]; exact Nat.lt_of_le_of_lt (Nat.div_le_self _ _) HX.out
      have HY2 := Lib.hid (show ((y : Int) / 2) = ((x / 2 ^ (k + 1) : Nat) : Int) by rw [hy, Nat.pow_succ, ← Nat.div_div_eq_div_mul]; simp)
      have HY3 := Lib.hid (show Value.int .u8 ((y : Int) % 2) = Bv (bitB x k) by rw [hy, Bv, bitB_toNat]; simp)
      clear hown hb hy
      go_wp2
      go_roundw
      case rel =>
        refine ⟨k + 1, by omega, by go_num, by first | rw [HY2.out] | (rw [← HY2.out]; go_num), ?_, HB.out.setCell (Nat.le_refl _) _⟩
        have h2 := (HO.out.stored k (.int .u8 ((y : Int) % 2))).1
        rw [HY3.out, ← List.map_set, bitsTo_succ x k hlt] at h2
        rw [HY3.out]
        exact h2
      case measure => simp [intOf]; omega
    · obtain rfl : k = 32 := by omega
      have HO := Lib.hid hown
      have HB := Lib.hid hb
      clear hown hb
      go_wp2
      go_ret
      exact ⟨_, _, rfl, HO.out, HB.out⟩

set_option maxRecDepth 100000 in
set_option maxHeartbeats 1000000 in
theorem of01_any (v : Value) (l : List UInt8) (w : World) (h : Sl w 1 v 32 (l.map Bv)) (h1 : ∀ c ∈ l, c.toNat ≤ 1) :
    Calls Tryz.prog 108 #[v] w fun e w' => e = .returned (.int .u64 (ofL l : Int)) ∧ w = w' := by
  have hl : l.length = 32 := by simpa using h.1
  obtain ⟨a, c, rfl, _⟩ := h.len
  obtain ⟨g, o, rfl, hat⟩ := h.here' (by decide)
  have HL := Lib.hid hl
  have HAt := Lib.hid hat
  have H1 := Lib.hid h1
  clear h hl hat h1
  go_enter Tryz.func108, Tryz.ntmps108
  go_wp2_with fail
  go_loop [3, 4] (fun y i => ∃ k : Nat, k ≤ 32 ∧ i = .int .i64 ((k : Int) - 1) ∧ y = .int .u64 ((ofL (l.drop k) : Nat) : Int)) (fun _ i => (intOf i + 1).toNat)
  case atStart => exact ⟨32, Nat.le_refl _, rfl, by rw [List.drop_of_length_le (by rw [HL.out]; omega)]; rfl⟩
  case round =>
    obtain ⟨k, hk, rfl, rfl⟩ := hrel
    cases k with
    | zero =>
      rw [List.drop_zero]
      go_wp2
      go_ret
      exact ⟨rfl, rfl⟩
    | succ j =>
      have hj : j < l.length := by rw [HL.out]; omega
      have hx : w.cell? ⟨g, o + j, none⟩ = some (.int .u8 ((l[j]'hj).toNat : Int)) := HAt.out j _ (by rw [List.getElem?_map, List.getElem?_eq_getElem hj]; rfl)
      have hd := ofL_drop l j hj
      have hlt : ofL (l.drop j) < 2 ^ 32 := by
        refine Nat.lt_of_lt_of_le (ofL_lt (l.drop j) (fun c hc => H1.out c (List.mem_of_mem_drop hc))) (Nat.pow_le_pow_right (by decide) ?_)
        rw [List.length_drop, HL.out]; omega
      have e1 : ((j + 1 : Nat) : Int) - 1 = (j : Int) := by omega
      rw [e1]
      obtain ⟨y, hy⟩ : ∃ y, y = ofL (l.drop (j + 1)) := ⟨_, rfl⟩
      obtain ⟨z, hz⟩ : ∃ z, z = (l[j]'hj).toNat := ⟨_, rfl⟩
      rw [← hy, ← hz] at hd
      rw [← hy]
      rw [← hz] at hx
      have hzl : z < 256 := by rw [hz]; exact (l[j]'hj).toNat_lt
      have HD := Lib.hid hd
      have hlt2 : y * 2 + z < 4294967296 := by rw [← hd]; exact hlt
      clear hd hlt hy hz e1
      go_wp2
      go_round
      case rel => exact ⟨j, by omega, by go_num, by rw [HD.out]; go_num⟩
      case measure => simp [intOf]


set_option maxRecDepth 100000 in
set_option maxHeartbeats 400000 in
/-- Turned back by a. -/
theorem turn01_any (x a : Nat) (w : World) (hx : x < 4294967296) (ha : 0 < a) (ha2 : a < 32) :
    Calls Tryz.prog 106 #[.int .u32 (x : Int), .int .i64 (-(a : Int))] w fun e w' => e = .returned (.int .u32 (rotl x (32 - a) : Int)) ∧ Below w.heap.size w w' := by
  obtain ⟨res, hres⟩ : ∃ res, res = rotl x (32 - a) := ⟨_, rfl⟩
  have HRl := Lib.hid (show res < 4294967296 by rw [hres]; exact rotl_lt _ hx)
  have HFin := Lib.hid (fun (l : List UInt8) (hl : l.length = 32) (h : ∀ j, j < 32 → l.getD ((j + 32 - a) % 32) 0 = bitB x j) => (show ofL l = res by
    rw [hres]
    refine ofL_turn hx (by omega) l hl (fun j hj => ?_)
    have := h ((j + a) % 32) (Nat.mod_lt _ (by decide))
    rw [show ((j + a) % 32 + 32 - a) % 32 = j by omega] at this
    rw [this]
    congr 1
    omega))
  have HB := Lib.hid (fun w => bits01_any x w hx)
  obtain ⟨n, hn⟩ : ∃ n : Int, n = -(a : Int) := ⟨_, rfl⟩
  have HN := Lib.hid hn
  have hwx : IntKind.u64.wrap (x : Int) = (x : Int) := by rw [IntKind.wrap_u64]; omega
  have HAl := Lib.hid (And.intro ha ha2)
  rw [← hres, ← hn]
  clear hx hres hn ha ha2
  go_enter Tryz.func106, Tryz.ntmps106
  go_wp2_with fail
  refine (HB.out _).mono ?_
  rintro e w1 ⟨aa, cc, rfl, ho1, hb1⟩
  obtain ⟨g, o, rfl, hat⟩ := (Sl.own ho1).here' (by decide)
  have hgl : g < w1.heap.size := World.block_lt_of_cell? w1 ⟨g, o + 0, none⟩ (hat 0 _ rfl)
  have HAt := Lib.hid hat
  have HB1 := Lib.hid hb1
  clear ho1 hb1 hwx hat
  go_wp2_with (at_make; refine make_u8 rfl (.const (.int .i64 32)) (.const (.int .i64 32)) rfl 32 rfl rfl (by omega) ?_)
  intro w2 hown hb2
  have HO := Lib.hid hown
  have HAt2 := Lib.hid (HAt.out.fr (Fr.of_below (S := fun _ => False) hb2) id)
  have HB2 := Lib.hid (HB1.out.trans (hb2.mono HB1.out.size))
  have HS2 := Lib.hid HB1.out.size
  clear hown hb2
  go_wp2_with fail
  go_loopw [14] (fun i wr => ∃ k : Nat, k ≤ 32 ∧ i = .int .i64 k ∧ ∃ os : List UInt8, os.length = 32 ∧ (∀ j, j < k → os.getD ((j + 32 - a) % 32) 0 = bitB x j) ∧ wr.ownsRow w1.heap.size 5 1 (.slice (some ⟨w1.heap.size, 0, none⟩) 32 32) 32 (os.map Bv) ∧ At wr g o ((bitsTo x 32).map Bv) ∧ Below w.heap.size w wr) (fun i _ => 32 - (intOf i).toNat)
  case atStart => exact ⟨0, Nat.zero_le _, rfl, List.replicate 32 0, by decide, fun j hj => by omega, HO.out, HAt2.out, HB2.out⟩
  case round =>
    obtain ⟨k, hk, rfl, os, hol, hos, hown, hat, hb⟩ := hrel
    rcases Nat.lt_or_ge k 32 with hlt | hge
    · have hx : wr.cell? ⟨g, o + k, none⟩ = some (.int .u8 ((bitB x k).toNat : Int)) := hat k _ (by rw [List.getElem?_map, bitsTo_get x k hlt]; rfl)
      obtain ⟨j, hj⟩ : ∃ j, j = (k + 32 - a) % 32 := ⟨_, rfl⟩
      have hj2 : j < 32 := by rw [hj]; exact Nat.mod_lt _ (by decide)
      have hc : ∃ u, wr.cell? ⟨w1.heap.size, j, none⟩ = some (Bv u) := ⟨_, by rw [hown.cellAt j (by omega)]; rw [List.getElem?_map, List.getElem?_eq_getElem (by omega)]; rfl⟩
      obtain ⟨u, hc⟩ := hc
      have hf := hown.frozenAt j
      have HO2 := Lib.hid hown
      have HOs := Lib.hid hos
      have HOl := Lib.hid hol
      have HAt3 := Lib.hid hat
      have HB3 := Lib.hid hb
      have HJ := Lib.hid hj
      obtain ⟨y, hy⟩ : ∃ y, y = bitB x k := ⟨_, rfl⟩
      rw [← hy] at hx
      have HY := Lib.hid hy
      have ej : Int.tmod (wrap64 (Int.tmod (wrap64 ((k : Int) + Int.tmod n 32)) 32 + 32)) 32 = (j : Int) := by
        have h1 := HAl.out
        have h2 := HN.out
        rw [hj, h2]
        have e1 : Int.tmod (-(a : Int)) 32 = -(a : Int) := by
          rw [Int.neg_tmod, Int.tmod_eq_emod_of_nonneg (by omega)]; omega
        rw [e1, wrap64_eq (z := (k : Int) + -(a : Int)) (by omega) (by omega)]
        by_cases hka : a ≤ k
        · rw [Int.tmod_eq_emod_of_nonneg (a := (k : Int) + -(a : Int)) (by omega), wrap64_eq (by omega) (by omega), Int.tmod_eq_emod_of_nonneg (by omega)]; omega
        · rw [show (k : Int) + -(a : Int) = -((a : Int) - k) by omega, Int.neg_tmod, Int.tmod_eq_emod_of_nonneg (a := (a : Int) - k) (by omega), wrap64_eq (by omega) (by omega), Int.tmod_eq_emod_of_nonneg (by omega)]; omega
      clear hown hos hol hat hb hj hy
      go_wp2
      go_roundw
      case rel =>
        have h2 := (HO2.out.stored j (.int .u8 (y.toNat : Int))).1
        rw [show Value.int .u8 (y.toNat : Int) = Bv y from rfl, ← List.map_set] at h2
        refine ⟨k + 1, by omega, by go_num, os.set j y, by rw [List.length_set]; exact HOl.out, ?_, h2, HAt3.out.fr ((Fr.refl (fun b => b = w1.heap.size) _).set _ j rfl _) (by omega), HB3.out.setCell (by have := HB1.out.size; omega) _⟩
        intro i hi
        rw [List.getD_eq_getElem?_getD, List.getElem?_set]
        by_cases hik : i = k
        · subst hik
          rw [← HJ.out, if_pos rfl, if_pos (by rw [HOl.out]; exact hj2)]
          exact HY.out
        · have := HAl.out
          rw [if_neg (by rw [HJ.out]; omega), ← List.getD_eq_getElem?_getD]
          exact HOs.out i (by omega)
      case measure => simp [intOf]; omega
    · obtain rfl : k = 32 := by omega
      have hofl := HFin.out os hol hos
      have h1 : ∀ c ∈ os, c.toNat ≤ 1 := by
        intro c hc
        obtain ⟨i, hi, rfl⟩ := List.getElem_of_mem hc
        have := hos ((i + a) % 32) (Nat.mod_lt _ (by decide))
        have hal := HAl.out
        rw [show ((i + a) % 32 + 32 - a) % 32 = i by omega, List.getD_eq_getElem?_getD, List.getElem?_eq_getElem hi] at this
        rw [show os[i] = bitB x ((i + a) % 32) from this]
        exact bitB_le _ _
      have hof := fun w' h => of01_any (.slice (some ⟨w1.heap.size, 0, none⟩) 32 32) os w' h h1
      rw [hofl] at hof
      have HOf := Lib.hid hof
      have HSo := Lib.hid (Sl.own hown)
      have HB3 := Lib.hid hb
      have hrl := HRl.out
      clear hown hos hat hb hofl h1 hof
      go_wp2_with fail
      refine (HOf.out _ HSo.out).mono ?_
      rintro e w5 ⟨rfl, rfl⟩
      go_wp2
      go_ret
      exact ⟨by first | rfl | (congr 2; go_num), HB3.out⟩
end Go.Proofs.YtdmjnopjnaoepaaGreatDoor
namespace Go.Proofs.YtdmjnopjnaoepaaGreatDoor
open Go.RowKit

set_option maxHeartbeats 1000000 in
theorem three01_any (x a b c : Nat) (w : World) (hx : x < 4294967296) (ha : 1 ≤ a ∧ a ≤ 31) (hb : 1 ≤ b ∧ b ≤ 31) (hc : 1 ≤ c ∧ c ≤ 31) :
    Calls Tryz.prog 97 #[.int .u32 (x : Int), .int .i64 (a : Int), .int .i64 (b : Int), .int .i64 (c : Int)] w fun e w' => e = .returned (.int .u32 (mixN x a b c : Int)) ∧ Below w.heap.size w w' := by
  have H1 := Lib.hid (fun w => turn01_any x a w hx (by omega) (by omega))
  have H2 := Lib.hid (fun w => turn01_any x b w hx (by omega) (by omega))
  have H3 := Lib.hid (fun w => turn01_any x c w hx (by omega) (by omega))
  have HR := Lib.hid (show bits .xor .u32 (bits .xor .u32 (rotl x (32 - a) : Int) (rotl x (32 - b) : Int)) (rotl x (32 - c) : Int) = (mixN x a b c : Int) by
    rw [u32_xor_nat _ _ (rotl_lt _ hx) (rotl_lt _ hx), u32_xor_nat _ _ (xor_lt32 (rotl_lt _ hx) (rotl_lt _ hx)) (rotl_lt _ hx)]; rfl)
  go_enter Tryz.func97, Tryz.ntmps97
  go_wp2_with fail
  refine (H1.out _).mono ?_
  rintro e w1 ⟨rfl, hb1⟩
  have HB1 := Lib.hid hb1
  clear hb1
  go_wp2_with fail
  refine (H2.out _).mono ?_
  rintro e w2 ⟨rfl, hb2⟩
  have HB2 := Lib.hid (HB1.out.trans (hb2.mono HB1.out.size))
  clear hb2
  go_wp2_with fail
  refine (H3.out _).mono ?_
  rintro e w3 ⟨rfl, hb3⟩
  have HB3 := Lib.hid (HB2.out.trans (hb3.mono HB2.out.size))
  clear hb3
  go_wp2
  go_ret
  exact ⟨by rw [← HR.out]; rfl, HB3.out⟩

theorem shr32 (x c : Nat) : (x : Int) / 2 ^ c = ((x / 2 ^ c : Nat) : Int) := by rw [Int.natCast_ediv, Int.natCast_pow]; rfl
set_option maxHeartbeats 1000000 in
theorem small01_any (x a b c : Nat) (w : World) (hx : x < 4294967296) (ha : 1 ≤ a ∧ a ≤ 31) (hb : 1 ≤ b ∧ b ≤ 31) (hc : 1 ≤ c ∧ c ≤ 31) :
    Calls Tryz.prog 96 #[.int .u32 (x : Int), .int .i64 (a : Int), .int .i64 (b : Int), .int .u64 (c : Int)] w fun e w' => e = .returned (.int .u32 (smallN x a b c : Int)) ∧ Below w.heap.size w w' := by
  have H1 := Lib.hid (fun w => turn01_any x a w hx (by omega) (by omega))
  have H2 := Lib.hid (fun w => turn01_any x b w hx (by omega) (by omega))
  have HR := Lib.hid (show bits .xor .u32 (bits .xor .u32 (rotl x (32 - a) : Int) (rotl x (32 - b) : Int)) ((x : Int) / 2 ^ c) = (smallN x a b c : Int) by
    rw [shr32, u32_xor_nat _ _ (rotl_lt _ hx) (rotl_lt _ hx), u32_xor_nat _ _ (xor_lt32 (rotl_lt _ hx) (rotl_lt _ hx)) (Nat.lt_of_le_of_lt (Nat.div_le_self _ _) hx)]; rfl)
  go_enter Tryz.func96, Tryz.ntmps96
  go_wp2_with fail
  refine (H1.out _).mono ?_
  rintro e w1 ⟨rfl, hb1⟩
  have HB1 := Lib.hid hb1
  clear hb1
  go_wp2_with fail
  refine (H2.out _).mono ?_
  rintro e w2 ⟨rfl, hb2⟩
  have HB2 := Lib.hid (HB1.out.trans (hb2.mono HB1.out.size))
  clear hb2
  go_wp2
  go_ret
  exact ⟨by rw [← HR.out]; first | rfl | simp, HB2.out⟩
end Go.Proofs.YtdmjnopjnaoepaaGreatDoor
namespace Go.Proofs.YtdmjnopjnaoepaaGreatDoor

def valL : List Nat → Nat
  | [] => 0
  | c :: l => c + 10000 * valL l
/-- A row of digits without a zero at its end. -/
def CanL : List Nat → Prop
  | [] => True
  | c :: l => c < 10000 ∧ (l = [] → c ≠ 0) ∧ CanL l
def digL (x : Nat) : List Nat := if h : x = 0 then [] else x % 10000 :: digL (x / 10000)
termination_by x
decreasing_by exact Nat.div_lt_self (by omega) (by decide)
theorem digL_zero : digL 0 = [] := by unfold digL; simp
theorem digL_pos {x : Nat} (h : x ≠ 0) : digL x = x % 10000 :: digL (x / 10000) := by rw [digL]; simp [h]
theorem digL_nil {x : Nat} (h : digL x = []) : x = 0 := by
  by_cases h0 : x = 0
  · exact h0
  · rw [digL_pos h0] at h; cases h
theorem valL_digL (x : Nat) : valL (digL x) = x := by
  induction x using Nat.strongRecOn with
  | ind x ih =>
    by_cases h : x = 0
    · subst h; rw [digL_zero]; rfl
    · rw [digL_pos h]
      unfold valL
      rw [ih (x / 10000) (Nat.div_lt_self (by omega) (by decide))]
      omega
theorem digL_can (x : Nat) : CanL (digL x) := by
  induction x using Nat.strongRecOn with
  | ind x ih =>
    by_cases h : x = 0
    · subst h; rw [digL_zero]; trivial
    · rw [digL_pos h]
      refine ⟨Nat.mod_lt _ (by decide), fun h0 => ?_, ih (x / 10000) (Nat.div_lt_self (by omega) (by decide))⟩
      have := digL_nil h0
      omega
theorem valL_pos : ∀ {l : List Nat}, CanL l → l ≠ [] → 0 < valL l
  | [], _, h => absurd rfl h
  | c :: l, h, _ => by
    unfold valL
    by_cases hl : l = []
    · have := h.2.1 hl; omega
    · have := valL_pos h.2.2 hl; omega
theorem digL_valL : ∀ {l : List Nat}, CanL l → digL (valL l) = l
  | [], _ => digL_zero
  | c :: l, h => by
    have hp := valL_pos h (by simp)
    have h1 := h.1
    rw [digL_pos (by omega)]
    unfold valL
    rw [show (c + 10000 * valL l) % 10000 = c by omega, show (c + 10000 * valL l) / 10000 = valL l by omega, digL_valL h.2.2]
theorem digL_lt (x : Nat) : ∀ c ∈ digL x, c < 10000 := by
  have : ∀ l, CanL l → ∀ c ∈ l, c < 10000 := by
    intro l
    induction l with
    | nil => intro _ c hc; cases hc
    | cons d l ih =>
      intro h c hc
      rcases List.mem_cons.1 hc with rfl | hc
      · exact h.1
      · exact ih h.2.2 c hc
  exact this _ (digL_can x)
theorem valL_lt : ∀ (l : List Nat), (∀ c ∈ l, c < 10000) → valL l < 10000 ^ l.length
  | [], _ => by simp [valL]
  | c :: l, h => by
    have h1 := h c (by simp)
    have h2 := valL_lt l (fun d hd => h d (by simp [hd]))
    rw [List.length_cons, Nat.pow_succ]
    unfold valL
    omega
theorem valL_append : ∀ (l m : List Nat), valL (l ++ m) = valL l + 10000 ^ l.length * valL m
  | [], m => by simp [valL]
  | c :: l, m => by
    show c + 10000 * valL (l ++ m) = c + 10000 * valL l + 10000 ^ (l.length + 1) * valL m
    rw [valL_append l m, Nat.pow_succ, Nat.mul_add, Nat.mul_comm (10000 ^ l.length) 10000, Nat.mul_assoc, Nat.add_assoc]
/-- A zero at the end counts nothing. -/
theorem valL_snoc0 (l : List Nat) : valL (l ++ [0]) = valL l := by rw [valL_append]; simp [valL]
/-- Digits without a zero at the end are those of their number. -/
theorem canL_of (l : List Nat) (h : ∀ c ∈ l, c < 10000) (hz : ∀ m c, l = m ++ [c] → c ≠ 0) : CanL l := by
  induction l with
  | nil => trivial
  | cons d l ih =>
    refine ⟨h d (by simp), fun hl => ?_, ih (fun c hc => h c (by simp [hc])) (fun m c hm => hz (d :: m) c (by rw [hm]; rfl))⟩
    subst hl
    exact hz [] d rfl
/-- The longer one is greater. -/
theorem digL_longer {a b : Nat} (h : (digL b).length < (digL a).length) : b < a := by
  have h1 := valL_lt (digL b) (digL_lt b)
  rw [valL_digL] at h1
  have h2 : 10000 ^ ((digL a).length - 1) ≤ a := by
    have : ∀ l : List Nat, CanL l → l ≠ [] → 10000 ^ (l.length - 1) ≤ valL l := by
      intro l
      induction l with
      | nil => intro _ h; exact absurd rfl h
      | cons c l ih =>
        intro hc _
        unfold valL
        by_cases hl : l = []
        · subst hl
          have := hc.2.1 rfl
          simp [valL]; omega
        · have h3 := ih hc.2.2 hl
          have h4 : l.length = (l.length - 1) + 1 := by have := List.length_pos_iff.2 hl; omega
          rw [List.length_cons, Nat.add_sub_cancel, h4, Nat.pow_succ]
          omega
    have h5 := this (digL a) (digL_can a) (fun e => by rw [e] at h; simp at h)
    rwa [valL_digL] at h5
  exact Nat.lt_of_lt_of_le h1 (Nat.le_trans (Nat.pow_le_pow_right (by decide) (by omega)) h2)

theorem valL_set : ∀ (l : List Nat) (p x : Nat), p < l.length → valL (l.set p x) + l.getD p 0 * 10000 ^ p = valL l + x * 10000 ^ p
  | [], _, _, h => by simp at h
  | c :: l, 0, x, _ => by
    show x + 10000 * valL l + c * 10000 ^ 0 = c + 10000 * valL l + x * 10000 ^ 0
    omega
  | c :: l, p + 1, x, h => by
    have ih := valL_set l p x (by simpa using h)
    show c + 10000 * valL (l.set p x) + l.getD p 0 * 10000 ^ (p + 1) = c + 10000 * valL l + x * 10000 ^ (p + 1)
    have e1 : l.getD p 0 * 10000 ^ (p + 1) = 10000 * (l.getD p 0 * 10000 ^ p) := by rw [Nat.pow_succ, Nat.mul_comm (10000 ^ p) 10000, ← Nat.mul_assoc, ← Nat.mul_assoc, Nat.mul_comm (l.getD p 0) 10000]
    have e2 : x * 10000 ^ (p + 1) = 10000 * (x * 10000 ^ p) := by rw [Nat.pow_succ, Nat.mul_comm (10000 ^ p) 10000, ← Nat.mul_assoc, ← Nat.mul_assoc, Nat.mul_comm x 10000]
    rw [e1, e2]
    omega
/-- v at place p, its carry at the next. -/
def laidL (l : List Nat) (p v : Nat) : List Nat := (l.set p ((l.getD p 0 + v) % 10000)).set (p + 1) (l.getD (p + 1) 0 + (l.getD p 0 + v) / 10000)
theorem laidL_length (l : List Nat) (p v : Nat) : (laidL l p v).length = l.length := by simp [laidL]
theorem laidL_val (l : List Nat) (p v : Nat) (h : p + 1 < l.length) : valL (laidL l p v) = valL l + v * 10000 ^ p := by
  have h1 := valL_set l p ((l.getD p 0 + v) % 10000) (by omega)
  have h2 := valL_set (l.set p ((l.getD p 0 + v) % 10000)) (p + 1) (l.getD (p + 1) 0 + (l.getD p 0 + v) / 10000) (by simpa using h)
  have e : (l.set p ((l.getD p 0 + v) % 10000)).getD (p + 1) 0 = l.getD (p + 1) 0 := by
    rw [List.getD_eq_getElem?_getD, List.getElem?_set_ne (by omega), ← List.getD_eq_getElem?_getD]
  rw [e] at h2
  unfold laidL
  obtain ⟨q, hq⟩ : ∃ q, q = 10000 ^ p := ⟨_, rfl⟩
  rw [Nat.pow_succ, ← hq] at h2
  rw [← hq] at h1 ⊢
  obtain ⟨m, hm⟩ : ∃ m, m = l.getD p 0 + v := ⟨_, rfl⟩
  rw [← hm] at h1 h2 ⊢
  have e3 : m * q = m % 10000 * q + m / 10000 * (q * 10000) := by
    conv => lhs; rw [← Nat.mod_add_div m 10000]
    rw [Nat.add_mul, Nat.mul_comm 10000 (m / 10000), Nat.mul_assoc, Nat.mul_comm 10000 q]
  have e4 : (l.getD (p + 1) 0 + m / 10000) * (q * 10000) = l.getD (p + 1) 0 * (q * 10000) + m / 10000 * (q * 10000) := Nat.add_mul _ _ _
  have e5 : m * q = l.getD p 0 * q + v * q := by rw [hm, Nat.add_mul]
  omega

theorem valL_at (l : List Nat) (i : Nat) (h : i < l.length) : valL l = valL (l.take i) + 10000 ^ i * (l[i] + 10000 * valL (l.drop (i + 1))) := by
  conv => lhs; rw [← List.take_append_drop i l, valL_append, List.drop_eq_getElem_cons h]
  rw [List.length_take, Nat.min_eq_left (by omega)]
  rfl
/-- Alike above, greater here: greater. -/
theorem valL_above {a b : List Nat} (i : Nat) (ha : i < a.length) (hb : i < b.length) (hbd : ∀ c ∈ b, c < 10000) (hd : a.drop (i + 1) = b.drop (i + 1)) (h : b[i] < a[i]) : valL b < valL a := by
  rw [valL_at a i ha, valL_at b i hb, hd]
  have h1 := valL_lt (b.take i) (fun c hc => hbd c (List.mem_of_mem_take hc))
  rw [List.length_take, Nat.min_eq_left (by omega)] at h1
  have h2 : 10000 ^ i * (b[i] + 10000 * valL (b.drop (i + 1))) + 10000 ^ i ≤ 10000 ^ i * (a[i] + 10000 * valL (b.drop (i + 1))) := by
    rw [← Nat.mul_succ]
    exact Nat.mul_le_mul_left _ (by omega)
  omega
end Go.Proofs.YtdmjnopjnaoepaaGreatDoor
namespace Go.Proofs.YtdmjnopjnaoepaaGreatDoor
open Go.RowKit

def I64 (n : Nat) : Value := .int .i64 (n : Int)
theorem I64_one (l : List Nat) : ∀ u ∈ l.map I64, u.oneCell' = true := by
  intro u hu
  obtain ⟨n, _, rfl⟩ := List.mem_map.1 hu
  rfl
theorem info_int' : (Tryz.prog.info? 3).map (fun i => (i.zero, i.size, i.bytes)) = some (some (.int .i64 0), 1, 8) := by kernel_rfl
theorem append_i {w : World} {ops : Array Oper} {rest : List Oper} {o : Oper} {a : Act} {Q : Exit → Act → World → Prop} (hgd : o.guard = none) (s x : Operand)
    (ho : o.op = .call { callee := .builtin .append, args := #[s, x], argTypes := #[151, 151] })
    {base : Nat} {v : Value} {n : Nat} {xs : List Nat} (hown : w.ownsRow base 3 1 v n (xs.map I64)) {vx : Value} {m : Nat} {news : List Nat} (hx : Sl w 1 vx m (news.map I64))
    (hs : a.eval s = v) (hxe : a.eval x = vx) (hr : n + m ≤ 1000000000) (hbase : base ≤ w.heap.size)
    (h : ∀ aa cc w', w'.ownsRow base 3 1 (.slice aa (n + m) cc) (n + m) ((xs ++ news).map I64) → Fr (fun k => v.ownBlock = some k) w w' → ((Value.slice aa (n + m) cc).ownBlock = v.ownBlock ∨ (Value.slice aa (n + m) cc).ownBlock = some w.heap.size) →
      wpList Tryz.prog ops Q rest (a.put o.dst (.slice aa (n + m) cc)) w') : wpList Tryz.prog ops Q (o :: rest) a w := by
  obtain ⟨i0, hi, hz0, hz1, hz2⟩ := info_parts info_int'
  refine wpList_append_sl hgd s x 151 ho base 3 i0 (.int .i64 0) 1 8 Tryz.underlying151 hi hz0 hz1 hz2 rfl (by decide) v n _ hs hown vx m _ hxe hx (I64_one _) (by unfold maxLen; omega) (by omega) hbase ?_
  intro aa cc w' h2 hg h3
  rw [← List.map_append] at h2
  exact h aa cc w' h2 ((Fr.refl _ w).grown hg (fun k hk => Or.inl hk)) h3

theorem own_allocI {w : World} {B t sz n : Nat} {v : Value} {l : List Value} (h : w.ownsRow B t sz v n l) (o : Obj) : (w.alloc o).ownsRow B t sz v n l := h.fr ((Fr.refl (fun _ => False) w).alloc _) (fun _ _ => id)
theorem sl_rowI {w : World} {b : Nat} {cs : Array Value} {t : TypeId} {size n : Nat} {xs : List Value} (hb : w.heap[b]? = some (.cells cs t (0, 0))) (hcs : cs.toList = xs) (hn : xs.length = n * size) : Sl w size (.slice (some ⟨b, 0, none⟩) n n) n xs := by
  refine ⟨hn, some ⟨b, 0, none⟩, n, rfl, Nat.le_refl _, fun h => (by cases h), fun i u hu => ⟨b, 0, rfl, ?_⟩⟩
  rw [Nat.zero_add, cell_of_row _ b i cs t _ hb, ← hu, ← hcs, Array.getElem?_toList]
/-- The digits that are laid, and the number that is left. -/
theorem digL_split (x y : Nat) (l : List Nat) (h : digL x = l ++ digL y) (hy : y ≠ 0) : digL x = (l ++ [y % 10000]) ++ digL (y / 10000) := by rw [h, digL_pos hy]; simp

theorem digL_length : ∀ (k x : Nat), x < 10000 ^ k → (digL x).length ≤ k
  | 0, x, h => by
    obtain rfl : x = 0 := by omega
    rw [digL_zero]; exact Nat.le_refl _
  | k + 1, x, h => by
    by_cases h0 : x = 0
    · subst h0; rw [digL_zero]; exact Nat.zero_le _
    · rw [digL_pos h0, List.length_cons]
      have := digL_length k (x / 10000) (by rw [Nat.div_lt_iff_lt_mul (by decide)]; rwa [Nat.pow_succ] at h)
      omega
set_option maxRecDepth 100000 in
set_option maxHeartbeats 1000000 in
theorem ofL01_any (x : Nat) (w : World) (hx : x < 10000000000000000) :
    Calls Tryz.prog 99 #[.int .u64 (x : Int)] w fun e w' => ∃ v, e = .returned v ∧ w'.ownsRow w.heap.size 3 1 v (digL x).length ((digL x).map I64) ∧ Below w.heap.size w w' := by
  have HX := Lib.hid hx
  clear hx
  go_enter Tryz.func99, Tryz.ntmps99
  go_wp2_with fail
  go_loopw [0, 3] (fun y v wr => ∃ (n : Nat) (l : List Nat), n ≤ x ∧ y = .int .u64 (n : Int) ∧ digL x = l ++ digL n ∧ (∃ a m c, v = .slice a m c ∧ wr.ownsRow w.heap.size 3 1 (.slice a m c) m (l.map I64)) ∧ Below w.heap.size w wr) (fun y _ _ => (intOf y).toNat)
  case atStart => exact ⟨x, [], Nat.le_refl _, rfl, rfl, ⟨none, 0, 0, rfl, ⟨rfl, .inl ⟨rfl, rfl⟩⟩⟩, Below.refl _ _⟩
  case round =>
    obtain ⟨n, l, hn, rfl, hd, ⟨a, m, c, rfl, hown⟩, hb⟩ := hrel
    have hml : l.length = m := by simpa using hown.1
    have hm4 : m ≤ 4 := by
      have h1 := digL_length 4 x (by have := HX.out; omega)
      rw [hd, List.length_append] at h1
      omega
    by_cases h0 : n = 0
    · subst h0
      rw [digL_zero, List.append_nil] at hd
      subst hd
      have HO := Lib.hid hown
      have HB := Lib.hid hb
      clear hown hb hml hm4
      go_wp2
      go_ret
      exact ⟨_, rfl, by have h1 := HO.out; have h2 : (digL x).length = m := by simpa using h1.1
                        rw [h2]; exact h1, HB.out⟩
    · have hp : (0 : Int) < (n : Int) := by omega
      have HD := Lib.hid (digL_split x n l hd h0)
      have HN := Lib.hid hn
      have HOwn := Lib.hid (own_allocI hown (.cells #[.int .i64 ((n : Int) % 10000)] 3))
      have HLit := Lib.hid (show Sl (wr.alloc (.cells #[.int .i64 ((n : Int) % 10000)] 3)) 1 (.slice (some ⟨wr.heap.size, 0, none⟩) 1 1) 1 ([n % 10000].map I64) from sl_rowI (heap_alloc_new _ _) (by simp [I64]) rfl)
      have HBase := Lib.hid (show w.heap.size ≤ (wr.alloc (.cells #[.int .i64 ((n : Int) % 10000)] 3)).heap.size by have := hb.size; simp; omega)
      have HB := Lib.hid (hb.alloc hb.size (.cells #[.int .i64 ((n : Int) % 10000)] 3))
      have HX2 := HX.out
      clear hown hb hd h0 hml
      go_wp2_with (at_builtin; refine append_i rfl (.tmp 6) (.tmp 10) rfl HOwn.out HLit.out rfl rfl (by omega) HBase.out ?_)
      intro a2 c2 w2 hown2 hf2 h3
      have HO2 := Lib.hid hown2
      have HB2 := Lib.hid (HB.out.trans (hf2.below HB.out.size (fun j hj => by have := (HOwn.out.lt j hj).1; omega)))
      clear hown2 hf2 h3
      go_wp2
      go_roundw
      case rel => exact ⟨n / 10000, l ++ [n % 10000], by have := HN.out; omega, by go_num, HD.out, ⟨_, _, _, rfl, by rw [List.map_append]; exact HO2.out⟩, HB2.out⟩
      case measure => simp [intOf]; omega

theorem cellI {w : World} {a : Option Addr} {n c : Nat} {l : List Nat} (h : Sl w 1 (.slice a n c) n (l.map I64)) (i : Nat) (hi : i < n) : ∃ g o, a = some ⟨g, o, none⟩ ∧ ∀ j (hj : j < l.length), w.cell? ⟨g, o + j, none⟩ = some (I64 l[j]) := by
  obtain ⟨hl, a', cap, e, _, _, h4⟩ := h
  simp only [Value.slice.injEq, true_and] at e
  obtain ⟨rfl, -⟩ := e
  have hl' : l.length = n := by simpa using hl
  obtain ⟨g, o, rfl, _⟩ := h4 i (I64 (l[i]'(by omega))) (by rw [List.getElem?_map, List.getElem?_eq_getElem (by omega)]; rfl)
  refine ⟨g, o, rfl, fun j hj => ?_⟩
  obtain ⟨g', o', e', hc⟩ := h4 j (I64 l[j]) (by rw [List.getElem?_map, List.getElem?_eq_getElem hj]; rfl)
  simp only [Option.some.injEq, Addr.mk.injEq, and_true] at e'
  obtain ⟨rfl, rfl⟩ := e'
  exact hc

set_option maxRecDepth 100000 in
set_option maxHeartbeats 1000000 in
theorem more01_any (va vb : Value) (A B : Nat) (w : World) (ha : Sl w 1 va (digL A).length ((digL A).map I64)) (hb : Sl w 1 vb (digL B).length ((digL B).map I64)) (hsz : (digL A).length ≤ 1000) :
    Calls Tryz.prog 101 #[va, vb] w fun e w' => e = .returned (.bool (decide (B < A))) ∧ Below w.heap.size w w' := by
  obtain ⟨aa, ca, rfl, -⟩ := ha.len
  obtain ⟨ab, cb, rfl, -⟩ := hb.len
  obtain ⟨res, hres⟩ : ∃ res, res = decide (B < A) := ⟨_, rfl⟩
  rw [← hres]
  by_cases hne : (digL A).length = (digL B).length
  · obtain ⟨la, hla⟩ : ∃ la, la = digL A := ⟨_, rfl⟩
    obtain ⟨lb, hlb⟩ : ∃ lb, lb = digL B := ⟨_, rfl⟩
    have hva : valL la = A := by rw [hla, valL_digL]
    have hvb : valL lb = B := by rw [hlb, valL_digL]
    have hda : ∀ c ∈ la, c < 10000 := by rw [hla]; exact digL_lt A
    have hdb : ∀ c ∈ lb, c < 10000 := by rw [hlb]; exact digL_lt B
    rw [← hla] at ha hne hsz ⊢
    rw [← hlb] at hb hne ⊢
    rw [← hne] at hb ⊢
    obtain ⟨n, hn⟩ : ∃ n, n = la.length := ⟨_, rfl⟩
    rw [← hn] at ha hb hsz ⊢
    have HL := Lib.hid (show la.length = n ∧ lb.length = n from ⟨hn.symm, by omega⟩)
    have HGt := Lib.hid (fun (i : Nat) (h1 : i < la.length) (h2 : i < lb.length) (hd : la.drop (i + 1) = lb.drop (i + 1)) (h : lb[i] < la[i]) => (show res = true by rw [hres, ← hva, ← hvb]; exact decide_eq_true (valL_above i h1 h2 hdb hd h)))
    have HLt := Lib.hid (fun (i : Nat) (h1 : i < la.length) (h2 : i < lb.length) (hd : la.drop (i + 1) = lb.drop (i + 1)) (h : la[i] < lb[i]) => (show res = false by rw [hres, ← hva, ← hvb]; exact decide_eq_false (by have := valL_above i h2 h1 hda hd.symm h; omega)))
    have HEq := Lib.hid (fun (h : la = lb) => (show res = false by rw [hres, ← hva, ← hvb, h]; exact decide_eq_false (by omega)))
    have HA := Lib.hid ha
    have HB := Lib.hid hb
    clear ha hb hres hva hvb hda hdb hla hlb hne hn
    go_enter Tryz.func101, Tryz.ntmps101
    go_wp2_with fail
    go_loopw [5] (fun i wr => ∃ k : Nat, k ≤ n ∧ i = .int .i64 ((k : Int) - 1) ∧ la.drop k = lb.drop k ∧ ∃ j, wr = w.drewN j) (fun i _ => (intOf i + 1).toNat)
    case atStart => exact ⟨n, Nat.le_refl _, rfl, by rw [List.drop_of_length_le (by rw [HL.out.1]; exact Nat.le_refl _), List.drop_of_length_le (by rw [HL.out.2]; exact Nat.le_refl _)], 0, rfl⟩
    case round =>
      obtain ⟨k, hk, rfl, hd, j, rfl⟩ := hrel
      cases k with
      | zero =>
        have HR := Lib.hid (HEq.out (by simpa using hd))
        clear hd
        go_wp2
        go_ret
        exact ⟨by rw [HR.out]; rfl, ⟨rfl, rfl, rfl, Nat.le_refl _, fun _ _ => rfl⟩⟩
      | succ i =>
        have h1 : i < la.length := by rw [HL.out.1]; omega
        have h2 : i < lb.length := by rw [HL.out.2]; omega
        obtain ⟨g1, o1, rfl, hc1⟩ := cellI HA.out i (by omega)
        obtain ⟨g2, o2, rfl, hc2⟩ := cellI HB.out i (by omega)
        have c1 : w.cell? ⟨g1, o1 + i, none⟩ = some (.int .i64 ((la[i]'h1 : Nat) : Int)) := hc1 i h1
        have c2 : w.cell? ⟨g2, o2 + i, none⟩ = some (.int .i64 ((lb[i]'h2 : Nat) : Int)) := hc2 i h2
        obtain ⟨x, hx⟩ : ∃ x, x = la[i]'h1 := ⟨_, rfl⟩
        obtain ⟨y, hy⟩ : ∃ y, y = lb[i]'h2 := ⟨_, rfl⟩
        have hgt := HGt.out i h1 h2 hd
        have hlt := HLt.out i h1 h2 hd
        rw [← hx, ← hy] at hgt hlt
        rw [← hx] at c1
        rw [← hy] at c2
        have HD := Lib.hid (fun h : x = y => (show la.drop i = lb.drop i by rw [List.drop_eq_getElem_cons h1, List.drop_eq_getElem_cons h2, hd, ← hx, ← hy, h]))
        have HGt2 := Lib.hid hgt
        have HLt2 := Lib.hid hlt
        rw [show ((i + 1 : Nat) : Int) - 1 = (i : Int) by omega]
        clear hc1 hc2 hx hy hgt hlt hd h1 h2
        by_cases hxy : x = y
        · have m1 : ((x : Int) != (y : Int)) = false := by rw [hxy]; simp
          have HE := Lib.hid (HD.out hxy)
          clear hxy
          go_wp2_with fail
          go_quiet (fail)
          go_wp2
          go_roundw
          case rel => exact ⟨i, by omega, by go_num, HE.out, _, rfl⟩
          case measure => simp [intOf]
        · have m1 : ((x : Int) != (y : Int)) = true := by simp; omega
          have HR := Lib.hid (show res = decide (y < x) by
            rcases Nat.lt_or_gt_of_ne hxy with h | h
            · rw [HLt2.out h, decide_eq_false (by omega)]
            · rw [HGt2.out h, decide_eq_true h])
          clear hxy
          go_wp2_with fail
          go_quiet (fail)
          go_wp2_with fail
          go_quiet (fail)
          go_wp2
          go_ret
          exact ⟨by rw [HR.out]; simp, ⟨rfl, rfl, rfl, Nat.le_refl _, fun _ _ => rfl⟩⟩
  · obtain ⟨na, hna⟩ : ∃ na, na = (digL A).length := ⟨_, rfl⟩
    obtain ⟨nb, hnb⟩ : ∃ nb, nb = (digL B).length := ⟨_, rfl⟩
    have hr : res = decide (nb < na) := by
      rw [hres, hna, hnb]
      rcases Nat.lt_or_gt_of_ne hne with h | h
      · have := digL_longer h
        rw [decide_eq_false (by omega), decide_eq_false (by omega)]
      · have := digL_longer h
        rw [decide_eq_true this, decide_eq_true (by omega)]
    rw [← hna, ← hnb] at hne ⊢
    have m1 : ((na : Int) != (nb : Int)) = true := by simp; omega
    have HR := Lib.hid hr
    clear ha hb hres hr hna hnb hne
    go_enter Tryz.func101, Tryz.ntmps101
    go_wp2
    go_ret
    exact ⟨by rw [HR.out]; rfl, Below.refl _ _⟩
end Go.Proofs.YtdmjnopjnaoepaaGreatDoor
