/- What an api.Uber is, as data; its cells loaded, stored, compared; the walks of uber's Check and Slot, and of banyanlaw10.of. -/
import Derived.Test.YtdmgmpagnmmehaaDoorRefPtrGet
import Derived.Laws.BitsAllLaws
namespace Go.Proofs.YtdmgmpagnmmehaaDoor
open Go.RowKit

structure Ub where
  txg : Nat
  size : Nat
  root : Pt
  deriving DecidableEq
def Ub.cells (u : Ub) : List Value := .int .u64 (u.txg : Int) :: .int .u32 (u.size : Int) :: u.root.cells
def Ub.arr (u : Ub) : Array Value := u.cells.toArray
def Ub.zero : Ub := ⟨0, 0, Pt.zero⟩
structure Ub.Wf (u : Ub) : Prop where
  txg : u.txg < 18446744073709551616
  size : u.size < 4294967296
  root : u.root.Wf
theorem Ub.zero_wf : Ub.zero.Wf := ⟨by decide, by decide, Pt.zero_wf⟩
theorem Ub.Wf.len {u : Ub} (h : u.Wf) : u.cells.length = 36 := by simp [Ub.cells, h.root.len]
theorem Ub.Wf.asize {u : Ub} (h : u.Wf) : u.arr.size = 36 := by simp [Ub.arr, h.len]
theorem Ub.arr_toList (u : Ub) : u.arr.toList = u.cells := by simp [Ub.arr]
theorem Ub.get0 (u : Ub) : u.arr[0]? = some (.int .u64 (u.txg : Int)) := by simp [Ub.arr, Ub.cells]
theorem Ub.get1 (u : Ub) : u.arr[1]? = some (.int .u32 (u.size : Int)) := by simp [Ub.arr, Ub.cells]
theorem Ub.one (u : Ub) : ∀ x ∈ u.arr.toList, x.oneCell' = true := by
  rw [Ub.arr_toList]
  intro x hx
  simp only [Ub.cells, List.mem_cons] at hx
  rcases hx with rfl | rfl | hx
  · rfl
  · rfl
  · exact u.root.one x (by rw [Pt.arr_toList]; exact hx)
theorem Ub.rootAt {w : World} {b o : Nat} {u : Ub} (h : At w b o u.cells) : At w b (o + 2) u.root.cells := by
  have : At w b o ([.int .u64 (u.txg : Int), .int .u32 (u.size : Int)] ++ u.root.cells ++ []) := by simpa [Ub.cells] using h
  exact this.part
theorem Ub.box (w : World) (u : Ub) (t : TypeId) : At (w.alloc (.cells u.arr t)) w.heap.size 0 u.cells := At.of_row (heap_alloc_new _ _)
theorem Ub.box_root (w : World) (u : Ub) (t : TypeId) : At (w.alloc (.cells u.arr t)) w.heap.size 2 u.root.cells := Ub.rootAt (o := 0) (Ub.box w u t)

theorem info_ub : (Tryd.prog.info? 49).map (·.size) = some 36 := by kernel_rfl
theorem guard_ub : Tryd.prog.eqGuardType Tryd.prog.depth 49 = false := by kernel_rfl
theorem stood_ub : Tryd.prog.stoodInHeld 49 = false := by kernel_rfl
theorem fields_ub : ((Tryd.prog.fieldsOf 49).toList.map fun f => (f.name != "_", f.type, f.offset)) = [(true, 42, 0), (true, 43, 1), (true, 47, 2)] := by kernel_rfl
theorem und_ub : Tryd.prog.underlying 49 = some (.struct (Tryd.prog.fieldsOf 49)) := by
  unfold Program.fieldsOf; rw [Tryd.underlying49]

theorem run_part_ptr (u : Ub) (h : u.Wf) (w : World) : (part 47 u.arr 2).run Tryd.prog w = .ok (.agg u.root.arr) w := by
  have hagg : (isAgg 47).run Tryd.prog w = .ok true w := by
    unfold isAgg
    rw [Sem.run_bind, run_underlying Tryd.underlying47 w]
    rfl
  have hsz : (sizeOf 47).run Tryd.prog w = .ok 34 w := by
    have : ∃ i, Tryd.prog.info? 47 = some i ∧ i.size = 34 := by
      cases hq : Tryd.prog.info? 47 with
      | none =>
        have h1 : (Tryd.prog.info? 47).map (·.size) = some 34 := by kernel_rfl
        simp [hq] at h1
      | some i =>
        have h1 : (Tryd.prog.info? 47).map (·.size) = some 34 := by kernel_rfl
        exact ⟨i, rfl, by simpa [hq] using h1⟩
    obtain ⟨i, hi, hs⟩ := this
    simp [sizeOf, typeInfo, hi, hs]
  have hx : u.arr.extract 2 (2 + 34) = u.root.arr := by
    apply Array.toList_inj.1
    simp only [Ub.arr, Ub.cells, List.extract_toArray, List.extract_eq_take_drop, Pt.arr]
    rw [List.drop_succ_cons, List.drop_succ_cons, List.drop_zero, List.take_of_length_le (by rw [h.root.len]; omega)]
  unfold part
  simp only [Sem.run_bind, hagg, Result.andThen_ok, if_true, hsz, Sem.run_pure, hx]

set_option maxRecDepth 100000 in
theorem eqFields_ptr' (d : Nat) (p q : Pt) (hp : p.Wf) (hq : q.Wf) (w : World) (fs : List Field) (hf : (fs.map fun f => (f.name != "_", f.type, f.offset)) = [(true, 43, 0), (true, 42, 1), (true, 45, 2)]) :
    (Op.eqFields (d + 2) p.arr q.arr fs).run Tryd.prog w = .ok (decide (p = q)) w := by
  obtain ⟨f0, fs, rfl, h0, hf⟩ := List.map_eq_cons_iff.1 hf
  obtain ⟨f1, fs, rfl, h1, hf⟩ := List.map_eq_cons_iff.1 hf
  obtain ⟨f2, fs, rfl, h2, hf⟩ := List.map_eq_cons_iff.1 hf
  obtain rfl := List.map_eq_nil_iff.1 hf
  simp only [Prod.mk.injEq] at h0 h1 h2
  obtain ⟨n0, t0, o0⟩ := h0
  obtain ⟨n1, t1, o1⟩ := h1
  obtain ⟨n2, t2, o2⟩ := h2
  have q0 : Tryd.prog.plainKey 43 = true := by kernel_rfl
  have q1 : Tryd.prog.plainKey 42 = true := by kernel_rfl
  have e3 : (Op.eqFields (d + 2) p.arr q.arr []).run Tryd.prog w = .ok true w := by simp [Op.eqFields]
  have e2 := eqFields_step n2 _ _ t2 o2 (run_part_hash p hp w) (run_part_hash q hq w) (run_equalIn_hash d p.sum q.sum hp.sum hq.sum w) e3
  have e1 := eqFields_step n1 _ _ t1 o1 (run_part_plain (P := Tryd.prog) w q1 p.get1) (run_part_plain (P := Tryd.prog) w q1 q.get1) (run_equalIn_int (P := Tryd.prog) w (d + 1) 42 .u64 .u64 (p.birth : Int) (q.birth : Int) Tryd.underlying42) e2
  have e0 := eqFields_step n0 _ _ t0 o0 (run_part_plain (P := Tryd.prog) w q0 p.get0) (run_part_plain (P := Tryd.prog) w q0 q.get0) (run_equalIn_int (P := Tryd.prog) w (d + 1) 43 .u32 .u32 (p.addr : Int) (q.addr : Int) Tryd.underlying43) e1
  rw [e0]
  congr 1
  obtain ⟨pa, pb, ps⟩ := p
  obtain ⟨qa, qb, qs⟩ := q
  rw [Bool.eq_iff_iff]
  simp only [Pt.mk.injEq, Bool.and_eq_true, beq_iff_eq, decide_eq_true_iff, Int.natCast_inj, and_true]

theorem run_equalIn_ptr' (d : Nat) (p q : Pt) (hp : p.Wf) (hq : q.Wf) (w : World) : (Op.equalIn (d + 3) 47 (.agg p.arr) (.agg q.arr)).run Tryd.prog w = .ok (decide (p = q)) w := by
  rw [run_equalIn_struct w (d + 2) 47 p.arr q.arr und_ptr stood_ptr]
  exact eqFields_ptr' d p q hp hq w _ fields_ptr

set_option maxRecDepth 100000 in
theorem eqFields_ub (u v : Ub) (hu : u.Wf) (hv : v.Wf) (w : World) (fs : List Field) (hf : (fs.map fun f => (f.name != "_", f.type, f.offset)) = [(true, 42, 0), (true, 43, 1), (true, 47, 2)]) :
    (Op.eqFields 9999 u.arr v.arr fs).run Tryd.prog w = .ok (decide (u = v)) w := by
  obtain ⟨f0, fs, rfl, h0, hf⟩ := List.map_eq_cons_iff.1 hf
  obtain ⟨f1, fs, rfl, h1, hf⟩ := List.map_eq_cons_iff.1 hf
  obtain ⟨f2, fs, rfl, h2, hf⟩ := List.map_eq_cons_iff.1 hf
  obtain rfl := List.map_eq_nil_iff.1 hf
  simp only [Prod.mk.injEq] at h0 h1 h2
  obtain ⟨n0, t0, o0⟩ := h0
  obtain ⟨n1, t1, o1⟩ := h1
  obtain ⟨n2, t2, o2⟩ := h2
  have q0 : Tryd.prog.plainKey 42 = true := by kernel_rfl
  have q1 : Tryd.prog.plainKey 43 = true := by kernel_rfl
  have e3 : (Op.eqFields 9999 u.arr v.arr []).run Tryd.prog w = .ok true w := by simp [Op.eqFields]
  have e2 := eqFields_step n2 _ _ t2 o2 (run_part_ptr u hu w) (run_part_ptr v hv w) (run_equalIn_ptr' 9996 u.root v.root hu.root hv.root w) e3
  have e1 := eqFields_step n1 _ _ t1 o1 (run_part_plain (P := Tryd.prog) w q1 u.get1) (run_part_plain (P := Tryd.prog) w q1 v.get1) (run_equalIn_int (P := Tryd.prog) w 9998 43 .u32 .u32 (u.size : Int) (v.size : Int) Tryd.underlying43) e2
  have e0 := eqFields_step n0 _ _ t0 o0 (run_part_plain (P := Tryd.prog) w q0 u.get0) (run_part_plain (P := Tryd.prog) w q0 v.get0) (run_equalIn_int (P := Tryd.prog) w 9998 42 .u64 .u64 (u.txg : Int) (v.txg : Int) Tryd.underlying42) e1
  rw [e0]
  congr 1
  obtain ⟨ua, us, ur⟩ := u
  obtain ⟨va, vs, vr⟩ := v
  rw [Bool.eq_iff_iff]
  simp only [Ub.mk.injEq, Bool.and_eq_true, beq_iff_eq, decide_eq_true_iff, Int.natCast_inj, and_true]

theorem run_equalIn_ub (u v : Ub) (hu : u.Wf) (hv : v.Wf) (w : World) : (Op.equalIn 10000 49 (.agg u.arr) (.agg v.arr)).run Tryd.prog w = .ok (decide (u = v)) w := by
  rw [run_equalIn_struct w 9999 49 u.arr v.arr und_ub stood_ub]
  exact eqFields_ub u v hu hv w _ fields_ub

theorem eql_ub {ops : Array Oper} {rest : List Oper} {o : Oper} {a : Act} {w : World} {Q : Exit → Act → World → Prop} (hgd : o.guard = none) (x y : Operand) (yt : TypeId) (ho : o.op = .binOp .eql 49 x y yt)
    {u v : Ub} (hx : a.eval x = .agg u.arr) (hy : a.eval y = .agg v.arr) (h1 : u.Wf) (h2 : v.Wf)
    (hK : wpList Tryd.prog ops Q rest (a.put o.dst (.bool (decide (u = v)))) w) : wpList Tryd.prog ops Q (o :: rest) a w := by
  refine wpList_plain hgd fun K hKK => ?_
  unfold Oper.wp execOp
  simp only [ho, hx, hy, Sem.run_bind, run_eqGuard_agg w _ _ _ _ _ _ guard_ub, Result.andThen_ok, run_eql_struct, run_equalIn_ub u v h1 h2 w]
  exact hKK _ _ hK

theorem load_ub {ops : Array Oper} {rest : List Oper} {o : Oper} {a : Act} {w : World} {Q : Exit → Act → World → Prop} (hgd : o.guard = none) (x : Operand) (ho : o.op = .load 49 x)
    {b off : Nat} (hx : a.eval x = .pointer (some ⟨b, off, none⟩)) {u : Ub} (hc : At w b off u.cells) (hl : u.Wf)
    (hK : wpList Tryd.prog ops Q rest (a.put o.dst (.agg u.arr)) w) : wpList Tryd.prog ops Q (o :: rest) a w :=
  wpList_load_at hgd _ x ho b off hx u.cells _ hc Tryd.underlying49 rfl (by rw [info_ub, hl.len]) hK
theorem store_ub {ops : Array Oper} {rest : List Oper} {o : Oper} {a : Act} {w : World} {Q : Exit → Act → World → Prop} (hgd : o.guard = none) (x y : Operand) (ho : o.op = .store 49 x y)
    {b : Nat} (hx : a.eval x = .pointer (some ⟨b, 0, none⟩)) {u : Ub} (hy : a.eval y = .agg u.arr) {old : Array Value} {t : TypeId} (hb : w.heap[b]? = some (.cells old t (0, 0))) (ho2 : old.size = 36) (hl : u.Wf)
    (hK : ∀ w', w'.heap[b]? = some (.cells u.arr t (0, 0)) → Fr (fun k => k = b) w w' → w'.heap.size = w.heap.size → wpList Tryd.prog ops Q rest (a.put o.dst undef) w') : wpList Tryd.prog ops Q (o :: rest) a w :=
  wpList_store_row hgd _ x y ho b hx u.cells (by simpa [Ub.arr] using hy) old _ hb (by rw [ho2, hl.len]) (by have := u.one; rwa [Ub.arr_toList] at this) (by rw [info_ub, hl.len]) (fun w' h1 h2 h3 => hK w' h1 h2 h3)
theorem ret_ub {fn : Func} {p u : Tmp} (h : fn.results = #[.cell p 49, .tmp u]) {tmps : Array Value} {w : World} {g : Nat} {q : Ub} {t : TypeId} (hp : tmps.getD p undef = .pointer (some ⟨g, 0, none⟩))
    (hg : w.heap[g]? = some (.cells q.arr t (0, 0))) (hl : q.Wf) :
    (results fn tmps).run Tryd.prog w = .ok (.tuple #[.agg q.arr, tmps.getD u undef]) w := by
  rw [results_cell_tmp h, hp]
  simp [asAddr, run_loadVar_row w g t 49 _ _ _ hg Tryd.underlying49 rfl (by rw [info_ub]; simp [hl.asize]), Result.andThen]

/-- May an uber be? -/
def ubOk (u : Ub) : Bool := decide (u.txg ≠ 0) && decide (16 ≤ u.size) && decide (u.size ≤ 4096) && ptrOk u.root (u.size : Int)
def ubE (u : Ub) : Int := if ubOk u then 0 else 4
theorem ubE_ok {u : Ub} (h : ubOk u = true) : ubE u = 0 := by unfold ubE; rw [if_pos h]
theorem ubE_bad {u : Ub} (h : ubOk u = false) : ubE u = 4 := by unfold ubE; rw [if_neg (by rw [h]; simp)]
theorem ubE_split {u : Ub} : ubE u = 0 ↔ ubOk u = true := by
  constructor
  · intro h
    cases hq : ubOk u with
    | true => rfl
    | false => rw [ubE_bad hq] at h; cases h
  · exact ubE_ok
theorem ubE_or (u : Ub) : ubE u = 0 ∨ ubE u = 4 := by
  cases hq : ubOk u with
  | true => exact .inl (ubE_ok hq)
  | false => exact .inr (ubE_bad hq)
theorem ubE_root {u : Ub} (h0 : u.txg ≠ 0) (h1 : 16 ≤ u.size) (h2 : u.size ≤ 4096) : ubE u = ptrE u.root (u.size : Int) := by
  have e : ubOk u = ptrOk u.root (u.size : Int) := by unfold ubOk; rw [decide_eq_true h0, decide_eq_true h1, decide_eq_true h2]; rfl
  unfold ubE ptrE
  rw [e]

set_option maxHeartbeats 1000000 in
theorem ubCheck_any (u : Ub) (w : World) (h : u.Wf) :
    Calls Tryd.prog 20 #[.agg u.arr] w fun e w' => e = .returned (.int .i64 (ubE u)) ∧ Below w.heap.size w w' := by
  have g0 := u.get0
  have g1 := u.get1
  have h64 := h.txg
  have h32 := h.size
  have HAT := Lib.hid (Ub.box_root w u 49)
  have HW := Lib.hid h
  have HB := Lib.hid ((Below.refl _ w).alloc (Nat.le_refl _) (.cells u.arr 49))
  by_cases h0 : u.txg = 0
  · have HQ := Lib.hid (show ubE u = 4 from ubE_bad (by unfold ubOk; rw [h0]; rfl))
    have e0 : ((u.txg : Int) == 0) = true := by rw [h0]; rfl
    clear h h0
    go_enter Tryd.func20, Tryd.ntmps20
    go_wp2
    go_ret
    exact ⟨by rw [HQ.out]; rfl, HB.out⟩
  · have e0 : ((u.txg : Int) == 0) = false := by rw [Bool.eq_false_iff]; intro hh; rw [beq_iff_eq] at hh; omega
    by_cases h1 : 16 ≤ u.size
    · have e1 : ¬ (u.size : Int) < 16 := by omega
      by_cases h2 : u.size ≤ 4096
      · have e2 : ¬ (4096 : Int) < (u.size : Int) := by omega
        have HQ := Lib.hid (ubE_root h0 h1 h2)
        have m1 : u.size ≤ 4096 := h2
        clear h h0 h1 h2
        go_enter Tryd.func20, Tryd.ntmps20
        go_wp2_with (refine load_ptr rfl (.tmp 16) rfl rfl HAT.out HW.out.root ?_)
        refine (ptrCheck_any u.root (u.size : Int) _ HW.out.root (by omega)).mono ?_
        rintro e w1 ⟨rfl, hb⟩
        have HB1 := Lib.hid (HB.out.trans (hb.mono HB.out.size))
        clear hb
        go_wp2
        go_ret
        exact ⟨by rw [HQ.out]; rfl, HB1.out⟩
      · have e2 : (4096 : Int) < (u.size : Int) := by omega
        have HQ := Lib.hid (show ubE u = 4 from ubE_bad (by unfold ubOk; rw [decide_eq_false h2]; simp))
        clear h h0 h1 h2
        go_enter Tryd.func20, Tryd.ntmps20
        go_wp2
        go_ret
        exact ⟨by rw [HQ.out]; rfl, HB.out⟩
    · have e1 : (u.size : Int) < 16 := by omega
      have HQ := Lib.hid (show ubE u = 4 from ubE_bad (by unfold ubOk; rw [decide_eq_false h1]; simp))
      clear h h0 h1
      go_enter Tryd.func20, Tryd.ntmps20
      go_wp2
      go_ret
      exact ⟨by rw [HQ.out]; rfl, HB.out⟩

theorem ubSlot_any (t : Nat) (w : World) (h : t < 18446744073709551616) :
    Calls Tryd.prog 22 #[.int .u64 (t : Int)] w fun e w' => e = .returned (.int .u32 ((t % 2 : Nat) : Int)) ∧ w = w' := by
  have e2 : t % 2 < 2 := Nat.mod_lt _ (by decide)
  obtain ⟨m, hm⟩ : ∃ m, m = t % 2 := ⟨_, rfl⟩
  have e1 : bits .and .u64 (t : Int) 1 = (m : Int) := by
    have := u64_and_nat t 1 h (by decide)
    rw [show ((1 : Nat) : Int) = 1 from rfl] at this
    rw [this, Nat.and_one_is_mod, hm]
  rw [← hm] at e2 ⊢
  have e3 : IntKind.u32.wrap (m : Int) = (m : Int) := by simp [IntKind.wrap, IntKind.bits, IntKind.signed]; omega
  clear hm
  go_enter Tryd.func22, Tryd.ntmps22
  go_wp2
  go_ret
  exact ⟨rfl, rfl⟩

/-- An uber of a number. -/
def ub16 (t : Nat) : Ub := ⟨t, 16, ⟨5, 1, List.replicate 32 0⟩⟩
theorem ub16_wf {t : Nat} (h : t < 18446744073709551616) : (ub16 t).Wf := ⟨h, (show 16 < 4294967296 by decide), ⟨(show 5 < 4294967296 by decide), (show 1 < 18446744073709551616 by decide), (show (List.replicate 32 (0 : UInt8)).length = 32 by decide)⟩⟩
theorem ub16_ok {t : Nat} (h : t ≠ 0) : ubOk (ub16 t) = true := by
  unfold ubOk ub16
  rw [decide_eq_true h]
  simp only [Bool.true_and, Bool.and_eq_true, decide_eq_true_eq]
  exact ⟨by decide, by decide⟩
end Go.Proofs.YtdmgmpagnmmehaaDoor
