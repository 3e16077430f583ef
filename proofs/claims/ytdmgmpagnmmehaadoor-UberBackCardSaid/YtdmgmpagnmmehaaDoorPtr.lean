/- What an api.Ptr is, as data; two of them compared; the walks of ptr's Null and Check. -/
import Derived.Test.YtdmgmpagnmmehaaDoorHashEq
import Derived.Test.YtdmgmpagnmmehaaDoorAgg
namespace Go.Proofs.YtdmgmpagnmmehaaDoor
open Go.RowKit

structure Pt where
  addr : Nat
  birth : Nat
  sum : List UInt8
  deriving DecidableEq
def Pt.cells (p : Pt) : List Value := .int .u32 (p.addr : Int) :: .int .u64 (p.birth : Int) :: p.sum.map Bv
def Pt.arr (p : Pt) : Array Value := p.cells.toArray
def Pt.zero : Pt := ⟨0, 0, List.replicate 32 0⟩
structure Pt.Wf (p : Pt) : Prop where
  addr : p.addr < 4294967296
  birth : p.birth < 18446744073709551616
  sum : p.sum.length = 32
theorem Pt.zero_wf : Pt.zero.Wf := ⟨by decide, by decide, by decide⟩
theorem Pt.Wf.len {p : Pt} (h : p.Wf) : p.cells.length = 34 := by simp [Pt.cells, h.sum]
theorem Pt.Wf.size {p : Pt} (h : p.Wf) : p.arr.size = 34 := by simp [Pt.arr, h.len]
theorem Pt.arr_toList (p : Pt) : p.arr.toList = p.cells := by simp [Pt.arr]
theorem Pt.get0 (p : Pt) : p.arr[0]? = some (.int .u32 (p.addr : Int)) := by simp [Pt.arr, Pt.cells]
theorem Pt.get1 (p : Pt) : p.arr[1]? = some (.int .u64 (p.birth : Int)) := by simp [Pt.arr, Pt.cells]
theorem Pt.one (p : Pt) : ∀ u ∈ p.arr.toList, u.oneCell' = true := by
  rw [Pt.arr_toList]
  intro u hu
  simp only [Pt.cells, List.mem_cons] at hu
  rcases hu with rfl | rfl | hu
  · rfl
  · rfl
  · exact Bv_oneCell _ u hu
theorem Pt.sumAt {w : World} {b o : Nat} {p : Pt} (h : At w b o p.cells) : At w b (o + 2) (p.sum.map Bv) := by
  have : At w b o ([.int .u32 (p.addr : Int), .int .u64 (p.birth : Int)] ++ p.sum.map Bv ++ []) := by simpa [Pt.cells] using h
  exact this.part

theorem info_ptr : (Tryd.prog.info? 47).map (·.size) = some 34 := by kernel_rfl
theorem guard_ptr : Tryd.prog.eqGuardType Tryd.prog.depth 47 = false := by kernel_rfl
theorem stood_ptr : Tryd.prog.stoodInHeld 47 = false := by kernel_rfl
theorem fields_ptr : ((Tryd.prog.fieldsOf 47).toList.map fun f => (f.name != "_", f.type, f.offset)) = [(true, 43, 0), (true, 42, 1), (true, 45, 2)] := by kernel_rfl
theorem und_ptr : Tryd.prog.underlying 47 = some (.struct (Tryd.prog.fieldsOf 47)) := by
  unfold Program.fieldsOf; rw [Tryd.underlying47]

theorem extract_sum (p : Pt) (h : p.Wf) : p.arr.extract 2 (2 + 32) = (p.sum.map Bv).toArray := by
  apply Array.toList_inj.1
  simp only [Pt.arr, Pt.cells, List.extract_toArray, List.extract_eq_take_drop]
  rw [List.drop_succ_cons, List.drop_succ_cons, List.drop_zero, List.take_of_length_le (by simp [h.sum])]

theorem run_part_hash (p : Pt) (h : p.Wf) (w : World) : (part 45 p.arr 2).run Tryd.prog w = .ok (.agg (p.sum.map Bv).toArray) w := by
  have hagg : (isAgg 45).run Tryd.prog w = .ok true w := by
    unfold isAgg
    rw [Sem.run_bind, run_underlying Tryd.underlying45 w]
    rfl
  have hsz : (sizeOf 45).run Tryd.prog w = .ok 32 w := by
    have : ∃ i, Tryd.prog.info? 45 = some i ∧ i.size = 32 := by
      cases hq : Tryd.prog.info? 45 with
      | none =>
        have h1 : (Tryd.prog.info? 45).map (·.size) = some 32 := by kernel_rfl
        simp [hq] at h1
      | some i =>
        have h1 : (Tryd.prog.info? 45).map (·.size) = some 32 := by kernel_rfl
        exact ⟨i, rfl, by simpa [hq] using h1⟩
    obtain ⟨i, hi, hs⟩ := this
    simp [sizeOf, typeInfo, hi, hs]
  unfold part
  simp only [Sem.run_bind, hagg, Result.andThen_ok, if_true, hsz, Sem.run_pure, extract_sum p h]

theorem run_equalIn_hash (d : Nat) (xs ys : List UInt8) (h1 : xs.length = 32) (h2 : ys.length = 32) (w : World) :
    (Op.equalIn (d + 2) 45 (.agg (xs.map Bv).toArray) (.agg (ys.map Bv).toArray)).run Tryd.prog w = .ok (decide (xs = ys)) w := by
  obtain ⟨i0, hi, hz0, hz1, hz2⟩ := info_parts info_u8
  rw [run_equalIn_array w (d + 1) _ _ Tryd.underlying45 hi]
  have hc : Tryd.prog.cellsOf 5 = 1 := by kernel_rfl
  rw [hc, run_eqItems_u8 d xs ys w _ (fun i hi => by have := List.mem_range.1 hi; omega)]
  rw [all_same xs ys 32 h1 h2]

theorem eqFields_step {P : Program} {w : World} {d : Nat} {xs ys : Array Value} {f : Field} {fs : List Field} {a b : Value} {r r' : Bool} (hn : (f.name != "_") = true) (t : TypeId) (o : Nat) (ht : f.type = t) (ho : f.offset = o)
    (h1 : (part t xs o).run P w = .ok a w) (h2 : (part t ys o).run P w = .ok b w) (h3 : (Op.equalIn d t a b).run P w = .ok r w) (h4 : (Op.eqFields d xs ys fs).run P w = .ok r' w) :
    (Op.eqFields d xs ys (f :: fs)).run P w = .ok (r && r') w := by
  subst ht ho
  have hn' : f.name ≠ "_" := by simpa using hn
  simp only [Op.eqFields, hn', ne_eq, not_false_eq_true, if_true, Sem.run_bind, h1, h2, h3, Result.andThen_ok]
  cases r
  · simp
  · simpa using h4

set_option maxRecDepth 100000 in
theorem eqFields_ptr (p q : Pt) (hp : p.Wf) (hq : q.Wf) (w : World) (fs : List Field) (hf : (fs.map fun f => (f.name != "_", f.type, f.offset)) = [(true, 43, 0), (true, 42, 1), (true, 45, 2)]) :
    (Op.eqFields 9999 p.arr q.arr fs).run Tryd.prog w = .ok (decide (p = q)) w := by
  obtain ⟨f0, fs, rfl, h0, hf⟩ := List.map_eq_cons_iff.1 hf
  obtain ⟨f1, fs, rfl, h1, hf⟩ := List.map_eq_cons_iff.1 hf
  obtain ⟨f2, fs, rfl, h2, hf⟩ := List.map_eq_cons_iff.1 hf
  obtain rfl := List.map_eq_nil_iff.1 hf
  simp only [Prod.mk.injEq] at h0 h1 h2
  obtain ⟨n0, t0, o0⟩ := h0
  obtain ⟨n1, t1, o1⟩ := h1
  obtain ⟨n2, t2, o2⟩ := h2
  have q0 : Tryd.prog.plainKey 43 = true := by kernel_rfl
  have q1 : Tryd.prog.plainKey 42 = true := by kernel_rfl
  have e3 : (Op.eqFields 9999 p.arr q.arr []).run Tryd.prog w = .ok true w := by simp [Op.eqFields]
  have e2 := eqFields_step n2 _ _ t2 o2 (run_part_hash p hp w) (run_part_hash q hq w) (run_equalIn_hash 9997 p.sum q.sum hp.sum hq.sum w) e3
  have e1 := eqFields_step n1 _ _ t1 o1 (run_part_plain (P := Tryd.prog) w q1 p.get1) (run_part_plain (P := Tryd.prog) w q1 q.get1) (run_equalIn_int (P := Tryd.prog) w 9998 42 .u64 .u64 (p.birth : Int) (q.birth : Int) Tryd.underlying42) e2
  have e0 := eqFields_step n0 _ _ t0 o0 (run_part_plain (P := Tryd.prog) w q0 p.get0) (run_part_plain (P := Tryd.prog) w q0 q.get0) (run_equalIn_int (P := Tryd.prog) w 9998 43 .u32 .u32 (p.addr : Int) (q.addr : Int) Tryd.underlying43) e1
  rw [e0]
  congr 1
  obtain ⟨pa, pb, ps⟩ := p
  obtain ⟨qa, qb, qs⟩ := q
  rw [Bool.eq_iff_iff]
  simp only [Pt.mk.injEq, Bool.and_eq_true, beq_iff_eq, decide_eq_true_iff, Int.natCast_inj, and_true]

theorem run_equalIn_ptr (p q : Pt) (hp : p.Wf) (hq : q.Wf) (w : World) : (Op.equalIn 10000 47 (.agg p.arr) (.agg q.arr)).run Tryd.prog w = .ok (decide (p = q)) w := by
  rw [run_equalIn_struct w 9999 47 p.arr q.arr und_ptr stood_ptr]
  exact eqFields_ptr p q hp hq w _ fields_ptr

theorem eql_ptr {ops : Array Oper} {rest : List Oper} {o : Oper} {a : Act} {w : World} {Q : Exit → Act → World → Prop} (hgd : o.guard = none) (x y : Operand) (yt : TypeId) (ho : o.op = .binOp .eql 47 x y yt)
    {p q : Pt} (hx : a.eval x = .agg p.arr) (hy : a.eval y = .agg q.arr) (h1 : p.Wf) (h2 : q.Wf)
    (hK : wpList Tryd.prog ops Q rest (a.put o.dst (.bool (decide (p = q)))) w) : wpList Tryd.prog ops Q (o :: rest) a w := by
  refine wpList_plain hgd fun K hKK => ?_
  unfold Oper.wp execOp
  simp only [ho, hx, hy, Sem.run_bind, run_eqGuard_agg w _ _ _ _ _ _ guard_ptr, Result.andThen_ok, run_eql_struct, run_equalIn_ptr p q h1 h2 w]
  exact hKK _ _ hK

/-- A pointer, read at an address; stored into a variable of its own. -/
theorem load_ptr {ops : Array Oper} {rest : List Oper} {o : Oper} {a : Act} {w : World} {Q : Exit → Act → World → Prop} (hgd : o.guard = none) (x : Operand) (ho : o.op = .load 47 x)
    {b off : Nat} (hx : a.eval x = .pointer (some ⟨b, off, none⟩)) {p : Pt} (hc : At w b off p.cells) (hl : p.Wf)
    (hK : wpList Tryd.prog ops Q rest (a.put o.dst (.agg p.arr)) w) : wpList Tryd.prog ops Q (o :: rest) a w :=
  wpList_load_at hgd _ x ho b off hx p.cells _ hc Tryd.underlying47 rfl (by rw [info_ptr, hl.len]) hK
theorem store_ptr {ops : Array Oper} {rest : List Oper} {o : Oper} {a : Act} {w : World} {Q : Exit → Act → World → Prop} (hgd : o.guard = none) (x y : Operand) (ho : o.op = .store 47 x y)
    {b : Nat} (hx : a.eval x = .pointer (some ⟨b, 0, none⟩)) {p : Pt} (hy : a.eval y = .agg p.arr) {old : Array Value} {t : TypeId} (hb : w.heap[b]? = some (.cells old t (0, 0))) (ho2 : old.size = 34) (hl : p.Wf)
    (hK : ∀ w', w'.heap[b]? = some (.cells p.arr t (0, 0)) → Fr (fun k => k = b) w w' → w'.heap.size = w.heap.size → wpList Tryd.prog ops Q rest (a.put o.dst undef) w') : wpList Tryd.prog ops Q (o :: rest) a w :=
  wpList_store_row hgd _ x y ho b hx p.cells (by simpa [Pt.arr] using hy) old _ hb (by rw [ho2, hl.len]) (by have := p.one; rwa [Pt.arr_toList] at this) (by rw [info_ptr, hl.len]) (fun w' h1 h2 h3 => hK w' h1 h2 h3)

theorem At_box (w : World) (p : Pt) (t : TypeId) : At (w.alloc (.cells p.arr t)) w.heap.size 0 p.cells := At.of_row (heap_alloc_new _ _)

theorem ptrNull_any (p : Pt) (w : World) : Calls Tryd.prog 61 #[.agg p.arr] w fun e w' => e = .returned (.bool (decide (p.addr = 0))) ∧ Below w.heap.size w w' := by
  have g0 := p.get0
  have e : ((p.addr : Int) == 0) = decide (p.addr = 0) := by rw [Bool.eq_iff_iff]; simp
  obtain ⟨arr, ha⟩ : ∃ arr, arr = p.arr := ⟨_, rfl⟩
  rw [← ha] at g0 ⊢
  clear ha
  go_enter Tryd.func61, Tryd.ntmps61
  go_wp2
  go_ret
  exact ⟨by rw [← e]; rfl, (Below.refl _ _).alloc (Nat.le_refl _) _⟩

/-- May a pointer be, on a device of so many sectors? -/
def ptrOk (p : Pt) (n : Int) : Bool := if p.addr = 0 then decide (p = Pt.zero) else decide (2 ≤ p.addr) && decide ((p.addr : Int) < n) && decide (0 < p.birth)

def ptrE (p : Pt) (n : Int) : Int := if ptrOk p n then 0 else 4
theorem ptrE_ok {p : Pt} {n : Int} (h : ptrOk p n = true) : ptrE p n = 0 := by unfold ptrE; rw [if_pos h]
theorem ptrE_bad {p : Pt} {n : Int} (h : ptrOk p n = false) : ptrE p n = 4 := by unfold ptrE; rw [if_neg (by rw [h]; simp)]

set_option maxHeartbeats 1000000 in
theorem ptrCheck_any (p : Pt) (n : Int) (w : World) (h : p.Wf) (hn : -9223372036854775808 ≤ n ∧ n ≤ 9223372036854775807) :
    Calls Tryd.prog 46 #[.agg p.arr, .int .i64 n] w fun e w' => e = .returned (.int .i64 (ptrE p n)) ∧ Below w.heap.size w w' := by
  have g0 := p.get0
  have g1 := p.get1
  have HAT := Lib.hid (At_box w p 47)
  have HW := Lib.hid h
  have HB := Lib.hid ((Below.refl _ w).alloc (Nat.le_refl _) (.cells p.arr 47))
  have ha := h.addr
  clear h
  by_cases h0 : p.addr = 0
  · have HN := Lib.hid (fun w => ptrNull_any p w)
    rw [decide_eq_true h0] at HN
    have HQ := Lib.hid (show ptrOk p n = decide (p = Pt.zero) by unfold ptrOk; rw [if_pos h0])
    clear h0
    go_enter Tryd.func46, Tryd.ntmps46
    go_wp2_with (first | (refine load_ptr rfl (.tmp 2) rfl rfl HAT.out HW.out ?_) | (refine eql_ptr (q := Pt.zero) rfl (.tmp 6) (.tmp 7) _ rfl rfl rfl HW.out Pt.zero_wf ?_))
    refine (HN.out _).mono ?_
    rintro e w1 ⟨rfl, hb⟩
    have HB1 := Lib.hid (HB.out.trans (hb.mono HB.out.size))
    clear hb
    by_cases hz : p = Pt.zero
    · rw [decide_eq_true hz] at HQ ⊢
      replace HQ := Lib.hid (ptrE_ok HQ.out)
      clear hz
      go_wp2
      go_ret
      exact ⟨by rw [HQ.out]; rfl, HB1.out⟩
    · rw [decide_eq_false hz] at HQ ⊢
      replace HQ := Lib.hid (ptrE_bad HQ.out)
      clear hz
      go_wp2
      go_ret
      exact ⟨by rw [HQ.out]; rfl, HB1.out⟩
  · have HN := Lib.hid (fun w => ptrNull_any p w)
    rw [decide_eq_false h0] at HN
    have hq : ptrOk p n = (decide (2 ≤ p.addr) && decide ((p.addr : Int) < n) && decide (0 < p.birth)) := by unfold ptrOk; rw [if_neg h0]
    clear h0
    have c0 : ∀ w1 : World, Below (w.alloc (.cells p.arr 47)).heap.size (w.alloc (.cells p.arr 47)) w1 → w1.cell? ⟨w.heap.size, 0, none⟩ = some (.int .u32 (p.addr : Int)) ∧ w1.cell? ⟨w.heap.size, 1, none⟩ = some (.int .u64 (p.birth : Int)) := by
      intro w1 hb
      have hg := (hb.block w.heap.size (by simp)).trans (heap_alloc_new w (.cells p.arr 47))
      exact ⟨(cell_of_row _ _ 0 _ _ _ hg).trans g0, (cell_of_row _ _ 1 _ _ _ hg).trans g1⟩
    have HC := Lib.hid c0
    clear c0
    by_cases h1 : 2 ≤ p.addr
    · by_cases h2 : (p.addr : Int) < n
      · by_cases h3 : 0 < p.birth
        · rw [decide_eq_true h1, decide_eq_true h2, decide_eq_true h3] at hq
          have HQ := Lib.hid (ptrE_ok hq)
          clear hq
          go_enter Tryd.func46, Tryd.ntmps46
          go_wp2_with (first | (refine load_ptr rfl (.tmp 2) rfl rfl HAT.out HW.out ?_) | (refine eql_ptr (q := Pt.zero) rfl (.tmp 6) (.tmp 7) _ rfl rfl rfl HW.out Pt.zero_wf ?_))
          refine (HN.out _).mono ?_
          rintro e w1 ⟨rfl, hb⟩
          obtain ⟨e0, e1⟩ := HC.out _ hb
          have HB1 := Lib.hid (HB.out.trans (hb.mono HB.out.size))
          clear hb
          go_wp2
          go_ret
          exact ⟨by rw [HQ.out]; rfl, HB1.out⟩
        · rw [decide_eq_true h1, decide_eq_true h2, decide_eq_false h3] at hq
          have HQ := Lib.hid (ptrE_bad hq)
          obtain h3 : p.birth = 0 := by omega
          rw [h3] at HC
          clear hq
          go_enter Tryd.func46, Tryd.ntmps46
          go_wp2_with (first | (refine load_ptr rfl (.tmp 2) rfl rfl HAT.out HW.out ?_) | (refine eql_ptr (q := Pt.zero) rfl (.tmp 6) (.tmp 7) _ rfl rfl rfl HW.out Pt.zero_wf ?_))
          refine (HN.out _).mono ?_
          rintro e w1 ⟨rfl, hb⟩
          obtain ⟨e0, e1⟩ := HC.out _ hb
          have HB1 := Lib.hid (HB.out.trans (hb.mono HB.out.size))
          clear hb
          go_wp2
          go_ret
          exact ⟨by rw [HQ.out]; rfl, HB1.out⟩
      · rw [decide_eq_true h1, decide_eq_false h2] at hq
        have HQ := Lib.hid (ptrE_bad hq)
        clear hq
        go_enter Tryd.func46, Tryd.ntmps46
        go_wp2_with (first | (refine load_ptr rfl (.tmp 2) rfl rfl HAT.out HW.out ?_) | (refine eql_ptr (q := Pt.zero) rfl (.tmp 6) (.tmp 7) _ rfl rfl rfl HW.out Pt.zero_wf ?_))
        refine (HN.out _).mono ?_
        rintro e w1 ⟨rfl, hb⟩
        obtain ⟨e0, e1⟩ := HC.out _ hb
        have HB1 := Lib.hid (HB.out.trans (hb.mono HB.out.size))
        clear hb
        go_wp2
        go_ret
        exact ⟨by rw [HQ.out]; rfl, HB1.out⟩
    · rw [decide_eq_false h1] at hq
      have HQ := Lib.hid (ptrE_bad hq)
      have h1' : ¬ (2 : Int) ≤ (p.addr : Int) := by omega
      clear hq
      go_enter Tryd.func46, Tryd.ntmps46
      go_wp2_with (first | (refine load_ptr rfl (.tmp 2) rfl rfl HAT.out HW.out ?_) | (refine eql_ptr (q := Pt.zero) rfl (.tmp 6) (.tmp 7) _ rfl rfl rfl HW.out Pt.zero_wf ?_))
      refine (HN.out _).mono ?_
      rintro e w1 ⟨rfl, hb⟩
      obtain ⟨e0, e1⟩ := HC.out _ hb
      have HB1 := Lib.hid (HB.out.trans (hb.mono HB.out.size))
      clear hb
      go_wp2
      go_ret
      exact ⟨by rw [HQ.out]; rfl, HB1.out⟩

end Go.Proofs.YtdmgmpagnmmehaaDoor
