/- What an api.Ptr is, as data; two of them compared; the walks of ptr's Null and Check. What an api.Node is, as data; the walks of node's form, by its parts. Nodes in memory: load one, lay one; rows of strings and of pointers. Walks: space.Set, Taken. -/
import Derived.Test.YtkbnkdokcmpcgaaGreatDoorB0
import Derived.Test.YtkbnkdokcmpcgaaGreatDoorB1
import Derived.Test.YtkbnkdokcmpcgaaGreatDoorB6
import Derived.Test.YtkbnkdokcmpcgaaGreatDoorB13
namespace Go.Proofs.YtkbnkdokcmpcgaaGreatDoor
open Go.RowKit

structure Pt where
  addr : Nat
  birth : Nat
  sum : List UInt8
  deriving DecidableEq
def Pt.cells (p : Pt) : List Value := .int .u32 (p.addr : Int) :: .int .u64 (p.birth : Int) :: p.sum.map Bv
def Pt.arr (p : Pt) : Array Value := p.cells.toArray
def Pt.zero : Pt := ⟨0, 0, List.replicate 32 0⟩
structure Pt.Wf (p : Pt) : Prop where
  addr : p.addr < 4294967296
  birth : p.birth < 18446744073709551616
  sum : p.sum.length = 32
theorem Pt.zero_wf : Pt.zero.Wf := ⟨by decide, by decide, by decide⟩
theorem Pt.Wf.len {p : Pt} (h : p.Wf) : p.cells.length = 34 := by simp [Pt.cells, h.sum]
theorem Pt.Wf.size {p : Pt} (h : p.Wf) : p.arr.size = 34 := by simp [Pt.arr, h.len]
theorem Pt.arr_toList (p : Pt) : p.arr.toList = p.cells := by simp [Pt.arr]
theorem Pt.get0 (p : Pt) : p.arr[0]? = some (.int .u32 (p.addr : Int)) := by simp [Pt.arr, Pt.cells]
theorem Pt.get1 (p : Pt) : p.arr[1]? = some (.int .u64 (p.birth : Int)) := by simp [Pt.arr, Pt.cells]
theorem Pt.one (p : Pt) : ∀ u ∈ p.arr.toList, u.oneCell' = true := by
  rw [Pt.arr_toList]
  intro u hu
  simp only [Pt.cells, List.mem_cons] at hu
  rcases hu with rfl | rfl | hu
  · rfl
  · rfl
  · exact Bv_oneCell _ u hu
theorem Pt.sumAt {w : World} {b o : Nat} {p : Pt} (h : At w b o p.cells) : At w b (o + 2) (p.sum.map Bv) := by
  have : At w b o ([.int .u32 (p.addr : Int), .int .u64 (p.birth : Int)] ++ p.sum.map Bv ++ []) := by simpa [Pt.cells] using h
  exact this.part

theorem info_ptr : (Tryz.prog.info? 43).map (·.size) = some 34 := by kernel_rfl
theorem guard_ptr : Tryz.prog.eqGuardType Tryz.prog.depth 43 = false := by kernel_rfl
theorem stood_ptr : Tryz.prog.stoodInHeld 43 = false := by kernel_rfl
theorem fields_ptr : ((Tryz.prog.fieldsOf 43).toList.map fun f => (f.name != "_", f.type, f.offset)) = [(true, 41, 0), (true, 40, 1), (true, 33, 2)] := by kernel_rfl
theorem und_ptr : Tryz.prog.underlying 43 = some (.struct (Tryz.prog.fieldsOf 43)) := by
  unfold Program.fieldsOf; rw [Tryz.underlying43]

theorem extract_sum (p : Pt) (h : p.Wf) : p.arr.extract 2 (2 + 32) = (p.sum.map Bv).toArray := by
  apply Array.toList_inj.1
  simp only [Pt.arr, Pt.cells, List.extract_toArray, List.extract_eq_take_drop]
  rw [List.drop_succ_cons, List.drop_succ_cons, List.drop_zero, List.take_of_length_le (by simp [h.sum])]

theorem run_part_hash (p : Pt) (h : p.Wf) (w : World) : (part 33 p.arr 2).run Tryz.prog w = .ok (.agg (p.sum.map Bv).toArray) w := by
  have hagg : (isAgg 33).run Tryz.prog w = .ok true w := by
    unfold isAgg
    rw [Sem.run_bind, run_underlying Tryz.underlying33 w]
    rfl
  have hsz : (sizeOf 33).run Tryz.prog w = .ok 32 w := by
    have : ∃ i, Tryz.prog.info? 33 = some i ∧ i.size = 32 := by
      cases hq : Tryz.prog.info? 33 with
      | none =>
        have h1 : (Tryz.prog.info? 33).map (·.size) = some 32 := by kernel_rfl
        simp [hq] at h1
      | some i =>
        have h1 : (Tryz.prog.info? 33).map (·.size) = some 32 := by kernel_rfl
        exact ⟨i, rfl, by simpa [hq] using h1⟩
    obtain ⟨i, hi, hs⟩ := this
    simp [sizeOf, typeInfo, hi, hs]
  unfold part
  simp only [Sem.run_bind, hagg, Result.andThen_ok, if_true, hsz, Sem.run_pure, extract_sum p h]

theorem run_equalIn_hash (d : Nat) (xs ys : List UInt8) (h1 : xs.length = 32) (h2 : ys.length = 32) (w : World) :
    (Op.equalIn (d + 2) 33 (.agg (xs.map Bv).toArray) (.agg (ys.map Bv).toArray)).run Tryz.prog w = .ok (decide (xs = ys)) w := by
  obtain ⟨i0, hi, hz0, hz1, hz2⟩ := info_parts info_u8
  rw [run_equalIn_array w (d + 1) _ _ Tryz.underlying33 hi]
  have hc : Tryz.prog.cellsOf 5 = 1 := by kernel_rfl
  rw [hc, run_eqItems_u8 d xs ys w _ (fun i hi => by have := List.mem_range.1 hi; omega)]
  rw [all_same xs ys 32 h1 h2]

theorem eqFields_step {P : Program} {w : World} {d : Nat} {xs ys : Array Value} {f : Field} {fs : List Field} {a b : Value} {r r' : Bool} (hn : (f.name != "_") = true) (t : TypeId) (o : Nat) (ht : f.type = t) (ho : f.offset = o)
    (h1 : (part t xs o).run P w = .ok a w) (h2 : (part t ys o).run P w = .ok b w) (h3 : (Op.equalIn d t a b).run P w = .ok r w) (h4 : (Op.eqFields d xs ys fs).run P w = .ok r' w) :
    (Op.eqFields d xs ys (f :: fs)).run P w = .ok (r && r') w := by
  subst ht ho
  have hn' : f.name ≠ "_" := by simpa using hn
  simp only [Op.eqFields, hn', ne_eq, not_false_eq_true, if_true, Sem.run_bind, h1, h2, h3, Result.andThen_ok]
  cases r
  · simp
  · simpa using h4

set_option maxRecDepth 100000 in
theorem eqFields_ptr (p q : Pt) (hp : p.Wf) (hq : q.Wf) (w : World) (fs : List Field) (hf : (fs.map fun f => (f.name != "_", f.type, f.offset)) = [(true, 41, 0), (true, 40, 1), (true, 33, 2)]) :
    (Op.eqFields 9999 p.arr q.arr fs).run Tryz.prog w = .ok (decide (p = q)) w := by
  obtain ⟨f0, fs, rfl, h0, hf⟩ := List.map_eq_cons_iff.1 hf
  obtain ⟨f1, fs, rfl, h1, hf⟩ := List.map_eq_cons_iff.1 hf
  obtain ⟨f2, fs, rfl, h2, hf⟩ := List.map_eq_cons_iff.1 hf
  obtain rfl := List.map_eq_nil_iff.1 hf
  simp only [Prod.mk.injEq] at h0 h1 h2
  obtain ⟨n0, t0, o0⟩ := h0
  obtain ⟨n1, t1, o1⟩ := h1
  obtain ⟨n2, t2, o2⟩ := h2
  have q0 : Tryz.prog.plainKey 41 = true := by kernel_rfl
  have q1 : Tryz.prog.plainKey 40 = true := by kernel_rfl
  have e3 : (Op.eqFields 9999 p.arr q.arr []).run Tryz.prog w = .ok true w := by simp [Op.eqFields]
  have e2 := eqFields_step n2 _ _ t2 o2 (run_part_hash p hp w) (run_part_hash q hq w) (run_equalIn_hash 9997 p.sum q.sum hp.sum hq.sum w) e3
  have e1 := eqFields_step n1 _ _ t1 o1 (run_part_plain (P := Tryz.prog) w q1 p.get1) (run_part_plain (P := Tryz.prog) w q1 q.get1) (run_equalIn_int (P := Tryz.prog) w 9998 40 .u64 .u64 (p.birth : Int) (q.birth : Int) Tryz.underlying40) e2
  have e0 := eqFields_step n0 _ _ t0 o0 (run_part_plain (P := Tryz.prog) w q0 p.get0) (run_part_plain (P := Tryz.prog) w q0 q.get0) (run_equalIn_int (P := Tryz.prog) w 9998 41 .u32 .u32 (p.addr : Int) (q.addr : Int) Tryz.underlying41) e1
  rw [e0]
  congr 1
  obtain ⟨pa, pb, ps⟩ := p
  obtain ⟨qa, qb, qs⟩ := q
  rw [Bool.eq_iff_iff]
  simp only [Pt.mk.injEq, Bool.and_eq_true, beq_iff_eq, decide_eq_true_iff, Int.natCast_inj, and_true]

theorem run_equalIn_ptr (p q : Pt) (hp : p.Wf) (hq : q.Wf) (w : World) : (Op.equalIn 10000 43 (.agg p.arr) (.agg q.arr)).run Tryz.prog w = .ok (decide (p = q)) w := by
  rw [run_equalIn_struct w 9999 43 p.arr q.arr und_ptr stood_ptr]
  exact eqFields_ptr p q hp hq w _ fields_ptr

theorem eql_ptr {ops : Array Oper} {rest : List Oper} {o : Oper} {a : Act} {w : World} {Q : Exit → Act → World → Prop} (hgd : o.guard = none) (x y : Operand) (yt : TypeId) (ho : o.op = .binOp .eql 43 x y yt)
    {p q : Pt} (hx : a.eval x = .agg p.arr) (hy : a.eval y = .agg q.arr) (h1 : p.Wf) (h2 : q.Wf)
    (hK : wpList Tryz.prog ops Q rest (a.put o.dst (.bool (decide (p = q)))) w) : wpList Tryz.prog ops Q (o :: rest) a w := by
  refine wpList_plain hgd fun K hKK => ?_
  unfold Oper.wp execOp
  simp only [ho, hx, hy, Sem.run_bind, run_eqGuard_agg w _ _ _ _ _ _ guard_ptr, Result.andThen_ok, run_eql_struct, run_equalIn_ptr p q h1 h2 w]
  exact hKK _ _ hK

/-- A pointer, read at an address; stored into a variable of its own. -/
theorem load_ptr {ops : Array Oper} {rest : List Oper} {o : Oper} {a : Act} {w : World} {Q : Exit → Act → World → Prop} (hgd : o.guard = none) (x : Operand) (ho : o.op = .load 43 x)
    {b off : Nat} (hx : a.eval x = .pointer (some ⟨b, off, none⟩)) {p : Pt} (hc : At w b off p.cells) (hl : p.Wf)
    (hK : wpList Tryz.prog ops Q rest (a.put o.dst (.agg p.arr)) w) : wpList Tryz.prog ops Q (o :: rest) a w :=
  wpList_load_at hgd _ x ho b off hx p.cells _ hc Tryz.underlying43 rfl (by rw [info_ptr, hl.len]) hK
theorem store_ptr {ops : Array Oper} {rest : List Oper} {o : Oper} {a : Act} {w : World} {Q : Exit → Act → World → Prop} (hgd : o.guard = none) (x y : Operand) (ho : o.op = .store 43 x y)
    {b : Nat} (hx : a.eval x = .pointer (some ⟨b, 0, none⟩)) {p : Pt} (hy : a.eval y = .agg p.arr) {old : Array Value} {t : TypeId} (hb : w.heap[b]? = some (.cells old t (0, 0))) (ho2 : old.size = 34) (hl : p.Wf)
    (hK : ∀ w', w'.heap[b]? = some (.cells p.arr t (0, 0)) → Fr (fun k => k = b) w w' → w'.heap.size = w.heap.size → wpList Tryz.prog ops Q rest (a.put o.dst undef) w') : wpList Tryz.prog ops Q (o :: rest) a w :=
  wpList_store_row hgd _ x y ho b hx p.cells (by simpa [Pt.arr] using hy) old _ hb (by rw [ho2, hl.len]) (by have := p.one; rwa [Pt.arr_toList] at this) (by rw [info_ptr, hl.len]) (fun w' h1 h2 h3 => hK w' h1 h2 h3)

theorem At_box (w : World) (p : Pt) (t : TypeId) : At (w.alloc (.cells p.arr t)) w.heap.size 0 p.cells := At.of_row (heap_alloc_new _ _)

theorem ptrNull_any (p : Pt) (w : World) : Calls Tryz.prog 53 #[.agg p.arr] w fun e w' => e = .returned (.bool (decide (p.addr = 0))) ∧ Below w.heap.size w w' := by
  have g0 := p.get0
  have e : ((p.addr : Int) == 0) = decide (p.addr = 0) := by rw [Bool.eq_iff_iff]; simp
  obtain ⟨arr, ha⟩ : ∃ arr, arr = p.arr := ⟨_, rfl⟩
  rw [← ha] at g0 ⊢
  clear ha
  go_enter Tryz.func53, Tryz.ntmps53
  go_wp2
  go_ret
  exact ⟨by rw [← e]; rfl, (Below.refl _ _).alloc (Nat.le_refl _) _⟩

/-- May a pointer be, on a device of so many sectors? -/
def ptrOk (p : Pt) (n : Int) : Bool := if p.addr = 0 then decide (p = Pt.zero) else decide (2 ≤ p.addr) && decide ((p.addr : Int) < n) && decide (0 < p.birth)

def ptrE (p : Pt) (n : Int) : Int := if ptrOk p n then 0 else 4
theorem ptrE_ok {p : Pt} {n : Int} (h : ptrOk p n = true) : ptrE p n = 0 := by unfold ptrE; rw [if_pos h]
theorem ptrE_bad {p : Pt} {n : Int} (h : ptrOk p n = false) : ptrE p n = 4 := by unfold ptrE; rw [if_neg (by rw [h]; simp)]

set_option maxHeartbeats 1000000 in
theorem ptrCheck_any (p : Pt) (n : Int) (w : World) (h : p.Wf) (_hn : -9223372036854775808 ≤ n ∧ n ≤ 9223372036854775807) :
    Calls Tryz.prog 68 #[.agg p.arr, .int .i64 n] w fun e w' => e = .returned (.int .i64 (ptrE p n)) ∧ Below w.heap.size w w' := by
  have g0 := p.get0
  have g1 := p.get1
  have HAT := Lib.hid (At_box w p 43)
  have HW := Lib.hid h
  have HB := Lib.hid ((Below.refl _ w).alloc (Nat.le_refl _) (.cells p.arr 43))
  have ha := h.addr
  clear h
  by_cases h0 : p.addr = 0
  · have HN := Lib.hid (fun w => ptrNull_any p w)
    rw [decide_eq_true h0] at HN
    have HQ := Lib.hid (show ptrOk p n = decide (p = Pt.zero) by unfold ptrOk; rw [if_pos h0])
    clear h0
    go_enter Tryz.func68, Tryz.ntmps68
    go_wp2_with (first | (refine load_ptr rfl (.tmp 2) rfl rfl HAT.out HW.out ?_) | (refine eql_ptr (q := Pt.zero) rfl (.tmp 6) (.tmp 7) _ rfl rfl rfl HW.out Pt.zero_wf ?_))
    refine (HN.out _).mono ?_
    rintro e w1 ⟨rfl, hb⟩
    have HB1 := Lib.hid (HB.out.trans (hb.mono HB.out.size))
    clear hb
    by_cases hz : p = Pt.zero
    · rw [decide_eq_true hz] at HQ ⊢
      replace HQ := Lib.hid (ptrE_ok HQ.out)
      clear hz
      go_wp2
      go_ret
      exact ⟨by rw [HQ.out]; rfl, HB1.out⟩
    · rw [decide_eq_false hz] at HQ ⊢
      replace HQ := Lib.hid (ptrE_bad HQ.out)
      clear hz
      go_wp2
      go_ret
      exact ⟨by rw [HQ.out]; rfl, HB1.out⟩
  · have HN := Lib.hid (fun w => ptrNull_any p w)
    rw [decide_eq_false h0] at HN
    have hq : ptrOk p n = (decide (2 ≤ p.addr) && decide ((p.addr : Int) < n) && decide (0 < p.birth)) := by unfold ptrOk; rw [if_neg h0]
    clear h0
    have c0 : ∀ w1 : World, Below (w.alloc (.cells p.arr 43)).heap.size (w.alloc (.cells p.arr 43)) w1 → w1.cell? ⟨w.heap.size, 0, none⟩ = some (.int .u32 (p.addr : Int)) ∧ w1.cell? ⟨w.heap.size, 1, none⟩ = some (.int .u64 (p.birth : Int)) := by
      intro w1 hb
      have hg := (hb.block w.heap.size (by simp)).trans (heap_alloc_new w (.cells p.arr 43))
      exact ⟨(cell_of_row _ _ 0 _ _ _ hg).trans g0, (cell_of_row _ _ 1 _ _ _ hg).trans g1⟩
    have HC := Lib.hid c0
    clear c0
    by_cases h1 : 2 ≤ p.addr
    · by_cases h2 : (p.addr : Int) < n
      · by_cases h3 : 0 < p.birth
        · rw [decide_eq_true h1, decide_eq_true h2, decide_eq_true h3] at hq
          have HQ := Lib.hid (ptrE_ok hq)
          clear hq
          go_enter Tryz.func68, Tryz.ntmps68
          go_wp2_with (first | (refine load_ptr rfl (.tmp 2) rfl rfl HAT.out HW.out ?_) | (refine eql_ptr (q := Pt.zero) rfl (.tmp 6) (.tmp 7) _ rfl rfl rfl HW.out Pt.zero_wf ?_))
          refine (HN.out _).mono ?_
          rintro e w1 ⟨rfl, hb⟩
          obtain ⟨e0, e1⟩ := HC.out _ hb
          have HB1 := Lib.hid (HB.out.trans (hb.mono HB.out.size))
          clear hb
          go_wp2
          go_ret
          exact ⟨by rw [HQ.out]; rfl, HB1.out⟩
        · rw [decide_eq_true h1, decide_eq_true h2, decide_eq_false h3] at hq
          have HQ := Lib.hid (ptrE_bad hq)
          obtain h3 : p.birth = 0 := by omega
          rw [h3] at HC
          clear hq
          go_enter Tryz.func68, Tryz.ntmps68
          go_wp2_with (first | (refine load_ptr rfl (.tmp 2) rfl rfl HAT.out HW.out ?_) | (refine eql_ptr (q := Pt.zero) rfl (.tmp 6) (.tmp 7) _ rfl rfl rfl HW.out Pt.zero_wf ?_))
          refine (HN.out _).mono ?_
          rintro e w1 ⟨rfl, hb⟩
          obtain ⟨e0, e1⟩ := HC.out _ hb
          have HB1 := Lib.hid (HB.out.trans (hb.mono HB.out.size))
          clear hb
          go_wp2
          go_ret
          exact ⟨by rw [HQ.out]; rfl, HB1.out⟩
      · rw [decide_eq_true h1, decide_eq_false h2] at hq
        have HQ := Lib.hid (ptrE_bad hq)
        clear hq
        go_enter Tryz.func68, Tryz.ntmps68
        go_wp2_with (first | (refine load_ptr rfl (.tmp 2) rfl rfl HAT.out HW.out ?_) | (refine eql_ptr (q := Pt.zero) rfl (.tmp 6) (.tmp 7) _ rfl rfl rfl HW.out Pt.zero_wf ?_))
        refine (HN.out _).mono ?_
        rintro e w1 ⟨rfl, hb⟩
        obtain ⟨e0, e1⟩ := HC.out _ hb
        have HB1 := Lib.hid (HB.out.trans (hb.mono HB.out.size))
        clear hb
        go_wp2
        go_ret
        exact ⟨by rw [HQ.out]; rfl, HB1.out⟩
    · rw [decide_eq_false h1] at hq
      have HQ := Lib.hid (ptrE_bad hq)
      have h1' : ¬ (2 : Int) ≤ (p.addr : Int) := by omega
      clear hq
      go_enter Tryz.func68, Tryz.ntmps68
      go_wp2_with (first | (refine load_ptr rfl (.tmp 2) rfl rfl HAT.out HW.out ?_) | (refine eql_ptr (q := Pt.zero) rfl (.tmp 6) (.tmp 7) _ rfl rfl rfl HW.out Pt.zero_wf ?_))
      refine (HN.out _).mono ?_
      rintro e w1 ⟨rfl, hb⟩
      obtain ⟨e0, e1⟩ := HC.out _ hb
      have HB1 := Lib.hid (HB.out.trans (hb.mono HB.out.size))
      clear hb
      go_wp2
      go_ret
      exact ⟨by rw [HQ.out]; rfl, HB1.out⟩

end Go.Proofs.YtkbnkdokcmpcgaaGreatDoor
namespace Go.Proofs.YtkbnkdokcmpcgaaGreatDoor
open Go.RowKit

theorem gload_ptr {ops : Array Oper} {rest : List Oper} {o : Oper} {a : Act} {w : World} {Q : Exit → Act → World → Prop} (hw : Region.wanted o (yielded ops a.tmps) = true) (x : Operand) (ho : o.op = .load 43 x)
    {b off : Nat} (hx : a.eval x = .pointer (some ⟨b, off, none⟩)) {p : Pt} (hc : At w b off p.cells) (hl : p.Wf)
    (hK : wpList Tryz.prog ops Q rest (a.put o.dst (.agg p.arr)) w) : wpList Tryz.prog ops Q (o :: rest) a w :=
  gload_at hw _ x ho b off hx p.cells _ hc Tryz.underlying43 rfl (by rw [info_ptr, hl.len]) hK

structure Nd where
  leaf : Bool
  keys : List ByteArray
  vals : List ByteArray
  kids : List Pt

/-- A slice of pointers. -/
structure PtsIn (w : World) (v : Value) (ps : List Pt) : Prop where
  sl : Sl w 34 v ps.length (ps.map Pt.cells).flatten
  wf : ∀ p ∈ ps, p.Wf

theorem PtsIn.below {w w' : World} {v : Value} {ps : List Pt} (h : PtsIn w v ps) (hb : Below w.heap.size w w') : PtsIn w' v ps := ⟨h.sl.below hb, h.wf⟩
theorem PtsIn.open {w : World} {v : Value} {ps : List Pt} (h : PtsIn w v ps) : ∃ a cap, v = .slice a ps.length cap ∧ ∀ i (hi : i < ps.length), ∃ b o, a = some ⟨b, o, none⟩ ∧ At w b (o + i * 34) ps[i].cells := by
  obtain ⟨⟨hl, a, cap, rfl, _, _, h4⟩, hwf⟩ := h
  refine ⟨a, cap, rfl, fun i hi => ?_⟩
  have hlen : ∀ l ∈ ps.map Pt.cells, l.length = 34 := by
    intro l hl
    obtain ⟨p, hp, rfl⟩ := List.mem_map.1 hl
    exact (hwf p hp).len
  have hg : ∀ j, j < 34 → (ps.map Pt.cells).flatten[i * 34 + j]? = (ps[i].cells)[j]? := fun j hj => by
    rw [flat_get 34 _ hlen i (by simpa using hi) j hj]; simp
  obtain ⟨b, o, e, _⟩ := h4 (i * 34 + 0) _ (hg 0 (by omega))
  refine ⟨b, o, e, fun j u hu => ?_⟩
  have hj : j < 34 := by
    have := (List.getElem?_eq_some_iff.1 hu).1
    rw [(hwf _ (List.getElem_mem hi)).len] at this
    exact this
  obtain ⟨b', o', e', hc⟩ := h4 (i * 34 + j) u ((hg j hj).trans hu)
  rw [e] at e'
  simp only [Option.some.injEq, Addr.mk.injEq, and_true] at e'
  obtain ⟨rfl, rfl⟩ := e'
  rw [← hc, Nat.add_assoc]

/-- A node's cells. -/
def NdIs (w : World) (arr : Array Value) (n : Nd) : Prop :=
  ∃ vk vv vp, arr = #[.bool n.leaf, vk, vv, vp] ∧ StrsIn w vk n.keys ∧ StrsIn w vv n.vals ∧ PtsIn w vp n.kids
theorem NdIs.below {w w' : World} {arr : Array Value} {n : Nd} (h : NdIs w arr n) (hb : Below w.heap.size w w') : NdIs w' arr n := by
  obtain ⟨vk, vv, vp, h0, h1, h2, h3⟩ := h
  exact ⟨vk, vv, vp, h0, h1.below hb, h2.below hb, h3.below hb⟩

/-- Too long, for a value. -/
def longB (l : List ByteArray) : Bool := l.any (fun v => decide (96 < v.size))
theorem form1_any (s : ByteArray) (w : World) : Calls Tryz.prog 154 #[.string s] w fun e w' => e = .returned (.bool (decide (96 < s.size))) ∧ w = w' := by
  have e : decide ((96 : Int) < (s.size : Int)) = decide (96 < s.size) := by rw [Bool.eq_iff_iff]; simp only [decide_eq_true_iff]; omega
  go_enter Tryz.func154, Tryz.ntmps154
  go_wp2
  go_ret
  exact ⟨by rw [← e]; rfl, rfl⟩

def IdxPost (b : Bool) (w : World) (e : Ending) (w' : World) : Prop := ∃ r : Int, e = .returned (.int .i64 r) ∧ decide (0 ≤ r) = b ∧ w = w'

set_option maxHeartbeats 1000000 in
theorem indexLong_any (v : Value) (l : List ByteArray) (w : World) (h : StrsIn w v l) (hr : l.length ≤ 140737488351232) :
    Calls Tryz.prog 186 #[v, .func (.func 154) #[] #[]] w (IdxPost (longB l) w) := by
  obtain ⟨a, cap, rfl, hel⟩ := h.open
  have HE := Lib.hid hel
  clear h hel
  go_enter Tryz.func186, Tryz.ntmps186
  go_wp2
  go_loop [8] (fun i => ∃ k : Nat, k ≤ l.length ∧ i = .int .i64 k ∧ ∀ j (hj : j < l.length), j < k → ¬ 96 < l[j].size) (fun i => l.length - (intOf i).toNat)
  case atStart => exact ⟨0, Nat.zero_le _, rfl, fun j _ hj => by omega⟩
  case round =>
    obtain ⟨k, hk, rfl, hz⟩ := hrel
    have HZ := Lib.hid hz
    clear hz
    rcases Nat.lt_or_ge k l.length with hlt | hge
    · obtain ⟨b, o, rfl, hc⟩ := HE.out k hlt
      obtain ⟨s, hs⟩ : ∃ s, s = l[k]'hlt := ⟨_, rfl⟩
      rw [← hs] at hc
      have HS := Lib.hid hs
      clear hs
      go_wp2_with fail
      refine (form1_any s _).mono ?_
      rintro e w1 ⟨rfl, rfl⟩
      by_cases h9 : 96 < s.size
      · rw [decide_eq_true h9]
        have HF := Lib.hid (show longB l = true from List.any_eq_true.2 ⟨s, by rw [HS.out]; exact List.getElem_mem hlt, decide_eq_true h9⟩)
        clear h9
        go_wp2
        go_ret
        exact ⟨k, rfl, by rw [HF.out]; simp, rfl⟩
      · rw [decide_eq_false h9]
        have H9 := Lib.hid h9
        clear h9
        go_wp2
        go_round
        case rel =>
          refine ⟨k + 1, by omega, by go_num, fun j hj hjk => ?_⟩
          rcases Nat.lt_or_ge j k with h | h
          · exact HZ.out j hj h
          · obtain rfl : j = k := by omega
            rw [← HS.out]; exact H9.out
        case measure => simp [intOf]; omega
    · have HF := Lib.hid (show longB l = false from List.any_eq_false.2 fun x hx => by
        obtain ⟨j, hj, rfl⟩ := List.getElem_of_mem hx
        simpa using HZ.out j hj (by omega))
      obtain rfl : k = l.length := by omega
      go_wp2
      go_ret
      exact ⟨-1, rfl, by rw [HF.out]; rfl, rfl⟩

theorem containsLong_any (v : Value) (l : List ByteArray) (w : World) (h : StrsIn w v l) (hr : l.length ≤ 140737488351232) :
    Calls Tryz.prog 155 #[v, .func (.func 154) #[] #[]] w fun e w' => e = .returned (.bool (longB l)) ∧ w = w' := by
  have HH := Lib.hid h
  clear h
  go_enter Tryz.func155, Tryz.ntmps155
  go_wp2_with fail
  refine (indexLong_any v l _ HH.out hr).mono ?_
  rintro e w1 ⟨r, rfl, hr, rfl⟩
  have HR := Lib.hid hr
  clear hr
  go_wp2
  go_ret
  exact ⟨by rw [← HR.out]; rfl, rfl⟩

/-- May a kid not be? -/
def kidBad (p : Pt) : Bool := decide (p.addr = 0) || !ptrOk p 4096
def badB (ps : List Pt) : Bool := ps.any kidBad

theorem ptrE_ne (p : Pt) (n : Int) : (ptrE p n != 0) = !ptrOk p n := by
  unfold ptrE
  cases ptrOk p n <;> rfl

set_option maxHeartbeats 1000000 in
theorem form2_any (p : Pt) (w : World) (h : p.Wf) : Calls Tryz.prog 156 #[.agg p.arr] w fun e w' => e = .returned (.bool (kidBad p)) ∧ Below w.heap.size w w' := by
  have HAT := Lib.hid (At_box w p 43)
  have HW := Lib.hid h
  have HB := Lib.hid ((Below.refl _ w).alloc (Nat.le_refl _) (.cells p.arr 43))
  have HN := Lib.hid (fun w => ptrNull_any p w)
  have HE := Lib.hid (ptrE_ne p 4096)
  clear h
  by_cases h0 : p.addr = 0
  · rw [decide_eq_true h0] at HN
    have HQ := Lib.hid (show kidBad p = true by unfold kidBad; simp [h0])
    clear h0
    go_enter Tryz.func156, Tryz.ntmps156
    go_wp2_with (refine load_ptr rfl (.tmp 1) rfl rfl HAT.out HW.out ?_)
    refine (HN.out _).mono ?_
    rintro e w1 ⟨rfl, hb⟩
    have HB1 := Lib.hid (HB.out.trans (hb.mono HB.out.size))
    clear hb
    go_wp2
    go_ret
    exact ⟨by rw [HQ.out]; rfl, HB1.out⟩
  · rw [decide_eq_false h0] at HN
    have HQ := Lib.hid (show kidBad p = !ptrOk p 4096 by unfold kidBad; simp [h0])
    clear h0
    go_enter Tryz.func156, Tryz.ntmps156
    go_wp2_with (refine load_ptr rfl (.tmp 1) rfl rfl HAT.out HW.out ?_)
    refine (HN.out _).mono ?_
    rintro e w1 ⟨rfl, hb⟩
    have HB1 := Lib.hid (HB.out.trans (hb.mono HB.out.size))
    have HAT1 := Lib.hid (HAT.out.fr (Fr.of_below (S := fun _ => False) hb) id)
    clear hb
    go_wp2_with (refine gload_ptr rfl (.tmp 1) rfl rfl HAT1.out HW.out ?_)
    refine (ptrCheck_any p 4096 _ HW.out (by omega)).mono ?_
    rintro e w2 ⟨rfl, hb⟩
    have HB2 := Lib.hid (HB1.out.trans (hb.mono HB1.out.size))
    clear hb
    go_wp2
    go_ret
    exact ⟨by rw [HQ.out, ← HE.out]; rfl, HB2.out⟩

def IdxPostB (b : Bool) (w : World) (e : Ending) (w' : World) : Prop := ∃ r : Int, e = .returned (.int .i64 r) ∧ decide (0 ≤ r) = b ∧ Below w.heap.size w w'

set_option maxHeartbeats 1000000 in
theorem indexBad_any (v : Value) (ps : List Pt) (w : World) (h : PtsIn w v ps) (hr : ps.length ≤ 140737488351232) :
    Calls Tryz.prog 187 #[v, .func (.func 156) #[] #[]] w (IdxPostB (badB ps) w) := by
  have HWf := Lib.hid h.wf
  obtain ⟨a, cap, rfl, hel⟩ := h.open
  have HE := Lib.hid hel
  clear h hel
  go_enter Tryz.func187, Tryz.ntmps187
  go_wp2
  go_loopw [8, 5] (fun i u wr => ∃ k : Nat, k ≤ ps.length ∧ i = .int .i64 k ∧ (∀ j (hj : j < ps.length), j < k → kidBad ps[j] = false) ∧ Below w.heap.size w wr) (fun i _ _ => ps.length - (intOf i).toNat)
  case atStart => exact ⟨0, Nat.zero_le _, rfl, fun j _ hj => by omega, Below.refl _ _⟩
  case round =>
    obtain ⟨k, hk, rfl, hz, hb⟩ := hrel
    have HZ := Lib.hid hz
    have HB := Lib.hid hb
    clear hz hb
    rcases Nat.lt_or_ge k ps.length with hlt | hge
    · obtain ⟨b, o, rfl, hat⟩ := HE.out k hlt
      obtain ⟨p, hp⟩ : ∃ p, p = ps[k]'hlt := ⟨_, rfl⟩
      rw [← hp] at hat
      have HP := Lib.hid hp
      have HW := Lib.hid (show p.Wf by rw [hp]; exact HWf.out _ (List.getElem_mem hlt))
      have HAT := Lib.hid (fun i u hu => (Below.cell HB.out (p := ⟨b, o + k * 34 + i, none⟩) (World.block_lt_of_cell? w ⟨b, o + k * 34 + i, none⟩ (hat i u hu))).trans (hat i u hu) : At wr b (o + k * 34) p.cells)
      clear hp hat
      go_wp2_with (refine load_ptr rfl (.tmp 14) rfl rfl HAT.out HW.out ?_)
      refine (form2_any p _ HW.out).mono ?_
      rintro e w1 ⟨rfl, hb1⟩
      have HB1 := Lib.hid (HB.out.trans (hb1.mono HB.out.size))
      clear hb1
      cases h9 : kidBad p with
      | true =>
        have HF := Lib.hid (show badB ps = true from List.any_eq_true.2 ⟨p, by rw [HP.out]; exact List.getElem_mem hlt, h9⟩)
        clear h9
        go_wp2
        go_ret
        exact ⟨k, rfl, by rw [HF.out]; simp, HB1.out⟩
      | false =>
        have H9 := Lib.hid h9
        clear h9
        go_wp2
        go_roundw
        case rel =>
          refine ⟨k + 1, by omega, by go_num, fun j hj hjk => ?_, HB1.out⟩
          rcases Nat.lt_or_ge j k with h | h
          · exact HZ.out j hj h
          · obtain rfl : j = k := by omega
            rw [← HP.out]; exact H9.out
        case measure => simp [intOf]; omega
    · have HF := Lib.hid (show badB ps = false from List.any_eq_false.2 fun x hx => by
        obtain ⟨j, hj, rfl⟩ := List.getElem_of_mem hx
        simpa using HZ.out j hj (by omega))
      obtain rfl : k = ps.length := by omega
      go_wp2
      go_ret
      exact ⟨-1, rfl, by rw [HF.out]; rfl, HB.out⟩

theorem containsBad_any (v : Value) (ps : List Pt) (w : World) (h : PtsIn w v ps) (hr : ps.length ≤ 140737488351232) :
    Calls Tryz.prog 157 #[v, .func (.func 156) #[] #[]] w fun e w' => e = .returned (.bool (badB ps)) ∧ Below w.heap.size w w' := by
  have HH := Lib.hid h
  clear h
  go_enter Tryz.func157, Tryz.ntmps157
  go_wp2_with fail
  refine (indexBad_any v ps _ HH.out hr).mono ?_
  rintro e w1 ⟨r, rfl, hr, hb⟩
  have HR := Lib.hid hr
  have HB := Lib.hid hb
  clear hr hb
  go_wp2
  go_ret
  exact ⟨by rw [← HR.out]; rfl, HB.out⟩

end Go.Proofs.YtkbnkdokcmpcgaaGreatDoor
namespace Go.Proofs.YtkbnkdokcmpcgaaGreatDoor
open Go.RowKit

theorem Sl_row {w : World} {b : Nat} {cs : Array Value} {t : TypeId} {size n : Nat} {xs : List Value} (hb : w.heap[b]? = some (.cells cs t (0, 0))) (hcs : cs.toList = xs) (hn : xs.length = n * size) : Sl w size (.slice (some ⟨b, 0, none⟩) n n) n xs := by
  refine ⟨hn, some ⟨b, 0, none⟩, n, rfl, Nat.le_refl _, fun h => (by cases h), fun i u hu => ⟨b, 0, rfl, ?_⟩⟩
  rw [Nat.zero_add, cell_of_row _ b i cs t _ hb, ← hu, ← hcs, Array.getElem?_toList]

theorem Below_drewN {B : Nat} {a w : World} (h : Below B a w) (n : Nat) : Below B a (w.drewN n) := h.trans ⟨rfl, rfl, rfl, Nat.le_refl _, fun _ _ => rfl⟩
theorem info_nd : (Tryz.prog.info? 25).map (·.size) = some 4 := by kernel_rfl
theorem load_nd {ops : Array Oper} {rest : List Oper} {o : Oper} {a : Act} {w : World} {Q : Exit → Act → World → Prop} (hgd : o.guard = none) (x : Operand) (ho : o.op = .load 25 x)
    {b off : Nat} (hx : a.eval x = .pointer (some ⟨b, off, none⟩)) {arr : Array Value} (hc : At w b off arr.toList) (hl : arr.size = 4)
    (hK : wpList Tryz.prog ops Q rest (a.put o.dst (.agg arr)) w) : wpList Tryz.prog ops Q (o :: rest) a w :=
  wpList_load_at hgd _ x ho b off hx arr.toList _ hc Tryz.underlying25 rfl (by rw [info_nd, Array.length_toList, hl]) hK
theorem gload_nd {ops : Array Oper} {rest : List Oper} {o : Oper} {a : Act} {w : World} {Q : Exit → Act → World → Prop} (hw : Region.wanted o (yielded ops a.tmps) = true) (x : Operand) (ho : o.op = .load 25 x)
    {b off : Nat} (hx : a.eval x = .pointer (some ⟨b, off, none⟩)) {arr : Array Value} (hc : At w b off arr.toList) (hl : arr.size = 4)
    (hK : wpList Tryz.prog ops Q rest (a.put o.dst (.agg arr)) w) : wpList Tryz.prog ops Q (o :: rest) a w :=
  gload_at hw _ x ho b off hx arr.toList _ hc Tryz.underlying25 rfl (by rw [info_nd, Array.length_toList, hl]) hK

theorem NdIs.size {w : World} {arr : Array Value} {n : Nd} (h : NdIs w arr n) : arr.size = 4 := by
  obtain ⟨_, _, _, rfl, _⟩ := h
  rfl
theorem At_nd {w : World} {b : Nat} {arr : Array Value} {t : TypeId} (hb : w.heap[b]? = some (.cells arr t (0, 0))) : At w b 0 arr.toList := At.of_row (by simpa using hb)

end Go.Proofs.YtkbnkdokcmpcgaaGreatDoor
namespace Go.Proofs.YtkbnkdokcmpcgaaGreatDoor
open Go.RowKit

theorem ofL_succ (l : List Nat) (i a : Nat) (h : l[i]? = some a) : ofL (l.take (i + 1)) = updT (ofL (l.take i)) a true := by
  have hi : i < l.length := (List.getElem?_eq_some_iff.1 h).1
  have ea : l[i] = a := (List.getElem?_eq_some_iff.1 h).2
  funext c
  unfold ofL updT
  rw [List.take_succ_eq_append_getElem hi, ea]
  by_cases e : c = a
  · rw [if_pos e, e]; simp
  · rw [if_neg e]; simp [e]
theorem U32_one' (l : List Nat) : ∀ u ∈ l.map U32, u.oneCell' = true := by
  intro u hu
  obtain ⟨_, _, rfl⟩ := List.mem_map.1 hu
  rfl

/-- What Set leaves. -/
def StPost (w : World) (S W size : Nat) (l : List Nat) (e : Ending) (w' : World) : Prop :=
  ((∀ a ∈ l, 2 ≤ a ∧ a < size) → e = .returned (.int .i64 0) ∧ SpAt w' S W size (ofL l) ∧ Fr (fun k => k = S ∨ k = W) w w') ∧ (¬ (∀ a ∈ l, 2 ≤ a ∧ a < size) → e = .returned (.int .i64 2) ∧ w = w')

set_option maxHeartbeats 2000000 in
set_option maxRecDepth 100000 in
theorem spSet_any (S W size n : Nat) (t : Nat → Bool) (l : List Nat) (v : Value) (w : World) (h : SpAt w S W size t) (hv : Sl w 1 v n (l.map U32)) (hl : ∀ a ∈ l, a < 4294967296) (hn : n ≤ 140737488351232)
    (hno : ∀ a m c, v = .slice (some a) m c → ¬ (a.block = S ∨ a.block = W)) :
    Calls Tryz.prog 74 #[.pointer (some ⟨S, 0, none⟩), v] w (StPost w S W size l) := by
  have hln : l.length = n := by simpa using hv.1
  obtain ⟨av, cv, rfl, _⟩ := hv.len
  have HH := Lib.hid h
  have HV := Lib.hid hv
  have HL := Lib.hid hl
  have HLn := Lib.hid hln
  have HNo := Lib.hid hno
  have hs := h.2.2.1
  clear h hv hl hln hno
  go_enter Tryz.func74, Tryz.ntmps74
  go_wp2_with fail
  go_loop [14, 6, 7] (fun ii _ _ => ∃ i : Nat, i ≤ n ∧ ii = .int .i64 i ∧ ∀ a ∈ l.take i, 2 ≤ a ∧ a < size) (fun ii _ _ => n - (intOf ii).toNat)
  case atStart => exact ⟨0, Nat.zero_le _, rfl, fun a h => by simp at h⟩
  case round =>
    obtain ⟨i, hi, rfl, hok⟩ := hrel
    have HOk := Lib.hid hok
    clear hok
    rcases Nat.lt_or_ge i n with hlt | hge
    · obtain ⟨a, ha⟩ : ∃ a, l[i]? = some a := ⟨_, List.getElem?_eq_getElem (by rw [HLn.out]; exact hlt)⟩
      have hal := HL.out a (List.mem_of_getElem? ha)
      obtain ⟨_, a', c', e', _, _, hcv⟩ := HV.out
      simp only [Value.slice.injEq, true_and] at e'
      obtain ⟨rfl, rfl⟩ := e'
      obtain ⟨vb, vo, rfl, gv⟩ := hcv i (U32 a) (by rw [List.getElem?_map, ha]; rfl)
      unfold U32 at gv
      have his := spIs_any S W size a t w HH.out hal
      have HTk := Lib.hid (show l.take (i + 1) = l.take i ++ [a] by rw [List.take_succ_eq_append_getElem (by rw [HLn.out]; exact hlt), (List.getElem?_eq_some_iff.1 ha).2])
      have HMem := Lib.hid (List.mem_of_getElem? ha)
      clear hcv ha
      rcases Classical.em (2 ≤ a ∧ a < size) with hr | hr
      · rw [isE_ok hr] at his
        have HNext := Lib.hid (show ∀ c ∈ l.take (i + 1), 2 ≤ c ∧ c < size from fun c hc => by
          rw [HTk.out, List.mem_append, List.mem_singleton] at hc
          rcases hc with hc | rfl
          · exact HOk.out c hc
          · exact hr)
        have HIs := Lib.hid his
        clear his hr
        go_wp2_with fail
        refine HIs.out.mono ?_
        rintro e w1 ⟨rfl, rfl⟩
        go_wp2_with fail
        exact ⟨⟨i + 1, by omega, by go_num, HNext.out⟩, by simp [intOf]; omega⟩
      · rw [isE_bad hr] at his
        have HBad := Lib.hid (show ¬ ∀ c ∈ l, 2 ≤ c ∧ c < size from fun hh => hr (hh a HMem.out))
        have HIs := Lib.hid his
        clear his hr
        go_wp2_with fail
        refine HIs.out.mono ?_
        rintro e w1 ⟨rfl, rfl⟩
        go_wp2
        go_ret
        exact ⟨fun hh => absurd hh HBad.out, fun _ => ⟨rfl, rfl⟩⟩
    · obtain rfl : n = i := by omega
      have hok := HOk.out
      rw [List.take_of_length_le (by rw [HLn.out]; exact Nat.le_refl _)] at hok
      obtain ⟨ws, hws, hW, c1, c2, -, -, fs, -⟩ := HH.out.parts (a := 2) (by have := HH.out.2.1; omega)
      have hS := HH.out.2.2.2.2.1
      have HAll := Lib.hid hok
      have HWl := Lib.hid (show (ws.map UV).toArray.size = (size + 63) / 64 by simp [hws.1])
      have HW := Lib.hid hW
      have HS := Lib.hid hS
      clear hok hws hW hS HOk
      have hn0 : 0 < (size + 63) / 64 := by have := HH.out.2.1; omega
      obtain ⟨nw, hnw⟩ : ∃ k, k = (size + 63) / 64 := ⟨_, rfl⟩
      rw [← hnw] at c1 hn0 HWl HS
      have HN := Lib.hid hnw
      clear hnw c2 fs
      go_wp2_with (first | (refine clear_u64 rfl (.tmp 28) rfl rfl hn0 HW.out HWl.out ?_; intro w2 hg2 hf2; have HW2 := Lib.hid hg2; have HF2 := Lib.hid hf2; have HS2 := Lib.hid ((hf2.block S (lt_of_block HS.out) HH.out.1).trans HS.out); have d2 : w2.cell? ⟨S, 2, none⟩ = some (.int .i64 (cntT t size : Int)) := (cell_of_row _ _ 2 _ _ _ HS2.out).trans rfl; have e2 : w2.frozen? ⟨S, 2, none⟩ = false := (by simp [World.frozen?, HS2.out]); clear hg2 hf2))
      have HSt := Lib.hid (show SpAt (w2.setCell ⟨S, 2, none⟩ (.int .i64 0)) S W size (ofL (l.take 0)) ∧ Fr (fun k => k = S ∨ k = W) w (w2.setCell ⟨S, 2, none⟩ (.int .i64 0)) from by
        have f1 := (HF2.out.mono (T := fun k => k = S ∨ k = W) (fun k _ e => Or.inr e)).set S 2 (Or.inl rfl) (.int .i64 0)
        refine ⟨⟨HH.out.1, HH.out.2.1, HH.out.2.2.1, TOk.none size, ?_, _, WsOk.none size, ?_⟩, f1⟩
        · rw [← HN.out, show cntT (ofL (l.take 0)) size = 0 from cntT_none size]
          exact heap_setCell_same w2 S 2 _ _ _ HS2.out
        · rw [← HN.out]
          exact (((Fr.refl (fun k => k = S) w2).set S 2 rfl (.int .i64 0)).block W (lt_of_block HW2.out) (Ne.symm HH.out.1)).trans HW2.out)
      clear d2 e2 HW2 HF2 HS2
      go_loopw [34, 9] (fun ii _ wr => ∃ i : Nat, i ≤ n ∧ ii = .int .i64 i ∧ SpAt wr S W size (ofL (l.take i)) ∧ Fr (fun k => k = S ∨ k = W) w wr) (fun ii _ _ => n - (intOf ii).toNat)
      case atStart => exact ⟨0, Nat.zero_le _, rfl, HSt.out.1, HSt.out.2⟩
      case round =>
        clear HSt HW HWl HS
        obtain ⟨i, hi, rfl, hsp, hf⟩ := hrel
        have HSp := Lib.hid hsp
        have HF := Lib.hid hf
        have HVr := Lib.hid (HV.out.fr hf HNo.out)
        clear hsp hf
        rcases Nat.lt_or_ge i n with hlt | hge
        · obtain ⟨a, ha⟩ : ∃ a, l[i]? = some a := ⟨_, List.getElem?_eq_getElem (by rw [HLn.out]; exact hlt)⟩
          have hr := HAll.out a (List.mem_of_getElem? ha)
          obtain ⟨_, a', c', e', _, _, hcv⟩ := HVr.out
          simp only [Value.slice.injEq, true_and] at e'
          obtain ⟨rfl, rfl⟩ := e'
          obtain ⟨vb, vo, rfl, gv⟩ := hcv i (U32 a) (by rw [List.getElem?_map, ha]; rfl)
          unfold U32 at gv
          have HSu := Lib.hid (ofL_succ l i a ha)
          have hal : a < 4294967296 := by omega
          have HR := Lib.hid hr
          clear hcv ha hr
          go_wp2_with fail
          cases ht : ofL (l.take i) a with
          | true =>
            refine (spMark_there S W size a _ wr HSp.out hal ht).mono ?_
            rintro e w3 ⟨rfl, rfl⟩
            have HRel := Lib.hid (show SpAt wr S W size (ofL (l.take (i + 1))) by rw [HSu.out, updT_same _ _ _ ht]; exact HSp.out)
            clear ht
            go_wp2_with fail
            exact ⟨⟨i + 1, by omega, by go_num, HRel.out, HF.out⟩, by simp [intOf]; omega⟩
          | false =>
            refine (spMark_ok S W size a _ wr HSp.out HR.out ht).mono ?_
            rintro e w3 ⟨rfl, hs3, hf3⟩
            rw [← HSu.out] at hs3
            have HS3 := Lib.hid hs3
            have HF3 := Lib.hid (HF.out.trans hf3)
            clear ht hs3 hf3
            go_wp2_with fail
            exact ⟨⟨i + 1, by omega, by go_num, HS3.out, HF3.out⟩, by simp [intOf]; omega⟩
        · obtain rfl : n = i := by omega
          have hsp := HSp.out
          rw [List.take_of_length_le (by rw [HLn.out]; exact Nat.le_refl _)] at hsp
          have HSp2 := Lib.hid hsp
          clear hsp HSp
          go_wp2
          go_ret
          exact ⟨fun _ => ⟨rfl, HSp2.out, HF.out⟩, fun hh => absurd HAll.out hh⟩

theorem infoZ_u32 : (Tryz.prog.info? 41).map (fun i => (i.zero, i.size, i.bytes)) = some (some (.int .u32 0), 1, 4) := by kernel_rfl
/-- append of one number onto own numbers. -/
theorem appendZ_u32 {w : World} {ops : Array Oper} {rest : List Oper} {o : Oper} {a : Act} {Q : Exit → Act → World → Prop} (hgd : o.guard = none) (s x : Operand)
    (ho : o.op = .call { callee := .builtin .append, args := #[s, x], argTypes := #[54, 54] })
    {base : Nat} {v : Value} {n : Nat} {xs : List Nat} (hown : w.ownsRow base 41 1 v n (xs.map U32)) {vx : Value} {m : Nat} {news : List Nat} (hx : Sl w 1 vx m (news.map U32))
    (hs : a.eval s = v) (hxe : a.eval x = vx) (hr : n + m ≤ 1000000000) (hbase : base ≤ w.heap.size)
    (h : ∀ aa cc w', w'.ownsRow base 41 1 (.slice aa (n + m) cc) (n + m) ((xs ++ news).map U32) → Fr (fun k => v.ownBlock = some k) w w' → ((Value.slice aa (n + m) cc).ownBlock = v.ownBlock ∨ (Value.slice aa (n + m) cc).ownBlock = some w.heap.size) →
      wpList Tryz.prog ops Q rest (a.put o.dst (.slice aa (n + m) cc)) w') : wpList Tryz.prog ops Q (o :: rest) a w := by
  obtain ⟨i0, hi, hz0, hz1, hz2⟩ := info_parts infoZ_u32
  refine wpList_append_sl hgd s x 54 ho base 41 i0 (.int .u32 0) 1 4 Tryz.underlying54 hi hz0 hz1 hz2 rfl (by decide) v n _ hs hown vx m _ hxe hx (U32_one' _) (by unfold maxLen; omega) (by omega) hbase ?_
  intro aa cc w' h2 hg h3
  rw [← List.map_append] at h2
  exact h aa cc w' h2 ((Fr.refl _ w).grown hg (fun k hk => Or.inl hk)) h3

theorem listT_succ (t : Nat → Bool) (n : Nat) : listT t (n + 1) = listT t n ++ if t n then [n] else [] := by
  unfold listT
  rw [List.range_succ, List.filter_append]
  cases h : t n <;> simp [h]
theorem listT_skip (t : Nat → Bool) (n : Nat) : ∀ d, (∀ j, j < d → t (n + j) = false) → listT t (n + d) = listT t n
  | 0, _ => rfl
  | d + 1, h => by rw [← Nat.add_assoc, listT_succ, h d (by omega), listT_skip t n d (fun j hj => h j (by omega))]; simp
theorem listT_length (t : Nat → Bool) (n : Nat) : (listT t n).length = cntT t n := rfl
theorem listT_size {t : Nat → Bool} {size : Nat} (h : TOk size t) (n : Nat) (hn : size ≤ n) : listT t n = listT t size := by
  have := listT_skip t size (n - size) (fun j _ => by
    cases ht : t (size + j) with
    | false => rfl
    | true => have := (h _ ht).2; omega)
  rwa [show size + (n - size) = n by omega] at this

/-- The lowest bit taken off. -/
theorem drop_bit (y : Nat) (h0 : y ≠ 0) (h : y < 2 ^ 64) : y &&& (y - 1) < y ∧ ∀ j, (y &&& (y - 1)).testBit j = (decide (Lib.ctz 64 y < j) && y.testBit j) := by
  unfold Lib.ctz
  rw [if_neg h0]
  obtain ⟨m, hm, hk⟩ := Lib.ctzFrom_spec 64 y (Nat.pos_of_ne_zero h0) h
  obtain ⟨k, hkk⟩ : ∃ k, k = Lib.ctzFrom 64 y := ⟨_, rfl⟩
  rw [← hkk] at hm hk ⊢
  have hp : 0 < 2 ^ k := Nat.two_pow_pos k
  have hbit : ∀ j, (y &&& (y - 1)).testBit j = (decide (k < j) && y.testBit j) := by
    intro j
    have e1 : y - 1 = 2 ^ k * (2 * m) + (2 ^ k - 1) := by rw [hm, Nat.mul_add, Nat.mul_one]; omega
    rw [Nat.testBit_and, e1, Nat.testBit_two_pow_mul_add _ (by omega : 2 ^ k - 1 < 2 ^ k), Nat.testBit_two_pow_sub_one]
    rcases Nat.lt_trichotomy j k with hj | hj | hj
    · rw [if_pos hj, hm, Nat.testBit_two_pow_mul]; simp [Nat.not_le.2 hj, show ¬ k < j by omega]
    · subst hj
      rw [if_neg (by omega), Nat.sub_self]; simp [Nat.testBit_zero]
    · rw [if_neg (by omega), hm, Nat.testBit_two_pow_mul]
      obtain ⟨d, rfl⟩ : ∃ d, j = k + d + 1 := ⟨j - k - 1, by omega⟩
      rw [show k + d + 1 - k = d + 1 by omega, Nat.testBit_succ, Nat.testBit_succ]
      rw [show 2 * m / 2 = m by omega, show (2 * m + 1) / 2 = m by omega]
      simp [show k ≤ k + d + 1 by omega, show k < k + d + 1 by omega]
  refine ⟨?_, hbit⟩
  apply Nat.lt_of_le_of_ne Nat.and_le_left
  intro e
  have := hbit k
  rw [e, hm, Nat.testBit_two_pow_mul] at this
  simp at this

set_option maxRecDepth 100000 in
set_option maxHeartbeats 2000000 in
theorem spTaken_any (S W size : Nat) (t : Nat → Bool) (w : World) (h : SpAt w S W size t) (hT : Tz w) :
    Calls Tryz.prog 89 #[.pointer (some ⟨S, 0, none⟩)] w fun e w' => ∃ aa cc, e = .returned (.slice aa (cntT t size) cc) ∧ w'.ownsRow w.heap.size 41 1 (.slice aa (cntT t size) cc) (cntT t size) ((listT t size).map U32) ∧ Below w.heap.size w w' := by
  obtain ⟨ws, hws, hW, c1, -, -, -, -, -⟩ := h.parts (a := 2) (by have := h.2.1; omega)
  have hle := h.2.2.1
  obtain ⟨nw, hnw⟩ : ∃ n, n = (size + 63) / 64 := ⟨_, rfl⟩
  rw [← hnw] at c1
  have hn64 : nw ≤ 64 := by omega
  have HN := Lib.hid hnw
  have HWs := Lib.hid hws
  have HW := Lib.hid hW
  have HH := Lib.hid h
  have HT := Lib.hid hT
  clear hnw hws hW h hT
  go_enter Tryz.func89, Tryz.ntmps89
  go_wp2_with fail
  go_loopw [12, 2, 3, 4] (fun ii v _ _ wr => ∃ (i m : Nat), i ≤ nw ∧ ii = .int .i64 i ∧ m = cntT t (64 * i) ∧ (∃ a c, v = .slice a m c) ∧ wr.ownsRow w.heap.size 41 1 v m ((listT t (64 * i)).map U32) ∧ Below w.heap.size w wr) (fun ii _ _ _ _ => nw - (intOf ii).toNat)
  case atStart => exact ⟨0, 0, Nat.zero_le _, rfl, rfl, ⟨_, _, rfl⟩, World.ownsRow_nil _ _ _ _, Below.refl _ _⟩
  case round =>
    obtain ⟨i, m, hi, rfl, hm, ⟨av, cv, rfl⟩, ho, hb⟩ := hrel
    have HO := Lib.hid ho
    have HB := Lib.hid hb
    have HM := Lib.hid hm
    clear ho hb hm
    rcases Nat.lt_or_ge i nw with hlt | hge
    · have cw : wr.cell? ⟨W, i, none⟩ = some (.int .u64 (ws.getD i 0 : Int)) := by
        rw [HB.out.cell (p := ⟨W, i, none⟩) (lt_of_block HW.out), cell_of_row _ _ _ _ _ _ HW.out, List.getElem?_toArray, List.getElem?_map, getD_idx (by rw [HWs.out.1, ← HN.out]; exact hlt)]; rfl
      have hbit := fun j hj => HWs.out.2.2 i j (by rw [HWs.out.1, ← HN.out]; exact hlt) hj
      have hx := getD_lt HWs.out i
      obtain ⟨x, hxx⟩ : ∃ x, x = ws.getD i 0 := ⟨_, rfl⟩
      rw [← hxx] at cw hbit hx
      have HBit := Lib.hid hbit
      have HX := Lib.hid hx
      clear hxx hbit hx
      go_wp2_with fail
      obtain ⟨wo, hwo⟩ : ∃ wo : World, wo = wr := ⟨_, rfl⟩
      rw [← hwo] at HO HB cw ⊢
      clear hwo cw
      go_loopw [4, 2] (fun yy v wr => ∃ (p y m : Nat), p ≤ 64 ∧ y < 2 ^ 64 ∧ yy = .int .u64 y ∧ (∀ j, j < 64 → y.testBit j = (decide (p ≤ j) && t (64 * i + j))) ∧ m = cntT t (64 * i + p) ∧ (∃ a c, v = .slice a m c) ∧ wr.ownsRow w.heap.size 41 1 v m ((listT t (64 * i + p)).map U32) ∧ Below w.heap.size w wr) (fun yy _ _ => (intOf yy).toNat)
      case atStart => exact ⟨0, x, m, by omega, HX.out, rfl, fun j hj => by rw [HBit.out j hj]; simp, HM.out, ⟨_, _, rfl⟩, HO.out, HB.out⟩
      case round =>
        clear HO HB HM HBit HX
        obtain ⟨p, y, m, hp, hy, rfl, hbit, hm, ⟨av, cv, rfl⟩, ho, hb⟩ := hrel
        have HO := Lib.hid ho
        have HB := Lib.hid hb
        have HM := Lib.hid hm
        have HBit := Lib.hid hbit
        have HY := Lib.hid hy
        clear ho hb hm hbit hy
        rcases Nat.eq_zero_or_pos y with hy0 | hy0
        · have bz : ((y : Int) != 0) = false := by simp [hy0]
          have hfull : listT t (64 * i + 64) = listT t (64 * i + p) := by
            have := listT_skip t (64 * i + p) (64 - p) (fun j hj => by
              have := HBit.out (p + j) (by omega)
              rw [hy0, Nat.zero_testBit] at this
              simp only [show p ≤ p + j by omega, decide_true, Bool.true_and] at this
              rw [Nat.add_assoc]; exact this.symm)
            rwa [show 64 * i + p + (64 - p) = 64 * i + 64 by omega] at this
          have HFull := Lib.hid hfull
          clear hfull hy0
          go_wp2_with fail
          refine ⟨⟨i + 1, m, by omega, by go_num, ?_, ⟨_, _, rfl⟩, ?_, HB.out⟩, by simp [intOf]; omega⟩
          · rw [HM.out, ← listT_length, ← listT_length, ← HFull.out]; rfl
          · rw [show 64 * (i + 1) = 64 * i + 64 by omega, HFull.out]; exact HO.out
        · have bz : ((y : Int) != 0) = true := by simp; omega
          obtain ⟨hk64, hk1, hk0⟩ := ctz_spec y (by omega) HY.out
          obtain ⟨hdl, hdb⟩ := drop_bit y (by omega) HY.out
          have htz := fun u hu => tz_any y HY.out u hu
          obtain ⟨k, hk⟩ : ∃ k, k = Lib.ctz 64 y := ⟨_, rfl⟩
          rw [← hk] at htz hk64 hk1 hk0 hdb
          have hkb := HBit.out k hk64
          rw [hk1] at hkb
          have hkb2 := (Bool.and_eq_true_iff.1 hkb.symm)
          have hpk : p ≤ k := by simpa using hkb2.1
          have hlist : listT t (64 * i + (k + 1)) = listT t (64 * i + p) ++ [64 * i + k] := by
            have := listT_skip t (64 * i + p) (k - p) (fun j hj => by
              have h1 := HBit.out (p + j) (by omega)
              rw [hk0 _ (by omega)] at h1
              simp only [show p ≤ p + j by omega, decide_true, Bool.true_and] at h1
              rw [Nat.add_assoc]; exact h1.symm)
            rw [show 64 * i + p + (k - p) = 64 * i + k by omega] at this
            rw [← Nat.add_assoc, listT_succ, hkb2.2, this]; rfl
          have hand := u64_and_nat y (y - 1) HY.out (by have := HY.out; omega)
          obtain ⟨z, hz⟩ : ∃ z, z = y &&& (y - 1) := ⟨_, rfl⟩
          rw [← hz] at hdl hdb hand
          rw [show ((y - 1 : Nat) : Int) = (y : Int) - 1 by omega] at hand
          have hor := i64_or_nat (64 * i) k (by omega) (by omega)
          rw [or64 i k hk64] at hor
          obtain ⟨a, ha⟩ : ∃ a, a = 64 * i + k := ⟨_, rfl⟩
          have hal : a < 4294967296 := by omega
          rw [← ha] at hor hlist
          have HOr := Lib.hid (show bits .or .i64 ((i : Int) * 64) (k : Int) % 4294967296 = (a : Int) by rw [show (i : Int) * 64 = ((64 * i : Nat) : Int) by omega, hor]; omega)
          have HList := Lib.hid hlist
          have HZ := Lib.hid (show ∀ j, j < 64 → z.testBit j = (decide (k + 1 ≤ j) && t (64 * i + j)) from fun j hj => by
            rw [hdb j, HBit.out j hj]
            by_cases hc : k < j
            · simp [hc, show p ≤ j by omega, show k + 1 ≤ j by omega]
            · simp [hc, show ¬ k + 1 ≤ j by omega])
          have HTz := Lib.hid (htz wr (HT.out.below HB.out))
          have HMl := Lib.hid (show m ≤ 4096 + 64 by
            rw [HM.out]
            have := cntT_le t (64 * i + p)
            omega)
          have HDl := Lib.hid hdl
          have HAnd := Lib.hid hand
          clear htz hk hk1 hk0 hdb hkb hkb2 hlist hz hor ha hand hdl
          have hyb : y < 18446744073709551616 := HY.out
          have HSl := Lib.hid (show Sl (wr.alloc (.cells #[.int .u32 (bits .or .i64 ((i : Int) * 64) (k : Int) % 4294967296)] 41)) 1 (.slice (some ⟨wr.heap.size, 0, none⟩) 1 1) 1 ([a].map U32) from
            Sl_row (heap_alloc_new _ _) (by rw [HOr.out]; rfl) rfl)
          have hszb := HB.out.size
          go_wp2_with fail
          refine HTz.out.mono ?_
          rintro e w3 ⟨rfl, rfl⟩
          go_wp2_with (refine appendZ_u32 rfl (.tmp 23) (.tmp 30) rfl (HO.out.alloc _) HSl.out rfl rfl (by have := HMl.out; omega) (by simp; omega) ?_; intro aa cc w4 hown4 hf4 _; have HO4 := Lib.hid hown4; have HF4 := Lib.hid hf4; clear hown4 hf4)
          rw [HAnd.out]
          refine ⟨⟨k + 1, z, m + 1, by omega, by have := HDl.out; have := HY.out; omega, rfl, HZ.out, ?_, ⟨_, _, rfl⟩, ?_, ?_⟩, ?_⟩
          · rw [HM.out, ← listT_length, ← listT_length, HList.out, List.length_append]; rfl
          · rw [HList.out]; exact HO4.out
          · have ha := HB.out.alloc (o := .cells #[.int .u32 (bits .or .i64 ((i : Int) * 64) (k : Int) % 4294967296)] 41) HB.out.size
            exact ha.trans (HF4.out.below ha.size (fun b hb => (HO.out.lt b hb).1))
          · simp [intOf]; have := HDl.out; omega
    · obtain rfl : i = nw := by omega
      have hsz := HN.out
      have e1 := listT_size HH.out.2.2.2.1 (64 * i) (by omega)
      have e2 : m = cntT t size := by rw [HM.out, ← listT_length, e1, listT_length]
      subst e2
      have ho := HO.out
      rw [e1] at ho
      have HO2 := Lib.hid ho
      clear ho e1 hsz HO
      go_wp2
      go_ret
      exact ⟨_, _, rfl, HO2.out, HB.out⟩

end Go.Proofs.YtkbnkdokcmpcgaaGreatDoor
