/- Walks: dev.New, there, may, step, Size, Down, Limit, Read, Peek. Walks: dev.quiet, Write, Peek, Poke. Walks: dev.Write's other ends, Flush, Peek, Poke. -/
import Derived.Test.YtkbnkdokcmpcgaaGreatDoorB9
import Derived.Test.YtkbnkdokcmpcgaaGreatDoorB10
namespace Go.Proofs.YtkbnkdokcmpcgaaGreatDoor
open Go.RowKit

theorem info_sec : (Tryz.prog.info? 156).map (·.size) = some 512 := by kernel_rfl
theorem zero_sec (w : World) : (zeroValue 156).run Tryz.prog w = .ok (SecV (zB 512)) w := by kernel_rfl
theorem zero_int (w : World) : (zeroValue 3).run Tryz.prog w = .ok (.int .i64 0) w := by kernel_rfl

theorem lookup_sec {ops : Array Oper} {rest : List Oper} {o : Oper} {a : Act} {w : World} {Q : Exit → Act → World → Prop} (hgd : o.guard = none) (m x : Operand) (ho : o.op = .lookup 148 m x false)
    {L n : Nat} {ml : List (Nat × Value)} {lies : Nat → List UInt8} (hm : a.eval m = .map (some L)) (hx : a.eval x = .int .u32 (n : Int)) (hu : UM w L ml) (hl : LieM ml lies)
    (hK : wpList Tryz.prog ops Q rest (a.put o.dst (SecV (lies n))) w) : wpList Tryz.prog ops Q (o :: rest) a w := by
  refine wpList_plain hgd fun K hKK => ?_
  have hr := run_lookup_um (P := Tryz.prog) hu Tryz.underlying148 Tryz.underlying41 (zero_sec w) false (n := n)
  rw [if_neg (by decide), hl n] at hr
  unfold kU at hr
  unfold Oper.wp execOp
  simp only [ho, hm, hx, Sem.run_bind, hr, Result.andThen_ok]
  exact hKK _ _ hK
theorem lookup_last {ops : Array Oper} {rest : List Oper} {o : Oper} {a : Act} {w : World} {Q : Exit → Act → World → Prop} (hgd : o.guard = none) (m x : Operand) (ho : o.op = .lookup 150 m x true)
    {T n : Nat} {mt : List (Nat × Value)} {ws : List (Nat × List UInt8)} (hm : a.eval m = .map (some T)) (hx : a.eval x = .int .u32 (n : Int)) (hu : UM w T mt) (hl : LastM mt ws) (r : Value) (hr0 : r = .tuple #[.int .i64 (((lastI ws n).getD 0 : Nat) : Int), .bool (lastI ws n).isSome])
    (hK : wpList Tryz.prog ops Q rest (a.put o.dst r) w) : wpList Tryz.prog ops Q (o :: rest) a w := by
  refine wpList_plain hgd fun K hKK => ?_
  have hr := run_lookup_um (P := Tryz.prog) hu Tryz.underlying150 Tryz.underlying41 (zero_int w) true (n := n)
  rw [if_pos rfl, hl n, Option.isSome_map] at hr
  unfold kU at hr
  have e : ((lastI ws n).map fun i : Nat => Value.int .i64 (i : Int)).getD (.int .i64 0) = .int .i64 (((lastI ws n).getD 0 : Nat) : Int) := by cases lastI ws n <;> rfl
  rw [e, ← hr0] at hr
  unfold Oper.wp execOp
  simp only [ho, hm, hx, Sem.run_bind, hr, Result.andThen_ok]
  exact hKK _ _ hK

theorem dvThere_ok (D size a : Nat) (w : World) (c0 : w.cell? ⟨D, 0, none⟩ = some (.int .i64 (size : Int))) (ha : a < size) (hs : size ≤ 4096) :
    Calls Tryz.prog 79 #[.pointer (some ⟨D, 0, none⟩), .int .u32 (a : Int)] w fun e w' => e = .returned (.int .i64 0) ∧ w = w' := by
  have b1 : decide ((size : Int) ≤ (a : Int)) = false := by simp; omega
  have b2 : decide (size ≤ a) = false := by simp; omega
  go_enter Tryz.func79, Tryz.ntmps79
  go_wp2
  go_ret
  exact ⟨rfl, rfl⟩
theorem dvMay_ok (D size a c : Nat) (av : Option Addr) (w : World) (c0 : w.cell? ⟨D, 0, none⟩ = some (.int .i64 (size : Int))) (ha : a < size) (hs : size ≤ 4096) :
    Calls Tryz.prog 81 #[.pointer (some ⟨D, 0, none⟩), .int .u32 (a : Int), .slice av 512 c] w fun e w' => e = .returned (.int .i64 0) ∧ w = w' := by
  have HT := Lib.hid (dvThere_ok D size a w c0 ha hs)
  clear c0 ha
  go_enter Tryz.func81, Tryz.ntmps81
  go_wp2_with fail
  refine HT.out.mono ?_
  rintro e w1 ⟨rfl, rfl⟩
  go_wp2
  go_ret
  exact ⟨rfl, rfl⟩

theorem dvSize_any (D size : Nat) (w : World) (c0 : w.cell? ⟨D, 0, none⟩ = some (.int .i64 (size : Int))) :
    Calls Tryz.prog 67 #[.pointer (some ⟨D, 0, none⟩)] w fun e w' => e = .returned (.int .i64 (size : Int)) ∧ w = w' := by
  go_enter Tryz.func67, Tryz.ntmps67
  go_wp2
  go_ret
  exact ⟨rfl, rfl⟩
theorem dvDown_any (D : Nat) (b : Bool) (w : World) (c5 : w.cell? ⟨D, 5, none⟩ = some (.bool b)) :
    Calls Tryz.prog 39 #[.pointer (some ⟨D, 0, none⟩)] w fun e w' => e = .returned (.bool b) ∧ w = w' := by
  go_enter Tryz.func39, Tryz.ntmps39
  go_wp2
  go_ret
  exact ⟨rfl, rfl⟩

theorem DvAt.cells {w : World} {lo D L T : Nat} {wv : Value} {d : Dv} (h : DvAt w lo D L T wv d) : w.cell? ⟨D, 0, none⟩ = some (.int .i64 (d.size : Int)) ∧ w.cell? ⟨D, 1, none⟩ = some (.map (some L)) ∧ w.cell? ⟨D, 2, none⟩ = some wv ∧ w.cell? ⟨D, 3, none⟩ = some (.map (some T)) ∧
    w.cell? ⟨D, 4, none⟩ = some (.int .i64 d.left) ∧ w.cell? ⟨D, 5, none⟩ = some (.bool d.down) ∧ (∀ i, w.frozen? ⟨D, i, none⟩ = false) := by
  have e := h.row
  exact ⟨(cell_of_row _ _ 0 _ _ _ e).trans rfl, (cell_of_row _ _ 1 _ _ _ e).trans rfl, (cell_of_row _ _ 2 _ _ _ e).trans rfl, (cell_of_row _ _ 3 _ _ _ e).trans rfl, (cell_of_row _ _ 4 _ _ _ e).trans rfl, (cell_of_row _ _ 5 _ _ _ e).trans rfl, fun i => by simp [World.frozen?, e]⟩

set_option maxHeartbeats 1000000 in
theorem dvNew_ok (size : Nat) (w : World) (h1 : 16 ≤ size) (h2 : size ≤ 4096) :
    Calls Tryz.prog 61 #[.int .i64 (size : Int)] w fun e w' => ∃ D F, e = .returned (.tuple #[.pointer (some ⟨D, 0, none⟩), .int .i64 0]) ∧ DvIn w' w.heap.size D F (Dv.new size) ∧ (∀ k, F k → w.heap.size ≤ k) ∧ Below w.heap.size w w' := by
  have b1 : decide ((size : Int) < 16) = false := by simp; omega
  have b2 : decide ((4096 : Int) < (size : Int)) = false := by simp; omega
  have hmm := @run_makeMap Tryz.prog
  go_enter Tryz.func61, Tryz.ntmps61
  go_wp2_with fail
  go_ret2
  have hA := al3_0 w (.map #[] 0) (.map #[] 0) (.cells #[.int .i64 (size : Int), .map (some w.heap.size), .slice none 0 0, .map (some (w.heap.size + 1)), .int .i64 (-1), .bool false] 152)
  have hB := al3_1 w (.map #[] 0) (.map #[] 0) (.cells #[.int .i64 (size : Int), .map (some w.heap.size), .slice none 0 0, .map (some (w.heap.size + 1)), .int .i64 (-1), .bool false] 152)
  have hC := al3_2 w (.map #[] 0) (.map #[] 0) (.cells #[.int .i64 (size : Int), .map (some w.heap.size), .slice none 0 0, .map (some (w.heap.size + 1)), .int .i64 (-1), .bool false] 152)
  have um : ∀ u b, u.heap[b]? = some (.map #[] 0) → UM u b [] := fun u b h => ⟨#[], 0, h, rfl, by simp, by simp, by simp⟩
  refine ⟨_, DvF (w.heap.size + 1 + 1) w.heap.size (w.heap.size + 1) (.slice none 0 0), rfl, ⟨_, _, _, ⟨hC, ⟨[], um _ _ hA, fun _ => rfl⟩, ⟨[], um _ _ hB, fun _ => rfl⟩, World.ownsRow_nil _ _ _ _, Dv.Wf.new h1 h2, by omega, by omega, by omega, by omega, Nat.le_refl _, by omega⟩, fun _ h => h⟩, ?_, al_three _ _ _ _⟩
  rintro k (rfl | rfl | rfl | hk)
  · omega
  · exact Nat.le_refl _
  · omega
  · cases hk

set_option maxHeartbeats 2000000 in
theorem dvStep_any (D lo L T : Nat) (wv : Value) (d : Dv) (w : World) (h : DvAt w lo D L T wv d) :
    Calls Tryz.prog 78 #[.pointer (some ⟨D, 0, none⟩)] w fun e w' => e = .returned (.bool (!d.step.down)) ∧ DvAt w' lo D L T wv d.step ∧ Fr (fun k => k = D) w w' := by
  obtain ⟨c0, c1, c2, c3, c4, c5, fz⟩ := h.cells
  have f4 := fz 4
  have f5 := fz 5
  have hrow := h.row
  have hd : ∃ (lf : Int) (dn : Bool), lf = d.left ∧ dn = d.down := ⟨_, _, rfl, rfl⟩
  obtain ⟨lf, dn, hlf, hdn⟩ := hd
  have hr := h.wf.left
  rw [← hlf] at hr c4
  rw [← hdn] at c5
  have hEnd : ∀ w', w' = (w.setCell ⟨D, 5, none⟩ (.bool (dn || decide (lf = 0)))) ∧ ¬ 0 < lf ∨ w' = (w.setCell ⟨D, 5, none⟩ (.bool (dn || decide (lf = 0)))).setCell ⟨D, 4, none⟩ (.int .i64 (lf - 1)) ∧ 0 < lf → DvAt w' lo D L T wv d.step ∧ Fr (fun k => k = D) w w' := by
    intro w' hw'
    have f1 := (Fr.refl (fun k => k = D) w).set D 5 rfl (.bool (dn || decide (lf = 0)))
    have r1 := heap_setCell_same w D 5 _ _ (.bool (dn || decide (lf = 0))) hrow
    have hall : ∀ w', Fr (fun k => k = D) w w' → w'.heap[D]? = some (.cells #[.int .i64 (d.size : Int), .map (some L), wv, .map (some T), .int .i64 d.step.left, .bool d.step.down] 152 (0, 0)) → DvAt w' lo D L T wv d.step ∧ Fr (fun k => k = D) w w' := by
      intro w' hf hrow'
      refine ⟨⟨hrow', ?_, ?_, ?_, h.wf.step, h.nDL, h.nDT, h.nLT, h.nD, h.nL, h.nT⟩, hf⟩
      · obtain ⟨ml, h1, h2⟩ := h.lm; exact ⟨ml, h1.fr hf (fun e => h.nDL e.symm), h2⟩
      · obtain ⟨mt, h1, h2⟩ := h.tm; exact ⟨mt, h1.fr hf (fun e => h.nDT e.symm), h2⟩
      · exact h.wt.fr hf (fun k hk e => (h.own_ne k hk).1 e)
    rcases hw' with ⟨rfl, h0⟩ | ⟨rfl, h0⟩
    · refine hall _ f1 ?_
      rw [r1]
      unfold Dv.step
      dsimp only
      rw [← hlf, ← hdn, if_neg h0]
      simp [hlf]
    · refine hall _ (f1.set D 4 rfl _) ?_
      rw [heap_setCell_same _ D 4 _ _ _ r1]
      unfold Dv.step
      dsimp only
      rw [← hlf, ← hdn, if_pos h0]
      simp
  have HEnd := Lib.hid hEnd
  have HS := Lib.hid (show d.step.down = (dn || decide (lf = 0)) by rw [hlf, hdn]; rfl)
  clear hEnd hrow hlf hdn h c0 c1 c2 c3 fz
  have oth : ∀ (b : Bool), (w.setCell ⟨D, 5, none⟩ (.bool b)).cell? ⟨D, 4, none⟩ = some (.int .i64 lf) := fun b => by rw [World.cell?_setCell_other _ _ _ _ (by simp)]; exact c4
  cases dn with
  | true =>
    have c4' := oth true
    clear oth
    rcases Classical.em (0 < lf) with h0 | h0
    · have b1 : decide (0 < lf) = true := by simpa using h0
      go_enter Tryz.func78, Tryz.ntmps78
      go_wp2
      go_ret
      exact ⟨by rw [HS.out]; rfl, HEnd.out _ (Or.inr ⟨rfl, h0⟩)⟩
    · have b1 : decide (0 < lf) = false := by simpa using h0
      go_enter Tryz.func78, Tryz.ntmps78
      go_wp2
      go_ret
      exact ⟨by rw [HS.out]; rfl, HEnd.out _ (Or.inl ⟨rfl, h0⟩)⟩
  | false =>
    rcases Classical.em (lf = 0) with rfl | hz
    · have c4' := oth true
      have h0 : ¬ (0 : Int) < 0 := by omega
      clear oth
      go_enter Tryz.func78, Tryz.ntmps78
      go_wp2
      go_ret
      exact ⟨by rw [HS.out]; rfl, HEnd.out _ (Or.inl ⟨rfl, h0⟩)⟩
    · have bz : (lf == 0) = false := by simpa using hz
      have c4' := oth false
      clear oth
      rcases Classical.em (0 < lf) with h0 | h0
      · have b1 : decide (0 < lf) = true := by simpa using h0
        have HS2 := Lib.hid (show (false || decide (lf = 0)) = false by simp [hz])
        rw [HS2.out] at HS HEnd
        go_enter Tryz.func78, Tryz.ntmps78
        go_wp2
        go_ret
        exact ⟨by rw [HS.out]; rfl, HEnd.out _ (Or.inr ⟨rfl, h0⟩)⟩
      · have b1 : decide (0 < lf) = false := by simpa using h0
        have HS2 := Lib.hid (show (false || decide (lf = 0)) = false by simp [hz])
        rw [HS2.out] at HS HEnd
        go_enter Tryz.func78, Tryz.ntmps78
        go_wp2
        go_ret
        exact ⟨by rw [HS.out]; rfl, HEnd.out _ (Or.inl ⟨rfl, h0⟩)⟩

theorem dvLimit_any (D lo : Nat) (F : Nat → Prop) (d : Dv) (n : Int) (w : World) (h : DvIn w lo D F d) (hn : -9223372036854775808 ≤ n ∧ n ≤ 9223372036854775807) :
    Calls Tryz.prog 26 #[.pointer (some ⟨D, 0, none⟩), .int .i64 n] w fun e w' => e = .returned (.tuple #[]) ∧ DvIn w' lo D F (d.limit n) ∧ Fr F w w' := by
  obtain ⟨L, T, wv, h, hF⟩ := h
  obtain ⟨c0, c1, c2, c3, c4, c5, fz⟩ := h.cells
  have f4 := fz 4
  have HEnd := Lib.hid (show ∀ x, x = max n (-1) → DvIn (w.setCell ⟨D, 4, none⟩ (.int .i64 x)) lo D F (d.limit n) ∧ Fr F w (w.setCell ⟨D, 4, none⟩ (.int .i64 x)) from fun x hx => by
    have f1 := (Fr.refl (fun k => k = D) w).set D 4 rfl (.int .i64 x)
    have r1 := heap_setCell_same w D 4 _ _ (.int .i64 x) h.row
    refine ⟨⟨L, T, wv, ⟨by rw [r1, hx]; rfl, ?_, ?_, ?_, h.wf.limit hn.2, h.nDL, h.nDT, h.nLT, h.nD, h.nL, h.nT⟩, hF⟩, f1.mono (fun k _ e => hF k (Or.inl e))⟩
    · obtain ⟨ml, h1, h2⟩ := h.lm; exact ⟨ml, h1.fr f1 (fun e => h.nDL e.symm), h2⟩
    · obtain ⟨mt, h1, h2⟩ := h.tm; exact ⟨mt, h1.fr f1 (fun e => h.nDT e.symm), h2⟩
    · exact h.wt.fr f1 (fun k hk e => (h.own_ne k hk).1 e))
  clear h hF c0 c1 c2 c3 c5 fz
  go_enter Tryz.func26, Tryz.ntmps26
  go_wp2
  all_goals (go_end0; exact ⟨rfl, HEnd.out _ (by omega)⟩)

set_option maxHeartbeats 1000000 in
theorem dvRead_down (D a lo : Nat) (F : Nat → Prop) (d : Dv) (w : World) (h : DvIn w lo D F d) (ha : a < d.size) (hd : d.down = true) :
    Calls Tryz.prog 40 #[.pointer (some ⟨D, 0, none⟩), .int .u32 (a : Int)] w fun e w' => e = .returned (.tuple #[.slice none 0 0, .int .i64 7]) ∧ w = w' := by
  obtain ⟨L, T, wv, h, hF⟩ := h
  have c5 := h.cells.2.2.2.2.2.1
  rw [hd] at c5
  have HT := Lib.hid (dvThere_ok D d.size a w h.cells.1 ha h.wf.hi)
  clear h hF ha hd
  go_enter Tryz.func40, Tryz.ntmps40
  go_wp2_with fail
  refine HT.out.mono ?_
  rintro e w1 ⟨rfl, rfl⟩
  go_wp2
  go_ret2
  exact ⟨rfl, rfl⟩

theorem wait_at {w : World} {lo D L T : Nat} {wv : Value} {d : Dv} (h : DvAt w lo D L T wv d) {i : Nat} (hi : i < d.waits.length) : ∃ g c, wv = .slice (some ⟨g, 0, none⟩) d.waits.length c ∧ At w g (i * 513) (WrL (d.waits.getD i (0, []))) := by
  rcases h.wt.2 with ⟨_, h0⟩ | ⟨g, cap, cur, rfl, _⟩
  · omega
  · refine ⟨g, cap, rfl, fun j u hj => ?_⟩
    have hw := (h.wf.wait hi).1
    have hjl : j < 513 := by
      have := (List.getElem?_eq_some_iff.1 hj).1
      rwa [WrL_length hw] at this
    have hfl : ((d.waits.map WrL).flatten)[i * 513 + j]? = (WrL (d.waits.getD i (0, [])))[j]? := by
      have := flat_get 513 (d.waits.map WrL) (fun l hl => by
        obtain ⟨p, hp, rfl⟩ := List.mem_map.1 hl
        exact WrL_length (h.wf.waits p hp).2) i (by simpa using hi) j hjl
      rw [this, List.getElem_map]
      congr 2
      rw [List.getD_eq_getElem?_getD, List.getElem?_eq_getElem hi]; rfl
    rw [h.wt.cellAt (i * 513 + j) (by
      have : i * 513 + 513 ≤ d.waits.length * 513 := by rw [← Nat.succ_mul]; exact Nat.mul_le_mul_right _ hi
      omega), hfl]
    exact hj

set_option maxRecDepth 100000 in
set_option maxHeartbeats 2000000 in
theorem dvRead_ok (D a lo : Nat) (F : Nat → Prop) (d : Dv) (w : World) (h : DvIn w lo D F d) (ha : a < d.size) (hd : d.down = false) (_hn : d.waits.length ≤ 1000000) :
    Calls Tryz.prog 40 #[.pointer (some ⟨D, 0, none⟩), .int .u32 (a : Int)] w fun e w' => e = .returned (.tuple #[.slice (some ⟨w.heap.size, 0, none⟩) 512 512, .int .i64 0]) ∧
      w'.heap[w.heap.size]? = some (.cells ((d.cur a).map Bv).toArray 156 (0, 0)) ∧ Below w.heap.size w w' := by
  obtain ⟨L, T, wv, h, hF⟩ := h
  obtain ⟨c0, c1, c2, c3, c4, c5, fz⟩ := h.cells
  rw [hd] at c5
  have HT := Lib.hid (dvThere_ok D d.size a w c0 ha h.wf.hi)
  obtain ⟨ml, hl1, hl2⟩ := h.lm
  obtain ⟨mt, ht1, ht2⟩ := h.tm
  have HL1 := Lib.hid hl1
  have HL2 := Lib.hid hl2
  have HT1 := Lib.hid ht1
  have HT2 := Lib.hid ht2
  have HLl := Lib.hid (h.wf.lies a)
  have HCl := Lib.hid (h.wf.cur a)
  have HH := Lib.hid h
  clear c0 c4 fz hl1 hl2 ht1 ht2 hF hd ha h
  cases hq : lastI d.waits a with
  | none =>
    have HQ := Lib.hid (show (Value.tuple #[.int .i64 0, .bool false]) = .tuple #[.int .i64 (((lastI d.waits a).getD 0 : Nat) : Int), .bool (lastI d.waits a).isSome] by rw [hq]; rfl)
    have HCur := Lib.hid (show d.lies a = d.cur a by unfold Dv.cur; rw [hq])
    clear hq
    go_enter Tryz.func40, Tryz.ntmps40
    go_wp2_with fail
    refine HT.out.mono ?_
    rintro e w1 ⟨rfl, rfl⟩
    go_wp2_with (first | (refine lookup_sec rfl (.tmp 23) (.tmp 24) rfl rfl rfl HL1.out HL2.out ?_) | (refine wpList_store_row rfl _ (.tmp 7) (.tmp 25) rfl w.heap.size rfl ((d.lies a).map Bv) rfl _ _ (heap_alloc_new _ _) (by rw [List.length_map, HLl.out]; rfl) (Bv_oneCell _) (by rw [info_sec, List.length_map, HLl.out]) ?_; intro w2 hg2 hf2 _; have HG2 := Lib.hid hg2; have HB2 := Lib.hid ((((Below.refl _ w).alloc (Nat.le_refl _) _).trans (hf2.below (by simp) (fun j hj => by omega)))); have HT2' := Lib.hid (HT1.out.of_block (HB2.out.block T HT1.out.lt)); have c3' := (HB2.out.cell (p := ⟨D, 3, none⟩) (lt_of_block HH.out.row)).trans c3; clear hg2 hf2) | (refine lookup_last rfl (.tmp 30) (.tmp 31) rfl rfl rfl HT2'.out HT2.out _ HQ.out ?_))
    go_ret2
    exact ⟨rfl, by rw [← HCur.out]; exact HG2.out, HB2.out⟩
  | some i =>
    have hi := (lastI_get hq).1
    obtain ⟨g, c, rfl, hat⟩ := wait_at HH.out hi
    have HWl := Lib.hid (HH.out.wf.wait hi).1
    have HQ := Lib.hid (show (Value.tuple #[.int .i64 (i : Int), .bool true]) = .tuple #[.int .i64 (((lastI d.waits a).getD 0 : Nat) : Int), .bool (lastI d.waits a).isSome] by rw [hq]; rfl)
    have HCur := Lib.hid (show (d.waits.getD i (0, [])).2 = d.cur a by unfold Dv.cur; rw [hq])
    obtain ⟨bs, hbs⟩ : ∃ bs, bs = (d.waits.getD i (0, [])).2 := ⟨_, rfl⟩
    have hat2 : At w g (i * 513 + 1) (bs.map Bv) := fun j u hj => by
      have := hat (j + 1) u (by rw [← hj, hbs]; rfl)
      rwa [show i * 513 + (j + 1) = i * 513 + 1 + j by omega] at this
    rw [← hbs] at HWl HCur
    have HAt := Lib.hid hat2
    obtain ⟨nw, hnw⟩ : ∃ n, n = d.waits.length := ⟨_, rfl⟩
    rw [← hnw] at c2 hi
    clear hq hat hat2 hbs hnw
    go_enter Tryz.func40, Tryz.ntmps40
    go_wp2_with fail
    refine HT.out.mono ?_
    rintro e w1 ⟨rfl, rfl⟩
    go_wp2_with (first | (refine lookup_sec rfl (.tmp 23) (.tmp 24) rfl rfl rfl HL1.out HL2.out ?_) | (refine wpList_store_row rfl _ (.tmp 7) (.tmp 25) rfl w.heap.size rfl ((d.lies a).map Bv) rfl _ _ (heap_alloc_new _ _) (by rw [List.length_map, HLl.out]; rfl) (Bv_oneCell _) (by rw [info_sec, List.length_map, HLl.out]) ?_; intro w2 hg2 hf2 _; have HG2 := Lib.hid hg2; have HB2 := Lib.hid ((((Below.refl _ w).alloc (Nat.le_refl _) _).trans (hf2.below (by simp) (fun j hj => by omega)))); have HT2' := Lib.hid (HT1.out.of_block (HB2.out.block T HT1.out.lt)); have c3' := (HB2.out.cell (p := ⟨D, 3, none⟩) (lt_of_block HH.out.row)).trans c3; have c2' := (HB2.out.cell (p := ⟨D, 2, none⟩) (lt_of_block HH.out.row)).trans c2; have HAt2 := Lib.hid (show At w2 g (i * 513 + 1) (bs.map Bv) from fun j u hj => (HB2.out.cell (World.block_lt_of_cell? _ _ (HAt.out j u hj))).trans (HAt.out j u hj)); clear hg2 hf2) | (refine lookup_last rfl (.tmp 30) (.tmp 31) rfl rfl rfl HT2'.out HT2.out _ HQ.out ?_) | (refine wpList_load_at rfl _ (.tmp 42) rfl g (i * 513 + 1) rfl (bs.map Bv) _ HAt2.out Tryz.underlying156 rfl (by rw [info_sec, List.length_map, HWl.out]) ?_) | (refine wpList_store_row rfl _ (.tmp 7) (.tmp 43) rfl w.heap.size rfl (bs.map Bv) rfl _ _ HG2.out (by rw [List.size_toArray, List.length_map, HLl.out, List.length_map, HWl.out]) (Bv_oneCell _) (by rw [info_sec, List.length_map, HWl.out]) ?_; intro w3 hg3 hf3 _))
    go_ret2
    exact ⟨rfl, by rw [← HCur.out]; exact hg3, HB2.out.trans (hf3.below HB2.out.size (fun j hj => by omega))⟩

end Go.Proofs.YtkbnkdokcmpcgaaGreatDoor
namespace Go.Proofs.YtkbnkdokcmpcgaaGreatDoor
open Go.RowKit

theorem DvAt.laid {w w' : World} {lo D L T : Nat} {wv : Value} {d d' : Dv} (h : DvAt w lo D L T wv d) (hf : Fr (fun k => k = D) w w') (hw : d'.waits = d.waits) (hl : d'.lies = d.lies) (hwf : d'.Wf)
    (hrow : w'.heap[D]? = some (.cells #[.int .i64 (d'.size : Int), .map (some L), wv, .map (some T), .int .i64 d'.left, .bool d'.down] 152 (0, 0))) : DvAt w' lo D L T wv d' := by
  refine ⟨hrow, ?_, ?_, ?_, hwf, h.nDL, h.nDT, h.nLT, h.nD, h.nL, h.nT⟩
  · obtain ⟨ml, h1, h2⟩ := h.lm; exact ⟨ml, h1.fr hf (fun e => h.nDL e.symm), by rw [hl]; exact h2⟩
  · obtain ⟨mt, h1, h2⟩ := h.tm; exact ⟨mt, h1.fr hf (fun e => h.nDT e.symm), by rw [hw]; exact h2⟩
  · rw [hw]; exact h.wt.fr hf (fun k hk e => (h.own_ne k hk).1 e)

set_option maxHeartbeats 1000000 in
theorem dvQuiet_any (D lo L T : Nat) (wv : Value) (d : Dv) (w : World) (h : DvAt w lo D L T wv d) :
    Calls Tryz.prog 77 #[.pointer (some ⟨D, 0, none⟩)] w fun e w' => e = .returned (.tuple #[]) ∧ DvAt w' lo D L w.heap.size (.slice none 0 0) d.quiet ∧ Fr (fun k => k = D) w w' := by
  obtain ⟨c0, c1, c2, c3, c4, c5, fz⟩ := h.cells
  have f2 := fz 2
  have f3 := fz 3
  have hDlt : D < w.heap.size := lt_of_block h.row
  have hmm := @run_makeMap Tryz.prog
  have HEnd := Lib.hid (show ∀ w', w' = ((w.setCell ⟨D, 2, none⟩ (.slice none 0 0)).setCell ⟨D, 3, none⟩ (.map (some w.heap.size))).alloc (.map #[] 0) → DvAt w' lo D L w.heap.size (.slice none 0 0) d.quiet ∧ Fr (fun k => k = D) w w' from fun w' hw' => by
    have f1 := ((Fr.refl (fun k => k = D) w).set D 2 rfl (.slice none 0 0)).set D 3 rfl (.map (some w.heap.size))
    have r1 := heap_setCell_same _ D 2 _ _ (.slice none 0 0) h.row
    have r2 := heap_setCell_same _ D 3 _ _ (.map (some w.heap.size)) r1
    have hsz : ((w.setCell ⟨D, 2, none⟩ (.slice none 0 0)).setCell ⟨D, 3, none⟩ (.map (some w.heap.size))).heap.size = w.heap.size := by simp [World.setCell]
    obtain ⟨ws, hws⟩ : ∃ ws, ws = ((w.setCell ⟨D, 2, none⟩ (.slice none 0 0)).setCell ⟨D, 3, none⟩ (.map (some w.heap.size))) := ⟨_, rfl⟩
    rw [← hws] at hw' f1 r2 hsz
    subst hw'
    have hb : Below ws.heap.size ws (ws.alloc (.map #[] 0)) := (Below.refl _ ws).alloc (Nat.le_refl _) _
    have ht := heap_alloc_new ws (.map #[] 0)
    rw [hsz] at ht
    have hfr : Fr (fun k => k = D) w _ := f1.trans (Fr.of_below (S := fun k => k = D) hb)
    obtain ⟨ml, h1, h2⟩ := h.lm
    have hLlt := h1.lt
    have hlo : lo ≤ w.heap.size := Nat.le_trans h.nD (Nat.le_of_lt hDlt)
    exact ⟨⟨(hb.block D (by omega)).trans r2, ⟨ml, h1.fr hfr (fun e => h.nDL e.symm), h2⟩, ⟨[], ⟨#[], 0, ht, rfl, by simp, by simp, by simp⟩, fun _ => rfl⟩, World.ownsRow_nil _ _ _ _, h.wf.quiet, h.nDL, by omega, by omega, h.nD, h.nL, hlo⟩, hfr⟩)
  have hb0 : Below w.heap.size w (w.alloc (.map #[] 0)) := (Below.refl _ w).alloc (Nat.le_refl _) _
  have g2 := (hb0.cell (p := ⟨D, 2, none⟩) hDlt).trans c2
  have g3 := (hb0.cell (p := ⟨D, 3, none⟩) hDlt).trans c3
  clear h c0 c1 c4 c5 fz hb0
  go_enter Tryz.func77, Tryz.ntmps77
  go_wp2
  go_end0
  exact ⟨rfl, HEnd.out _ rfl⟩

theorem arr_of_slice (A : Addr) (c : Nat) (w : World) : (Instr.arrayAt 156 (.slice (some A) 512 c)).run Tryz.prog w = .ok (.pointer (some A)) w := by
  simp [Instr.arrayAt, run_underlying Tryz.underlying156, Result.andThen]

theorem update_sec {ops : Array Oper} {rest : List Oper} {o : Oper} {a : Act} {w : World} {Q : Exit → Act → World → Prop} (hgd : o.guard = none) (m x v : Operand) (ho : o.op = .mapUpdate 148 m x v)
    {L n : Nat} {ml : List (Nat × Value)} {val : Value} (hm : a.eval m = .map (some L)) (hx : a.eval x = .int .u32 (n : Int)) (hv : a.eval v = val) (hu : UM w L ml)
    (hK : ∀ w', UM w' L (putU ml n val) → Fr (fun k => k = L) w w' → wpList Tryz.prog ops Q rest (a.put o.dst undef) w') : wpList Tryz.prog ops Q (o :: rest) a w := by
  refine wpList_plain hgd fun K hKK => ?_
  obtain ⟨w', hr, h1, h2, _⟩ := run_mapUpdate_um (P := Tryz.prog) (v := val) hu Tryz.underlying148 Tryz.underlying41 (n := n)
  unfold kU at hr
  unfold Oper.wp execOp
  simp only [ho, hm, hx, hv, Sem.run_bind, hr, Result.andThen_ok]
  exact hKK _ _ (hK w' h1 h2)
theorem update_last {ops : Array Oper} {rest : List Oper} {o : Oper} {a : Act} {w : World} {Q : Exit → Act → World → Prop} (hgd : o.guard = none) (m x v : Operand) (ho : o.op = .mapUpdate 150 m x v)
    {T n : Nat} {mt : List (Nat × Value)} {val : Value} (hm : a.eval m = .map (some T)) (hx : a.eval x = .int .u32 (n : Int)) (hv : a.eval v = val) (hu : UM w T mt)
    (hK : ∀ w', UM w' T (putU mt n val) → Fr (fun k => k = T) w w' → wpList Tryz.prog ops Q rest (a.put o.dst undef) w') : wpList Tryz.prog ops Q (o :: rest) a w := by
  refine wpList_plain hgd fun K hKK => ?_
  obtain ⟨w', hr, h1, h2, _⟩ := run_mapUpdate_um (P := Tryz.prog) (v := val) hu Tryz.underlying150 Tryz.underlying41 (n := n)
  unfold kU at hr
  unfold Oper.wp execOp
  simp only [ho, hm, hx, hv, Sem.run_bind, hr, Result.andThen_ok]
  exact hKK _ _ (hK w' h1 h2)

theorem LieM.put {ml : List (Nat × Value)} {lies : Nat → List UInt8} (h : LieM ml lies) (a : Nat) (b : List UInt8) : LieM (putU ml a (SecV b)) (fun c => if c = a then b else lies c) := by
  intro c
  rw [getU_put]
  by_cases e : c = a
  · simp [e]
  · simp only [if_neg e]; exact h c
theorem LastM.put {mt : List (Nat × Value)} {ws : List (Nat × List UInt8)} (h : LastM mt ws) (p : Nat × List UInt8) : LastM (putU mt p.1 (.int .i64 (ws.length : Int))) (ws ++ [p]) := by
  intro c
  rw [getU_put, lastI_snoc]
  by_cases e : c = p.1
  · simp [e]
  · simp only [if_neg e]; exact h c

theorem info_write : (Tryz.prog.info? 158).map (·.size) = some 513 := by kernel_rfl
theorem und_write : Tryz.prog.underlying 158 = some (.struct (Tryz.prog.fieldsOf 158)) := by
  unfold Program.fieldsOf; rw [Tryz.underlying158]
theorem places_write (w : World) : (placesOf (Tryz.prog.fieldsOf 158)).run Tryz.prog w = .ok #[(0, 1), (1, 512)] w := by kernel_rfl
set_option maxRecDepth 100000 in
theorem zero_write (w : World) : (zeroValue 158).run Tryz.prog w = .ok (.agg (WrL (0, zB 512)).toArray) w := by kernel_rfl
set_option maxRecDepth 100000 in
theorem infoz_write : ∃ i : TypeInfo, Tryz.prog.info? 158 = some i ∧ i.zero = some (.agg (WrL (0, zB 512)).toArray) ∧ i.size = 513 ∧ i.bytes = 516 := by
  have h : (Tryz.prog.info? 158).map (fun i => (i.zero, i.size, i.bytes)) = some (some (.agg (WrL (0, zB 512)).toArray), 513, 516) := by kernel_rfl
  exact info_parts h

set_option maxRecDepth 100000 in
theorem run_build_write (n : Nat) (b : List UInt8) (hb : b.length = 512) (w : World) : (Instr.build 158 #[(0, .int .u32 (n : Int)), (1, SecV b)]).run Tryz.prog w = .ok (.agg (WrL (n, b)).toArray) w := by
  have e1 : (b.map Bv).toArray.size = 512 := by simp [hb]
  obtain ⟨cs, h1, h2⟩ := fill_all ((#[(0, 1), (1, 512)] : Array (Nat × Nat))[·]?) [.int .u32 (n : Int), SecV b] 0 0 (WrL (0, zB 512)).toArray (fun i p hi => by
    simp only [List.map_cons, List.map_nil, Value.cells, SecV, e1] at hi
    rw [Nat.zero_add]
    match i, hi with
    | 0, hi => exact hi
    | 1, hi => exact hi) (by simp only [List.map_cons, List.map_nil, Value.cells, SecV, e1]; exact Nat.le_refl 513)
  have hcs : cs = (WrL (n, b)).toArray := by
    apply Array.toList_inj.1
    rw [h2]
    simp only [List.map_cons, List.map_nil, Value.cells, SecV, e1]
    rw [show ((WrL (0, zB 512)).toArray.toList.drop (0 + sumL [(#[Value.int .u32 (n : Int)] : Array Value).size, 512])) = [] from rfl]
    simp [flatL, Value.cells, WrL]
  have hz : ((Value.agg (WrL (0, zB 512)).toArray).cells) = (WrL (0, zB 512)).toArray := rfl
  have hpl := places_write w
  unfold placesOf at hpl
  unfold Instr.build
  simp only [Sem.run_bind, zero_write w, Result.andThen_ok, run_underlying und_write, hpl, hz]
  have h1' : Instr.fill (fun x => (#[(0, 1), (1, 512)] : Array (Nat × Nat))[x]?) (WrL (0, zB 512)).toArray [(0, .int .u32 (n : Int)), (1, SecV b)] = some cs := h1
  rw [h1', hcs]
  rfl

theorem yields_build_write {ops : Array Oper} {C : World → Prop} {o : Oper} {a : Act} (hw : Region.wanted o (yielded ops a.tmps) = true) (x y : Operand) (ho : o.op = .build 158 #[(0, x), (1, y)]) {n : Nat} {b : List UInt8} (hx : a.eval x = .int .u32 (n : Int)) (hy : a.eval y = .agg (b.map Bv).toArray) (hb : b.length = 512) :
    YieldsC Tryz.prog ops C o (.agg (WrL (n, b)).toArray) a :=
  .inl ⟨hw, fun w' _ => by
    have h := run_build_write n b hb w'
    unfold SecV at h
    unfold execOp
    simp only [ho, List.map_toArray, List.map_cons, List.map_nil, hx, hy, Sem.run_bind, h, Result.andThen_ok, Sem.run_pure]⟩
theorem wp_bslice_write {o : Oper} {a : Act} {w : World} {K : Act → World → Prop} {Q : Exit → Act → World → Prop} (x : Operand) (ho : o.op = .buildSlice 149 1 #[(0, x)]) {n : Nat} {b : List UInt8} (hx : a.eval x = .agg (WrL (n, b)).toArray) (hb : b.length = 512)
    (hK : K (a.put o.dst (.slice (some ⟨w.heap.size, 0, none⟩) 1 1)) (w.alloc (.cells (WrL (n, b)).toArray 158))) : Oper.wp Tryz.prog o a w K Q := by
  obtain ⟨i0, hi, hz0, hz1, hz2⟩ := infoz_write
  have hl : (WrL (n, b)).toArray.size = 513 := by rw [List.size_toArray]; exact WrL_length hb
  obtain ⟨zc, hzc⟩ : ∃ zc, zc = (WrL (0, zB 512)).toArray := ⟨_, rfl⟩
  rw [← hzc] at hz0
  obtain ⟨cs, hf, hcs⟩ := fill_many 513 (by decide) [(WrL (n, b)).toArray] 0 ((Array.range (1 * 513)).map (zc[· % zc.size]!)) (by intro v hv; rw [List.mem_singleton.1 hv]; exact hl) (by simp)
  rw [Nat.zero_mul, List.take_zero, List.nil_append] at hcs
  have hcs2 : cs = (WrL (n, b)).toArray := by apply Array.toList_inj.1; rw [hcs]; simp
  have hr : (Instr.buildSlice 149 1 #[(0, .agg (WrL (n, b)).toArray)]).run Tryz.prog w = .ok (.slice (some ⟨w.heap.size, 0, none⟩) 1 1) (w.alloc (.cells (WrL (n, b)).toArray 158)) := by
    unfold Instr.buildSlice
    have hzv : (zeroValue 158).run Tryz.prog w = .ok (.agg zc) w := by simp [zeroValue, typeInfo, hi, hz0]
    have hso : (sizeOf 158).run Tryz.prog w = .ok 513 w := by simp [sizeOf, typeInfo, hi, hz1]
    rw [Sem.run_bind, run_underlying Tryz.underlying149]
    simp only [Result.andThen_ok, Sem.run_bind, hso]
    rw [if_neg (by decide), if_neg (by decide)]
    simp only [Sem.run_bind, hzv, Result.andThen_ok, Sem.run_pure, Value.cells]
    have hf' : Instr.fill (fun i => some (i * 513, 513)) ((Array.range (1 * 513)).map (zc[· % zc.size]!)) [(0, .agg (WrL (n, b)).toArray)] = some cs := hf
    simp only [hf', hcs2]
    simp [newRow]
  unfold Oper.wp execOp
  simp only [ho, List.map_toArray, List.map_cons, List.map_nil, hx, Sem.run_bind, hr, Result.andThen_ok, Sem.run_pure]
  exact hK

theorem wp_append_write {o : Oper} {a : Act} {w : World} {K : Act → World → Prop} {Q : Exit → Act → World → Prop} (s x : Operand)
    (ho : o.op = .call { callee := .builtin .append, args := #[s, x], argTypes := #[149, 149] })
    {base : Nat} {v : Value} {n : Nat} {xs : List Value} (hown : w.ownsRow base 158 513 v n xs) {vx : Value} {news : List Value} (hx : Sl w 513 vx 1 news) (h1 : ∀ u ∈ news, u.oneCell' = true)
    (hs : a.eval s = v) (hxe : a.eval x = vx) (hr : n ≤ 1000000) (hbase : base ≤ w.heap.size)
    (hK : ∀ aa cc w', w'.ownsRow base 158 513 (.slice aa (n + 1) cc) (n + 1) (xs ++ news) → Fr (fun k => v.ownBlock = some k) w w' → ((Value.slice aa (n + 1) cc).ownBlock = v.ownBlock ∨ (Value.slice aa (n + 1) cc).ownBlock = some w.heap.size) → K (a.put o.dst (.slice aa (n + 1) cc)) w') : Oper.wp Tryz.prog o a w K Q := by
  obtain ⟨i0, hi, hz0, hz1, hz2⟩ := infoz_write
  obtain ⟨zc, hzc⟩ : ∃ zc, zc = (WrL (0, zB 512)).toArray := ⟨_, rfl⟩
  have hzl : zc.size = 513 := by rw [hzc, List.size_toArray]; exact WrL_length List.length_replicate
  rw [← hzc] at hz0
  obtain ⟨v', w', hr2, h2, hg, h4, ⟨aa, cc, rfl⟩, _⟩ := run_append_sl (P := Tryz.prog) w base 149 o.type 158 i0 (.agg zc) 513 516 Tryz.underlying149 hi hz0 hz1 hz2 hzl (by decide) v n xs hown vx 1 news hx h1 (by unfold maxLen; omega) (by omega) hbase
  unfold Oper.wp execOp
  simp only [ho, resolve, invoke, builtin, Sem.run_bind, Sem.run_pure, Result.andThen_ok, List.map_toArray, List.map_cons, List.map_nil, hs, hxe, hr2]
  exact hK aa cc w' h2 ((Fr.refl _ w).grown hg (fun k hk => Or.inl hk)) h4

theorem WrL_one (p : Nat × List UInt8) : ∀ u ∈ WrL p, u.oneCell' = true := by
  intro u hu
  simp only [WrL, List.mem_cons] at hu
  rcases hu with rfl | hu
  · rfl
  · exact Bv_oneCell _ u hu

set_option maxRecDepth 100000 in
set_option maxHeartbeats 4000000 in
theorem dvWrite_ok (D a lo : Nat) (F : Nat → Prop) (d : Dv) (b : List UInt8) (v : Value) (w : World) (h : DvIn w lo D F d) (ha : a < d.size) (hb : b.length = 512) (hv : Sl w 1 v 512 (b.map Bv)) (hno : ∀ q m c, v = .slice (some q) m c → ¬ F q.block)
    (hd : d.down = false) (hs : d.step.down = false) (hn : d.waits.length ≤ 1000000) :
    Calls Tryz.prog 60 #[.pointer (some ⟨D, 0, none⟩), .int .u32 (a : Int), v] w fun e w' => ∃ F', e = .returned (.int .i64 0) ∧ DvIn w' lo D F' (d.step.wrote a b) ∧ Fr F w w' ∧ ∀ k, F' k → F k ∨ w.heap.size ≤ k := by
  obtain ⟨L, T, wv, h, hF⟩ := h
  obtain ⟨vb, vo, cv, rfl, hvat⟩ : ∃ vb vo cv, v = .slice (some ⟨vb, vo, none⟩) 512 cv ∧ At w vb vo (b.map Bv) := by
    obtain ⟨_, a', c', rfl, _, _, hcv⟩ := hv
    obtain ⟨vb, vo, rfl, _⟩ := hcv 0 (Bv (gB b 0)) (by rw [List.getElem?_map, gB_get b 0 (by omega)]; rfl)
    refine ⟨vb, vo, c', rfl, fun i u hu => ?_⟩
    obtain ⟨b', o', e', hc⟩ := hcv i u hu
    simp only [Option.some.injEq, Addr.mk.injEq, and_true] at e'
    obtain ⟨rfl, rfl⟩ := e'
    exact hc
  have hnb : ¬ F vb := hno ⟨vb, vo, none⟩ _ _ rfl
  have hnv : vb ≠ D ∧ vb ≠ L ∧ vb ≠ T ∧ wv.ownBlock ≠ some vb := ⟨fun e => hnb (hF _ (Or.inl e)), fun e => hnb (hF _ (Or.inr (Or.inl e))), fun e => hnb (hF _ (Or.inr (Or.inr (Or.inl e)))), fun e => hnb (hF _ (Or.inr (Or.inr (Or.inr e))))⟩
  obtain ⟨c0, c1, c2, c3, c4, c5, fz⟩ := h.cells
  rw [hd] at c5
  have HM := Lib.hid (dvMay_ok D d.size a cv (some ⟨vb, vo, none⟩) w c0 ha h.wf.hi)
  have hst := dvStep_any D lo L T wv d w h
  rw [hs] at hst
  have HSt := Lib.hid hst
  have HF := Lib.hid hF
  have HNv := Lib.hid hnv
  have HVat := Lib.hid hvat
  have HBl := Lib.hid hb
  have HD0 := Lib.hid (show d.step.waits = d.waits from rfl)
  have HDs := Lib.hid (show a < d.step.size from ha)
  have HBelow := Lib.hid (And.intro h.ge h.lt)
  have HF0 := Lib.hid hF
  clear c0 c1 c2 c3 c4 fz hst hnv hnb hno hv hvat hF hb h ha hd hs
  go_enter Tryz.func60, Tryz.ntmps60
  go_wp2_with fail
  refine HM.out.mono ?_
  rintro e w0 ⟨rfl, rfl⟩
  go_wp2_with fail
  refine HSt.out.mono ?_
  rintro e w1 ⟨rfl, h1, hf1⟩
  obtain ⟨_, _, c2, c3, _, _, _⟩ := h1.cells
  obtain ⟨mt, ht1, ht2⟩ := h1.tm
  obtain ⟨av, cw, hwv, _⟩ : ∃ av cw, wv = .slice av d.waits.length cw ∧ True := by
    obtain ⟨av, cw, e, _⟩ := (Sl.own h1.wt).len
    exact ⟨av, cw, e, trivial⟩
  subst hwv
  obtain ⟨nw, hnw⟩ : ∃ n, n = d.waits.length := ⟨_, rfl⟩
  rw [← hnw] at c2
  have HNw := Lib.hid hnw
  have HT1 := Lib.hid ht1
  have HT2 := Lib.hid ht2
  have H1 := Lib.hid h1
  have HF1 := Lib.hid hf1
  have HLe := Lib.hid (show nw ≤ 1000000 by omega)
  have HV1 := Lib.hid (show At w1 vb vo (b.map Bv) from fun i u hu => hf1.cell (HVat.out i u hu) HNv.out.1)
  clear ht1 ht2 h1 hf1 hnw hn
  go_wp2_with fail
  refine wp_region_quiet_tail 10 (by kernel_rfl) (by kernel_rfl) ?_
  simp only [List.take_succ_cons, List.take_zero, List.drop_succ_cons, List.drop_zero]
  repeat (go_big_quiet_step (fail))
  refine wpQuiet_nil ?_
  go_wp2_with (refine update_last rfl (.tmp 27) (.tmp 28) (.tmp 33) rfl (val := .int .i64 (nw : Int)) rfl rfl rfl (show UM w1.drew T mt from HT1.out) ?_; intro w2 hu2 hf2)
  have HU2 := Lib.hid hu2
  have HF2 := Lib.hid hf2
  have c2' : w2.cell? ⟨D, 2, none⟩ = some (.slice av nw cw) := hf2.cell (show w1.drew.cell? ⟨D, 2, none⟩ = _ from c2) H1.out.nDT
  have hv2 : At w2 vb vo (b.map Bv) := fun i u hu => hf2.cell (show w1.drew.cell? ⟨vb, vo + i, none⟩ = some u from HV1.out i u hu) HNv.out.2.2.1
  have HO2 := Lib.hid ((show w1.drew.ownsRow lo 158 513 (.slice av d.waits.length cw) d.waits.length (d.waits.map WrL).flatten from H1.out.wt).fr hf2 (fun k hk e => (H1.out.own_ne k hk).2.2 e))
  clear hu2 hf2 c2 c3
  have HRow2 := Lib.hid ((HF2.out.block D (lt_of_block H1.out.row) H1.out.nDT).trans H1.out.row)
  go_wp2_with fail
  refine wp_region_headW (C := fun u => u.cell? ⟨D, 2, none⟩ = some (.slice av nw cw) ∧ At u vb vo (b.map Bv)) 12 (by kernel_rfl) (by decide) ?_
  obtain ⟨wd, hwd⟩ : ∃ wd, wd = { w2 with drawn := w2.drawn + 1 } := ⟨_, rfl⟩
  have cd2 : wd.cell? ⟨D, 2, none⟩ = some (.slice av nw cw) := by rw [hwd]; exact c2'
  have hvd : At wd vb vo (b.map Bv) := by rw [hwd]; exact hv2
  have HFd := Lib.hid (show Fr (fun k => k = T) w1 wd by rw [hwd]; exact ⟨HF2.out.os, HF2.out.tape, HF2.out.output, HF2.out.size, HF2.out.block⟩)
  have HRowd := Lib.hid ((show wd.heap[D]? = w2.heap[D]? by rw [hwd]).trans HRow2.out)
  have HUd := Lib.hid (show UM wd T (putU mt a (.int .i64 (nw : Int))) by rw [hwd]; exact HU2.out)
  have HOd := Lib.hid (show wd.ownsRow lo 158 513 (.slice av d.waits.length cw) d.waits.length (d.waits.map WrL).flatten by rw [hwd]; exact HO2.out)
  rw [← hwd]
  clear hwd c2' hv2 HRow2 HU2 HO2 HF2
  refine wpHeadL_take (i := 0) (v := .pointer (some ⟨D, 0, none⟩)) rfl (by kernel_rfl) (fun _ _ _ h => h) headW_done (.inl ⟨by rfl, fun w' _ => by go_simp⟩) ?_
  simp only [Act.put, sA, sB, sC]
  refine wpHeadL_take (i := 1) (v := .pointer (some ⟨D, 0, none⟩)) rfl (by kernel_rfl) (fun _ _ _ h => h) headW_done (.inl ⟨by rfl, fun w' _ => by go_simp⟩) ?_
  simp only [Act.put, sA, sB, sC]
  refine wpHeadL_take (i := 2) (v := .pointer (some ⟨D, 0, none⟩)) rfl (by kernel_rfl) (fun _ _ _ h => h) headW_done (.inl ⟨by rfl, fun w' _ => by go_simp⟩) ?_
  simp only [Act.put, sA, sB, sC]
  refine wpHeadL_take (i := 3) (v := .pointer (some ⟨D, 2, none⟩)) rfl (by kernel_rfl) (fun _ _ _ h => h) headW_done (.inl ⟨by rfl, fun w' _ => by go_simp⟩) ?_
  simp only [Act.put, sA, sB, sC]
  refine wpHeadL_take (i := 4) (v := .slice av nw cw) rfl (by kernel_rfl) (fun _ _ _ h => h) headW_done (.inl ⟨by rfl, fun w' hw => by (have h := hw.1; go_simp)⟩) ?_
  simp only [Act.put, sA, sB, sC]
  refine wpHeadL_take (i := 5) (v := .int .u32 (a : Int)) rfl (by kernel_rfl) (fun _ _ _ h => h) headW_done (.inl ⟨by rfl, fun w' _ => by go_simp⟩) ?_
  simp only [Act.put, sA, sB, sC]
  refine wpHeadL_take (i := 6) (v := .slice (some ⟨vb, vo, none⟩) 512 cv) rfl (by kernel_rfl) (fun _ _ _ h => h) headW_done (.inl ⟨by rfl, fun w' _ => by go_simp⟩) ?_
  simp only [Act.put, sA, sB, sC]
  have har := arr_of_slice ⟨vb, vo, none⟩ cv
  refine wpHeadL_take (i := 7) (v := .pointer (some ⟨vb, vo, none⟩)) rfl (by kernel_rfl) (fun _ _ _ h => h) headW_done (.inl ⟨by rfl, fun w' _ => by go_simp⟩) ?_
  simp only [Act.put, sA, sB, sC]
  refine wpHeadL_take (i := 8) (v := .agg (b.map Bv).toArray) rfl (by kernel_rfl) (fun _ _ _ h => h) headW_done (yields_load (by rfl) 156 (.tmp 41) (by rfl) vb vo (by rfl) (b.map Bv) _ (fun _ h => h.2) Tryz.underlying156 rfl (by rw [info_sec, List.length_map, HBl.out])) ?_
  simp only [Act.put, sA, sB, sC]
  refine wpHeadL_take (i := 9) (v := .agg (WrL (a, b)).toArray) rfl (by kernel_rfl) (fun _ _ _ h => h) headW_done (yields_build_write (by rfl) (.tmp 39) (.tmp 42) (by rfl) (by rfl) (by rfl) HBl.out) ?_
  simp only [Act.put, sA, sB, sC]
  have hlo : lo ≤ wd.heap.size := Nat.le_trans H1.out.nD (Nat.le_of_lt (lt_of_block HRowd.out))
  have hDd : D < wd.heap.size := lt_of_block HRowd.out
  have HCd := Lib.hid (And.intro cd2 hvd)
  refine wpHeadL_forced 10 ⟨cd2, hvd⟩ (by kernel_rfl) rfl (by rfl) (fun K hK => ?_)
  refine wp_bslice_write (.tmp 43) rfl rfl HBl.out ?_
  refine hK _ _ ?_
  clear hK K cd2 hvd
  simp only [Act.put, sA, sB, sC]
  obtain ⟨w3, hw3⟩ : ∃ w3, w3 = wd.alloc (.cells (WrL (a, b)).toArray 158) := ⟨_, rfl⟩
  have hb3 : Below wd.heap.size wd w3 := by rw [hw3]; exact (Below.refl _ wd).alloc (Nat.le_refl _) _
  have hg3 : w3.heap[wd.heap.size]? = some (.cells (WrL (a, b)).toArray 158 (0, 0)) := by rw [hw3]; exact heap_alloc_new _ _
  have hs3 : w3.heap.size = wd.heap.size + 1 := by rw [hw3]; simp
  rw [← hw3]
  have cd3 : w3.cell? ⟨D, 2, none⟩ = some (.slice av nw cw) := (hb3.cell (p := ⟨D, 2, none⟩) hDd).trans HCd.out.1
  have hv3 : At w3 vb vo (b.map Bv) := fun i u hu => (hb3.cell (World.block_lt_of_cell? _ _ (HCd.out.2 i u hu))).trans (HCd.out.2 i u hu)
  have ho3 := HOd.out.fr (Fr.of_below (S := fun _ => False) hb3) (fun _ _ => id)
  rw [← HNw.out] at ho3
  have hsl3 : Sl w3 513 (.slice (some ⟨wd.heap.size, 0, none⟩) 1 1) 1 (WrL (a, b)) := sl_row' hg3 rfl (by rw [Nat.one_mul]; exact WrL_length HBl.out)
  have HB3 := Lib.hid hb3
  have HS3 := Lib.hid hs3
  have HC3 := Lib.hid (And.intro cd3 hv3)
  clear hw3 hb3 hg3 hs3
  refine wpHeadL_forced 11 ⟨cd3, hv3⟩ (by kernel_rfl) rfl (by rfl) (fun K hK => ?_)
  refine wp_append_write (.tmp 38) (.tmp 44) rfl ho3 hsl3 (WrL_one _) rfl rfl HLe.out (by rw [HS3.out]; omega) ?_
  intro aa cc w4 hown4 hf4 hor4
  refine hK _ _ ?_
  clear hK K cd3 hv3 hsl3
  simp only [Act.put, sA, sB, sC]
  have HO4 := Lib.hid hown4
  have HF4 := Lib.hid hf4
  have HOr4 := Lib.hid hor4
  have hob : (Value.slice av nw cw).ownBlock = (Value.slice av d.waits.length cw).ownBlock := by cases av <;> rfl
  have hne4 : ∀ k, (Value.slice av nw cw).ownBlock = some k → k ≠ D ∧ k ≠ L ∧ k ≠ T := fun k hk => H1.out.own_ne k (hob ▸ hk)
  have cd4 : w4.cell? ⟨D, 2, none⟩ = some (.slice av nw cw) := HF4.out.cell HC3.out.1 (fun e => (hne4 D e).1 rfl)
  have hv4 : At w4 vb vo (b.map Bv) := fun i u hu => HF4.out.cell (HC3.out.2 i u hu) (fun e => HNv.out.2.2.2 (hob ▸ e))
  have HRow4 := Lib.hid ((HF4.out.block D (by have := lt_of_block HRowd.out; rw [HS3.out]; omega) (fun e => (hne4 D e).1 rfl)).trans ((HB3.out.block D (lt_of_block HRowd.out)).trans HRowd.out))
  have fz4 : w4.frozen? ⟨D, 2, none⟩ = false := by simp [World.frozen?, HRow4.out]
  clear hown4 hf4 hor4 ho3
  refine headW_end ⟨cd4, hv4⟩ (by kernel_rfl) ?_
  clear hv4
  simp only [List.drop_succ_cons, List.drop_zero]
  have HNe4 := Lib.hid (And.intro hne4 hob)
  clear hne4 hob har
  go_wp2
  go_ret
  obtain ⟨hne4, hob⟩ := HNe4.out
  have f5 := (Fr.refl (fun k => k = D) w4).set D 2 rfl (.slice aa (nw + 1) cc)
  have fG : Fr (fun k => k = D ∨ k = T ∨ (Value.slice av nw cw).ownBlock = some k) w1 (w4.setCell ⟨D, 2, none⟩ (.slice aa (nw + 1) cc)) :=
    (((HFd.out.mono (fun k _ e => Or.inr (Or.inl e))).trans (Fr.of_below HB3.out)).trans (HF4.out.mono (fun k _ e => Or.inr (Or.inr e)))).trans (f5.mono (fun k _ e => Or.inl e))
  have hFk : ∀ k, (k = D ∨ k = T ∨ (Value.slice av nw cw).ownBlock = some k) → F k := by
    rintro k (e | e | e)
    · exact HF.out k (Or.inl e)
    · exact HF.out k (Or.inr (Or.inr (Or.inl e)))
    · exact HF.out k (Or.inr (Or.inr (Or.inr (hob ▸ e))))
  have fF : Fr F w (w4.setCell ⟨D, 2, none⟩ (.slice aa (nw + 1) cc)) := (HF1.out.mono (fun k _ e => HF.out k (Or.inl e))).trans (fG.mono (fun k _ e => hFk k e))
  have hr5 := heap_setCell_same w4 D 2 _ _ (.slice aa (nw + 1) cc) HRow4.out
  have hwf := (H1.out.wf).wrote HDs.out HBl.out
  have hown5 : ∀ k, (Value.slice aa (nw + 1) cc).ownBlock = some k → k ≠ D ∧ k ≠ T ∧ (DvF D L T (.slice av d.waits.length cw) k ∨ w.heap.size ≤ k) := by
    intro k hk
    rcases HOr4.out with e | e
    · rw [e] at hk
      exact ⟨(hne4 k hk).1, (hne4 k hk).2.2, Or.inl (Or.inr (Or.inr (Or.inr (hob ▸ hk))))⟩
    · rw [e] at hk
      obtain rfl := Option.some.inj hk
      have h1 := HF1.out.size
      have h2 := HFd.out.size
      have h3 := lt_of_block HRowd.out
      have h4 := HUd.out.lt
      have h5 := HS3.out
      exact ⟨by omega, by omega, Or.inr (by omega)⟩
  refine ⟨DvF D L T (.slice aa (nw + 1) cc), rfl, ⟨L, T, _, ⟨hr5, ?_, ?_, ?_, hwf, H1.out.nDL, H1.out.nDT, H1.out.nLT, H1.out.nD, H1.out.nL, H1.out.nT⟩, fun _ h => h⟩, fF, ?_⟩
  · obtain ⟨ml, h1, h2⟩ := H1.out.lm
    refine ⟨ml, h1.fr fG ?_, h2⟩
    rintro (e | e | e)
    · exact H1.out.nDL e.symm
    · exact H1.out.nLT e
    · exact (hne4 L e).2.1 rfl
  · refine ⟨_, ((HUd.out.fr (Fr.of_below (S := fun _ => False) HB3.out) id).fr HF4.out (fun e => (hne4 T e).2.2 rfl)).fr f5 (fun e => H1.out.nDT e.symm), ?_⟩
    have := HT2.out.put (a, b)
    rw [HD0.out, ← HNw.out] at this
    exact this
  · have h := HO4.out.set_other (b := D) (fun e => (hown5 D e).1 rfl) 2 (.slice aa (nw + 1) cc)
    have e1 : (d.step.wrote a b).waits.length = nw + 1 := by
      show (d.step.waits ++ [(a, b)]).length = _
      rw [HD0.out, List.length_append, HNw.out]; rfl
    have e2 : ((d.step.wrote a b).waits.map WrL).flatten = (d.waits.map WrL).flatten ++ WrL (a, b) := by
      show ((d.step.waits ++ [(a, b)]).map WrL).flatten = _
      rw [HD0.out, List.map_append, List.flatten_append]; simp
    rw [e1, e2]
    exact h
  · rintro k (e | e | e | e)
    · exact Or.inl (HF.out k (Or.inl e))
    · exact Or.inl (HF.out k (Or.inr (Or.inl e)))
    · exact Or.inl (HF.out k (Or.inr (Or.inr (Or.inl e))))
    · exact ((hown5 k e).2.2).imp (HF.out k) id

end Go.Proofs.YtkbnkdokcmpcgaaGreatDoor
namespace Go.Proofs.YtkbnkdokcmpcgaaGreatDoor
open Go.RowKit

set_option maxHeartbeats 1000000 in
theorem dvWrite_down (D a lo cv : Nat) (F : Nat → Prop) (d : Dv) (av : Option Addr) (w : World) (h : DvIn w lo D F d) (ha : a < d.size) (hd : d.down = true) :
    Calls Tryz.prog 60 #[.pointer (some ⟨D, 0, none⟩), .int .u32 (a : Int), .slice av 512 cv] w fun e w' => e = .returned (.int .i64 7) ∧ w = w' := by
  obtain ⟨L, T, wv, h, hF⟩ := h
  have c5 := h.cells.2.2.2.2.2.1
  rw [hd] at c5
  have HM := Lib.hid (dvMay_ok D d.size a cv av w h.cells.1 ha h.wf.hi)
  clear h hF ha hd
  go_enter Tryz.func60, Tryz.ntmps60
  go_wp2_with fail
  refine HM.out.mono ?_
  rintro e w0 ⟨rfl, rfl⟩
  go_wp2
  go_ret
  exact ⟨rfl, rfl⟩
set_option maxHeartbeats 1000000 in
theorem dvWrite_stops (D a lo cv : Nat) (F : Nat → Prop) (d : Dv) (av : Option Addr) (w : World) (h : DvIn w lo D F d) (ha : a < d.size) (hd : d.down = false) (hs : d.step.down = true) :
    Calls Tryz.prog 60 #[.pointer (some ⟨D, 0, none⟩), .int .u32 (a : Int), .slice av 512 cv] w fun e w' => e = .returned (.int .i64 7) ∧ DvIn w' lo D F d.step ∧ Fr F w w' := by
  obtain ⟨L, T, wv, h, hF⟩ := h
  have c5 := h.cells.2.2.2.2.2.1
  rw [hd] at c5
  have HM := Lib.hid (dvMay_ok D d.size a cv av w h.cells.1 ha h.wf.hi)
  have hst := dvStep_any D lo L T wv d w h
  rw [hs] at hst
  have HSt := Lib.hid hst
  have HF := Lib.hid hF
  clear h hF ha hd hs hst
  go_enter Tryz.func60, Tryz.ntmps60
  go_wp2_with fail
  refine HM.out.mono ?_
  rintro e w0 ⟨rfl, rfl⟩
  go_wp2_with fail
  refine HSt.out.mono ?_
  rintro e w1 ⟨rfl, h1, hf1⟩
  have HE := Lib.hid (show DvIn w1 lo D F d.step ∧ Fr F w w1 from ⟨⟨L, T, wv, h1, HF.out⟩, hf1.mono (fun k _ e => HF.out k (Or.inl e))⟩)
  clear h1 hf1
  go_wp2
  go_ret
  exact ⟨rfl, HE.out.1, HE.out.2⟩

def Dv.miss (d : Dv) : Dv := if d.down then d else d.step
theorem Dv.miss_size (d : Dv) : d.miss.size = d.size := by unfold Dv.miss Dv.step; split <;> rfl
theorem dvWrite_no (D a lo cv : Nat) (F : Nat → Prop) (d : Dv) (av : Option Addr) (w : World) (h : DvIn w lo D F d) (ha : a < d.size) (hd : d.down = true ∨ d.step.down = true) :
    Calls Tryz.prog 60 #[.pointer (some ⟨D, 0, none⟩), .int .u32 (a : Int), .slice av 512 cv] w fun e w' => e = .returned (.int .i64 7) ∧ DvIn w' lo D F d.miss ∧ Fr F w w' := by
  cases h1 : d.down with
  | true =>
    refine (dvWrite_down D a lo cv F d av w h ha h1).mono ?_
    rintro e w' ⟨rfl, rfl⟩
    exact ⟨rfl, by simpa [Dv.miss, h1] using h, Fr.refl _ _⟩
  | false =>
    refine (dvWrite_stops D a lo cv F d av w h ha h1 (by rcases hd with e | e; (· rw [h1] at e; cases e); (· exact e))).mono ?_
    rintro e w' ⟨rfl, h2, h3⟩
    exact ⟨rfl, by simpa [Dv.miss, h1] using h2, h3⟩


end Go.Proofs.YtkbnkdokcmpcgaaGreatDoor
