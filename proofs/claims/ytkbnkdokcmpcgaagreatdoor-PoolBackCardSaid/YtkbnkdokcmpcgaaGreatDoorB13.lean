/- Walks: dev.Write's other ends, Flush, Peek, Poke. Walks: dev.Peek, Poke, Crash. Slices of strings, and the walks of node's keys, slices.ContainsFunc over them. Two arrays of bytes, compared. -/
import Derived.Test.YtkbnkdokcmpcgaaGreatDoorB0
import Derived.Test.YtkbnkdokcmpcgaaGreatDoorB12
import Derived.Sort.Walk0
import Derived.ChangeKeysEq
import Derived.Laws.StructEq
namespace Go.Proofs.YtkbnkdokcmpcgaaGreatDoor
open Go.RowKit

set_option maxHeartbeats 1000000 in
theorem dvWrite_down (D a lo cv : Nat) (F : Nat → Prop) (d : Dv) (av : Option Addr) (w : World) (h : DvIn w lo D F d) (ha : a < d.size) (hd : d.down = true) :
    Calls Tryz.prog 60 #[.pointer (some ⟨D, 0, none⟩), .int .u32 (a : Int), .slice av 512 cv] w fun e w' => e = .returned (.int .i64 7) ∧ w = w' := by
  obtain ⟨L, T, wv, h, hF⟩ := h
  have c5 := h.cells.2.2.2.2.2.1
  rw [hd] at c5
  have HM := Lib.hid (dvMay_ok D d.size a cv av w h.cells.1 ha h.wf.hi)
  clear h hF ha hd
  go_enter Tryz.func60, Tryz.ntmps60
  go_wp2_with fail
  refine HM.out.mono ?_
  rintro e w0 ⟨rfl, rfl⟩
  go_wp2
  go_ret
  exact ⟨rfl, rfl⟩
set_option maxHeartbeats 1000000 in
theorem dvWrite_stops (D a lo cv : Nat) (F : Nat → Prop) (d : Dv) (av : Option Addr) (w : World) (h : DvIn w lo D F d) (ha : a < d.size) (hd : d.down = false) (hs : d.step.down = true) :
    Calls Tryz.prog 60 #[.pointer (some ⟨D, 0, none⟩), .int .u32 (a : Int), .slice av 512 cv] w fun e w' => e = .returned (.int .i64 7) ∧ DvIn w' lo D F d.step ∧ Fr F w w' := by
  obtain ⟨L, T, wv, h, hF⟩ := h
  have c5 := h.cells.2.2.2.2.2.1
  rw [hd] at c5
  have HM := Lib.hid (dvMay_ok D d.size a cv av w h.cells.1 ha h.wf.hi)
  have hst := dvStep_any D lo L T wv d w h
  rw [hs] at hst
  have HSt := Lib.hid hst
  have HF := Lib.hid hF
  clear h hF ha hd hs hst
  go_enter Tryz.func60, Tryz.ntmps60
  go_wp2_with fail
  refine HM.out.mono ?_
  rintro e w0 ⟨rfl, rfl⟩
  go_wp2_with fail
  refine HSt.out.mono ?_
  rintro e w1 ⟨rfl, h1, hf1⟩
  have HE := Lib.hid (show DvIn w1 lo D F d.step ∧ Fr F w w1 from ⟨⟨L, T, wv, h1, HF.out⟩, hf1.mono (fun k _ e => HF.out k (Or.inl e))⟩)
  clear h1 hf1
  go_wp2
  go_ret
  exact ⟨rfl, HE.out.1, HE.out.2⟩

/-- What a write that does not happen leaves. -/
def Dv.miss (d : Dv) : Dv := if d.down then d else d.step
theorem Dv.miss_size (d : Dv) : d.miss.size = d.size := by unfold Dv.miss Dv.step; split <;> rfl
theorem dvWrite_no (D a lo cv : Nat) (F : Nat → Prop) (d : Dv) (av : Option Addr) (w : World) (h : DvIn w lo D F d) (ha : a < d.size) (hd : d.down = true ∨ d.step.down = true) :
    Calls Tryz.prog 60 #[.pointer (some ⟨D, 0, none⟩), .int .u32 (a : Int), .slice av 512 cv] w fun e w' => e = .returned (.int .i64 7) ∧ DvIn w' lo D F d.miss ∧ Fr F w w' := by
  cases h1 : d.down with
  | true =>
    refine (dvWrite_down D a lo cv F d av w h ha h1).mono ?_
    rintro e w' ⟨rfl, rfl⟩
    exact ⟨rfl, by simpa [Dv.miss, h1] using h, Fr.refl _ _⟩
  | false =>
    refine (dvWrite_stops D a lo cv F d av w h ha h1 (by rcases hd with e | e; (· rw [h1] at e; cases e); (· exact e))).mono ?_
    rintro e w' ⟨rfl, h2, h3⟩
    exact ⟨rfl, by simpa [Dv.miss, h1] using h2, h3⟩


set_option maxHeartbeats 1000000 in
theorem dvFlush_down (D lo : Nat) (F : Nat → Prop) (d : Dv) (w : World) (h : DvIn w lo D F d) (hd : d.down = true) :
    Calls Tryz.prog 29 #[.pointer (some ⟨D, 0, none⟩)] w fun e w' => e = .returned (.int .i64 7) ∧ w = w' := by
  obtain ⟨L, T, wv, h, hF⟩ := h
  have c5 := h.cells.2.2.2.2.2.1
  rw [hd] at c5
  clear h hF hd
  go_enter Tryz.func29, Tryz.ntmps29
  go_wp2
  go_ret
  exact ⟨rfl, rfl⟩
set_option maxHeartbeats 1000000 in
theorem dvFlush_stops (D lo : Nat) (F : Nat → Prop) (d : Dv) (w : World) (h : DvIn w lo D F d) (hd : d.down = false) (hs : d.step.down = true) :
    Calls Tryz.prog 29 #[.pointer (some ⟨D, 0, none⟩)] w fun e w' => e = .returned (.int .i64 7) ∧ DvIn w' lo D F d.step ∧ Fr F w w' := by
  obtain ⟨L, T, wv, h, hF⟩ := h
  have c5 := h.cells.2.2.2.2.2.1
  rw [hd] at c5
  have hst := dvStep_any D lo L T wv d w h
  rw [hs] at hst
  have HSt := Lib.hid hst
  have HF := Lib.hid hF
  clear h hF hd hs hst
  go_enter Tryz.func29, Tryz.ntmps29
  go_wp2_with fail
  refine HSt.out.mono ?_
  rintro e w1 ⟨rfl, h1, hf1⟩
  have HE := Lib.hid (show DvIn w1 lo D F d.step ∧ Fr F w w1 from ⟨⟨L, T, wv, h1, HF.out⟩, hf1.mono (fun k _ e => HF.out k (Or.inl e))⟩)
  clear h1 hf1
  go_wp2
  go_ret
  exact ⟨rfl, HE.out.1, HE.out.2⟩

theorem range_um {P : Program} {t k e : TypeId} {ops : Array Oper} {rest : List Oper} {o : Oper} {a : Act} {w : World} {Q : Exit → Act → World → Prop} (hgd : o.guard = none) (x : Operand) (ho : o.op = .range t x) (ht : P.underlying t = some (.map k e))
    {T : Nat} {mt : List (Nat × Value)} (hx : a.eval x = .map (some T)) (hu : UM w T mt)
    (hK : ∀ w', UMr w' T w.heap.size mt mt → Below w.heap.size w w' → w'.heap.size = w.heap.size + 1 → wpList P ops Q rest (a.put o.dst (.pointer (some ⟨w.heap.size, 0, none⟩))) w') : wpList P ops Q (o :: rest) a w := by
  refine wpList_plain hgd fun K hKK => ?_
  obtain ⟨ob, hr, h1⟩ := run_range_um (P := P) hu ht
  unfold Oper.wp execOp
  simp only [ho, hx, Sem.run_bind, hr, Result.andThen_ok]
  exact hKK _ _ (hK _ h1 ((Below.refl _ w).alloc (Nat.le_refl _) _) (by simp))
/-- What a step of a range leaves: an entry has come. -/
structure NextU {P : Program} (w w' : World) (T r : Nat) (mt left : List (Nat × Value)) (n : Nat) (v : Value) (l1 l2 : List (Nat × Value)) : Prop where
  hl : left = l1 ++ (n, v) :: l2
  hu : UMr w' T r mt (l1 ++ l2)
  hent : (Instr.entry (.pointer (some ⟨r, 0, none⟩))).run P w' = .ok (.tuple #[.int .u32 (n : Int), v]) w'
  hf : Fr (fun k => k = r) w w'
theorem next_um {P : Program} {ops : Array Oper} {rest : List Oper} {o : Oper} {a : Act} {w : World} {Q : Exit → Act → World → Prop} (hgd : o.guard = none) (x : Operand) (ho : o.op = .next x false)
    {T r : Nat} {mt left : List (Nat × Value)} (hx : a.eval x = .pointer (some ⟨r, 0, none⟩)) (hu : UMr w T r mt left)
    (hK1 : left = [] → wpList P ops Q rest (a.put o.dst (.tuple #[.bool false])) w)
    (hK2 : ∀ (n : Nat) (v : Value) (l1 l2 : List (Nat × Value)) (w' : World), NextU (P := P) w w' T r mt left n v l1 l2 → wpList P ops Q rest (a.put o.dst (.tuple #[.bool true, .int .u32 (n : Int), v])) w') : wpList P ops Q (o :: rest) a w := by
  refine wpList_plain hgd fun K hKK => ?_
  unfold Oper.wp execOp
  rcases run_next_um (P := P) hu o.type with ⟨h0, hr⟩ | ⟨p, l1, l2, w', hl, hr, h1, h2, h3⟩
  · simp only [ho, hx, Sem.run_bind, hr, Result.andThen_ok]
    exact hKK _ _ (hK1 h0)
  · simp only [ho, hx, Sem.run_bind, hr, Result.andThen_ok]
    exact hKK _ _ (hK2 p.1 p.2 l1 l2 w' ⟨hl, h1, h2, h3⟩)
theorem entry_um {P : Program} {ops : Array Oper} {rest : List Oper} {o : Oper} {a : Act} {w : World} {Q : Exit → Act → World → Prop} (hgd : o.guard = none) (x : Operand) (ho : o.op = .entry x)
    {r : Nat} {v : Value} (hx : a.eval x = .pointer (some ⟨r, 0, none⟩)) (hr : (Instr.entry (.pointer (some ⟨r, 0, none⟩))).run P w = .ok v w)
    (hK : wpList P ops Q rest (a.put o.dst v) w) : wpList P ops Q (o :: rest) a w := by
  refine wpList_plain hgd fun K hKK => ?_
  unfold Oper.wp execOp
  simp only [ho, hx, Sem.run_bind, hr, Result.andThen_ok]
  exact hKK _ _ hK
theorem UMr.count {w : World} {b r : Nat} {m left : List (Nat × Value)} (h : UMr w b r m left) : w.rangeLeft b r = left.length := by
  obtain ⟨es, clock, since, seen, c0, h1, hE, h3, hkd, h5, h6, _, _, _, hL⟩ := h
  unfold World.rangeLeft
  rw [h1, h6]
  dsimp only
  have := congrArg List.length hL
  simpa using this

/-- What lies there, half way through a flush: those that are still to come lie as they lay. -/
def halfL (d : Dv) (left : List (Nat × Value)) : Nat → List UInt8 := fun a => if (getU left a).isSome then d.lies a else d.cur a

set_option maxRecDepth 100000 in
set_option maxHeartbeats 4000000 in
theorem dvFlush_ok (D lo : Nat) (F : Nat → Prop) (d : Dv) (w : World) (h : DvIn w lo D F d) (hd : d.down = false) (hs : d.step.down = false) (hn : d.waits.length ≤ 1000000) :
    Calls Tryz.prog 29 #[.pointer (some ⟨D, 0, none⟩)] w fun e w' => ∃ F', e = .returned (.int .i64 0) ∧ DvIn w' lo D F' d.step.flushed ∧ Fr F w w' ∧ ∀ k, F' k → F k ∨ w.heap.size ≤ k := by
  obtain ⟨L, T, wv, h, hF⟩ := h
  have c5 := h.cells.2.2.2.2.2.1
  rw [hd] at c5
  have hst := dvStep_any D lo L T wv d w h
  rw [hs] at hst
  have HSt := Lib.hid hst
  have HF := Lib.hid hF
  clear h hF hd hs hst
  go_enter Tryz.func29, Tryz.ntmps29
  go_wp2_with fail
  refine HSt.out.mono ?_
  rintro e w1 ⟨rfl, h1, hf1⟩
  have hn1 : d.step.waits.length ≤ 1000000 := hn
  obtain ⟨d1, hd1⟩ : ∃ d1, d1 = d.step := ⟨_, rfl⟩
  rw [← hd1] at h1 hn1
  have HD1 := Lib.hid hd1
  have c3 := h1.cells.2.2.2.1
  have hrowD := h1.row
  obtain ⟨mt, ht1, ht2⟩ := h1.tm
  have HT1 := Lib.hid ht1
  have HT2 := Lib.hid ht2
  have H1 := Lib.hid h1
  have HF1 := Lib.hid hf1
  have HN1 := Lib.hid hn1
  have HRD := Lib.hid hrowD
  clear ht1 ht2 h1 hf1 hd1 HSt hn hn1 hrowD
  go_wp2_with (refine range_um rfl (.tmp 19) rfl Tryz.underlying150 rfl HT1.out ?_; intro w2 hr2 hb2 hs2)
  obtain ⟨r, hr⟩ : ∃ r, r = w1.heap.size := ⟨_, rfl⟩
  rw [← hr] at hr2 ⊢
  have HR := Lib.hid hr
  have HUr2 := Lib.hid hr2
  have HFr2 := Lib.hid (Fr.of_below (S := fun k => k = L ∨ k = r) hb2)
  have HL2 := Lib.hid (show ∃ ml, UM w2 L ml ∧ LieM ml (halfL d1 mt) from by
    obtain ⟨ml, m1, m2⟩ := H1.out.lm
    refine ⟨ml, m1.of_block (hb2.block _ m1.lt), fun a => ?_⟩
    rw [m2 a]
    unfold halfL
    have := HT2.out a
    cases hq : lastI d1.waits a with
    | none => rw [hq] at this; rw [this]; simp [Dv.cur, hq]
    | some i => rw [hq] at this; rw [this]; simp)
  clear hr2 hb2 hs2 hr
  go_wp2_with fail
  simp only [Act.put, List.setIfInBounds_toArray, List.set_cons_succ, List.set_cons_zero]
  go_loopw [21, 3, 4] (fun _ _ _ wr => ∃ left, UMr wr T r mt left ∧ (∃ ml, UM wr L ml ∧ LieM ml (halfL d1 left)) ∧ Fr (fun k => k = L ∨ k = r) w1 wr) (fun _ _ _ wr => wr.rangeLeft T r)
  case atStart => exact ⟨mt, HUr2.out, HL2.out, HFr2.out⟩
  case round =>
    clear HUr2 HFr2 HL2
    obtain ⟨left, hu, ⟨ml, hm1, hm2⟩, hf⟩ := hrel
    have HU := Lib.hid hu
    have HM1 := Lib.hid hm1
    have HM2 := Lib.hid hm2
    have HFw := Lib.hid hf
    clear hu hm1 hm2 hf
    go_wp2_with (refine next_um rfl (.tmp 20) rfl rfl HU.out ?_ ?_)
    · intro h0
      have HL0 := Lib.hid (show LieM ml d1.cur from by
        intro a; rw [HM2.out a]; unfold halfL; rw [h0]; rfl)
      clear h0
      go_wp2_with fail
      have hDout : ¬ (D = L ∨ D = r) := by
        rintro (e | e)
        · exact H1.out.nDL e
        · have := H1.out.lt D (Or.inl rfl); have := HR.out; omega
      have hwf : (({ d1 with lies := d1.cur } : Dv)).Wf := ⟨H1.out.wf.lo, H1.out.wf.hi, fun a => H1.out.wf.cur a, H1.out.wf.waits, H1.out.wf.left⟩
      have hat : DvAt wr lo D L T wv { d1 with lies := d1.cur } :=
        ⟨(HFw.out.block D (lt_of_block HRD.out) hDout).trans HRD.out, ⟨ml, HM1.out, HL0.out⟩, ⟨mt, HU.out.um, HT2.out⟩, H1.out.wt.fr HFw.out (fun k hk e => by
          have hne := H1.out.own_ne k hk
          rcases e with e | e
          · exact hne.2.1 e
          · have := H1.out.lt k (Or.inr (Or.inr (Or.inr hk))); have := HR.out; omega), hwf, H1.out.nDL, H1.out.nDT, H1.out.nLT, H1.out.nD, H1.out.nL, H1.out.nT⟩
      refine (dvQuiet_any D lo L T wv _ wr hat).mono ?_
      rintro e w5 ⟨rfl, h5, hf5⟩
      have hsz : w1.heap.size ≤ wr.heap.size := HFw.out.size
      have hsz0 := HF1.out.size
      have HEnd := Lib.hid (show ∃ F', DvIn w5 lo D F' d.step.flushed ∧ Fr F w w5 ∧ ∀ k, F' k → F k ∨ w.heap.size ≤ k from by
        refine ⟨DvF D L wr.heap.size (.slice none 0 0), ⟨_, _, _, by rw [← HD1.out]; exact h5, fun _ h => h⟩, ?_, ?_⟩
        · refine ((HF1.out.mono (T := fun k => k = D ∨ k = L ∨ w.heap.size ≤ k) (fun k _ e => Or.inl e)).trans ((HFw.out.mono (fun k hk e => ?_)).trans (hf5.mono (fun k _ e => Or.inl e)))).mono (fun k hk e => ?_)
          · rcases e with e | e
            · exact Or.inr (Or.inl e)
            · have := HR.out; omega
          · rcases e with e | e | e
            · exact HF.out k (Or.inl e)
            · exact HF.out k (Or.inr (Or.inl e))
            · omega
        · rintro k (e | e | e | e)
          · exact Or.inl (HF.out k (Or.inl e))
          · exact Or.inl (HF.out k (Or.inr (Or.inl e)))
          · exact Or.inr (by omega)
          · cases e)
      clear h5 hf5 hat hwf hDout
      go_wp2
      go_ret
      obtain ⟨F', a1, a2, a3⟩ := HEnd.out
      exact ⟨F', rfl, a1, a2, a3⟩
    · intro pn pv l1 l2 w3 hnx
      have hl := hnx.hl
      have HU3 := Lib.hid hnx.hu
      have HF3 := Lib.hid hnx.hf
      have HLe := Lib.hid hl
      have hpm := HU.out.left_mem
      have hnd := hpm.2
      have hmem := hpm.1 (pn, pv) (by rw [hl]; simp)
      have hget := getU_mem HT1.out.nodup hmem
      rw [HT2.out pn] at hget
      obtain ⟨i, hi, rfl⟩ : ∃ i : Nat, lastI d1.waits pn = some i ∧ pv = .int .i64 (i : Int) := by
        cases hq : lastI d1.waits pn with
        | none => rw [hq] at hget; cases hget
        | some i => rw [hq] at hget; exact ⟨i, rfl, (Option.some.inj hget).symm⟩
      have hil := (lastI_get hi).1
      obtain ⟨g, cg, hwv, hat⟩ := wait_at H1.out hil
      rw [hl] at hnd
      have HHalf := Lib.hid (show ∀ a, halfL d1 (l1 ++ l2) a = if a = pn then d1.cur pn else halfL d1 left a from fun a => by
        unfold halfL
        rw [getU_take hnd a, ← hl]
        by_cases e : a = pn
        · simp [e]
        · simp [e])
      have HCur := Lib.hid (show d1.cur pn = (d1.waits.getD i (0, [])).2 by unfold Dv.cur; rw [hi])
      have HWl := Lib.hid (H1.out.wf.wait hil).1
      have hrL : r ≠ L := fun e => by have := H1.out.lt L (Or.inr (Or.inl rfl)); have := HR.out; omega
      have hrD : r ≠ D := fun e => by have := H1.out.lt D (Or.inl rfl); have := HR.out; omega
      have hgw : wv.ownBlock = some g := by rw [hwv]; rfl
      have hgn := H1.out.own_ne g hgw
      have hgr : g ≠ r := fun e => by have := H1.out.lt g (Or.inr (Or.inr (Or.inr hgw))); have := HR.out; omega
      have HF13 := Lib.hid (HFw.out.trans (HF3.out.mono (T := fun k => k = L ∨ k = r) (fun k _ e => Or.inr e)))
      have hDout : ¬ (D = L ∨ D = r) := by rintro (e | e); exact H1.out.nDL e; exact hrD e.symm
      obtain ⟨nw, hnw⟩ : ∃ n, n = d1.waits.length := ⟨_, rfl⟩
      rw [← hnw] at hwv hil
      have hnl : nw ≤ 1000000 := by have := HN1.out; omega
      have k1 : w3.cell? ⟨D, 1, none⟩ = some (.map (some L)) := HF13.out.cell H1.out.cells.2.1 hDout
      have k2 : w3.cell? ⟨D, 2, none⟩ = some (.slice (some ⟨g, 0, none⟩) nw cg) := by rw [← hwv]; exact HF13.out.cell H1.out.cells.2.2.1 hDout
      obtain ⟨bs, hbs⟩ : ∃ bs, bs = (d1.waits.getD i (0, [])).2 := ⟨_, rfl⟩
      rw [← hbs] at HCur HWl
      have HAt := Lib.hid (show ∀ w', w' = w3.drew → At w' g (i * 513 + 1) (bs.map Bv) from fun w' hw' j u hj => by
        subst hw'
        have h0 := hat (j + 1) u (by rw [← hj, hbs]; rfl)
        rw [show i * 513 + (j + 1) = i * 513 + 1 + j by omega] at h0
        exact HF13.out.cell h0 (by rintro (e | e); exact hgn.2.1 e; exact hgr e))
      have HUM := Lib.hid (HM1.out.fr HF3.out (fun e => hrL e.symm))
      have hent := hnx.hent
      have HRL := Lib.hid hrL
      clear hl hpm hnd hmem hget hi hat hbs hnx hwv hgw hgn hgr hrD hDout hnw
      go_wp2_with (refine entry_um rfl (.tmp 20) rfl rfl hent ?_)
      refine wp_region_quiet_tail 13 (by kernel_rfl) (by kernel_rfl) ?_
      simp only [List.take_succ_cons, List.take_zero, List.drop_succ_cons, List.drop_zero]
      repeat (first | (refine wpQuiet_load_at rfl 156 (.tmp 37) rfl g (i * 513 + 1) rfl (bs.map Bv) _ HAt.out Tryz.underlying156 rfl (by rw [info_sec, List.length_map, HWl.out]) ?_; simp only [Act.put, List.setIfInBounds_toArray, List.set_cons_succ, List.set_cons_zero]) | go_big_quiet_step (fail))
      refine wpQuiet_nil ?_
      go_wp2_with (refine update_sec rfl (.tmp 29) (.tmp 30) (.tmp 38) rfl (val := SecV bs) rfl rfl rfl (show UM w3.drew L ml from HUM.out) ?_; intro w4 hu4 hf4)
      have hu4r : UMr w4 T r mt (l1 ++ l2) := (show UMr w3.drew T r mt (l1 ++ l2) from HU3.out).of_block (hf4.block T HU3.out.um.lt (fun e => H1.out.nLT e.symm)) (hf4.block r HU3.out.lt HRL.out)
      have HEnd := Lib.hid (show (∃ left, UMr w4 T r mt left ∧ (∃ ml, UM w4 L ml ∧ LieM ml (halfL d1 left)) ∧ Fr (fun k => k = L ∨ k = r) w1 w4) ∧ w4.rangeLeft T r < wr.rangeLeft T r from by
        refine ⟨⟨l1 ++ l2, hu4r, ⟨_, hu4, ?_⟩, HF13.out.drew.trans (hf4.mono (fun k _ e => Or.inl e))⟩, ?_⟩
        · intro a
          rw [HHalf.out a, HCur.out]
          exact (LieM.put HM2.out pn bs) a
        · rw [hu4r.count, HU.out.count, HLe.out]
          simp)
      clear hu4 hf4 hu4r
      exact ⟨by (repeat apply Exists.intro); exact ⟨HEnd.out.1, rfl⟩, HEnd.out.2⟩

end Go.Proofs.YtkbnkdokcmpcgaaGreatDoor
namespace Go.Proofs.YtkbnkdokcmpcgaaGreatDoor
open Go.RowKit

set_option maxRecDepth 100000 in
set_option maxHeartbeats 2000000 in
theorem dvPeek_ok (D a lo : Nat) (F : Nat → Prop) (d : Dv) (w : World) (h : DvIn w lo D F d) (ha : a < d.size) :
    Calls Tryz.prog 30 #[.pointer (some ⟨D, 0, none⟩), .int .u32 (a : Int)] w fun e w' => ∃ aa cc, e = .returned (.tuple #[.slice aa 512 cc, .int .i64 0]) ∧ w'.ownsRow w.heap.size 5 1 (.slice aa 512 cc) 512 ((d.lies a).map Bv) ∧ Below w.heap.size w w' := by
  obtain ⟨L, T, wv, h, hF⟩ := h
  obtain ⟨c0, c1, c2, c3, c4, c5, fz⟩ := h.cells
  have HT := Lib.hid (dvThere_ok D d.size a w c0 ha h.wf.hi)
  obtain ⟨ml, hl1, hl2⟩ := h.lm
  have HL1 := Lib.hid hl1
  have HL2 := Lib.hid hl2
  have HLl := Lib.hid (h.wf.lies a)
  clear c0 c2 c3 c4 c5 fz hl1 hl2 hF ha h
  go_enter Tryz.func30, Tryz.ntmps30
  go_wp2_with fail
  refine HT.out.mono ?_
  rintro e w1 ⟨rfl, rfl⟩
  go_wp2_with (first | (refine lookup_sec rfl (.tmp 17) (.tmp 18) rfl rfl rfl HL1.out HL2.out ?_) | (refine wpList_store_row rfl _ (.tmp 7) (.tmp 19) rfl w.heap.size rfl ((d.lies a).map Bv) rfl _ _ (heap_alloc_new _ _) (by rw [List.length_map, HLl.out]; rfl) (Bv_oneCell _) (by rw [info_sec, List.length_map, HLl.out]) ?_; intro w2 hg2 hf2 _; have HG2 := Lib.hid hg2; have HB2 := Lib.hid ((((Below.refl _ w).alloc (Nat.le_refl _) _).trans (hf2.below (by simp) (fun j hj => by omega)))); clear hg2 hf2))
  refine (clone_any (.slice (some ⟨w.heap.size, 0, none⟩) 512 512) (d.lies a) 512 w2 (sl_row' HG2.out rfl (by rw [List.length_map, HLl.out])) (by decide)).mono ?_
  rintro e w3 ⟨aa, cc, rfl, hown, hb3⟩
  have HO := Lib.hid (hown.base HB2.out.size)
  have HB3 := Lib.hid (HB2.out.trans (hb3.mono HB2.out.size))
  clear hown hb3
  go_wp2
  go_ret2
  exact ⟨_, _, rfl, HO.out, HB3.out⟩

/-- The parts of a slice of a sector's bytes. -/
theorem sl_sector {w : World} {v : Value} {b : List UInt8} (hb : b.length = 512) (hv : Sl w 1 v 512 (b.map Bv)) : ∃ vb vo cv, v = .slice (some ⟨vb, vo, none⟩) 512 cv ∧ At w vb vo (b.map Bv) := by
  obtain ⟨_, a', c', rfl, _, _, hcv⟩ := hv
  obtain ⟨vb, vo, rfl, _⟩ := hcv 0 (Bv (gB b 0)) (by rw [List.getElem?_map, gB_get b 0 (by omega)]; rfl)
  refine ⟨vb, vo, c', rfl, fun i u hu => ?_⟩
  obtain ⟨b', o', e', hc⟩ := hcv i u hu
  simp only [Option.some.injEq, Addr.mk.injEq, and_true] at e'
  obtain ⟨rfl, rfl⟩ := e'
  exact hc

set_option maxRecDepth 100000 in
set_option maxHeartbeats 2000000 in
theorem dvPoke_ok (D a lo : Nat) (F : Nat → Prop) (d : Dv) (b : List UInt8) (v : Value) (w : World) (h : DvIn w lo D F d) (ha : a < d.size) (hb : b.length = 512) (hv : Sl w 1 v 512 (b.map Bv)) :
    Calls Tryz.prog 31 #[.pointer (some ⟨D, 0, none⟩), .int .u32 (a : Int), v] w fun e w' => e = .returned (.int .i64 0) ∧ DvIn w' lo D F (d.poked a b) ∧ Fr F w w' := by
  obtain ⟨L, T, wv, h, hF⟩ := h
  obtain ⟨vb, vo, cv, rfl, hvat⟩ := sl_sector hb hv
  obtain ⟨c0, c1, c2, c3, c4, c5, fz⟩ := h.cells
  have HM := Lib.hid (dvMay_ok D d.size a cv (some ⟨vb, vo, none⟩) w c0 ha h.wf.hi)
  obtain ⟨ml, hl1, hl2⟩ := h.lm
  have HL1 := Lib.hid hl1
  have HL2 := Lib.hid hl2
  have HH := Lib.hid h
  have HF := Lib.hid hF
  have HBl := Lib.hid hb
  have HAt := Lib.hid (show ∀ w', w' = w.drew → At w' vb vo (b.map Bv) from fun w' hw' => by subst hw'; exact hvat)
  have har := arr_of_slice ⟨vb, vo, none⟩ cv
  clear c0 c2 c3 c4 c5 fz hl1 hl2 hF ha h hb hv hvat
  go_enter Tryz.func31, Tryz.ntmps31
  go_wp2_with fail
  refine HM.out.mono ?_
  rintro e w1 ⟨rfl, rfl⟩
  go_wp2_with fail
  refine wp_region_quiet_tail 8 (by kernel_rfl) (by kernel_rfl) ?_
  simp only [List.take_succ_cons, List.take_zero, List.drop_succ_cons, List.drop_zero]
  repeat (first | (refine wpQuiet_load_at rfl 156 (.tmp 20) rfl vb vo rfl (b.map Bv) _ HAt.out Tryz.underlying156 rfl (by rw [info_sec, List.length_map, HBl.out]) ?_; simp only [Act.put, List.setIfInBounds_toArray, List.set_cons_succ, List.set_cons_zero]) | go_big_quiet_step (fail))
  refine wpQuiet_nil ?_
  go_wp2_with (refine update_sec rfl (.tmp 17) (.tmp 18) (.tmp 21) rfl (val := SecV b) rfl rfl rfl (show UM w.drew L ml from HL1.out) ?_; intro w4 hu4 hf4)
  have HEnd := Lib.hid (show DvIn w4 lo D F (d.poked a b) ∧ Fr F w w4 from by
    have hf : Fr (fun k => k = L) w w4 := ((Fr.refl (fun k => k = L) w).drew).trans hf4
    refine ⟨⟨L, T, wv, ⟨(hf.block D (lt_of_block HH.out.row) HH.out.nDL).trans HH.out.row, ⟨_, hu4, LieM.put HL2.out a b⟩, ?_, HH.out.wt.fr hf (fun k hk e => (HH.out.own_ne k hk).2.1 e), HH.out.wf.poked a HBl.out, HH.out.nDL, HH.out.nDT, HH.out.nLT, HH.out.nD, HH.out.nL, HH.out.nT⟩, HF.out⟩, hf.mono (fun k _ e => HF.out k (Or.inr (Or.inl e)))⟩
    obtain ⟨mt, h1, h2⟩ := HH.out.tm
    exact ⟨mt, h1.fr hf (fun e => HH.out.nLT e.symm), h2⟩)
  clear hu4 hf4
  go_wp2
  go_ret
  exact ⟨rfl, HEnd.out.1, HEnd.out.2⟩

theorem yields_lookup_sec {ops : Array Oper} {C : World → Prop} {o : Oper} {a : Act} (hw : Region.wanted o (yielded ops a.tmps) = true) (m x : Operand) (ho : o.op = .lookup 148 m x false) {L n : Nat} {ml : List (Nat × Value)} {b : List UInt8}
    (hm : a.eval m = .map (some L)) (hx : a.eval x = .int .u32 (n : Int)) (hu : ∀ w, C w → UM w L ml) (hl : (getU ml n).getD (SecV (zB 512)) = SecV b) : YieldsC Tryz.prog ops C o (SecV b) a :=
  .inl ⟨hw, fun w' hw' => by
    have hr := run_lookup_um (P := Tryz.prog) (hu w' hw') Tryz.underlying148 Tryz.underlying41 (zero_sec w') false (n := n)
    rw [if_neg (by decide), hl] at hr
    unfold kU at hr
    unfold execOp
    simp only [ho, hm, hx, Sem.run_bind, hr, Result.andThen_ok, Sem.run_pure]⟩
theorem sl_at {w : World} {b o n c : Nat} {xs : List Value} (h : At w b o xs) (hl : xs.length = n) (hc : n ≤ c) : Sl w 1 (.slice (some ⟨b, o, none⟩) n c) n xs :=
  ⟨by rw [hl, Nat.mul_one], some ⟨b, o, none⟩, c, rfl, hc, fun h => (by cases h), fun i u hu => ⟨b, o, rfl, h i u hu⟩⟩
theorem over_torn {old bs : List UInt8} (h1 : old.length = 512) (h2 : bs.length = 512) : over bs 256 (old.drop 256) = tornB old bs := by
  unfold over tornB
  rw [List.length_drop, h1, List.drop_of_length_le (l := bs) (by rw [h2]; decide), List.append_nil]

set_option maxRecDepth 100000 in
set_option maxHeartbeats 4000000 in
theorem dvCrash_any (D lo keep : Nat) (torn : Int) (F : Nat → Prop) (d : Dv) (w : World) (h : DvIn w lo D F d) (hk : keep < 18446744073709551616) (hn : d.waits.length ≤ 1000000) (_ht : -9223372036854775808 ≤ torn ∧ torn ≤ 9223372036854775807) :
    Calls Tryz.prog 28 #[.pointer (some ⟨D, 0, none⟩), .int .u64 (keep : Int), .int .i64 torn] w fun e w' => ∃ F', e = .returned (.tuple #[]) ∧ DvIn w' lo D F' (d.crashed keep torn) ∧ Fr F w w' ∧ ∀ k, F' k → F k ∨ w.heap.size ≤ k := by
  obtain ⟨L, T, wv, h, hF⟩ := h
  obtain ⟨c0, c1, c2, c3, c4, c5, fz⟩ := h.cells
  obtain ⟨av, cw, hwv⟩ : ∃ av cw, wv = .slice av d.waits.length cw := by
    obtain ⟨av, cw, e, _⟩ := (Sl.own h.wt).len
    exact ⟨av, cw, e⟩
  subst hwv
  have hlm := h.lm
  have HLm := Lib.hid hlm
  have HH := Lib.hid h
  have HF := Lib.hid hF
  have HK := Lib.hid hk
  obtain ⟨nw, hnw⟩ : ∃ n, n = d.waits.length := ⟨_, rfl⟩
  rw [← hnw] at c2 hn
  have HNw := Lib.hid hnw
  clear hlm h hF hk hnw c0 c3 c4 c5 fz
  go_enter Tryz.func28, Tryz.ntmps28
  go_wp2_with fail
  go_loopw [17] (fun ii wr => ∃ i : Nat, i ≤ nw ∧ ii = .int .i64 i ∧ (∃ ml, UM wr L ml ∧ LieM ml (crashTo d keep torn i)) ∧ Fr (fun k => k = L) w wr) (fun ii _ => nw - (intOf ii).toNat)
  case atStart => exact ⟨0, Nat.zero_le _, rfl, HLm.out, Fr.refl _ _⟩
  case round =>
    clear HLm
    obtain ⟨i, hi, rfl, hml, hf⟩ := hrel
    have HMl := Lib.hid hml
    have HFr := Lib.hid hf
    clear hml hf
    rcases Nat.lt_or_ge i nw with hlt | hge
    · have hil : i < d.waits.length := by rw [← HNw.out]; exact hlt
      obtain ⟨g, cg, hwv, hat⟩ := wait_at HH.out hil
      simp only [Value.slice.injEq, true_and] at hwv
      obtain ⟨rfl, rfl⟩ := hwv
      have hgn := HH.out.own_ne g rfl
      have HWl := Lib.hid (HH.out.wf.wait hil).1
      obtain ⟨p, hp⟩ : ∃ p, p = d.waits.getD i (0, []) := ⟨_, rfl⟩
      rw [← hp] at hat HWl
      obtain ⟨pa, bs⟩ := p
      have HP := Lib.hid hp
      have HAt := Lib.hid (show At wr g (i * 513) (WrL (pa, bs)) from fun j u hj => HFr.out.cell (hat j u hj) hgn.2.1)
      have HWL := Lib.hid (show (WrL (pa, bs)).length = 513 from WrL_length HWl.out)
      have hl512 : bs.length = 512 := HWl.out
      have HB5 := Lib.hid hl512
      clear hat hp hgn hl512 hil
      rcases Classical.em ((i : Int) = torn) with htn | htn
      · have bt : ((i : Int) == torn) = true := by simp [htn]
        have HNext := Lib.hid (show crashTo d keep torn (i + 1) = fun c => if c = pa then tornB (crashTo d keep torn i pa) bs else crashTo d keep torn i c by
          show crash1 keep torn i (d.waits.getD i (0, [])) (crashTo d keep torn i) = _
          rw [← HP.out]; unfold crash1; rw [if_pos htn])
        clear htn
        go_wp2_with (first | (refine wpList_load_at rfl _ (.tmp 20) rfl g (i * 513) rfl (WrL (pa, bs)) _ HAt.out Tryz.underlying158 rfl (by rw [info_write, HWL.out]) ?_) | (refine wpList_store_row rfl _ (.tmp 7) (.tmp 21) rfl wr.heap.size rfl (WrL (pa, bs)) rfl _ _ (heap_alloc_new _ _) (by rw [HWL.out]; rfl) (WrL_one _) (by rw [info_write, HWL.out]) ?_; intro w2 hg2 hf2 hs2; have HS2 := Lib.hid hs2; clear hs2; have HG2 := Lib.hid hg2; have HF2 := Lib.hid ((Fr.of_below (S := fun k => k = wr.heap.size) ((Below.refl _ wr).alloc (Nat.le_refl _) _)).trans hf2); have HAt2 := Lib.hid (show At w2 wr.heap.size 1 (bs.map Bv) from fun j u hj => by have h0 := At.of_row (cs := WrL (pa, bs)) hg2 (j + 1) u hj; rwa [Nat.zero_add, Nat.add_comm j 1] at h0); clear hg2 hf2) | (refine wpList_load_at rfl _ (.tmp 22) rfl wr.heap.size 1 rfl (bs.map Bv) _ HAt2.out Tryz.underlying156 rfl (by rw [info_sec, List.length_map, HB5.out]) ?_) | (refine wpList_store_row rfl _ (.tmp 8) (.tmp 23) rfl w2.heap.size rfl (bs.map Bv) rfl _ _ (heap_alloc_new _ _) (by rw [List.length_map, HB5.out]; rfl) (Bv_oneCell _) (by rw [info_sec, List.length_map, HB5.out]) ?_; intro w3 hg3 hf3 hs3; have HS3 := Lib.hid hs3; have HG3 := Lib.hid hg3; have HF3 := Lib.hid ((Fr.of_below (S := fun k => k = w2.heap.size) ((Below.refl _ w2).alloc (Nat.le_refl _) _)).trans hf3); clear hg3 hf3 hs3))
        obtain ⟨ml, hm1, hm2⟩ := HMl.out
        have HM1 := Lib.hid hm1
        have HM2 := Lib.hid hm2
        have hszD : D < w.heap.size := lt_of_block HH.out.row
        have hszL : L < w.heap.size := HH.out.lt L (Or.inr (Or.inl rfl))
        have hszw : w.heap.size ≤ wr.heap.size := HFr.out.size
        have hsz2 : wr.heap.size < w2.heap.size := lt_of_block HG2.out
        have HF13 := Lib.hid ((HF2.out.mono (T := fun k => k = wr.heap.size ∨ k = w2.heap.size) (fun k _ e => Or.inl e)).trans (HF3.out.mono (T := fun k => k = wr.heap.size ∨ k = w2.heap.size) (fun k _ e => Or.inr e)))
        have HUM3 := Lib.hid (hm1.fr HF13.out (by rintro (e | e) <;> omega))
        have HFrW3 := Lib.hid (show Fr (fun k => k = L) w w3 from (HFr.out.trans (HF13.out.mono (T := fun k => k = L ∨ wr.heap.size ≤ k) (fun k _ e => by rcases e with e | e <;> omega) |>.mono (fun k hk e => by omega))))
        have HK1 := Lib.hid (HF13.out.cell (HFr.out.cell HH.out.cells.2.1 HH.out.nDL) (by rintro (e | e) <;> dsimp only at e <;> omega))
        have HK7 := Lib.hid (show w3.cell? ⟨wr.heap.size, 0, none⟩ = some (.int .u32 (pa : Int)) from HF3.out.cell ((cell_of_row _ _ 0 _ _ _ HG2.out).trans rfl) (by dsimp only; omega))
        have HOl := Lib.hid (HH.out.wf.crashTo keep torn i (by rw [← HNw.out]; exact hi) pa)
        obtain ⟨old, hold⟩ : ∃ old, old = crashTo d keep torn i pa := ⟨_, rfl⟩
        rw [← hold] at HNext HOl
        have HOld := Lib.hid hold
        have HTl := Lib.hid (tornB_length HOl.out HB5.out)
        clear hold hm1 hm2
        go_wp2_with fail
        refine wp_region_headW (C := fun u => u.cell? ⟨D, 1, none⟩ = some (.map (some L)) ∧ u.cell? ⟨wr.heap.size, 0, none⟩ = some (.int .u32 (pa : Int)) ∧ UM u L ml) 8 (by kernel_rfl) (by decide) ?_
        obtain ⟨wd, hwd⟩ : ∃ wd, wd = { w3 with drawn := w3.drawn + 1 } := ⟨_, rfl⟩
        have HCd := Lib.hid (show wd.cell? ⟨D, 1, none⟩ = some (.map (some L)) ∧ wd.cell? ⟨wr.heap.size, 0, none⟩ = some (.int .u32 (pa : Int)) ∧ UM wd L ml by rw [hwd]; exact ⟨HK1.out, HK7.out, HUM3.out⟩)
        have HFd := Lib.hid (show Fr (fun k => k = L) w wd by rw [hwd]; exact ⟨HFrW3.out.os, HFrW3.out.tape, HFrW3.out.output, HFrW3.out.size, HFrW3.out.block⟩)
        have HGd := Lib.hid ((show wd.heap[w2.heap.size]? = w3.heap[w2.heap.size]? by rw [hwd]).trans HG3.out)
        rw [← hwd]
        clear hwd
        refine wpHeadL_take (i := 0) (v := .pointer (some ⟨D, 0, none⟩)) rfl (by kernel_rfl) (fun _ _ _ h => h) headW_done (.inl ⟨by rfl, fun w' _ => by go_simp⟩) ?_
        simp only [Act.put, List.setIfInBounds_toArray, List.set_cons_succ, List.set_cons_zero]
        refine wpHeadL_take (i := 1) (v := .pointer (some ⟨D, 0, none⟩)) rfl (by kernel_rfl) (fun _ _ _ h => h) headW_done (.inl ⟨by rfl, fun w' _ => by go_simp⟩) ?_
        simp only [Act.put, List.setIfInBounds_toArray, List.set_cons_succ, List.set_cons_zero]
        refine wpHeadL_take (i := 2) (v := .pointer (some ⟨D, 1, none⟩)) rfl (by kernel_rfl) (fun _ _ _ h => h) headW_done (.inl ⟨by rfl, fun w' _ => by go_simp⟩) ?_
        simp only [Act.put, List.setIfInBounds_toArray, List.set_cons_succ, List.set_cons_zero]
        refine wpHeadL_take (i := 3) (v := .map (some L)) rfl (by kernel_rfl) (fun _ _ _ h => h) headW_done (.inl ⟨by rfl, fun w' hw => by (have h := hw.1; go_simp)⟩) ?_
        simp only [Act.put, List.setIfInBounds_toArray, List.set_cons_succ, List.set_cons_zero]
        refine wpHeadL_take (i := 4) (v := .pointer (some ⟨wr.heap.size, 0, none⟩)) rfl (by kernel_rfl) (fun _ _ _ h => h) headW_done (.inl ⟨by rfl, fun w' _ => by go_simp⟩) ?_
        simp only [Act.put, List.setIfInBounds_toArray, List.set_cons_succ, List.set_cons_zero]
        refine wpHeadL_take (i := 5) (v := .int .u32 (pa : Int)) rfl (by kernel_rfl) (fun _ _ _ h => h) headW_done (.inl ⟨by rfl, fun w' hw => by (have h := hw.2.1; go_simp)⟩) ?_
        simp only [Act.put, List.setIfInBounds_toArray, List.set_cons_succ, List.set_cons_zero]
        refine wpHeadL_take (i := 6) (v := SecV old) rfl (by kernel_rfl) (fun _ _ _ h => h) headW_done (yields_lookup_sec (by rfl) (.tmp 30) (.tmp 32) (by rfl) (by rfl) (by rfl) (fun _ h => h.2.2) (by rw [HOld.out]; exact HM2.out pa)) ?_
        simp only [Act.put, List.setIfInBounds_toArray, List.set_cons_succ, List.set_cons_zero]
        refine wpHeadL_forced 7 HCd.out (by kernel_rfl) rfl (by rfl) (fun K hK => ?_)
        unfold Oper.wp execOp
        go_simp
        refine hK _ _ ?_
        clear hK K
        obtain ⟨we, hwe⟩ : ∃ we, we = wd.alloc (.cells Tryz.zeroCells156 156) := ⟨_, rfl⟩
        have hbe : Below wd.heap.size wd we := by rw [hwe]; exact (Below.refl _ wd).alloc (Nat.le_refl _) _
        have HGe := Lib.hid (show we.heap[wd.heap.size]? = some (.cells ((zB 512).map Bv).toArray 156 (0, 0)) by rw [hwe]; exact heap_alloc_new _ _)
        have hDd : D < wd.heap.size := World.block_lt_of_cell? _ ⟨D, 1, none⟩ HCd.out.1
        have h7d : wr.heap.size < wd.heap.size := World.block_lt_of_cell? _ ⟨wr.heap.size, 0, none⟩ HCd.out.2.1
        have h8d : w2.heap.size < wd.heap.size := lt_of_block HGd.out
        have HCe := Lib.hid (show we.cell? ⟨D, 1, none⟩ = some (.map (some L)) ∧ we.cell? ⟨wr.heap.size, 0, none⟩ = some (.int .u32 (pa : Int)) ∧ UM we L ml from ⟨(hbe.cell (p := ⟨D, 1, none⟩) hDd).trans HCd.out.1, (hbe.cell (p := ⟨wr.heap.size, 0, none⟩) h7d).trans HCd.out.2.1, HCd.out.2.2.of_block (hbe.block L HCd.out.2.2.lt)⟩)
        have HFe := Lib.hid (HFd.out.trans (Fr.of_below hbe))
        have HG8e := Lib.hid ((hbe.block w2.heap.size h8d).trans HGd.out)
        have hwde : w.heap.size ≤ wd.heap.size := HFd.out.size
        rw [← hwe]
        clear hwe hbe
        refine headW_end HCe.out (by kernel_rfl) ?_
        simp only [List.drop_succ_cons, List.drop_zero]
        go_wp2_with (refine wpList_store_row rfl _ (.tmp 9) (.tmp 33) rfl wd.heap.size rfl (old.map Bv) rfl _ _ HGe.out (by rw [List.length_map, HOl.out]; rfl) (Bv_oneCell _) (by rw [info_sec, List.length_map, HOl.out]) ?_; intro w4 hg4 hf4 hs4)
        have hL9 : L < wd.heap.size := HCd.out.2.2.lt
        have HC4 := Lib.hid (show w4.cell? ⟨D, 1, none⟩ = some (.map (some L)) ∧ w4.cell? ⟨wr.heap.size, 0, none⟩ = some (.int .u32 (pa : Int)) ∧ UM w4 L ml from ⟨hf4.cell HCe.out.1 (by dsimp only; omega), hf4.cell HCe.out.2.1 (by dsimp only; omega), HCe.out.2.2.fr hf4 (by omega)⟩)
        have HFr4 := Lib.hid (HFe.out.step hf4 (fun j e => Or.inr (by omega)))
        have HG84 := Lib.hid ((hf4.block w2.heap.size (lt_of_block HG8e.out) (by omega)).trans HG8e.out)
        have HG94 := Lib.hid hg4
        clear hg4 hf4 hs4
        simp only [Act.put]
        go_wp2_with fail
        refine wp_region_quiet_tail 2 (by kernel_rfl) (by kernel_rfl) ?_
        simp only [List.take_succ_cons, List.take_zero, List.drop_succ_cons, List.drop_zero]
        repeat (go_big_quiet_step (fail))
        refine wpQuiet_nil ?_
        have HOat := Lib.hid (show At w4.drew wd.heap.size 256 ((old.drop 256).map Bv) from by
          have h := At_part8 HG94.out 256 256
          rwa [List.take_of_length_le (by rw [List.length_drop, HOl.out]; decide)] at h)
        go_wp2_with (refine copy_u8 rfl (.tmp 34) (.tmp 35) rfl (g := w2.heap.size) (cur := bs) (show w4.drew.heap[w2.heap.size]? = _ from HG84.out) (n := 256) (ys := old.drop 256) (sl_at HOat.out (by rw [List.length_map, List.length_drop, HOl.out]) (Nat.le_refl _)) rfl rfl (by rw [HB5.out]; decide) ?_; intro w5 hg5 hf5)
        rw [show min 256 256 = 256 from rfl, List.take_of_length_le (by rw [List.length_drop, HOl.out]; decide), over_torn HOl.out HB5.out] at hg5
        obtain ⟨tb, htb⟩ : ∃ tb, tb = tornB old bs := ⟨_, rfl⟩
        rw [← htb] at hg5 HTl HNext
        have hw24 : w2.heap.size ≠ L ∧ D ≠ w2.heap.size := by omega
        have HK1 := Lib.hid (hf5.cell (show w4.drew.cell? ⟨D, 1, none⟩ = _ from HC4.out.1) (by dsimp only; omega))
        have HK7 := Lib.hid (hf5.cell (show w4.drew.cell? ⟨wr.heap.size, 0, none⟩ = _ from HC4.out.2.1) (by dsimp only; omega))
        have HUM := Lib.hid ((show UM w4.drew L ml from HC4.out.2.2).fr hf5 (by omega))
        have HFrW := Lib.hid (HFr4.out.drew.step hf5 (fun j e => Or.inr (by omega)))
        have HG8 := Lib.hid hg5
        clear hg5 hf5 htb
        go_wp2_with fail
        have k1 := HK1.out
        have k7 := HK7.out
        have HAt8 := Lib.hid (show ∀ w', w' = w5.drew → At w' w2.heap.size 0 (tb.map Bv) from fun w' hw' => by subst hw'; exact At.of_row HG8.out)
        refine wp_region_quiet_tail 7 (by kernel_rfl) (by kernel_rfl) ?_
        simp only [List.take_succ_cons, List.take_zero, List.drop_succ_cons, List.drop_zero]
        repeat (first | (refine wpQuiet_load_at rfl 156 (.tmp 8) rfl w2.heap.size 0 rfl (tb.map Bv) _ HAt8.out Tryz.underlying156 rfl (by rw [info_sec, List.length_map, HTl.out]) ?_; simp only [Act.put, List.setIfInBounds_toArray, List.set_cons_succ, List.set_cons_zero]) | go_big_quiet_step (fail))
        refine wpQuiet_nil ?_
        go_wp2_with (refine update_sec rfl (.tmp 52) (.tmp 54) (.tmp 55) rfl (val := SecV tb) rfl rfl rfl (show UM w5.drew L ml from HUM.out) ?_; intro w6 hu6 hf6)
        have HEnd := Lib.hid (show (∃ j : Nat, j ≤ nw ∧ (.int .i64 ((i : Int) + 1) : Value) = .int .i64 (j : Int) ∧ (∃ ml, UM w6 L ml ∧ LieM ml (crashTo d keep torn j)) ∧ Fr (fun k => k = L) w w6) ∧ nw - (intOf (.int .i64 ((i : Int) + 1))).toNat < nw - (intOf (.int .i64 (i : Int))).toNat from
          ⟨⟨i + 1, by omega, by go_num, ⟨_, hu6, by rw [HNext.out]; exact LieM.put HM2.out pa tb⟩, (HFrW.out.drew.trans hf6)⟩, by simp [intOf]; omega⟩)
        clear hu6 hf6
        go_wp2_with fail
        exact HEnd.out
      · have bt : ((i : Int) == torn) = false := by simp [htn]
        have hbit := u64_and_nat (keep / 2 ^ (i % 64)) 1 (by have := HK.out; have := Nat.div_le_self keep (2 ^ (i % 64)); omega) (by decide)
        rw [Nat.and_one_is_mod] at hbit
        have hcast : ((keep / 2 ^ (i % 64) : Nat) : Int) = (keep : Int) / 2 ^ (i % 64) := by rw [Int.natCast_ediv, Int.natCast_pow]; rfl
        rw [hcast, show ((1 : Nat) : Int) = 1 from rfl] at hbit
        rcases Classical.em (keep / 2 ^ (i % 64) % 2 = 1) with hb1 | hb1
        · have bb : (bits .and .u64 ((keep : Int) / 2 ^ (i % 64)) 1 == 1) = true := by rw [hbit, hb1]; rfl
          have HNext := Lib.hid (show crashTo d keep torn (i + 1) = fun c => if c = pa then bs else crashTo d keep torn i c by
            show crash1 keep torn i (d.waits.getD i (0, [])) (crashTo d keep torn i) = _
            rw [← HP.out]; unfold crash1; rw [if_neg htn, if_pos hb1])
          clear htn hb1 hbit hcast
          go_wp2_with (first | (refine wpList_load_at rfl _ (.tmp 20) rfl g (i * 513) rfl (WrL (pa, bs)) _ HAt.out Tryz.underlying158 rfl (by rw [info_write, HWL.out]) ?_) | (refine wpList_store_row rfl _ (.tmp 7) (.tmp 21) rfl wr.heap.size rfl (WrL (pa, bs)) rfl _ _ (heap_alloc_new _ _) (by rw [HWL.out]; rfl) (WrL_one _) (by rw [info_write, HWL.out]) ?_; intro w2 hg2 hf2 hs2; have HS2 := Lib.hid hs2; clear hs2; have HG2 := Lib.hid hg2; have HF2 := Lib.hid ((Fr.of_below (S := fun k => k = wr.heap.size) ((Below.refl _ wr).alloc (Nat.le_refl _) _)).trans hf2); have HAt2 := Lib.hid (show At w2 wr.heap.size 1 (bs.map Bv) from fun j u hj => by have h0 := At.of_row (cs := WrL (pa, bs)) hg2 (j + 1) u hj; rwa [Nat.zero_add, Nat.add_comm j 1] at h0); clear hg2 hf2) | (refine wpList_load_at rfl _ (.tmp 22) rfl wr.heap.size 1 rfl (bs.map Bv) _ HAt2.out Tryz.underlying156 rfl (by rw [info_sec, List.length_map, HB5.out]) ?_) | (refine wpList_store_row rfl _ (.tmp 8) (.tmp 23) rfl w2.heap.size rfl (bs.map Bv) rfl _ _ (heap_alloc_new _ _) (by rw [List.length_map, HB5.out]; rfl) (Bv_oneCell _) (by rw [info_sec, List.length_map, HB5.out]) ?_; intro w3 hg3 hf3 hs3; have HS3 := Lib.hid hs3; have HG3 := Lib.hid hg3; have HF3 := Lib.hid ((Fr.of_below (S := fun k => k = w2.heap.size) ((Below.refl _ w2).alloc (Nat.le_refl _) _)).trans hf3); clear hg3 hf3 hs3))
          obtain ⟨ml, hm1, hm2⟩ := HMl.out
          have HM1 := Lib.hid hm1
          have HM2 := Lib.hid hm2
          have hszD : D < w.heap.size := lt_of_block HH.out.row
          have hszL : L < w.heap.size := HH.out.lt L (Or.inr (Or.inl rfl))
          have hszw : w.heap.size ≤ wr.heap.size := HFr.out.size
          have hsz2 : wr.heap.size < w2.heap.size := lt_of_block HG2.out
          have HF13 := Lib.hid ((HF2.out.mono (T := fun k => k = wr.heap.size ∨ k = w2.heap.size) (fun k _ e => Or.inl e)).trans (HF3.out.mono (T := fun k => k = wr.heap.size ∨ k = w2.heap.size) (fun k _ e => Or.inr e)))
          have HUM3 := Lib.hid (hm1.fr HF13.out (by rintro (e | e) <;> omega))
          have HFrW3 := Lib.hid (show Fr (fun k => k = L) w w3 from (HFr.out.trans (HF13.out.mono (T := fun k => k = L ∨ wr.heap.size ≤ k) (fun k _ e => by rcases e with e | e <;> omega) |>.mono (fun k hk e => by omega))))
          have HK1 := Lib.hid (HF13.out.cell (HFr.out.cell HH.out.cells.2.1 HH.out.nDL) (by rintro (e | e) <;> dsimp only at e <;> omega))
          have HK7 := Lib.hid (show w3.cell? ⟨wr.heap.size, 0, none⟩ = some (.int .u32 (pa : Int)) from HF3.out.cell ((cell_of_row _ _ 0 _ _ _ HG2.out).trans rfl) (by dsimp only; omega))
          have HUM := HUM3
          have HFrW := HFrW3
          have HG8 := HG3
          clear hm1 hm2
          have k1 := HK1.out
          have k7 := HK7.out
          have HAt8 := Lib.hid (show ∀ w', w' = w3.drew → At w' w2.heap.size 0 (bs.map Bv) from fun w' hw' => by subst hw'; exact At.of_row HG8.out)
          refine wp_region_quiet_tail 7 (by kernel_rfl) (by kernel_rfl) ?_
          simp only [List.take_succ_cons, List.take_zero, List.drop_succ_cons, List.drop_zero]
          repeat (first | (refine wpQuiet_load_at rfl 156 (.tmp 8) rfl w2.heap.size 0 rfl (bs.map Bv) _ HAt8.out Tryz.underlying156 rfl (by rw [info_sec, List.length_map, HB5.out]) ?_; simp only [Act.put, List.setIfInBounds_toArray, List.set_cons_succ, List.set_cons_zero]) | go_big_quiet_step (fail))
          refine wpQuiet_nil ?_
          go_wp2_with (refine update_sec rfl (.tmp 52) (.tmp 54) (.tmp 55) rfl (val := SecV bs) rfl rfl rfl (show UM w3.drew L ml from HUM.out) ?_; intro w6 hu6 hf6)
          have HEnd := Lib.hid (show (∃ j : Nat, j ≤ nw ∧ (.int .i64 ((i : Int) + 1) : Value) = .int .i64 (j : Int) ∧ (∃ ml, UM w6 L ml ∧ LieM ml (crashTo d keep torn j)) ∧ Fr (fun k => k = L) w w6) ∧ nw - (intOf (.int .i64 ((i : Int) + 1))).toNat < nw - (intOf (.int .i64 (i : Int))).toNat from
            ⟨⟨i + 1, by omega, by go_num, ⟨_, hu6, by rw [HNext.out]; exact LieM.put HM2.out pa bs⟩, (HFrW.out.drew.trans hf6)⟩, by simp [intOf]; omega⟩)
          clear hu6 hf6
          go_wp2_with fail
          exact HEnd.out
        · have bb : (bits .and .u64 ((keep : Int) / 2 ^ (i % 64)) 1 == 1) = false := by rw [hbit]; have := Nat.mod_two_eq_zero_or_one (keep / 2 ^ (i % 64)); rcases this with h | h; (· rw [h]; rfl); (· exact absurd h hb1)
          have HNext := Lib.hid (show crashTo d keep torn (i + 1) = crashTo d keep torn i by
            show crash1 keep torn i (d.waits.getD i (0, [])) (crashTo d keep torn i) = _
            rw [← HP.out]; unfold crash1; rw [if_neg htn, if_neg hb1])
          clear htn hb1 hbit hcast
          go_wp2_with (first | (refine wpList_load_at rfl _ (.tmp 20) rfl g (i * 513) rfl (WrL (pa, bs)) _ HAt.out Tryz.underlying158 rfl (by rw [info_write, HWL.out]) ?_) | (refine wpList_store_row rfl _ (.tmp 7) (.tmp 21) rfl wr.heap.size rfl (WrL (pa, bs)) rfl _ _ (heap_alloc_new _ _) (by rw [HWL.out]; rfl) (WrL_one _) (by rw [info_write, HWL.out]) ?_; intro w2 hg2 hf2 hs2; have HS2 := Lib.hid hs2; clear hs2; have HG2 := Lib.hid hg2; have HF2 := Lib.hid ((Fr.of_below (S := fun k => k = wr.heap.size) ((Below.refl _ wr).alloc (Nat.le_refl _) _)).trans hf2); have HAt2 := Lib.hid (show At w2 wr.heap.size 1 (bs.map Bv) from fun j u hj => by have h0 := At.of_row (cs := WrL (pa, bs)) hg2 (j + 1) u hj; rwa [Nat.zero_add, Nat.add_comm j 1] at h0); clear hg2 hf2) | (refine wpList_load_at rfl _ (.tmp 22) rfl wr.heap.size 1 rfl (bs.map Bv) _ HAt2.out Tryz.underlying156 rfl (by rw [info_sec, List.length_map, HB5.out]) ?_) | (refine wpList_store_row rfl _ (.tmp 8) (.tmp 23) rfl w2.heap.size rfl (bs.map Bv) rfl _ _ (heap_alloc_new _ _) (by rw [List.length_map, HB5.out]; rfl) (Bv_oneCell _) (by rw [info_sec, List.length_map, HB5.out]) ?_; intro w3 hg3 hf3 hs3; have HS3 := Lib.hid hs3; have HG3 := Lib.hid hg3; have HF3 := Lib.hid ((Fr.of_below (S := fun k => k = w2.heap.size) ((Below.refl _ w2).alloc (Nat.le_refl _) _)).trans hf3); clear hg3 hf3 hs3))
          obtain ⟨ml, hm1, hm2⟩ := HMl.out
          have HM1 := Lib.hid hm1
          have HM2 := Lib.hid hm2
          have hszD : D < w.heap.size := lt_of_block HH.out.row
          have hszL : L < w.heap.size := HH.out.lt L (Or.inr (Or.inl rfl))
          have hszw : w.heap.size ≤ wr.heap.size := HFr.out.size
          have hsz2 : wr.heap.size < w2.heap.size := lt_of_block HG2.out
          have HF13 := Lib.hid ((HF2.out.mono (T := fun k => k = wr.heap.size ∨ k = w2.heap.size) (fun k _ e => Or.inl e)).trans (HF3.out.mono (T := fun k => k = wr.heap.size ∨ k = w2.heap.size) (fun k _ e => Or.inr e)))
          have HUM3 := Lib.hid (hm1.fr HF13.out (by rintro (e | e) <;> omega))
          have HFrW3 := Lib.hid (show Fr (fun k => k = L) w w3 from (HFr.out.trans (HF13.out.mono (T := fun k => k = L ∨ wr.heap.size ≤ k) (fun k _ e => by rcases e with e | e <;> omega) |>.mono (fun k hk e => by omega))))
          exact ⟨⟨i + 1, by omega, by go_num, ⟨ml, HUM3.out, by rw [HNext.out]; exact HM2.out⟩, HFrW3.out⟩, by simp [intOf]; omega⟩
    · obtain rfl : i = nw := by omega
      obtain ⟨ml, hm1, hm2⟩ := HMl.out
      have hwf : (({ d with lies := crashTo d keep torn i } : Dv)).Wf := ⟨HH.out.wf.lo, HH.out.wf.hi, HH.out.wf.crashTo keep torn i (by rw [HNw.out]; exact Nat.le_refl _), HH.out.wf.waits, HH.out.wf.left⟩
      have hat : DvAt wr lo D L T (.slice av d.waits.length cw) { d with lies := crashTo d keep torn i } :=
        ⟨(HFr.out.block D (lt_of_block HH.out.row) HH.out.nDL).trans HH.out.row, ⟨ml, hm1, hm2⟩, by
          obtain ⟨mt, h1, h2⟩ := HH.out.tm
          exact ⟨mt, h1.fr HFr.out (fun e => HH.out.nLT e.symm), h2⟩, HH.out.wt.fr HFr.out (fun k hk e => (HH.out.own_ne k hk).2.1 e), hwf, HH.out.nDL, HH.out.nDT, HH.out.nLT, HH.out.nD, HH.out.nL, HH.out.nT⟩
      have hq := dvQuiet_any D lo L T _ _ wr hat
      have HQ := Lib.hid hq
      have hsz : w.heap.size ≤ wr.heap.size := HFr.out.size
      clear hat hwf hm1 hm2 hq HMl
      go_wp2_with fail
      refine HQ.out.mono ?_
      rintro e w5 ⟨rfl, h5, hf5⟩
      obtain ⟨_, _, _, _, k4, k5, fz⟩ := h5.cells
      have f4 := fz 4
      have f5 := fz 5
      have HEnd := Lib.hid (show ∀ w6, w6 = (w5.setCell ⟨D, 5, none⟩ (.bool false)).setCell ⟨D, 4, none⟩ (.int .i64 (-1)) → ∃ F', DvIn w6 lo D F' (d.crashed keep torn) ∧ Fr F w w6 ∧ ∀ k, F' k → F k ∨ w.heap.size ≤ k from fun w6 hw6 => by
        subst hw6
        have g1 := ((Fr.refl (fun k => k = D) w5).set D 5 rfl (.bool false)).set D 4 rfl (.int .i64 (-1))
        have r1 := heap_setCell_same _ D 5 _ _ (.bool false) h5.row
        have r2 := heap_setCell_same _ D 4 _ _ (.int .i64 (-1)) r1
        have hfin := h5.laid (d' := d.crashed keep torn) g1 rfl (by rw [HNw.out]; rfl) (HH.out.wf.crashed keep torn) r2
        refine ⟨DvF D L wr.heap.size (.slice none 0 0), ⟨_, _, _, hfin, fun _ h => h⟩, ?_, ?_⟩
        · refine ((HFr.out.mono (T := fun k => k = D ∨ k = L) (fun k _ e => Or.inr e)).trans ((hf5.trans g1).mono (fun k _ e => Or.inl e))).mono (fun k hk e => ?_)
          rcases e with e | e
          · exact HF.out k (Or.inl e)
          · exact HF.out k (Or.inr (Or.inl e))
        · rintro k (e | e | e | e)
          · exact Or.inl (HF.out k (Or.inl e))
          · exact Or.inl (HF.out k (Or.inr (Or.inl e)))
          · exact Or.inr (by omega)
          · cases e)
      clear h5 hf5 fz
      go_wp2
      go_end0
      obtain ⟨F', a1, a2, a3⟩ := HEnd.out _ rfl
      exact ⟨F', rfl, a1, a2, a3⟩

end Go.Proofs.YtkbnkdokcmpcgaaGreatDoor
namespace Go.Proofs.YtkbnkdokcmpcgaaGreatDoor
open Go.RowKit

/-- A slice of strings. -/
def StrsIn (w : World) (v : Value) (l : List ByteArray) : Prop := Sl w 1 v l.length (l.map Value.string)
theorem StrsIn.below {w w' : World} {v : Value} {l : List ByteArray} (h : StrsIn w v l) (hb : Below w.heap.size w w') : StrsIn w' v l := Sl.below h hb
theorem StrsIn.open {w : World} {v : Value} {l : List ByteArray} (h : StrsIn w v l) : ∃ a cap, v = .slice a l.length cap ∧ ∀ i (hi : i < l.length), ∃ b o, a = some ⟨b, o, none⟩ ∧ w.cell? ⟨b, o + i, none⟩ = some (.string l[i]) := by
  obtain ⟨_, a, cap, rfl, _, _, h4⟩ := h
  exact ⟨a, cap, rfl, fun i hi => h4 i _ (by simp [hi])⟩

/-- One string is less than another. -/
def sLt (a b : ByteArray) : Bool := Op.bytesLess a.toList b.toList
def sEq (a b : ByteArray) : Bool := a.toList == b.toList
theorem sEq_iff (a b : ByteArray) : sEq a b = true ↔ a = b := by
  unfold sEq
  rw [beq_iff_eq, ByteArray.toList_eq, ByteArray.toList_eq, Array.toList_inj]
  exact ⟨fun h => ByteArray.ext h, fun h => by rw [h]⟩
theorem sLt_iff (a b : ByteArray) : sLt a b = true ↔ a.data.toList < b.data.toList := by
  unfold sLt
  rw [bytesLess_eq, ByteArray.toList_eq, ByteArray.toList_eq, decide_eq_true_iff]

/-- A key may be, in its place. -/
def keyAt (l : List ByteArray) (i : Nat) : Bool :=
  match l[i]? with
  | none => true
  | some k => decide (k.size ≠ 0) && decide (k.size ≤ 32) && (match i with | 0 => true | j + 1 => sLt (l.getD j ⟨#[]⟩) k)
def keysB (l : List ByteArray) : Bool := (List.range l.length).all (keyAt l)
theorem keysB_false {l : List ByteArray} {i : Nat} (hi : i < l.length) (h : keyAt l i = false) : keysB l = false := by
  rw [Bool.eq_false_iff]
  intro ha
  have := List.all_eq_true.1 ha i (by simpa using hi)
  rw [h] at this
  cases this
theorem keysB_true {l : List ByteArray} (h : ∀ i, i < l.length → keyAt l i = true) : keysB l = true :=
  List.all_eq_true.2 fun i hi => h i (by simpa using hi)

theorem size_zero_iff (k : ByteArray) : k.toList = [] ↔ k.size = 0 := by
  rw [ByteArray.toList_eq]
  obtain ⟨⟨l⟩⟩ := k
  show l = [] ↔ l.length = 0
  exact List.length_eq_zero_iff.symm

set_option maxHeartbeats 1000000 in
theorem keys_any (v : Value) (l : List ByteArray) (w : World) (h : StrsIn w v l) (hr : l.length ≤ 140737488351232) :
    Calls Tryz.prog 153 #[v] w fun e w' => e = .returned (.bool (keysB l)) ∧ w = w' := by
  obtain ⟨a, cap, rfl, hel⟩ := h.open
  have HE := Lib.hid hel
  clear h hel
  go_enter Tryz.func153, Tryz.ntmps153
  go_wp2
  go_loop [7] (fun i => ∃ k : Nat, k ≤ l.length ∧ i = .int .i64 k ∧ ∀ j, j < k → keyAt l j = true) (fun i => l.length - (intOf i).toNat)
  case atStart => exact ⟨0, Nat.zero_le _, rfl, fun j hj => by omega⟩
  case round =>
    obtain ⟨k, hk, rfl, hz⟩ := hrel
    have HZ := Lib.hid hz
    clear hz
    rcases Nat.lt_or_ge k l.length with hlt | hge
    · obtain ⟨b, o, rfl, hc⟩ := HE.out k hlt
      obtain ⟨s, hs⟩ : ∃ s, s = l[k]'hlt := ⟨_, rfl⟩
      have hg : l[k]? = some s := by rw [hs]; exact List.getElem?_eq_getElem hlt
      rw [← hs] at hc
      have HG := Lib.hid hg
      have HS := Lib.hid hs
      clear hs hg
      by_cases h0 : s.size = 0
      · have HF := Lib.hid (keysB_false hlt (show keyAt l k = false by unfold keyAt; rw [HG.out]; simp [h0]))
        have b1 := (size_zero_iff s).2 h0
        clear h0
        go_wp2
        go_ret
        exact ⟨by rw [HF.out]; rfl, rfl⟩
      have b1 : ¬ s.toList = [] := fun e => h0 ((size_zero_iff s).1 e)
      have b1' : s.toList.isEmpty = false := by simpa using b1
      by_cases h1 : s.size ≤ 32
      · have b2 : ¬ (32 : Int) < (s.size : Int) := by omega
        cases k with
        | zero =>
          rw [Nat.add_zero] at hc
          have HK := Lib.hid (show keyAt l 0 = true by unfold keyAt; rw [HG.out]; simp [h0, h1])
          clear h0 h1
          go_wp2
          go_round
          case rel => exact ⟨1, by omega, by go_num, fun j hj => by obtain rfl : j = 0 := by omega
                                                                    exact HK.out⟩
          case measure => simp [intOf]; omega
        | succ m =>
          obtain ⟨b', o', e', hc'⟩ := HE.out m (by omega)
          simp only [Option.some.injEq, Addr.mk.injEq, and_true] at e'
          obtain ⟨rfl, rfl⟩ := e'
          obtain ⟨s', hs'⟩ : ∃ s', s' = l[m]'(by omega) := ⟨_, rfl⟩
          have hg' : l.getD m ⟨#[]⟩ = s' := by rw [hs', List.getD_eq_getElem?_getD, List.getElem?_eq_getElem (by omega)]; rfl
          rw [← hs'] at hc'
          have ew : wrap64 (m : Int) = (m : Int) := by unfold wrap64; omega
          cases hl : sLt s' s with
          | true =>
            have HK := Lib.hid (show keyAt l (m + 1) = true by unfold keyAt; rw [HG.out]; simp only [hg', hl]; simp [h0, h1])
            have b3 : Op.bytesLess s'.toList s.toList = true := hl
            clear h0 h1 hs' hg' hl
            go_wp2
            go_round
            case rel =>
              refine ⟨m + 1 + 1, by omega, by go_num, fun j hj => ?_⟩
              rcases Nat.lt_or_ge j (m + 1) with h | h
              · exact HZ.out j h
              · obtain rfl : j = m + 1 := by omega
                exact HK.out
            case measure => simp [intOf]; omega
          | false =>
            have HF := Lib.hid (keysB_false hlt (show keyAt l (m + 1) = false by unfold keyAt; rw [HG.out]; simp only [hg', hl]; simp))
            have b3 : Op.bytesLess s'.toList s.toList = false := hl
            clear h0 h1 hs' hg' hl
            go_wp2
            go_ret
            exact ⟨by rw [HF.out]; rfl, rfl⟩
      · have HF := Lib.hid (keysB_false hlt (show keyAt l k = false by unfold keyAt; rw [HG.out]; simp [h1]))
        have b2 : (32 : Int) < (s.size : Int) := by omega
        clear h0 h1
        go_wp2
        go_ret
        exact ⟨by rw [HF.out]; rfl, rfl⟩
    · obtain rfl : k = l.length := by omega
      have HF := Lib.hid (keysB_true HZ.out)
      go_wp2
      go_ret
      exact ⟨by rw [HF.out]; rfl, rfl⟩

end Go.Proofs.YtkbnkdokcmpcgaaGreatDoor
namespace Go.Proofs.YtkbnkdokcmpcgaaGreatDoor
open Go.RowKit

theorem bv_beq (x y : UInt8) : ((x.toNat : Int) == (y.toNat : Int)) = (x == y) := by
  rw [Bool.eq_iff_iff]; simp only [beq_iff_eq]
  exact ⟨fun h => UInt8.toNat_inj.1 (by omega), fun h => by rw [h]⟩

theorem run_eqItems_u8 (d : Nat) (xs ys : List UInt8) (w : World) : ∀ is : List Nat, (∀ i ∈ is, i < xs.length ∧ i < ys.length) →
    (Op.eqItems (d + 1) 5 1 (xs.map Bv).toArray (ys.map Bv).toArray is).run Tryz.prog w = .ok (is.all fun i => xs[i]? == ys[i]?) w
  | [], _ => by simp [Op.eqItems]
  | i :: is, h => by
    obtain ⟨h1, h2⟩ := h i (by simp)
    have hp : Tryz.prog.plainKey 5 = true := by kernel_rfl
    have p1 := run_part_plain (P := Tryz.prog) w hp (xs := (xs.map Bv).toArray) (off := i * 1) (v := Bv xs[i]) (by simp [h1])
    have p2 := run_part_plain (P := Tryz.prog) w hp (xs := (ys.map Bv).toArray) (off := i * 1) (v := Bv ys[i]) (by simp [h2])
    have ih := run_eqItems_u8 d xs ys w is (fun j hj => h j (by simp [hj]))
    have p3 : (Op.equalIn (d + 1) 5 (Bv xs[i]) (Bv ys[i])).run Tryz.prog w = .ok (xs[i] == ys[i]) w := by
      rw [← bv_beq]; exact run_equalIn_int w d _ .u8 .u8 _ _ Tryz.underlying5
    simp only [Op.eqItems, Sem.run_bind, p1, p2, p3, Result.andThen_ok, List.all_cons, List.getElem?_eq_getElem h1, List.getElem?_eq_getElem h2, Option.some_beq_some]
    cases hx : (xs[i] == ys[i])
    · simp
    · simpa using ih

theorem all_same (xs ys : List UInt8) (n : Nat) (h1 : xs.length = n) (h2 : ys.length = n) : ((List.range n).all fun i => xs[i]? == ys[i]?) = decide (xs = ys) := by
  rw [Bool.eq_iff_iff, List.all_eq_true, decide_eq_true_iff]
  constructor
  · intro h
    apply List.ext_getElem?
    intro i
    rcases Nat.lt_or_ge i n with hi | hi
    · simpa using h i (by simpa using hi)
    · rw [List.getElem?_eq_none (by omega), List.getElem?_eq_none (by omega)]
  · rintro rfl i _
    simp

theorem run_eql_hash (xs ys : List UInt8) (h1 : xs.length = 32) (h2 : ys.length = 32) (w : World) :
    (binOp .eql 33 (.agg (xs.map Bv).toArray) (.agg (ys.map Bv).toArray)).run Tryz.prog w = .ok (.bool (decide (xs = ys))) w := by
  obtain ⟨i0, hi, hz0, hz1, hz2⟩ := info_parts info_u8
  rw [run_eql_struct, run_equalIn_array w 9999 _ _ Tryz.underlying33 hi]
  have hc : Tryz.prog.cellsOf 5 = 1 := by kernel_rfl
  rw [hc, run_eqItems_u8 9998 xs ys w _ (fun i hi => by have := List.mem_range.1 hi; omega)]
  simp [Result.andThen, all_same xs ys 32 h1 h2]
theorem run_neq_hash (xs ys : List UInt8) (h1 : xs.length = 32) (h2 : ys.length = 32) (w : World) :
    (binOp .neq 33 (.agg (xs.map Bv).toArray) (.agg (ys.map Bv).toArray)).run Tryz.prog w = .ok (.bool (!decide (xs = ys))) w := by
  obtain ⟨i0, hi, hz0, hz1, hz2⟩ := info_parts info_u8
  rw [run_neq_struct, run_equalIn_array w 9999 _ _ Tryz.underlying33 hi]
  have hc : Tryz.prog.cellsOf 5 = 1 := by kernel_rfl
  rw [hc, run_eqItems_u8 9998 xs ys w _ (fun i hi => by have := List.mem_range.1 hi; omega)]
  simp [Result.andThen, all_same xs ys 32 h1 h2]

theorem guard_hash : Tryz.prog.eqGuardType Tryz.prog.depth 33 = false := by kernel_rfl

theorem eql_hash {ops : Array Oper} {rest : List Oper} {o : Oper} {a : Act} {w : World} {Q : Exit → Act → World → Prop} (hgd : o.guard = none) (x y : Operand) (yt : TypeId) (ho : o.op = .binOp .eql 33 x y yt)
    {xs ys : List UInt8} (hx : a.eval x = .agg (xs.map Bv).toArray) (hy : a.eval y = .agg (ys.map Bv).toArray) (h1 : xs.length = 32) (h2 : ys.length = 32)
    (hK : wpList Tryz.prog ops Q rest (a.put o.dst (.bool (decide (xs = ys)))) w) : wpList Tryz.prog ops Q (o :: rest) a w := by
  refine wpList_plain hgd fun K hKK => ?_
  unfold Oper.wp execOp
  simp only [ho, hx, hy, Sem.run_bind, run_eqGuard_agg w _ _ _ _ _ _ guard_hash, Result.andThen_ok, run_eql_hash xs ys h1 h2 w]
  exact hKK _ _ hK
theorem neq_hash {ops : Array Oper} {rest : List Oper} {o : Oper} {a : Act} {w : World} {Q : Exit → Act → World → Prop} (hgd : o.guard = none) (x y : Operand) (yt : TypeId) (ho : o.op = .binOp .neq 33 x y yt)
    {xs ys : List UInt8} (hx : a.eval x = .agg (xs.map Bv).toArray) (hy : a.eval y = .agg (ys.map Bv).toArray) (h1 : xs.length = 32) (h2 : ys.length = 32)
    (hK : wpList Tryz.prog ops Q rest (a.put o.dst (.bool (!decide (xs = ys)))) w) : wpList Tryz.prog ops Q (o :: rest) a w := by
  refine wpList_plain hgd fun K hKK => ?_
  unfold Oper.wp execOp
  simp only [ho, hx, hy, Sem.run_bind, run_eqGuard_agg w _ _ _ _ _ _ guard_hash, Result.andThen_ok, run_neq_hash xs ys h1 h2 w]
  exact hKK _ _ hK

end Go.Proofs.YtkbnkdokcmpcgaaGreatDoor
