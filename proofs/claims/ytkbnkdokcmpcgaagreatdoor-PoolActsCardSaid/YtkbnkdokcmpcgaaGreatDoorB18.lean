/- Walks: pool.place: bytes laid in a sector that was taken; given back, unless all goes well. -/
import Derived.Test.YtkbnkdokcmpcgaaGreatDoorB15
import Derived.Defers
namespace Go.Proofs.YtkbnkdokcmpcgaaGreatDoor
open Go.RowKit

theorem placeD_ok (E A Q R : Nat) (u : FrameMode) (w : World) (ce : w.cell? ⟨E, 0, none⟩ = some (.int .i64 0)) :
    CallsD Tryz.prog 110 #[.pointer (some ⟨E, 0, none⟩), .pointer (some ⟨A, 0, none⟩), .pointer (some ⟨Q, 0, none⟩), .pointer (some ⟨R, 0, none⟩)] u w fun e u' w' => u' = u ∧ (e = .returned (.tuple #[]) ∧ w' = w) := by
  go_enter_d Tryz.func110, Tryz.ntmps110
  go_wp2
  go_end0
  exact ⟨rfl, rfl⟩

set_option maxRecDepth 100000 in
set_option maxHeartbeats 2000000 in
theorem placeD_bad (E A Q R P D S W size birth a : Nat) (ks : List UInt8) (t : Nat → Bool) (x : Int) (p : Pt) (u : FrameMode) (w : World) (h : PlAt w P D S W size ks t birth) (hx : x ≠ 0) (ha : 2 ≤ a ∧ a < size) (ht : t a = true)
    (ce : w.cell? ⟨E, 0, none⟩ = some (.int .i64 x)) (hA : w.heap[A]? = some (.cells p.arr 43 (0, 0))) (hp : p.Wf) (cq : w.cell? ⟨Q, 0, none⟩ = some (.pointer (some ⟨P, 0, none⟩))) (cr : w.cell? ⟨R, 0, none⟩ = some (.int .u32 (a : Int)))
    (hne : A ≠ E ∧ A ≠ Q ∧ A ≠ R ∧ A ≠ P ∧ A ≠ S ∧ A ≠ W ∧ E ≠ S ∧ E ≠ W) :
    CallsD Tryz.prog 110 #[.pointer (some ⟨E, 0, none⟩), .pointer (some ⟨A, 0, none⟩), .pointer (some ⟨Q, 0, none⟩), .pointer (some ⟨R, 0, none⟩)] u w fun e u' w' => u' = u ∧ (e = .returned (.tuple #[]) ∧
      PlAt w' P D S W size ks (updT t a false) birth ∧ w'.heap[A]? = some (.cells Pt.zero.arr 43 (0, 0)) ∧ w'.cell? ⟨E, 0, none⟩ = some (.int .i64 x) ∧ Fr (fun k => k = A ∨ k = S ∨ k = W) w w') := by
  have bx0 : (x != 0) = true := by simpa using hx
  have HH := Lib.hid h
  have HA := Lib.hid hA
  have HPl := Lib.hid hp
  have HTa := Lib.hid ht
  have HAr := Lib.hid ha
  have HCe := Lib.hid ce
  clear h hA hp ht ha hx
  go_enter_d Tryz.func110, Tryz.ntmps110
  go_wp2_with (refine store_ptr rfl (.tmp 1) (.tmp 6) rfl rfl (p := Pt.zero) rfl HA.out HPl.out.size Pt.zero_wf ?_; intro w2 hg2 hf2 hs2)
  have h2 := HH.out.fr hf2 (by rintro k (e | e | e) e2 <;> omega)
  have c65 := h2.cells.2.2.1
  have cq2 : w2.cell? ⟨Q, 0, none⟩ = some (.pointer (some ⟨P, 0, none⟩)) := hf2.cell cq (by dsimp only; omega)
  have cr2 : w2.cell? ⟨R, 0, none⟩ = some (.int .u32 (a : Int)) := hf2.cell cr (by dsimp only; omega)
  have ce2 : w2.cell? ⟨E, 0, none⟩ = some (.int .i64 x) := hf2.cell ce (by dsimp only; omega)
  have H2 := Lib.hid h2
  have HG2 := Lib.hid hg2
  have HF2 := Lib.hid hf2
  have HCe2 := Lib.hid ce2
  have hal : a < 4294967296 := by have := HAr.out; have := HH.out.sp.2.2.1; omega
  clear h2 hg2 hf2 hs2 ce2 ce cq cr
  go_wp2_with fail
  refine wp_region_class_one 5 (C := fun w' => w' = w2.drew) (by kernel_rfl) (by kernel_rfl) rfl rfl ?_
  simp only [List.take_succ_cons, List.take_zero, List.drop_succ_cons, List.drop_zero, Act.put]
  repeat (go_big_quiet_step (fail))
  refine wpQuiet_nil ?_
  refine ⟨rfl, ?_⟩
  rintro _ rfl KK hKK
  have hfree := spFree_ok S W size a t w2.drew (H2.out.sp.fr ((Fr.refl (fun _ => False) w2).drew) id id) HAr.out HTa.out
  unfold Oper.wp execOp
  go_simp
  refine hfree.mono ?_
  rintro e w3 ⟨rfl, hs3, hf3⟩
  refine hKK _ _ ?_
  refine wpQuiet_nil ?_
  rintro _ ⟨nq, rfl⟩
  have HEnd := Lib.hid (show PlAt (w3.drewN nq) P D S W size ks (updT t a false) birth ∧ (w3.drewN nq).heap[A]? = some (.cells Pt.zero.arr 43 (0, 0)) ∧ (w3.drewN nq).cell? ⟨E, 0, none⟩ = some (.int .i64 x) ∧ Fr (fun k => k = A ∨ k = S ∨ k = W) w (w3.drewN nq) from by
    have hf3' : Fr (fun k => k = S ∨ k = W) w2 (w3.drewN nq) := (((Fr.refl (fun k => k = S ∨ k = W) w2).drew).trans hf3).trans (Fr_drewN' _ _ _)
    refine ⟨⟨(hf3'.block P (lt_of_block H2.out.row) (by rintro (e | e); exact HH.out.nPS e; exact HH.out.nPW e)).trans H2.out.row, hs3.fr (Fr_drewN' (fun _ => False) _ _) id id, HH.out.ks, HH.out.birth, HH.out.nPS, HH.out.nPW⟩, ?_, ?_, ?_⟩
    · exact (hf3'.block A (lt_of_block HG2.out) (by rintro (e | e) <;> omega)).trans HG2.out
    · exact hf3'.cell HCe2.out (by rintro (e | e) <;> dsimp only at e <;> omega)
    · exact (HF2.out.mono (fun k _ e => Or.inl e)).trans (hf3'.mono (fun k _ e => Or.inr e)))
  clear hs3 hf3 hKK KK
  go_wp2
  go_end0
  exact ⟨rfl, HEnd.out⟩




def PlC (Q R P D : Nat) (ks : List UInt8) (birth a : Nat) (u : World) : Prop :=
  u.cell? ⟨Q, 0, none⟩ = some (.pointer (some ⟨P, 0, none⟩)) ∧ At u P 1 (ks.map Bv) ∧ u.cell? ⟨P, 66, none⟩ = some (.int .u64 (birth : Int)) ∧ u.cell? ⟨R, 0, none⟩ = some (.int .u32 (a : Int)) ∧ u.cell? ⟨P, 0, none⟩ = some (.pointer (some ⟨D, 0, none⟩))
theorem PlC.fr {F : Nat → Prop} {Q R P D birth a : Nat} {ks : List UInt8} {u u' : World} (h : PlC Q R P D ks birth a u) (hf : Fr F u u') (h1 : ¬ F Q) (h2 : ¬ F R) (h3 : ¬ F P) : PlC Q R P D ks birth a u' :=
  ⟨hf.cell h.1 h1, fun i x hi => hf.cell (h.2.1 i x hi) h3, hf.cell h.2.2.1 h3, hf.cell h.2.2.2.1 h2, hf.cell h.2.2.2.2 h3⟩
theorem ret_cc {P : Program} {fn : Func} {p q : Tmp} {ty ty2 : TypeId} (h : fn.results = #[.cell p ty, .cell q ty2]) {tmps : Array Value} {w : World} {g g2 : Nat} {cs : List Value} {d : TypeDesc} {v : Value} (hp : tmps.getD p undef = .pointer (some ⟨g, 0, none⟩)) (hq : tmps.getD q undef = .pointer (some ⟨g2, 0, none⟩))
    (hc : At w g 0 cs) (hu : P.underlying ty = some d) (hd : (match d with | .struct _ | .array _ _ => true | _ => false) = true) (hi : (P.info? ty).map (·.size) = some cs.length) (hv : (loadVar ty2 ⟨g2, 0, none⟩).run P w = .ok v w) :
    (results fn tmps).run P w = .ok (.tuple #[.agg cs.toArray, v]) w := by
  have hl := run_loadVar_at w g 0 ty cs d hc hu hd hi
  simp only [Array.getD_eq_getD_getElem?] at hp hq
  simp only [results, h]
  simp [Sem.run_bind, Result.andThen, hp, hq, asAddr, hl, hv]
theorem load_errno (w : World) (g : Nat) (x : Int) (h : w.cell? ⟨g, 0, none⟩ = some (.int .i64 x)) : (loadVar 38 ⟨g, 0, none⟩).run Tryz.prog w = .ok (.int .i64 x) w := by
  simp [loadVar, h, go_sem]

theorem al4 (w : World) (A B C D : Obj) : ((((w.alloc A).alloc B).alloc C).alloc D).heap[w.heap.size]? = some A ∧ ((((w.alloc A).alloc B).alloc C).alloc D).heap[w.heap.size + 1]? = some B ∧ ((((w.alloc A).alloc B).alloc C).alloc D).heap[w.heap.size + 1 + 1]? = some C ∧
    ((((w.alloc A).alloc B).alloc C).alloc D).heap[w.heap.size + 1 + 1 + 1]? = some D ∧ Below w.heap.size w ((((w.alloc A).alloc B).alloc C).alloc D) := by
  have hb := (Below.refl _ (((w.alloc A).alloc B).alloc C)).alloc (Nat.le_refl _) D
  have hs : (((w.alloc A).alloc B).alloc C).heap.size = w.heap.size + 1 + 1 + 1 := by simp
  have hn := heap_alloc_new (((w.alloc A).alloc B).alloc C) D
  rw [hs] at hn
  exact ⟨(hb.block _ (by rw [hs]; omega)).trans (al3_0 w A B C), (hb.block _ (by rw [hs]; omega)).trans (al3_1 w A B C), (hb.block _ (by rw [hs]; omega)).trans (al3_2 w A B C), hn, (al_three w A B C).trans (hb.mono (by rw [hs]; omega))⟩
theorem leaves_congr {P : Program} {fn : Func} {tmps tmps' : Array Value} {R : Ending → World → Prop} (h : ∀ w, (results fn tmps).run P w = (results fn tmps').run P w) : ∀ (ds : List Deferred) (u : FrameMode) (w : World), Leaves P fn tmps R ds u w → Leaves P fn tmps' R ds u w
  | [], .returning, w, hl => by
    obtain ⟨v, h1, h2⟩ := hl
    exact ⟨v, (h w).symm.trans h1, h2⟩
  | [], .panicking _, _, hl => hl
  | [], .run, _, hl => hl.elim
  | d :: ds, u, w, hl => by
    obtain ⟨h1, fv, cap, f, args, h2, h3, h4⟩ := hl
    refine ⟨h1, fv, cap, f, args, h2, h3, h4.mono fun e u' w' he => ?_⟩
    cases e with
    | returned _ => exact leaves_congr h ds _ _ he
    | panicked _ => exact leaves_congr h ds _ _ he
    | outgrown => exact he
theorem place_panic (k : Nat) (hk : k ≠ 6 ∧ k ≠ 7) (v : Value) {R : Ending → World → Prop} (c : List PanicEntry) (a : Act) (w : World) (h : bodyPostD Tryz.prog Tryz.f64 R (.panic c) (a.put (some k) v) w) : bodyPostD Tryz.prog Tryz.f64 R (.panic c) a w := by
  refine leaves_congr (fun w => ?_) _ _ _ h
  have hr : (Tryz.f64).results = #[.cell 6 43, .cell 7 38] := rfl
  have e6 : (a.tmps.setIfInBounds k v)[6]? = a.tmps[6]? := Array.getElem?_setIfInBounds_ne hk.1
  have e7 : (a.tmps.setIfInBounds k v)[7]? = a.tmps[7]? := Array.getElem?_setIfInBounds_ne hk.2
  simp only [results, hr, Act.put]
  simp [e6, e7]
structure PlQ (n Q R A E : Nat) : Prop where
  q : Q = n
  r : R = n + 1
  a : A = n + 1 + 1
  e : E = n + 1 + 1 + 1

set_option maxRecDepth 100000 in
set_option maxHeartbeats 8000000 in
theorem place_ok (P D S W a birth lo : Nat) (ks b : List UInt8) (t : Nat → Bool) (Fd : Nat → Prop) (d : Dv) (v : Value) (w : World) (h : PlAt w P D S W d.size ks t birth) (hd : DvIn w lo D Fd d) (hdis : ∀ k, PlF P S W k → ¬ Fd k) (ha : 2 ≤ a ∧ a < d.size) (h0 : 0 < birth) (hb : b.length = 512) (hv : Sl w 1 v 512 (b.map Bv))
    (hdn : d.down = false) (hst : d.step.down = false) (hn : d.waits.length ≤ 1000000) :
    Calls Tryz.prog 64 #[.pointer (some ⟨P, 0, none⟩), .int .u32 (a : Int), v] w fun e w' => ∃ F', e = .returned (.tuple #[.agg (sealP ks birth a b).arr, .int .i64 0]) ∧
      PlAt w' P D S W d.size ks t birth ∧ DvIn w' lo D F' (d.step.wrote a (cryptB (ks.take 32) (nonceB birth a) b)) ∧ (∀ k, F' k → Fd k ∨ w.heap.size ≤ k) ∧ Fr Fd w w' := by
  have hmf : ∀ (fn : Fn) (first cap : Array Value) (w : World), (Instr.makeFunc fn first cap).run Tryz.prog w = .ok (.func fn first cap) w := fun _ _ _ _ => rfl
  obtain ⟨Fs, hds, hFs, hFD⟩ := hd.small
  have HFs := Lib.hid hFs
  have hlt := h.lt
  have hPlt := hlt P (Or.inl rfl)
  have hfi := hd
  obtain ⟨av, cv, rfl, _⟩ := hv.len
  have HH := Lib.hid h
  have HD := Lib.hid hds
  have HDis := Lib.hid hdis
  have HV := Lib.hid hv
  have HBl := Lib.hid hb
  have HDn := Lib.hid hdn
  have HSt := Lib.hid hst
  have HN := Lib.hid hn
  have HA := Lib.hid ha
  have H0 := Lib.hid h0
  have HLt := Lib.hid hlt
  clear h hd hdis hv hb hdn hst hn ha h0 hlt hfi hds hFs
  go_enter_defers Tryz.func64, Tryz.ntmps64
  go_wp2_with fail
  have hal := al4 w (.cells #[.pointer (some ⟨P, 0, none⟩)] 29) (.cells #[.int .u32 (a : Int)] 41) (.cells Pt.zero.arr 43) (.cells #[.int .i64 0] 38)
  obtain ⟨Q, R, A, E, hq⟩ : ∃ Q R A E, PlQ w.heap.size Q R A E := ⟨_, _, _, _, rfl, rfl, rfl, rfl⟩
  obtain ⟨hQ, hR, hA, hE⟩ := hq
  rw [← hE, ← hA, ← hR, ← hQ]
  generalize hW : World.alloc _ _ = WW
  have hal' : WW.heap[Q]? = some (.cells #[.pointer (some ⟨P, 0, none⟩)] 29 (0, 0)) ∧ WW.heap[R]? = some (.cells #[.int .u32 (a : Int)] 41 (0, 0)) ∧ WW.heap[A]? = some (.cells Pt.zero.arr 43 (0, 0)) ∧ WW.heap[E]? = some (.cells #[.int .i64 0] 38 (0, 0)) ∧ Below w.heap.size w WW := by
    rw [hQ, hR, hA, hE, ← hW]; exact hal
  obtain ⟨gQ, gR, gA, gE, hbW⟩ := hal'
  have HQs := Lib.hid (show w.heap.size ≤ Q ∧ w.heap.size ≤ R ∧ w.heap.size ≤ A ∧ w.heap.size ≤ E ∧ Q ≠ R ∧ Q ≠ A ∧ Q ≠ E ∧ R ≠ A ∧ R ≠ E ∧ A ≠ E by omega)
  have HWt := Lib.hid (HH.out.below hbW)
  have HDt := Lib.hid (HD.out.below hbW)
  have HVt := Lib.hid (HV.out.below hbW)
  have HC := Lib.hid (show PlC Q R P D ks birth a WW from ⟨(cell_of_row _ _ 0 _ _ _ gQ).trans rfl, HWt.out.cells.2.1, HWt.out.cells.2.2.2.1, (cell_of_row _ _ 0 _ _ _ gR).trans rfl, HWt.out.cells.1⟩)
  have HGA := Lib.hid gA
  have HGE := Lib.hid gE
  have HBW := Lib.hid hbW
  clear hal hW gQ gR gA gE hbW hQ hR hA hE
  refine wp_region_headA (C := PlC Q R P D ks birth a) 10 (by kernel_rfl) (by decide) ?_
  obtain ⟨wd, hwd⟩ : ∃ wd, wd = { WW with drawn := WW.drawn + 1 } := ⟨_, rfl⟩
  have HCd := Lib.hid (show PlC Q R P D ks birth a wd by rw [hwd]; exact HC.out)
  have HBd := Lib.hid (show Below WW.heap.size WW wd by rw [hwd]; exact (Below.refl _ WW).drew)
  rw [← hwd]
  clear hwd
  refine wpHeadL_take (i := 0) (v := .pointer (some ⟨P, 0, none⟩)) rfl (by kernel_rfl) (fun c a w h => place_panic _ (by decide) _ c a w h) headA_done (.inl ⟨by rfl, fun w' hw => by (have h := hw.1; go_simp)⟩) ?_
  simp only [Act.put, sA, sB, sC]
  refine wpHeadL_take (i := 1) (v := .pointer (some ⟨P, 0, none⟩)) rfl (by kernel_rfl) (fun c a w h => place_panic _ (by decide) _ c a w h) headA_done (.inl ⟨by rfl, fun w' _ => by go_simp⟩) ?_
  simp only [Act.put, sA, sB, sC]
  refine wpHeadL_take (i := 2) (v := .pointer (some ⟨P, 1, none⟩)) rfl (by kernel_rfl) (fun c a w h => place_panic _ (by decide) _ c a w h) headA_done (.inl ⟨by rfl, fun w' _ => by go_simp⟩) ?_
  simp only [Act.put, sA, sB, sC]
  refine wpHeadL_take (i := 3) (v := .agg (ks.map Bv).toArray) rfl (by kernel_rfl) (fun c a w h => place_panic _ (by decide) _ c a w h) headA_done (yields_load (by rfl) 35 (.tmp 13) (by rfl) P 1 (by rfl) (ks.map Bv) _ (fun _ h => h.2.1) Tryz.underlying35 rfl (by rw [info_keys, List.length_map, HH.out.ks])) ?_
  simp only [Act.put, sA, sB, sC]
  refine wpHeadL_take (i := 4) (v := .pointer (some ⟨P, 0, none⟩)) rfl (by kernel_rfl) (fun c a w h => place_panic _ (by decide) _ c a w h) headA_done (.inl ⟨by rfl, fun w' hw => by (have h := hw.1; go_simp)⟩) ?_
  simp only [Act.put, sA, sB, sC]
  refine wpHeadL_take (i := 5) (v := .pointer (some ⟨P, 0, none⟩)) rfl (by kernel_rfl) (fun c a w h => place_panic _ (by decide) _ c a w h) headA_done (.inl ⟨by rfl, fun w' _ => by go_simp⟩) ?_
  simp only [Act.put, sA, sB, sC]
  refine wpHeadL_take (i := 6) (v := .pointer (some ⟨P, 66, none⟩)) rfl (by kernel_rfl) (fun c a w h => place_panic _ (by decide) _ c a w h) headA_done (.inl ⟨by rfl, fun w' _ => by go_simp⟩) ?_
  simp only [Act.put, sA, sB, sC]
  refine wpHeadL_take (i := 7) (v := .int .u64 (birth : Int)) rfl (by kernel_rfl) (fun c a w h => place_panic _ (by decide) _ c a w h) headA_done (.inl ⟨by rfl, fun w' hw => by (have h := hw.2.2.1; go_simp)⟩) ?_
  simp only [Act.put, sA, sB, sC]
  refine wpHeadL_take (i := 8) (v := .int .u32 (a : Int)) rfl (by kernel_rfl) (fun c a w h => place_panic _ (by decide) _ c a w h) headA_done (.inl ⟨by rfl, fun w' hw => by (have h := hw.2.2.2.1; go_simp)⟩) ?_
  simp only [Act.put, sA, sB, sC]
  refine wpHeadL_take (i := 9) (v := .slice av 512 cv) rfl (by kernel_rfl) (fun c a w h => place_panic _ (by decide) _ c a w h) headA_done (.inl ⟨by rfl, fun w' _ => by go_simp⟩) ?_
  simp only [Act.put, sA, sB, sC]
  refine headA_end HCd.out (by kernel_rfl) ?_
  have HVd := Lib.hid (HVt.out.below HBd.out)
  have HCs := Lib.hid (seal_any ks b birth a (.slice av 512 cv) wd HH.out.ks HBl.out HVd.out H0.out HH.out.birth HA.out.1 (by have := HA.out.2; have := HH.out.sp.2.2.1; omega))
  refine wpAnyL_forced 10 (by kernel_rfl) rfl (by rfl) (fun K hK => ?_)
  have HK := Lib.hid hK
  clear hK
  unfold Oper.wp execOp
  go_simp
  refine HCs.out.mono ?_
  rintro e w2 ⟨aa, cc, rfl, hs2, hge2, hb2⟩
  have HS2 := Lib.hid hs2
  have HGe2 := Lib.hid hge2
  have HB2 := Lib.hid (HBd.out.trans (hb2.mono HBd.out.size))
  have HC2 := Lib.hid (HCd.out.fr (Fr.of_below (S := fun _ => False) hb2) id id id)
  obtain ⟨p, hp⟩ : ∃ p, p = sealP ks birth a b := ⟨_, rfl⟩
  have HPv := Lib.hid hp
  have HPw := Lib.hid (show p.Wf by rw [hp]; exact sealP_wf ks birth a b HH.out.birth (by have := HA.out.2; have := HH.out.sp.2.2.1; omega))
  obtain ⟨c, hc⟩ : ∃ c, c = cryptB (ks.take 32) (nonceB birth a) b := ⟨_, rfl⟩
  have HCv := Lib.hid hc
  rw [← hp]
  rw [← hc] at HS2
  have HCl := Lib.hid (show c.length = 512 by rw [hc, cryptB_length _ _ _ (by rw [List.length_take, HH.out.ks]; rfl) (nonceB_length _ _), HBl.out])
  have HGA2 := Lib.hid ((HB2.out.block A (lt_of_block HGA.out)).trans HGA.out)
  have HGE2 := Lib.hid ((HB2.out.block E (lt_of_block HGE.out)).trans HGE.out)
  have HBw2 := Lib.hid (HBW.out.trans (HB2.out.mono HBW.out.size))
  have HBsz := Lib.hid (show w.heap.size ≤ wd.heap.size ∧ A < wd.heap.size ∧ E < wd.heap.size from by
    have h1 := HBW.out.size; have h2 := HBd.out.size; have h3 := lt_of_block HGA.out; have h4 := lt_of_block HGE.out; omega)
  clear hs2 hge2 hb2 hp hc HCs HCd HGA HGE HBW HVt HVd HBd
  refine HK.out _ _ ?_
  clear HK K
  try simp only [Act.put, sA, sB, sC]
  refine wpAnyL_take (i := 11) (v := .tuple #[.slice aa 512 cc, .agg p.arr, .int .i64 0]) rfl (by kernel_rfl) (fun c a w h => place_panic _ (by decide) _ c a w h) (.inl ⟨by rfl, fun w' => by go_simp⟩) ?_
  simp only [Act.put, sA, sB, sC]
  refine wpAnyL_take (i := 12) (v := .slice aa 512 cc) rfl (by kernel_rfl) (fun c a w h => place_panic _ (by decide) _ c a w h) (.inl ⟨by rfl, fun w' => by go_simp⟩) ?_
  simp only [Act.put, sA, sB, sC]
  refine wpAnyL_take (i := 13) (v := .agg p.arr) rfl (by kernel_rfl) (fun c a w h => place_panic _ (by decide) _ c a w h) (.inl ⟨by rfl, fun w' => by go_simp⟩) ?_
  simp only [Act.put, sA, sB, sC]
  refine wpAnyL_take (i := 14) (v := .int .i64 0) rfl (by kernel_rfl) (fun c a w h => place_panic _ (by decide) _ c a w h) (.inl ⟨by rfl, fun w' => by go_simp⟩) ?_
  simp only [Act.put, sA, sB, sC]
  refine wpAnyL_list 15 rfl (by kernel_rfl) ?_
  simp only [List.drop_succ_cons, List.drop_zero]
  have ce2 : w2.cell? ⟨E, 0, none⟩ = some (.int .i64 0) := (cell_of_row _ _ 0 _ _ _ HGE2.out).trans rfl
  go_wp2_with (refine store_ptr rfl (.tmp 6) (.tmp 23) rfl rfl rfl HGA2.out Pt.zero_wf.size HPw.out ?_; intro w3 hg3 hf3 hs3; have HG3 := Lib.hid hg3; have HF3 := Lib.hid hf3; have ce3 : w3.cell? ⟨E, 0, none⟩ = some (.int .i64 0) := hf3.cell ce2 (by have := HQs.out; dsimp only; omega); have fe3 : w3.frozen? ⟨E, 0, none⟩ = false := (by have hE3 := (hf3.block E (lt_of_block HGE2.out) (by have := HQs.out; omega)).trans HGE2.out; simp [World.frozen?, hE3]); clear hg3 hf3 hs3)
  obtain ⟨w4, hw4⟩ : ∃ w4, w4 = w3.setCell ⟨E, 0, none⟩ (.int .i64 0) := ⟨_, rfl⟩
  have hf34 : Fr (fun k => k = E) w3 w4 := by rw [hw4]; exact (Fr.refl (fun k => k = E) w3).set E 0 rfl _
  have hf24 : Fr (fun k => k = A ∨ k = E) w2 w4 := (HF3.out.mono (fun k _ e => Or.inl e)).trans (hf34.mono (fun k _ e => Or.inr e))
  have hge4 := heap_setCell_same w3 E 0 _ _ (.int .i64 0) ((HF3.out.block E (lt_of_block HGE2.out) (by have := HQs.out; omega)).trans HGE2.out)
  rw [← hw4] at hge4
  have hPl4 := (HWt.out.below HB2.out).fr hf24 (by rintro k hk (e | e) <;> (have := HLt.out k hk; have := HQs.out; omega))
  have hDv4 := (HD.out.below HBw2.out).fr hf24 (by rintro k hk (e | e) <;> (have := (HFs.out k hk).2; have := HQs.out; omega))
  have HPl4 := Lib.hid hPl4
  have HDv4 := Lib.hid hDv4
  have HC4 := Lib.hid (show PlC Q R P D ks birth a w4 from HC2.out.fr hf24 (by have := HQs.out; omega) (by have := HQs.out; omega) (by have := HQs.out; have := HLt.out P (Or.inl rfl); omega))
  have HGA4 := Lib.hid ((hf34.block A (lt_of_block HG3.out) (by have := HQs.out; omega)).trans HG3.out)
  have HGE4 := Lib.hid hge4
  have HS4 := Lib.hid (show Sl w4 1 (.slice aa 512 cc) 512 (c.map Bv) from HS2.out.fr hf24 (fun q m c' e => by
    have h1 := HGe2.out q.block (by rw [e]; rfl)
    have h3 := HBsz.out
    rintro (e2 | e2) <;> omega))
  have hno4 : ∀ q m c', Value.slice aa 512 cc = .slice (some q) m c' → ¬ Fs q.block := fun q m c' e hF => by
    have h1 := HGe2.out q.block (by rw [e]; rfl)
    have h2 := (HFs.out _ hF).2
    have h3 := HBsz.out
    omega
  have HNo4 := Lib.hid hno4
  have hszw4 : w.heap.size ≤ w4.heap.size := Nat.le_trans HBw2.out.size hf24.size
  have HB4 := Lib.hid (show Fr (fun _ => False) w w4 from ((Fr.of_below (S := fun _ => False) HBw2.out).step hf24 (fun j e => Or.inr (by have := HQs.out; omega))))
  rw [← hw4]
  clear hw4 hf34 hf24 hge4 hPl4 hDv4 hno4 ce3 fe3
  refine wp_region_headW (C := fun u => PlC Q R P D ks birth a u ∧ At u A 0 p.cells) 8 (by kernel_rfl) (by decide) ?_
  obtain ⟨we, hwe⟩ : ∃ we, we = { w4 with drawn := w4.drawn + 1 } := ⟨_, rfl⟩
  have HCe := Lib.hid (show PlC Q R P D ks birth a we ∧ At we A 0 p.cells from by rw [hwe]; exact ⟨HC4.out, At.of_row (by simpa [Pt.arr] using HGA4.out)⟩)
  have HFe := Lib.hid (show Fr (fun _ => False) w4 we from by rw [hwe]; exact ⟨rfl, rfl, rfl, Nat.le_refl _, fun _ _ _ => rfl⟩)
  rw [← hwe]
  clear hwe
  refine wpHeadL_take (i := 0) (v := .agg p.cells.toArray) rfl (by kernel_rfl) (fun c a w h => place_panic _ (by decide) _ c a w h) headW_done (yields_load (by rfl) 43 (.tmp 6) (by rfl) A 0 (by rfl) p.cells _ (fun _ h => h.2) Tryz.underlying43 rfl (by rw [info_ptr, HPw.out.len])) ?_
  simp only [Act.put, sA, sB, sC]
  refine wpHeadL_take (i := 1) (v := .pointer (some ⟨P, 0, none⟩)) rfl (by kernel_rfl) (fun c a w h => place_panic _ (by decide) _ c a w h) headW_done (.inl ⟨by rfl, fun w' hw => by (have h := hw.1.1; go_simp)⟩) ?_
  simp only [Act.put, sA, sB, sC]
  refine wpHeadL_take (i := 2) (v := .pointer (some ⟨P, 0, none⟩)) rfl (by kernel_rfl) (fun c a w h => place_panic _ (by decide) _ c a w h) headW_done (.inl ⟨by rfl, fun w' _ => by go_simp⟩) ?_
  simp only [Act.put, sA, sB, sC]
  refine wpHeadL_take (i := 3) (v := .pointer (some ⟨P, 0, none⟩)) rfl (by kernel_rfl) (fun c a w h => place_panic _ (by decide) _ c a w h) headW_done (.inl ⟨by rfl, fun w' _ => by go_simp⟩) ?_
  simp only [Act.put, sA, sB, sC]
  refine wpHeadL_take (i := 4) (v := .pointer (some ⟨D, 0, none⟩)) rfl (by kernel_rfl) (fun c a w h => place_panic _ (by decide) _ c a w h) headW_done (.inl ⟨by rfl, fun w' hw => by (have h := hw.1.2.2.2.2; go_simp)⟩) ?_
  simp only [Act.put, sA, sB, sC]
  refine wpHeadL_take (i := 5) (v := .int .u32 (a : Int)) rfl (by kernel_rfl) (fun c a w h => place_panic _ (by decide) _ c a w h) headW_done (.inl ⟨by rfl, fun w' hw => by (have h := hw.1.2.2.2.1; go_simp)⟩) ?_
  simp only [Act.put, sA, sB, sC]
  refine wpHeadL_take (i := 6) (v := .slice aa 512 cc) rfl (by kernel_rfl) (fun c a w h => place_panic _ (by decide) _ c a w h) headW_done (.inl ⟨by rfl, fun w' _ => by go_simp⟩) ?_
  simp only [Act.put, sA, sB, sC]
  have HWr := Lib.hid (dvWrite_ok D a lo Fs d c (.slice aa 512 cc) we (HDv4.out.fr HFe.out (fun _ _ => id)) HA.out.2 HCl.out (HS4.out.fr HFe.out (fun _ _ _ _ => id)) HNo4.out HDn.out HSt.out HN.out)
  refine wpHeadL_forced 7 HCe.out (by kernel_rfl) rfl (by rfl) (fun K hK => ?_)
  have HK := Lib.hid hK
  clear hK
  unfold Oper.wp execOp
  go_simp
  refine HWr.out.mono ?_
  rintro e w5 ⟨F', rfl, hd5, hf5, hF5⟩
  have hq0 := HQs.out
  have hfs : ∀ k, Fs k → k < w.heap.size := fun k hk => (HFs.out k hk).2
  have hnP : ¬ Fs P := fun hk => HDis.out P (Or.inl rfl) (HFs.out P hk).1
  have hnA : ¬ Fs A := fun hk => by have := hfs A hk; omega
  have hnE : ¬ Fs E := fun hk => by have := hfs E hk; omega
  have hge5 : w5.heap[E]? = some (.cells #[.int .i64 0] 38 (0, 0)) := (hf5.block E (Nat.lt_of_lt_of_le (lt_of_block HGE4.out) HFe.out.size) hnE).trans ((HFe.out.block E (lt_of_block HGE4.out) id).trans HGE4.out)
  have hga5 : w5.heap[A]? = some (.cells p.arr 43 (0, 0)) := (hf5.block A (Nat.lt_of_lt_of_le (lt_of_block HGA4.out) HFe.out.size) hnA).trans ((HFe.out.block A (lt_of_block HGA4.out) id).trans HGA4.out)
  have HC5 := Lib.hid (show PlC Q R P D ks birth a w5 from HCe.out.1.fr hf5 (fun hk => by have := hfs Q hk; omega) (fun hk => by have := hfs R hk; omega) hnP)
  have HA5 := Lib.hid (show At w5 A 0 p.cells from At.of_row (by simpa [Pt.arr] using hga5))
  have HGE5 := Lib.hid hge5
  have HGA5 := Lib.hid hga5
  have HD5 := Lib.hid hd5
  have HP5 := Lib.hid ((HPl4.out.fr HFe.out (fun _ _ => id)).fr hf5 (fun k hk hF => HDis.out k hk (HFs.out k hF).1))
  have HF5 := Lib.hid (show Fr Fs w w5 from ((HB4.out.trans HFe.out).mono (fun _ _ h => h.elim)).trans hf5)
  have HFF5 := Lib.hid hF5
  clear hd5 hf5 hF5 HWr hge5 hga5
  refine HK.out _ _ ?_
  clear HK K
  try simp only [Act.put, sA, sB, sC]
  refine headW_end ⟨HC5.out, HA5.out⟩ (by kernel_rfl) ?_
  simp only [List.drop_succ_cons, List.drop_zero]
  go_wp2_with (refine store_ptr rfl (.tmp 6) (.tmp 29) rfl rfl rfl HGA5.out HPw.out.size HPw.out ?_; intro w6 hg6 hf6 hs6; have HG6 := Lib.hid hg6; have HF6 := Lib.hid hf6; have hE6 := (hf6.block E (lt_of_block HGE5.out) (by have := HQs.out; omega)).trans HGE5.out; have HE6 := Lib.hid hE6; have ce6 : w6.cell? ⟨E, 0, none⟩ = some (.int .i64 0) := (cell_of_row _ _ 0 _ _ _ hE6).trans rfl; have fe6 : w6.frozen? ⟨E, 0, none⟩ = false := (by simp [World.frozen?, hE6]); clear hg6 hf6 hs6 hE6)
  obtain ⟨w7, hw7⟩ : ∃ w7, w7 = w6.setCell ⟨E, 0, none⟩ (.int .i64 0) := ⟨_, rfl⟩
  have hf67 : Fr (fun k => k = E) w6 w7 := by rw [hw7]; exact (Fr.refl (fun k => k = E) w6).set E 0 rfl _
  have hge7 := heap_setCell_same w6 E 0 _ _ (.int .i64 0) HE6.out
  rw [← hw7] at hge7
  have hf57 : Fr (fun k => k = A ∨ k = E) w5 w7 := (HF6.out.mono (fun k _ e => Or.inl e)).trans (hf67.mono (fun k _ e => Or.inr e))
  have ce7 : w7.cell? ⟨E, 0, none⟩ = some (.int .i64 0) := (cell_of_row _ _ 0 _ _ _ hge7).trans rfl
  have hga7 := (hf67.block A (lt_of_block HG6.out) (by omega)).trans HG6.out
  have hp7 := HP5.out.fr hf57 (by rintro k hk (e | e) <;> (have := HLt.out k hk; omega))
  have hszA := lt_of_block HGA4.out
  have hszE := lt_of_block HGE4.out
  have hsze := HFe.out.size
  have hd7 := HD5.out.fr hf57 (by rintro k hk (e | e) <;> (rcases HFF5.out k hk with e2 | e2; (· have := hfs k e2; omega); (· omega)))
  have hfw7 : Fr Fs w w7 := HF5.out.step hf57 (fun j e => Or.inr (by omega))
  rw [← hw7]
  have HEnd := Lib.hid (show At w7 A 0 p.cells ∧ PlAt w7 P D S W d.size ks t birth ∧ DvIn w7 lo D F' (d.step.wrote a c) ∧ (∀ k, F' k → Fd k ∨ w.heap.size ≤ k) ∧ Fr Fd w w7 from
    ⟨At.of_row (by simpa [Pt.arr] using hga7), hp7, hd7, fun k hk => (HFF5.out k hk).imp (fun h => (HFs.out k h).1) (fun h => by omega), hfw7.mono (fun k _ h => (HFs.out k h).1)⟩)
  rw [HCv.out] at HEnd
  clear hw7 hf67 hge7 hf57 hga7 hp7 hd7 hfw7
  refine leaves_cons (f := 110) (args := #[.pointer (some ⟨E, 0, none⟩), .pointer (some ⟨A, 0, none⟩), .pointer (some ⟨Q, 0, none⟩), .pointer (some ⟨R, 0, none⟩)]) (by simp) (by simp [go_sem]) ?_
  refine (placeD_ok E A Q R .returning _ ce7).mono ?_
  rintro e u' w'' ⟨rfl, rfl, rfl⟩
  refine ⟨_, ret_cc rfl rfl rfl HEnd.out.1 Tryz.underlying43 rfl (by rw [info_ptr, HPw.out.len]) (load_errno _ E 0 ce7), F', ?_, HEnd.out.2⟩
  rw [← HPv.out]; simp [Pt.arr]

set_option maxRecDepth 100000 in
set_option maxHeartbeats 8000000 in
theorem place_bad (P D S W a birth lo : Nat) (ks b : List UInt8) (t : Nat → Bool) (Fd : Nat → Prop) (d : Dv) (v : Value) (w : World) (h : PlAt w P D S W d.size ks t birth) (hd : DvIn w lo D Fd d) (hdis : ∀ k, PlF P S W k → ¬ Fd k) (ha : 2 ≤ a ∧ a < d.size) (h0 : 0 < birth) (hb : b.length = 512) (hv : Sl w 1 v 512 (b.map Bv))
    (hno : d.down = true ∨ d.step.down = true) (ht : t a = true) :
    Calls Tryz.prog 64 #[.pointer (some ⟨P, 0, none⟩), .int .u32 (a : Int), v] w fun e w' => e = .returned (.tuple #[.agg Pt.zero.arr, .int .i64 7]) ∧ PlAt w' P D S W d.size ks (updT t a false) birth ∧ DvIn w' lo D Fd d.miss ∧ Fr (fun k => Fd k ∨ k = S ∨ k = W) w w' := by
  have hmf : ∀ (fn : Fn) (first cap : Array Value) (w : World), (Instr.makeFunc fn first cap).run Tryz.prog w = .ok (.func fn first cap) w := fun _ _ _ _ => rfl
  obtain ⟨Fs, hds, hFs, hFD⟩ := hd.small
  have HFs := Lib.hid hFs
  have hlt := h.lt
  have hPlt := hlt P (Or.inl rfl)
  have hfi := hd
  obtain ⟨av, cv, rfl, _⟩ := hv.len
  have HH := Lib.hid h
  have HD := Lib.hid hds
  have HDis := Lib.hid hdis
  have HV := Lib.hid hv
  have HBl := Lib.hid hb
  have HMiss := Lib.hid hno
  have HT := Lib.hid ht
  have HA := Lib.hid ha
  have H0 := Lib.hid h0
  have HLt := Lib.hid hlt
  clear h hd hdis hv hb hno ht ha h0 hlt hfi hds hFs
  go_enter_defers Tryz.func64, Tryz.ntmps64
  go_wp2_with fail
  have hal := al4 w (.cells #[.pointer (some ⟨P, 0, none⟩)] 29) (.cells #[.int .u32 (a : Int)] 41) (.cells Pt.zero.arr 43) (.cells #[.int .i64 0] 38)
  obtain ⟨Q, R, A, E, hq⟩ : ∃ Q R A E, PlQ w.heap.size Q R A E := ⟨_, _, _, _, rfl, rfl, rfl, rfl⟩
  obtain ⟨hQ, hR, hA, hE⟩ := hq
  rw [← hE, ← hA, ← hR, ← hQ]
  generalize hW : World.alloc _ _ = WW
  have hal' : WW.heap[Q]? = some (.cells #[.pointer (some ⟨P, 0, none⟩)] 29 (0, 0)) ∧ WW.heap[R]? = some (.cells #[.int .u32 (a : Int)] 41 (0, 0)) ∧ WW.heap[A]? = some (.cells Pt.zero.arr 43 (0, 0)) ∧ WW.heap[E]? = some (.cells #[.int .i64 0] 38 (0, 0)) ∧ Below w.heap.size w WW := by
    rw [hQ, hR, hA, hE, ← hW]; exact hal
  obtain ⟨gQ, gR, gA, gE, hbW⟩ := hal'
  have HQs := Lib.hid (show w.heap.size ≤ Q ∧ w.heap.size ≤ R ∧ w.heap.size ≤ A ∧ w.heap.size ≤ E ∧ Q ≠ R ∧ Q ≠ A ∧ Q ≠ E ∧ R ≠ A ∧ R ≠ E ∧ A ≠ E by omega)
  have HWt := Lib.hid (HH.out.below hbW)
  have HDt := Lib.hid (HD.out.below hbW)
  have HVt := Lib.hid (HV.out.below hbW)
  have HC := Lib.hid (show PlC Q R P D ks birth a WW from ⟨(cell_of_row _ _ 0 _ _ _ gQ).trans rfl, HWt.out.cells.2.1, HWt.out.cells.2.2.2.1, (cell_of_row _ _ 0 _ _ _ gR).trans rfl, HWt.out.cells.1⟩)
  have HGA := Lib.hid gA
  have HGE := Lib.hid gE
  have HBW := Lib.hid hbW
  clear hal hW gQ gR gA gE hbW hQ hR hA hE
  refine wp_region_headA (C := PlC Q R P D ks birth a) 10 (by kernel_rfl) (by decide) ?_
  obtain ⟨wd, hwd⟩ : ∃ wd, wd = { WW with drawn := WW.drawn + 1 } := ⟨_, rfl⟩
  have HCd := Lib.hid (show PlC Q R P D ks birth a wd by rw [hwd]; exact HC.out)
  have HBd := Lib.hid (show Below WW.heap.size WW wd by rw [hwd]; exact (Below.refl _ WW).drew)
  rw [← hwd]
  clear hwd
  refine wpHeadL_take (i := 0) (v := .pointer (some ⟨P, 0, none⟩)) rfl (by kernel_rfl) (fun c a w h => place_panic _ (by decide) _ c a w h) headA_done (.inl ⟨by rfl, fun w' hw => by (have h := hw.1; go_simp)⟩) ?_
  simp only [Act.put, sA, sB, sC]
  refine wpHeadL_take (i := 1) (v := .pointer (some ⟨P, 0, none⟩)) rfl (by kernel_rfl) (fun c a w h => place_panic _ (by decide) _ c a w h) headA_done (.inl ⟨by rfl, fun w' _ => by go_simp⟩) ?_
  simp only [Act.put, sA, sB, sC]
  refine wpHeadL_take (i := 2) (v := .pointer (some ⟨P, 1, none⟩)) rfl (by kernel_rfl) (fun c a w h => place_panic _ (by decide) _ c a w h) headA_done (.inl ⟨by rfl, fun w' _ => by go_simp⟩) ?_
  simp only [Act.put, sA, sB, sC]
  refine wpHeadL_take (i := 3) (v := .agg (ks.map Bv).toArray) rfl (by kernel_rfl) (fun c a w h => place_panic _ (by decide) _ c a w h) headA_done (yields_load (by rfl) 35 (.tmp 13) (by rfl) P 1 (by rfl) (ks.map Bv) _ (fun _ h => h.2.1) Tryz.underlying35 rfl (by rw [info_keys, List.length_map, HH.out.ks])) ?_
  simp only [Act.put, sA, sB, sC]
  refine wpHeadL_take (i := 4) (v := .pointer (some ⟨P, 0, none⟩)) rfl (by kernel_rfl) (fun c a w h => place_panic _ (by decide) _ c a w h) headA_done (.inl ⟨by rfl, fun w' hw => by (have h := hw.1; go_simp)⟩) ?_
  simp only [Act.put, sA, sB, sC]
  refine wpHeadL_take (i := 5) (v := .pointer (some ⟨P, 0, none⟩)) rfl (by kernel_rfl) (fun c a w h => place_panic _ (by decide) _ c a w h) headA_done (.inl ⟨by rfl, fun w' _ => by go_simp⟩) ?_
  simp only [Act.put, sA, sB, sC]
  refine wpHeadL_take (i := 6) (v := .pointer (some ⟨P, 66, none⟩)) rfl (by kernel_rfl) (fun c a w h => place_panic _ (by decide) _ c a w h) headA_done (.inl ⟨by rfl, fun w' _ => by go_simp⟩) ?_
  simp only [Act.put, sA, sB, sC]
  refine wpHeadL_take (i := 7) (v := .int .u64 (birth : Int)) rfl (by kernel_rfl) (fun c a w h => place_panic _ (by decide) _ c a w h) headA_done (.inl ⟨by rfl, fun w' hw => by (have h := hw.2.2.1; go_simp)⟩) ?_
  simp only [Act.put, sA, sB, sC]
  refine wpHeadL_take (i := 8) (v := .int .u32 (a : Int)) rfl (by kernel_rfl) (fun c a w h => place_panic _ (by decide) _ c a w h) headA_done (.inl ⟨by rfl, fun w' hw => by (have h := hw.2.2.2.1; go_simp)⟩) ?_
  simp only [Act.put, sA, sB, sC]
  refine wpHeadL_take (i := 9) (v := .slice av 512 cv) rfl (by kernel_rfl) (fun c a w h => place_panic _ (by decide) _ c a w h) headA_done (.inl ⟨by rfl, fun w' _ => by go_simp⟩) ?_
  simp only [Act.put, sA, sB, sC]
  refine headA_end HCd.out (by kernel_rfl) ?_
  have HVd := Lib.hid (HVt.out.below HBd.out)
  have HCs := Lib.hid (seal_any ks b birth a (.slice av 512 cv) wd HH.out.ks HBl.out HVd.out H0.out HH.out.birth HA.out.1 (by have := HA.out.2; have := HH.out.sp.2.2.1; omega))
  refine wpAnyL_forced 10 (by kernel_rfl) rfl (by rfl) (fun K hK => ?_)
  have HK := Lib.hid hK
  clear hK
  unfold Oper.wp execOp
  go_simp
  refine HCs.out.mono ?_
  rintro e w2 ⟨aa, cc, rfl, hs2, hge2, hb2⟩
  have HS2 := Lib.hid hs2
  have HGe2 := Lib.hid hge2
  have HB2 := Lib.hid (HBd.out.trans (hb2.mono HBd.out.size))
  have HC2 := Lib.hid (HCd.out.fr (Fr.of_below (S := fun _ => False) hb2) id id id)
  obtain ⟨p, hp⟩ : ∃ p, p = sealP ks birth a b := ⟨_, rfl⟩
  have HPv := Lib.hid hp
  have HPw := Lib.hid (show p.Wf by rw [hp]; exact sealP_wf ks birth a b HH.out.birth (by have := HA.out.2; have := HH.out.sp.2.2.1; omega))
  obtain ⟨c, hc⟩ : ∃ c, c = cryptB (ks.take 32) (nonceB birth a) b := ⟨_, rfl⟩
  have HCv := Lib.hid hc
  rw [← hp]
  rw [← hc] at HS2
  have HCl := Lib.hid (show c.length = 512 by rw [hc, cryptB_length _ _ _ (by rw [List.length_take, HH.out.ks]; rfl) (nonceB_length _ _), HBl.out])
  have HGA2 := Lib.hid ((HB2.out.block A (lt_of_block HGA.out)).trans HGA.out)
  have HGE2 := Lib.hid ((HB2.out.block E (lt_of_block HGE.out)).trans HGE.out)
  have HBw2 := Lib.hid (HBW.out.trans (HB2.out.mono HBW.out.size))
  have HBsz := Lib.hid (show w.heap.size ≤ wd.heap.size ∧ A < wd.heap.size ∧ E < wd.heap.size from by
    have h1 := HBW.out.size; have h2 := HBd.out.size; have h3 := lt_of_block HGA.out; have h4 := lt_of_block HGE.out; omega)
  clear hs2 hge2 hb2 hp hc HCs HCd HGA HGE HBW HVt HVd HBd
  refine HK.out _ _ ?_
  clear HK K
  try simp only [Act.put, sA, sB, sC]
  refine wpAnyL_take (i := 11) (v := .tuple #[.slice aa 512 cc, .agg p.arr, .int .i64 0]) rfl (by kernel_rfl) (fun c a w h => place_panic _ (by decide) _ c a w h) (.inl ⟨by rfl, fun w' => by go_simp⟩) ?_
  simp only [Act.put, sA, sB, sC]
  refine wpAnyL_take (i := 12) (v := .slice aa 512 cc) rfl (by kernel_rfl) (fun c a w h => place_panic _ (by decide) _ c a w h) (.inl ⟨by rfl, fun w' => by go_simp⟩) ?_
  simp only [Act.put, sA, sB, sC]
  refine wpAnyL_take (i := 13) (v := .agg p.arr) rfl (by kernel_rfl) (fun c a w h => place_panic _ (by decide) _ c a w h) (.inl ⟨by rfl, fun w' => by go_simp⟩) ?_
  simp only [Act.put, sA, sB, sC]
  refine wpAnyL_take (i := 14) (v := .int .i64 0) rfl (by kernel_rfl) (fun c a w h => place_panic _ (by decide) _ c a w h) (.inl ⟨by rfl, fun w' => by go_simp⟩) ?_
  simp only [Act.put, sA, sB, sC]
  refine wpAnyL_list 15 rfl (by kernel_rfl) ?_
  simp only [List.drop_succ_cons, List.drop_zero]
  have ce2 : w2.cell? ⟨E, 0, none⟩ = some (.int .i64 0) := (cell_of_row _ _ 0 _ _ _ HGE2.out).trans rfl
  go_wp2_with (refine store_ptr rfl (.tmp 6) (.tmp 23) rfl rfl rfl HGA2.out Pt.zero_wf.size HPw.out ?_; intro w3 hg3 hf3 hs3; have HG3 := Lib.hid hg3; have HF3 := Lib.hid hf3; have ce3 : w3.cell? ⟨E, 0, none⟩ = some (.int .i64 0) := hf3.cell ce2 (by have := HQs.out; dsimp only; omega); have fe3 : w3.frozen? ⟨E, 0, none⟩ = false := (by have hE3 := (hf3.block E (lt_of_block HGE2.out) (by have := HQs.out; omega)).trans HGE2.out; simp [World.frozen?, hE3]); clear hg3 hf3 hs3)
  obtain ⟨w4, hw4⟩ : ∃ w4, w4 = w3.setCell ⟨E, 0, none⟩ (.int .i64 0) := ⟨_, rfl⟩
  have hf34 : Fr (fun k => k = E) w3 w4 := by rw [hw4]; exact (Fr.refl (fun k => k = E) w3).set E 0 rfl _
  have hf24 : Fr (fun k => k = A ∨ k = E) w2 w4 := (HF3.out.mono (fun k _ e => Or.inl e)).trans (hf34.mono (fun k _ e => Or.inr e))
  have hge4 := heap_setCell_same w3 E 0 _ _ (.int .i64 0) ((HF3.out.block E (lt_of_block HGE2.out) (by have := HQs.out; omega)).trans HGE2.out)
  rw [← hw4] at hge4
  have hPl4 := (HWt.out.below HB2.out).fr hf24 (by rintro k hk (e | e) <;> (have := HLt.out k hk; have := HQs.out; omega))
  have hDv4 := (HD.out.below HBw2.out).fr hf24 (by rintro k hk (e | e) <;> (have := (HFs.out k hk).2; have := HQs.out; omega))
  have HPl4 := Lib.hid hPl4
  have HDv4 := Lib.hid hDv4
  have HC4 := Lib.hid (show PlC Q R P D ks birth a w4 from HC2.out.fr hf24 (by have := HQs.out; omega) (by have := HQs.out; omega) (by have := HQs.out; have := HLt.out P (Or.inl rfl); omega))
  have HGA4 := Lib.hid ((hf34.block A (lt_of_block HG3.out) (by have := HQs.out; omega)).trans HG3.out)
  have HGE4 := Lib.hid hge4
  have HS4 := Lib.hid (show Sl w4 1 (.slice aa 512 cc) 512 (c.map Bv) from HS2.out.fr hf24 (fun q m c' e => by
    have h1 := HGe2.out q.block (by rw [e]; rfl)
    have h3 := HBsz.out
    rintro (e2 | e2) <;> omega))
  have hno4 : ∀ q m c', Value.slice aa 512 cc = .slice (some q) m c' → ¬ Fs q.block := fun q m c' e hF => by
    have h1 := HGe2.out q.block (by rw [e]; rfl)
    have h2 := (HFs.out _ hF).2
    have h3 := HBsz.out
    omega
  have HNo4 := Lib.hid hno4
  have hszw4 : w.heap.size ≤ w4.heap.size := Nat.le_trans HBw2.out.size hf24.size
  have HB4 := Lib.hid (show Fr (fun _ => False) w w4 from ((Fr.of_below (S := fun _ => False) HBw2.out).step hf24 (fun j e => Or.inr (by have := HQs.out; omega))))
  rw [← hw4]
  clear hw4 hf34 hf24 hge4 hPl4 hDv4 hno4 ce3 fe3
  refine wp_region_headW (C := fun u => PlC Q R P D ks birth a u ∧ At u A 0 p.cells) 8 (by kernel_rfl) (by decide) ?_
  obtain ⟨we, hwe⟩ : ∃ we, we = { w4 with drawn := w4.drawn + 1 } := ⟨_, rfl⟩
  have HCe := Lib.hid (show PlC Q R P D ks birth a we ∧ At we A 0 p.cells from by rw [hwe]; exact ⟨HC4.out, At.of_row (by simpa [Pt.arr] using HGA4.out)⟩)
  have HFe := Lib.hid (show Fr (fun _ => False) w4 we from by rw [hwe]; exact ⟨rfl, rfl, rfl, Nat.le_refl _, fun _ _ _ => rfl⟩)
  rw [← hwe]
  clear hwe
  refine wpHeadL_take (i := 0) (v := .agg p.cells.toArray) rfl (by kernel_rfl) (fun c a w h => place_panic _ (by decide) _ c a w h) headW_done (yields_load (by rfl) 43 (.tmp 6) (by rfl) A 0 (by rfl) p.cells _ (fun _ h => h.2) Tryz.underlying43 rfl (by rw [info_ptr, HPw.out.len])) ?_
  simp only [Act.put, sA, sB, sC]
  refine wpHeadL_take (i := 1) (v := .pointer (some ⟨P, 0, none⟩)) rfl (by kernel_rfl) (fun c a w h => place_panic _ (by decide) _ c a w h) headW_done (.inl ⟨by rfl, fun w' hw => by (have h := hw.1.1; go_simp)⟩) ?_
  simp only [Act.put, sA, sB, sC]
  refine wpHeadL_take (i := 2) (v := .pointer (some ⟨P, 0, none⟩)) rfl (by kernel_rfl) (fun c a w h => place_panic _ (by decide) _ c a w h) headW_done (.inl ⟨by rfl, fun w' _ => by go_simp⟩) ?_
  simp only [Act.put, sA, sB, sC]
  refine wpHeadL_take (i := 3) (v := .pointer (some ⟨P, 0, none⟩)) rfl (by kernel_rfl) (fun c a w h => place_panic _ (by decide) _ c a w h) headW_done (.inl ⟨by rfl, fun w' _ => by go_simp⟩) ?_
  simp only [Act.put, sA, sB, sC]
  refine wpHeadL_take (i := 4) (v := .pointer (some ⟨D, 0, none⟩)) rfl (by kernel_rfl) (fun c a w h => place_panic _ (by decide) _ c a w h) headW_done (.inl ⟨by rfl, fun w' hw => by (have h := hw.1.2.2.2.2; go_simp)⟩) ?_
  simp only [Act.put, sA, sB, sC]
  refine wpHeadL_take (i := 5) (v := .int .u32 (a : Int)) rfl (by kernel_rfl) (fun c a w h => place_panic _ (by decide) _ c a w h) headW_done (.inl ⟨by rfl, fun w' hw => by (have h := hw.1.2.2.2.1; go_simp)⟩) ?_
  simp only [Act.put, sA, sB, sC]
  refine wpHeadL_take (i := 6) (v := .slice aa 512 cc) rfl (by kernel_rfl) (fun c a w h => place_panic _ (by decide) _ c a w h) headW_done (.inl ⟨by rfl, fun w' _ => by go_simp⟩) ?_
  simp only [Act.put, sA, sB, sC]
  have HWr := Lib.hid (dvWrite_no D a lo cc Fs d aa we (HDv4.out.fr HFe.out (fun _ _ => id)) HA.out.2 HMiss.out)
  refine wpHeadL_forced 7 HCe.out (by kernel_rfl) rfl (by rfl) (fun K hK => ?_)
  have HK := Lib.hid hK
  clear hK
  unfold Oper.wp execOp
  go_simp
  refine HWr.out.mono ?_
  rintro e w5 ⟨rfl, hd5, hf5⟩
  have hF5 := True.intro
  have hq0 := HQs.out
  have hfs : ∀ k, Fs k → k < w.heap.size := fun k hk => (HFs.out k hk).2
  have hnP : ¬ Fs P := fun hk => HDis.out P (Or.inl rfl) (HFs.out P hk).1
  have hnA : ¬ Fs A := fun hk => by have := hfs A hk; omega
  have hnE : ¬ Fs E := fun hk => by have := hfs E hk; omega
  have hge5 : w5.heap[E]? = some (.cells #[.int .i64 0] 38 (0, 0)) := (hf5.block E (Nat.lt_of_lt_of_le (lt_of_block HGE4.out) HFe.out.size) hnE).trans ((HFe.out.block E (lt_of_block HGE4.out) id).trans HGE4.out)
  have hga5 : w5.heap[A]? = some (.cells p.arr 43 (0, 0)) := (hf5.block A (Nat.lt_of_lt_of_le (lt_of_block HGA4.out) HFe.out.size) hnA).trans ((HFe.out.block A (lt_of_block HGA4.out) id).trans HGA4.out)
  have HC5 := Lib.hid (show PlC Q R P D ks birth a w5 from HCe.out.1.fr hf5 (fun hk => by have := hfs Q hk; omega) (fun hk => by have := hfs R hk; omega) hnP)
  have HA5 := Lib.hid (show At w5 A 0 p.cells from At.of_row (by simpa [Pt.arr] using hga5))
  have HGE5 := Lib.hid hge5
  have HGA5 := Lib.hid hga5
  have HD5 := Lib.hid hd5
  have HP5 := Lib.hid ((HPl4.out.fr HFe.out (fun _ _ => id)).fr hf5 (fun k hk hF => HDis.out k hk (HFs.out k hF).1))
  have HF5 := Lib.hid (show Fr Fs w w5 from ((HB4.out.trans HFe.out).mono (fun _ _ h => h.elim)).trans hf5)
  have HFF5 := Lib.hid hF5
  clear hd5 hf5 hF5 HWr hge5 hga5
  refine HK.out _ _ ?_
  clear HK K
  try simp only [Act.put, sA, sB, sC]
  refine headW_end ⟨HC5.out, HA5.out⟩ (by kernel_rfl) ?_
  simp only [List.drop_succ_cons, List.drop_zero]
  go_wp2_with (refine store_ptr rfl (.tmp 6) (.tmp 29) rfl rfl rfl HGA5.out HPw.out.size HPw.out ?_; intro w6 hg6 hf6 hs6; have HG6 := Lib.hid hg6; have HF6 := Lib.hid hf6; have hE6 := (hf6.block E (lt_of_block HGE5.out) (by have := HQs.out; omega)).trans HGE5.out; have HE6 := Lib.hid hE6; have ce6 : w6.cell? ⟨E, 0, none⟩ = some (.int .i64 0) := (cell_of_row _ _ 0 _ _ _ hE6).trans rfl; have fe6 : w6.frozen? ⟨E, 0, none⟩ = false := (by simp [World.frozen?, hE6]); clear hg6 hf6 hs6 hE6)
  obtain ⟨w7, hw7⟩ : ∃ w7, w7 = w6.setCell ⟨E, 0, none⟩ (.int .i64 7) := ⟨_, rfl⟩
  have hf67 : Fr (fun k => k = E) w6 w7 := by rw [hw7]; exact (Fr.refl (fun k => k = E) w6).set E 0 rfl _
  have hge7 := heap_setCell_same w6 E 0 _ _ (.int .i64 7) HE6.out
  rw [← hw7] at hge7
  have hf57 : Fr (fun k => k = A ∨ k = E) w5 w7 := (HF6.out.mono (fun k _ e => Or.inl e)).trans (hf67.mono (fun k _ e => Or.inr e))
  have ce7 : w7.cell? ⟨E, 0, none⟩ = some (.int .i64 7) := (cell_of_row _ _ 0 _ _ _ hge7).trans rfl
  have hga7 := (hf67.block A (lt_of_block HG6.out) (by omega)).trans HG6.out
  have hp7 := HP5.out.fr hf57 (by rintro k hk (e | e) <;> (have := HLt.out k hk; omega))
  have hszA := lt_of_block HGA4.out
  have hszE := lt_of_block HGE4.out
  have hsze := HFe.out.size
  have hd7 := HD5.out.fr hf57 (by rintro k hk (e | e) <;> (have := hfs k hk; omega))
  have hfw7 : Fr Fs w w7 := HF5.out.step hf57 (fun j e => Or.inr (by omega))
  rw [← hw7]
  have hfs' : Fr Fd w w7 := hfw7.mono (fun k _ h => (HFs.out k h).1)
  have HEnd := Lib.hid (show DvIn w7 lo D Fd d.miss from by
    obtain ⟨L, T, wv, h1, h2⟩ := hd7
    exact ⟨L, T, wv, h1, fun k hk => (HFs.out k (h2 k hk)).1⟩)
  have HFw := Lib.hid hfs'
  have HIn := Lib.hid (show ∀ k, Fs k → k ≠ A ∧ k ≠ S ∧ k ≠ W from fun k hk => ⟨fun e => by have := hfs k hk; omega, fun e => HDis.out S (Or.inr (Or.inl rfl)) (HFs.out S (e ▸ hk)).1, fun e => HDis.out W (Or.inr (Or.inr rfl)) (HFs.out W (e ▸ hk)).1⟩)
  have HD7 := Lib.hid hd7
  have cQ7 : w7.cell? ⟨Q, 0, none⟩ = some (.pointer (some ⟨P, 0, none⟩)) := hf57.cell HC5.out.1 (by dsimp only; omega)
  have cR7 : w7.cell? ⟨R, 0, none⟩ = some (.int .u32 (a : Int)) := hf57.cell HC5.out.2.2.2.1 (by dsimp only; omega)
  have hSl := HLt.out S (Or.inr (Or.inl rfl))
  have hWl := HLt.out W (Or.inr (Or.inr rfl))
  have hPl := HLt.out P (Or.inl rfl)
  refine leaves_cons (f := 110) (args := #[.pointer (some ⟨E, 0, none⟩), .pointer (some ⟨A, 0, none⟩), .pointer (some ⟨Q, 0, none⟩), .pointer (some ⟨R, 0, none⟩)]) (by simp) (by simp [go_sem]) ?_
  refine (placeD_bad E A Q R P D S W d.size birth a ks t 7 p .returning _ hp7 (by decide) HA.out HT.out ce7 hga7 HPw.out cQ7 cR7 (by omega)).mono ?_
  rintro e u' w'' ⟨rfl, rfl, hp8, hga8, ce8, hf8⟩
  refine ⟨_, ret_cc rfl rfl rfl (At.of_row (by simpa [Pt.arr] using hga8)) Tryz.underlying43 rfl (by rw [info_ptr, Pt.zero_wf.len]) (load_errno _ E 7 ce8), ?_, hp8, ?_, ?_⟩
  · simp [Pt.arr]
  · obtain ⟨L, T, wv, h1, h2⟩ := HD7.out.fr hf8 (fun k hk h => by have := HIn.out k hk; omega)
    exact ⟨L, T, wv, h1, fun k hk => (HFs.out k (h2 k hk)).1⟩
  · exact (HFw.out.mono (fun k _ h => Or.inl h)).step hf8 (fun j e => by
      rcases e with e | e | e
      · exact Or.inr (by omega)
      · exact Or.inl (Or.inr (Or.inl e))
      · exact Or.inl (Or.inr (Or.inr e)))

end Go.Proofs.YtkbnkdokcmpcgaaGreatDoor
