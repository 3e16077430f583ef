/- Walk: banyanlaw13.PoolBack. -/
import Derived.Test.YtkbnkdokcmpcgaaGreatDoorB1
import Derived.Test.YtkbnkdokcmpcgaaGreatDoorB25
import Derived.Test.YtkbnkdokcmpcgaaGreatDoorB26
namespace Go.Proofs.YtkbnkdokcmpcgaaGreatDoor
open Go.RowKit

theorem info_nd4 : (Tryz.prog.info? 25).map (·.size) = some 4 := by kernel_rfl
theorem infoz_ptr : ∃ i z, Tryz.prog.info? 43 = some i ∧ i.zero = some z ∧ i.size = 34 ∧ i.bytes = 48 ∧ z.cells.size = 34 := by
  have h : (Tryz.prog.info? 43).map (fun i => (i.zero.map (·.cells.size), i.size, i.bytes)) = some (some 34, 34, 48) := by kernel_rfl
  cases hq : Tryz.prog.info? 43 with
  | none => rw [hq] at h; cases h
  | some i =>
    rw [hq] at h
    simp only [Option.map_some, Option.some.injEq, Prod.mk.injEq] at h
    obtain ⟨h1, h2, h3⟩ := h
    obtain ⟨z, hz, hzs⟩ := Option.map_eq_some_iff.1 h1
    exact ⟨i, z, rfl, hz, h2, h3, hzs⟩
theorem infoz_nd : ∃ i z, Tryz.prog.info? 25 = some i ∧ i.zero = some z ∧ i.size = 4 ∧ i.bytes = 80 ∧ z.cells.size = 4 := by
  have h : (Tryz.prog.info? 25).map (fun i => (i.zero.map (·.cells.size), i.size, i.bytes)) = some (some 4, 4, 80) := by kernel_rfl
  cases hq : Tryz.prog.info? 25 with
  | none => rw [hq] at h; cases h
  | some i =>
    rw [hq] at h
    simp only [Option.map_some, Option.some.injEq, Prod.mk.injEq] at h
    obtain ⟨h1, h2, h3⟩ := h
    obtain ⟨z, hz, hzs⟩ := Option.map_eq_some_iff.1 h1
    exact ⟨i, z, rfl, hz, h2, h3, hzs⟩
/-- What stands aside is written to, or new. -/
theorem PS.keep {B P D S W lo birth : Nat} {w w' : World} {ks : List UInt8} {t : Nat → Bool} {d : Dv} {L L' : List (Nat × Obj)} {F : Nat → Prop} (h : PS B w P D S W lo ks t birth d L) (hf : Fr F w w') (hF : ∀ k, F k → ∃ o, (k, o) ∈ L)
    (hL : ∀ b o, (b, o) ∈ L' → w'.heap[b]? = some o ∧ ((∃ o', (b, o') ∈ L) ∨ w.heap.size ≤ b)) : PS B w' P D S W lo ks t birth d L' := by
  obtain ⟨F2, h1, h2, h3, h4, h5⟩ := h
  have hlt := h1.lt
  refine ⟨F2, h1.fr hf (fun k hk e => by obtain ⟨o, ho⟩ := hF k e; exact (h5 k o ho).2.2 hk), h2.fr hf (fun k hk e => by obtain ⟨o, ho⟩ := hF k e; exact (h5 k o ho).2.1 hk), fun k hk => ⟨(h3 k hk).1, Nat.lt_of_lt_of_le (h3 k hk).2 hf.size⟩, h4, fun b o hm => ?_⟩
  obtain ⟨e1, e2⟩ := hL b o hm
  refine ⟨e1, ?_⟩
  rcases e2 with ⟨o', ho'⟩ | e2
  · exact (h5 b o' ho').2
  · exact ⟨fun hk => by have := (h3 b hk).2; omega, fun hk => by have := hlt b hk; omega⟩
/-- The block that a slice owns, and what lies there. -/
def ownL (w : World) (v : Value) : List (Nat × Obj) := match v.ownBlock with
  | none => []
  | some b => match w.heap[b]? with
    | none => []
    | some o => [(b, o)]
theorem ownL_mem {w : World} {v : Value} {b : Nat} {o : Obj} : (b, o) ∈ ownL w v ↔ v.ownBlock = some b ∧ w.heap[b]? = some o := by
  unfold ownL
  cases hv : v.ownBlock with
  | none => simp
  | some c =>
    dsimp only
    cases hq : w.heap[c]? with
    | none => simp; rintro rfl; rw [hq]; simp
    | some o' => simp; constructor
                 · rintro ⟨rfl, rfl⟩; exact ⟨rfl, hq⟩
                 · rintro ⟨rfl, h⟩; rw [hq] at h; exact ⟨rfl, (Option.some.inj h).symm⟩
theorem _root_.Go.World.ownsRow.blocks {w w' : World} {base e size n : Nat} {v : Value} {xs : List Value} (h : w.ownsRow base e size v n xs) (hb : ∀ b, v.ownBlock = some b → w'.heap[b]? = w.heap[b]?) : w'.ownsRow base e size v n xs := by
  refine ⟨h.1, ?_⟩
  rcases h.2 with hn | ⟨g, cap, cur, rfl, hg0, hg, rest⟩
  · exact .inl hn
  · exact .inr ⟨g, cap, cur, rfl, hg0, (hb g rfl).trans hg, rest⟩
theorem _root_.Go.World.ownsRow.has {w : World} {base e size n : Nat} {v : Value} {xs : List Value} (h : w.ownsRow base e size v n xs) {b : Nat} (hb : v.ownBlock = some b) : ∃ o, w.heap[b]? = some o := by
  have := (h.lt b hb).2
  exact ⟨_, Array.getElem?_eq_getElem this⟩
theorem _root_.Go.World.ownsRow.not_at {w : World} {base e e2 size n : Nat} {v : Value} {xs : List Value} {cs : Array Value} {fz : Nat × Nat} (h : w.ownsRow base e size v n xs) {b : Nat} (hb : v.ownBlock = some b) (hc : w.heap[b]? = some (.cells cs e2 fz)) (hne : e ≠ e2) : False := by
  rcases h.2 with ⟨rfl, _⟩ | ⟨g, cap, cur, rfl, _, hg, _⟩
  · cases hb
  · obtain rfl : g = b := by simpa [Value.ownBlock] using hb
    rw [hg] at hc
    simp only [Option.some.injEq, Obj.cells.injEq] at hc
    exact hne hc.2.1
/-- Own rows stay where a pool's act is done that leaves what stands aside. -/
theorem PS.rows {B P D S W lo birth B2 P2 D2 S2 W2 lo2 birth2 : Nat} {w w' : World} {ks ks2 : List UInt8} {t t2 : Nat → Bool} {d d2 : Dv} {L : List (Nat × Obj)} (h : PS B w P D S W lo ks t birth d L) (h' : PS B2 w' P2 D2 S2 W2 lo2 ks2 t2 birth2 d2 L) {base e size n : Nat} {v : Value} {xs : List Value}
    (ho : w.ownsRow base e size v n xs) (hL : ∀ b, v.ownBlock = some b → ∃ o, (b, o) ∈ L) : w'.ownsRow base e size v n xs :=
  ho.blocks fun b hb => by obtain ⟨o, hm⟩ := hL b hb; rw [h.row hm, h'.row hm]

/-- One of an own row's, where it lies. -/
theorem own_at {w : World} {base e sz : Nat} {v : Value} {ls : List (List Value)} (h : w.ownsRow base e sz v ls.length ls.flatten) (hl : ∀ l ∈ ls, l.length = sz) (j : Nat) (hj : j < ls.length) :
    ∃ g cap, v = .slice (some ⟨g, 0, none⟩) ls.length cap ∧ At w g (j * sz) ls[j] ∧ g < w.heap.size := by
  rcases h.2 with ⟨rfl, h0⟩ | ⟨g, cap, cur, rfl, _, hg, _, _, _, ht⟩
  · omega
  · refine ⟨g, cap, rfl, fun i u hu => ?_, lt_of_block hg⟩
    have hi : i < sz := by rw [← hl _ (List.getElem_mem hj)]; exact (List.getElem?_eq_some_iff.1 hu).1
    have hf := flat_get sz ls hl j hj i hi
    rw [cell_of_row _ g _ _ _ _ hg, ← Array.getElem?_toList, ← hu, ← hf, ← ht, List.getElem?_take, if_pos]
    have := Nat.mul_le_mul_right sz (show j + 1 ≤ ls.length by omega)
    rw [Nat.add_mul, Nat.one_mul] at this
    omega
theorem index_twoP (v0 v1 : Value) (w : World) : (Instr.index 72 (.agg #[v0, v1]) (.int .i64 0)).run Tryz.prog w = .ok v0 w ∧ (Instr.index 72 (.agg #[v0, v1]) (.int .i64 1)).run Tryz.prog w = .ok v1 w := by
  have hsz : (sizeOf 29).run Tryz.prog w = .ok 1 w := by
    have : ∃ i, Tryz.prog.info? 29 = some i ∧ i.size = 1 := by
      have h1 : (Tryz.prog.info? 29).map (·.size) = some 1 := by kernel_rfl
      cases hq : Tryz.prog.info? 29 with
      | none => simp [hq] at h1
      | some i => exact ⟨i, rfl, by simpa [hq] using h1⟩
    obtain ⟨i, hi, hs⟩ := this
    simp [sizeOf, typeInfo, hi, hs]
  constructor <;> (simp [Instr.index, run_underlying Tryz.underlying72, asIntOf, part, Sem.run_bind, hsz])
/-- What was written: its cells, and what it is. -/
abbrev Zs := List (Array Value × Nd)
def ptsZ (ks : List UInt8) (b : Nat) (zs : Zs) : List Pt := (zs.zipIdx).map fun z => sealP ks b (z.2 + 2) (nodeB z.1.2)
theorem ptsZ_snoc (ks : List UInt8) (b : Nat) (zs : Zs) (z : Array Value × Nd) : ptsZ ks b (zs ++ [z]) = ptsZ ks b zs ++ [sealP ks b (zs.length + 2) (nodeB z.2)] := by
  unfold ptsZ; rw [List.zipIdx_append, List.map_append]; simp
theorem ptsZ_length (ks : List UInt8) (b : Nat) (zs : Zs) : (ptsZ ks b zs).length = zs.length := by unfold ptsZ; simp
theorem ptsZ_get (ks : List UInt8) (b : Nat) (zs : Zs) (j : Nat) (h : j < zs.length) (h2 : j < (ptsZ ks b zs).length) : (ptsZ ks b zs)[j] = sealP ks b (j + 2) (nodeB zs[j].2) := by
  have h3 : (ptsZ ks b zs)[j]? = some (sealP ks b (j + 2) (nodeB zs[j].2)) := by unfold ptsZ; simp [h]
  exact (List.getElem?_eq_some_iff.1 h3).2
structure ZsOk (w : World) (zs : Zs) : Prop where
  is : ∀ z ∈ zs, NdIs w z.1 z.2 ∧ z.2.Fits ∧ formB z.2 = true ∧ sizeN z.2 ≤ 512
theorem ZsOk.snoc {w : World} {zs : Zs} (h : ZsOk w zs) {arr : Array Value} {n : Nd} (h1 : NdIs w arr n) (h2 : n.Fits) (h3 : formB n = true) (h4 : sizeN n ≤ 512) : ZsOk w (zs ++ [(arr, n)]) :=
  ⟨fun z hz => by rcases List.mem_append.1 hz with hz | hz; (· exact h.is z hz); (· rw [List.mem_singleton.1 hz]; exact ⟨h1, h2, h3, h4⟩)⟩
/-- A device on which they lie. -/
def LiesZ (ks : List UInt8) (b : Nat) (zs : Zs) (d : Dv) : Prop := ∀ j (h : j < zs.length), d.cur (j + 2) = cryptB (ks.take 32) (nonceB b (j + 2)) (nodeB zs[j].2)
theorem LiesZ.snoc {ks : List UInt8} {b : Nat} {zs : Zs} {d : Dv} (h : LiesZ ks b zs d) (z : Array Value × Nd) : LiesZ ks b (zs ++ [z]) (d.step.wrote (zs.length + 2) (cryptB (ks.take 32) (nonceB b (zs.length + 2)) (nodeB z.2))) := by
  intro j hj
  rw [Dv.cur_wrote]
  rw [List.length_append, List.length_singleton] at hj
  by_cases e : j = zs.length
  · subst e; rw [if_pos rfl]; simp
  · rw [if_neg (by omega), List.getElem_append_left (by omega)]
    exact h j (by omega)

/-- What stands behind some nodes. -/
def BkRel (B : Nat) (w2 : World) (P D S W lo : Nat) (ks : List UInt8) (go : Nat × Obj) (b k : Nat) (vA vB : Value) (wr : World) : Prop :=
  ∃ d L zs, PS B wr P D S W lo ks (upT zs.length) b d L ∧ Below B w2 wr ∧ d.size = 32 ∧ d.down = false ∧ d.left = -1 ∧ d.waits.length ≤ zs.length ∧ zs.length ≤ k ∧ ZsOk w2 zs ∧ LiesZ ks b zs d ∧
    wr.ownsRow B 43 34 vA zs.length ((ptsZ ks b zs).map Pt.cells).flatten ∧ wr.ownsRow B 25 4 vB zs.length (zs.map fun z => z.1.toList).flatten ∧
    (∀ q, vA.ownBlock = some q → ∃ o, (q, o) ∈ L) ∧ (∀ q, vB.ownBlock = some q → ∃ o, (q, o) ∈ L) ∧ go ∈ L

set_option maxRecDepth 100000 in
set_option maxHeartbeats 8000000 in
theorem poolBack_any (v : Value) (ns : List Nd) (nb : Nat) (w : World) (h : NdsIn w v ns) (hb : nb < 4294967296) (hT : Tz w) :
    Calls Tryz.prog 8 #[v, .int .u32 (nb : Int)] w fun e w' => e = .returned (.bool true) ∧ Below w.heap.size w w' := by
  obtain ⟨a1, c1, rfl, hel⟩ := h
  have HNs := Lib.hid (show NdsIn w (.slice a1 ns.length c1) ns from ⟨a1, c1, rfl, hel⟩)
  have HTw := Lib.hid hT
  clear hel hT
  go_enter Tryz.func8, Tryz.ntmps8
  go_wp2_with fail
  refine (alive13 _ HTw.out).mono ?_
  rintro e w2 ⟨rfl, hb2⟩
  have HB2 := Lib.hid hb2
  have HN2 := Lib.hid (HNs.out.below hb2)
  have HT2 := Lib.hid (HTw.out.below hb2)
  clear hb2 HNs HTw
  by_cases hl : (12 : Int) < (ns.length : Int)
  · go_wp2
    go_ret
    exact ⟨rfl, HB2.out⟩
  have hlen : ns.length ≤ 12 := by omega
  clear hl
  go_wp2_with fail
  refine (made_ps 32 w2 (by decide) (by decide)).mono ?_
  rintro e w3 ⟨P, D, S, W, lo, rfl, hps, hb3⟩
  obtain ⟨ks, hks⟩ : ∃ ks, ks = MK := ⟨_, rfl⟩
  rw [← hks] at hps ⊢
  have HKl := Lib.hid (show ks.length = 64 by rw [hks]; exact MK_length)
  have HP3 := Lib.hid (hps w2.heap.size (Nat.le_refl _))
  have HX3 := Lib.hid hb3
  clear hks hps hb3
  obtain ⟨b, hbn⟩ : ∃ b, b = nb + 1 := ⟨_, rfl⟩
  have hb1 : 0 < b := by omega
  have HBt := Lib.hid (show b < 18446744073709551616 by omega)
  have HBn := Lib.hid (show (nb : Int) + 1 = (b : Int) by omega)
  clear hbn
  go_wp2_with (refine wpList_store_row rfl _ (.tmp 7) (.tmp 31) rfl w3.heap.size rfl (ks.map Bv) rfl _ _ (heap_alloc_new w3 (.cells ((zB 64).map Bv).toArray 35)) (by rw [List.length_map, HKl.out]; rfl) (Bv_oneCell _) (by rw [info_keys, List.length_map, HKl.out]) ?_; intro w4 hg hf hs; have HGw4 := Lib.hid hg; have HBww4 := Lib.hid (show Below w3.heap.size w3 w4 from ((Below.refl _ w3).alloc (Nat.le_refl _) _).trans (hf.below (by simp) (fun j hj => by omega))); clear hg hf hs)
  have HP4 := Lib.hid (HP3.out.add HBww4.out HGw4.out (Nat.le_refl _))
  have HX4 := Lib.hid (HX3.out.trans (HBww4.out.mono HX3.out.size))
  have HKg := Lib.hid (show w3.heap.size < w4.heap.size from lt_of_block HGw4.out)
  clear HP3 HX3 HGw4 HBww4
  rw [HBn.out]
  refine (begin_ps w2.heap.size P D S W lo 0 ks noneT _ _ w4 b HP4.out HX4.out.size hb1 HBt.out).mono ?_
  rintro e w5 ⟨rfl, hp5, hx5⟩
  obtain ⟨go, hgo⟩ : ∃ go, go = (w3.heap.size, Obj.cells (ks.map Bv).toArray 35 (0, 0)) := ⟨_, rfl⟩
  have hr5 : BkRel w2.heap.size w2 P D S W lo ks go b 0 (.slice none 0 0) (.slice none 0 0) w5 := by
    refine ⟨_, _, [], by rw [show ([] : Zs).length = 0 from rfl, upT_zero]; exact hp5, HX4.out.trans hx5, rfl, rfl, rfl, Nat.le_refl _, Nat.le_refl _, ⟨by simp⟩, ?_, ?_, ?_, ?_, ?_, by rw [hgo]; exact List.mem_cons_self⟩
    · intro j hj; simp at hj
    · exact World.ownsRow_nil _ _ _ _
    · exact World.ownsRow_nil _ _ _ _
    · intro q e; cases e
    · intro q e; cases e
  have HR5 := Lib.hid hr5
  have HGo := Lib.hid hgo
  clear hr5 hgo
  clear hp5 hx5 HP4 HX4
  go_wp2_with fail
  go_loopw [45, 9, 10, 12, 13, 14] (fun i u9 u10 _ _ _ wr => ∃ k : Nat, k ≤ ns.length ∧ i = .int .i64 k ∧ BkRel w2.heap.size w2 P D S W lo ks go b k u9 u10 wr) (fun i _ _ _ _ _ _ => ns.length - (intOf i).toNat)
  case atStart => exact ⟨0, Nat.zero_le _, rfl, HR5.out⟩
  case round =>
    clear HR5
    obtain ⟨k, hk, rfl, hr⟩ := hrel
    have HR := Lib.hid hr
    clear hr
    rcases Nat.lt_or_ge k ns.length with hlt | hge
    · obtain ⟨d, L, zs, hps, hx, hsz, hdn, hlf, hwl, hzk, hzo, hlz, howA, howB, hLA, hLB, hgo⟩ := HR.out
      obtain ⟨a', c', e', hel⟩ := HN2.out
      simp only [Value.slice.injEq, true_and] at e'
      obtain ⟨rfl, rfl⟩ := e'
      obtain ⟨bb, o, arr, rfl, hat2, hnd2, hfit⟩ := hel k hlt
      obtain ⟨n, hn⟩ : ∃ n, n = ns[k] := ⟨_, rfl⟩
      rw [← hn] at hnd2 hfit
      have hnd := hnd2.below hx
      have hat : At wr bb (o + k * 4) arr.toList := fun j u hj => (Fr.of_below (S := fun _ => False) hx).cell (hat2 j u hj) id
      have HQ := Lib.hid (show (∀ q, u9.ownBlock = some q → q < wr.heap.size) ∧ (∀ q, u10.ownBlock = some q → q < wr.heap.size) from ⟨fun q hq => (howA.lt q hq).2, fun q hq => (howB.lt q hq).2⟩)
      have HAt := Lib.hid hat
      have HNd2 := Lib.hid hnd2
      have HNd := Lib.hid hnd
      have HFi := Lib.hid hfit
      have HSz := Lib.hid hnd.size
      have HOne := Lib.hid hnd.one
      have HP := Lib.hid hps
      have HX := Lib.hid hx
      have HOA := Lib.hid howA
      have HOB := Lib.hid howB
      have HLA := Lib.hid hLA
      have HLB := Lib.hid hLB
      have HLG := Lib.hid hgo
      have HZ := Lib.hid (show ZsOk w2 zs ∧ LiesZ ks b zs d from ⟨hzo, hlz⟩)
      have HD := Lib.hid (show d.size = 32 ∧ d.down = false ∧ d.left = -1 ∧ d.waits.length ≤ zs.length ∧ zs.length ≤ k from ⟨hsz, hdn, hlf, hwl, hzk⟩)
      clear hel hat hat2 hnd hnd2 hfit hn hps hx howA howB hLA hLB hgo hzo hlz hsz hdn hlf hwl hzk HR
      go_wp2_with (first | (refine load_nd rfl (.tmp 47) rfl rfl HAt.out HSz.out ?_) | (refine store_nd rfl (.tmp 12) (.tmp 48) rfl rfl (arr := arr) rfl (heap_alloc_new wr (.cells zeroArr 25)) rfl HSz.out HOne.out ?_; intro w7 hg hf hs; have HGw7 := Lib.hid hg; have HBww7 := Lib.hid (show Below wr.heap.size wr w7 from ((Below.refl _ wr).alloc (Nat.le_refl _) _).trans (hf.below (by simp) (fun j hj => by omega))); clear hg hf hs) | (refine load_nd rfl (.tmp 12) rfl rfl (At_nd HGw7.out) HSz.out ?_))
      have HP7 := Lib.hid (HP.out.add HBww7.out HGw7.out (Nat.le_refl _))
      have HX7 := Lib.hid (HX.out.trans (HBww7.out.mono HX.out.size))
      have HN7 := Lib.hid (HNd.out.below HBww7.out)
      have HA7 := Lib.hid HGw7.out
      have HOA7 := Lib.hid (HOA.out.blocks fun q hq => HBww7.out.block q (HOA.out.lt q hq).2)
      have HOB7 := Lib.hid (HOB.out.blocks fun q hq => HBww7.out.block q (HOB.out.lt q hq).2)
      clear HP HX HNd HAt HBww7 HGw7 HOA HOB
      refine (heavy_any arr n w7 HN7.out HFi.out).mono ?_
      rintro e w8 ⟨rfl, hb8⟩
      have HP8 := Lib.hid (HP7.out.below hb8)
      have HX8 := Lib.hid (HX7.out.trans (hb8.mono HX7.out.size))
      have HN8 := Lib.hid (HN7.out.below hb8)
      have HA8 := Lib.hid ((hb8.block _ (lt_of_block HA7.out)).trans HA7.out)
      have HOA8 := Lib.hid (HOA7.out.blocks fun q hq => hb8.block q (HOA7.out.lt q hq).2)
      have HOB8 := Lib.hid (HOB7.out.blocks fun q hq => hb8.block q (HOB7.out.lt q hq).2)
      clear hb8 HP7 HX7 HN7 HA7 HOA7 HOB7
      cases hhv : heavy13 n with
      | true =>
        clear hhv
        go_wp2
        go_ret
        exact ⟨rfl, HB2.out.trans (HX8.out.mono HB2.out.size)⟩
      | false =>
        clear hhv
        go_wp2_with (refine load_nd rfl (.tmp 12) rfl rfl (At_nd HA8.out) HSz.out ?_)
        by_cases hc : checkE n = 0
        · obtain ⟨hfo, hsi⟩ := checkE_split.1 hc
          have HFo := Lib.hid hfo
          have HSi := Lib.hid hsi
          have HC := Lib.hid hc
          clear hc hfo hsi
          refine (write_ps_ok w2.heap.size P D S W lo b ks (upT zs.length) d _ w8 arr n HP8.out HX8.out.size HN8.out (HT2.out.below HX8.out) hb1 HFi.out HFo.out HSi.out (zs.length + 2) (by rw [HD.out.1]; exact upT_low _ (by have := HD.out.2.2.2.2; omega)) HD.out.2.1 (by rw [(step_up HD.out.2.2.1).1]; exact HD.out.2.1) (by have := HD.out.2.2.2; omega)).mono ?_
          rintro e w9 ⟨rfl, hp9, hx9⟩
          rw [upT_next] at hp9
          have HOA9 := Lib.hid (HP8.out.rows hp9 HOA8.out (fun q hq => by obtain ⟨o, ho⟩ := HLA.out q hq; exact ⟨o, List.mem_cons_of_mem _ ho⟩))
          have HOB9 := Lib.hid (HP8.out.rows hp9 HOB8.out (fun q hq => by obtain ⟨o, ho⟩ := HLB.out q hq; exact ⟨o, List.mem_cons_of_mem _ ho⟩))
          obtain ⟨p, hp⟩ : ∃ p, p = sealP ks b (zs.length + 2) (nodeB n) := ⟨_, rfl⟩
          have HPw := Lib.hid (show p.Wf by rw [hp]; exact sealP_wf _ _ _ _ HBt.out (by have := HD.out.2.2.2.2; omega))
          have HPe := Lib.hid hp
          rw [← hp]
          have HP9 := Lib.hid hp9
          have HX9 := Lib.hid (HX8.out.trans hx9)
          have HA9 := Lib.hid (hp9.row List.mem_cons_self)
          have HN9 := Lib.hid (HNd2.out.below HX9.out)
          have HSz9 := Lib.hid (show wr.heap.size < w9.heap.size from lt_of_block HA9.out)
          clear hp hp9 hx9 HP8 HX8 HN8 HA8 HOA8 HOB8
          go_wp2_with (first | (refine store_ptr rfl (.tmp 13) (.tmp 55) rfl rfl (p := p) rfl (heap_alloc_new w9 (.cells Pt.zero.arr 43)) Pt.zero_wf.size HPw.out ?_; intro w10 hg hf hs; have HGw10 := Lib.hid hg; have HBww10 := Lib.hid (show Below w9.heap.size w9 w10 from ((Below.refl _ w9).alloc (Nat.le_refl _) _).trans (hf.below (by simp) (fun j hj => by omega))); clear hg hf hs; have HA10 := Lib.hid ((HBww10.out.block _ (lt_of_block HA9.out)).trans HA9.out)) | (refine load_nd rfl (.tmp 12) rfl rfl (At_nd HA10.out) HSz.out ?_))
          have HP10 := Lib.hid (HP9.out.add HBww10.out HGw10.out (Nat.le_refl _))
          have HX10 := Lib.hid (HX9.out.trans (HBww10.out.mono HX9.out.size))
          have HN10 := Lib.hid (HN9.out.below HBww10.out)
          have HOA10 := Lib.hid (HOA9.out.blocks fun q hq => HBww10.out.block q (HOA9.out.lt q hq).2)
          have HOB10 := Lib.hid (HOB9.out.blocks fun q hq => HBww10.out.block q (HOB9.out.lt q hq).2)
          clear HP9 HX9 HN9 HA9 HOA9 HOB9 HBww10
          refine (check_any arr n w10 HN10.out HFi.out).mono ?_
          rintro e w11 ⟨rfl, hb11⟩
          rw [HC.out]
          have HP11 := Lib.hid (HP10.out.below hb11)
          have HX11 := Lib.hid (HX10.out.trans (hb11.mono HX10.out.size))
          have HA11 := Lib.hid ((hb11.block _ (lt_of_block HA10.out)).trans HA10.out)
          have HG11 := Lib.hid ((hb11.block _ (lt_of_block HGw10.out)).trans HGw10.out)
          have HOA11 := Lib.hid (HOA10.out.blocks fun q hq => hb11.block q (HOA10.out.lt q hq).2)
          have HOB11 := Lib.hid (HOB10.out.blocks fun q hq => hb11.block q (HOB10.out.lt q hq).2)
          clear hb11 HP10 HX10 HN10 HA10 HGw10 HOA10 HOB10
          go_wp2_with fail
          refine wp_region_anyC (AppC { w11 with drawn := w11.drawn + 1 } u9 u10) (by kernel_rfl) ?_
          obtain ⟨wd, hwd⟩ : ∃ wd, wd = { w11 with drawn := w11.drawn + 1 } := ⟨_, rfl⟩
          have HFd := Lib.hid (show Fr (fun _ => False) w11 wd by rw [hwd]; exact ⟨rfl, rfl, rfl, Nat.le_refl _, fun _ _ _ => rfl⟩)
          have HSzd := Lib.hid (show w2.heap.size ≤ wd.heap.size from Nat.le_trans HX11.out.size HFd.out.size)
          have HOAd := Lib.hid (show wd.ownsRow w2.heap.size 43 34 u9 zs.length ((ptsZ ks b zs).map Pt.cells).flatten from HOA11.out.fr HFd.out (fun _ _ h => h))
          have HOBd := Lib.hid (show wd.ownsRow w2.heap.size 25 4 u10 zs.length (zs.map fun z => z.1.toList).flatten from HOB11.out.fr HFd.out (fun _ _ h => h))
          have HLp := Lib.hid (show ∀ w', AppC wd u9 u10 w' → At w' w9.heap.size 0 p.cells from fun w' hw' => by
            have hd : wd.heap[w9.heap.size]? = some (.cells p.arr 43 (0, 0)) := (HFd.out.block _ (lt_of_block HG11.out) id).trans HG11.out
            refine At.of_row ((hw'.block _ (lt_of_block hd) ?_).trans hd)
            rintro (e | e)
            · have := HQ.out.1 _ e; have := HSz9.out; omega
            · have := HQ.out.2 _ e; have := HSz9.out; omega)
          have HLn := Lib.hid (show ∀ w', AppC wd u9 u10 w' → At w' wr.heap.size 0 arr.toList from fun w' hw' => by
            have hd : wd.heap[wr.heap.size]? = some (.cells arr 25 (0, 0)) := (HFd.out.block _ (lt_of_block HA11.out) id).trans HA11.out
            refine At_nd ((hw'.block _ (lt_of_block hd) ?_).trans hd)
            rintro (e | e)
            · have := HQ.out.1 _ e; omega
            · have := HQ.out.2 _ e; omega)
          rw [← hwd]
          clear hwd
          refine wpAnyCL_take (i := 0) (v := u9) rfl (by kernel_rfl) (fun _ _ _ h => h) (.inl ⟨by rfl, fun w' _ => by go_simp⟩) ?_
          simp only [Act.put, List.setIfInBounds_toArray, List.set_cons_succ, List.set_cons_zero]
          refine wpAnyCL_take (i := 1) (v := .agg p.arr) rfl (by kernel_rfl) (fun _ _ _ h => h) (yields_load (by rfl) 43 (.tmp 13) (by rfl) w9.heap.size 0 (by rfl) p.cells _ HLp.out Tryz.underlying43 rfl (by rw [info_ptr, HPw.out.len])) ?_
          simp only [Act.put, List.setIfInBounds_toArray, List.set_cons_succ, List.set_cons_zero]
          refine wpAnyCL_take (i := 4) (v := u10) rfl (by kernel_rfl) (fun _ _ _ h => h) (.inl ⟨by rfl, fun w' _ => by go_simp⟩) ?_
          simp only [Act.put, List.setIfInBounds_toArray, List.set_cons_succ, List.set_cons_zero]
          refine wpAnyCL_take (i := 5) (v := .agg arr.toList.toArray) rfl (by kernel_rfl) (fun _ _ _ h => h) (yields_load (by rfl) 25 (.tmp 12) (by rfl) wr.heap.size 0 (by rfl) arr.toList _ HLn.out Tryz.underlying25 rfl (by rw [info_nd4, Array.length_toList, HSz.out])) ?_
          simp only [Act.put, List.setIfInBounds_toArray, List.set_cons_succ, List.set_cons_zero]
          refine two_app (f := 2) (i1 := 2) (i2 := 3) (j1 := 6) (j2 := 7) (svA := 63) (sxA := 64) (s1 := 65) (s2 := 66) (svB := 67) (sxB := 68) (s3 := 69) (s4 := 70) (tA := 23) (eA := 43) (tB := 59) (eB := 25) (bA := 48) (bB := 80) (szA := 34) (szB := 4)
            ⟨⟨_, rfl, rfl, rfl, rfl⟩, ⟨_, rfl, rfl, rfl, rfl⟩, Tryz.underlying23, infoz_ptr, by decide⟩ ⟨⟨_, rfl, rfl, rfl, rfl⟩, ⟨_, rfl, rfl, rfl, rfl⟩, Tryz.underlying59, infoz_nd, by decide⟩ (by kernel_rfl) (by decide) (by decide)
            HOAd.out HOBd.out HSzd.out (by refine ⟨?_, ?_, ?_, ?_⟩ <;> simp) rfl rfl rfl rfl (arrA := p.arr) (arrB := arr.toList.toArray) HPw.out.size (by simpa using HSz.out) p.one (by simpa using HOne.out) (by have := HD.out.2.2.2.2; omega) (by have := HD.out.2.2.2.2; omega) ?_
          intro u65 aaA ccA u69 aaB ccB w12 hA hB fA fB hC
          simp only [Act.put, List.setIfInBounds_toArray, List.set_cons_succ, List.set_cons_zero]
          refine wpAnyCL_take (i := 8) (v := .slice aaA (zs.length + 1) ccA) rfl (by kernel_rfl) (fun _ _ _ h => h) (.inl ⟨by rfl, fun w' _ => by go_simp⟩) ?_
          simp only [Act.put, List.setIfInBounds_toArray, List.set_cons_succ, List.set_cons_zero]
          refine wpAnyCL_take (i := 9) (v := .slice aaB (zs.length + 1) ccB) rfl (by kernel_rfl) (fun _ _ _ h => h) (.inl ⟨by rfl, fun w' _ => by go_simp⟩) ?_
          simp only [Act.put, List.setIfInBounds_toArray, List.set_cons_succ, List.set_cons_zero]
          refine wpAnyC_done (by kernel_rfl) hC ?_
          have HA12 := Lib.hid hA
          have HB12 := Lib.hid hB
          have HFA := Lib.hid fA
          have HFB := Lib.hid fB
          have HC12 := Lib.hid hC
          clear hA hB fA fB hC
          go_wp2_with fail
          go_roundw
          case rel =>
            refine ⟨k + 1, by omega, by go_num, d.step.wrote (zs.length + 2) (cryptB (ks.take 32) (nonceB b (zs.length + 2)) (nodeB n)), go :: (ownL w12 (.slice aaA (zs.length + 1) ccA) ++ ownL w12 (.slice aaB (zs.length + 1) ccB)), zs ++ [(arr, n)], ?_, ?_, HD.out.1, ?_, ?_, ?_, ?_, HZ.out.1.snoc HNd2.out HFi.out HFo.out HSi.out, HZ.out.2.snoc (arr, n), ?_, ?_, ?_, ?_, List.mem_cons_self⟩
            · have hfr : Fr (fun k => u9.ownBlock = some k ∨ u10.ownBlock = some k) w11 w12 := (HFd.out.mono (fun _ _ h => h.elim)).trans HC12.out
              rw [List.length_append, List.length_singleton]
              refine HP11.out.keep hfr ?_ ?_
              · rintro q (hq | hq)
                · obtain ⟨o, ho⟩ := HLA.out q hq; exact ⟨o, List.mem_cons_of_mem _ (List.mem_cons_of_mem _ ho)⟩
                · obtain ⟨o, ho⟩ := HLB.out q hq; exact ⟨o, List.mem_cons_of_mem _ (List.mem_cons_of_mem _ ho)⟩
              · intro q o hm
                rcases List.mem_cons.1 hm with e | hm
                · have hin : (q, o) ∈ L := by rw [e]; exact HLG.out
                  have hrow := HP11.out.row (List.mem_cons_of_mem _ (List.mem_cons_of_mem _ hin))
                  refine ⟨(hfr.block _ (lt_of_block hrow) ?_).trans hrow, Or.inl ⟨o, List.mem_cons_of_mem _ (List.mem_cons_of_mem _ hin)⟩⟩
                  have he := e.trans HGo.out
                  simp only [Prod.mk.injEq] at he
                  rw [he.2] at hrow
                  rintro (hq | hq)
                  · exact HOA11.out.not_at hq hrow (by decide)
                  · exact HOB11.out.not_at hq hrow (by decide)
                · rcases List.mem_append.1 hm with hm | hm
                  · obtain ⟨e1, e2⟩ := ownL_mem.1 hm
                    refine ⟨e2, ?_⟩
                    rcases HFA.out q e1 with e3 | e3
                    · obtain ⟨o, ho⟩ := HLA.out q e3; exact Or.inl ⟨o, List.mem_cons_of_mem _ (List.mem_cons_of_mem _ ho)⟩
                    · exact Or.inr (Nat.le_trans HFd.out.size e3)
                  · obtain ⟨e1, e2⟩ := ownL_mem.1 hm
                    refine ⟨e2, ?_⟩
                    rcases HFB.out q e1 with e3 | e3
                    · obtain ⟨o, ho⟩ := HLB.out q e3; exact Or.inl ⟨o, List.mem_cons_of_mem _ (List.mem_cons_of_mem _ ho)⟩
                    · exact Or.inr (Nat.le_trans HFd.out.size e3)
            · refine HX11.out.trans ((HFd.out.mono (fun _ _ h => h.elim)).trans HC12.out |>.below HX11.out.size ?_)
              rintro q (hq | hq)
              · exact (HOA11.out.lt q hq).1
              · exact (HOB11.out.lt q hq).1
            · show d.step.down = false; rw [(step_up HD.out.2.2.1).1]; exact HD.out.2.1
            · exact (step_up HD.out.2.2.1).2
            · show (d.waits ++ [_]).length ≤ _
              rw [List.length_append, List.length_append]; have := HD.out.2.2.2.1; simp; omega
            · rw [List.length_append]; have := HD.out.2.2.2.2; simp; omega
            · rw [List.length_append, List.length_singleton, ptsZ_snoc, List.map_append, List.flatten_append]
              have := HA12.out
              rw [HPe.out] at this
              simpa [Pt.arr] using this
            · rw [List.length_append, List.length_singleton, List.map_append, List.flatten_append]
              simpa using HB12.out
            · intro q hq
              obtain ⟨o, ho⟩ := HA12.out.has hq
              exact ⟨o, List.mem_cons_of_mem _ (List.mem_append_left _ (ownL_mem.2 ⟨hq, ho⟩))⟩
            · intro q hq
              obtain ⟨o, ho⟩ := HB12.out.has hq
              exact ⟨o, List.mem_cons_of_mem _ (List.mem_append_right _ (ownL_mem.2 ⟨hq, ho⟩))⟩
          case measure => simp [intOf]; omega
        · refine (write_ps_bad w2.heap.size P D S W lo b ks (upT zs.length) d _ w8 arr n HP8.out HN8.out hb1 HFi.out hc).mono ?_
          rintro e w9 ⟨rfl, hp9, hx9⟩
          have HP9 := Lib.hid hp9
          have HX9 := Lib.hid (HX8.out.trans (hx9.mono HX8.out.size))
          have HA9 := Lib.hid (hp9.row List.mem_cons_self)
          have HN9 := Lib.hid (HNd2.out.below HX9.out)
          have HOA9 := Lib.hid (HOA8.out.blocks fun q hq => hx9.block q (HOA8.out.lt q hq).2)
          have HOB9 := Lib.hid (HOB8.out.blocks fun q hq => hx9.block q (HOB8.out.lt q hq).2)
          obtain ⟨er, her⟩ : ∃ er, er = checkE n := ⟨_, rfl⟩
          have HEr := Lib.hid her
          rw [← her] at hc ⊢
          clear hp9 hx9 HP8 HX8 HN8 HA8 HOA8 HOB8 her
          go_wp2_with (first | (refine store_ptr rfl (.tmp 13) (.tmp 55) rfl rfl (p := Pt.zero) rfl (heap_alloc_new w9 (.cells Pt.zero.arr 43)) Pt.zero_wf.size Pt.zero_wf ?_; intro w10 hg hf hs; have HBww10 := Lib.hid (show Below w9.heap.size w9 w10 from ((Below.refl _ w9).alloc (Nat.le_refl _) _).trans (hf.below (by simp) (fun j hj => by omega))); clear hg hf hs; have HA10 := Lib.hid ((HBww10.out.block _ (lt_of_block HA9.out)).trans HA9.out)) | (refine load_nd rfl (.tmp 12) rfl rfl (At_nd HA10.out) HSz.out ?_))
          have HP10 := Lib.hid (HP9.out.below HBww10.out)
          have HX10 := Lib.hid (HX9.out.trans (HBww10.out.mono HX9.out.size))
          have HN10 := Lib.hid (HN9.out.below HBww10.out)
          have HOA10 := Lib.hid (HOA9.out.blocks fun q hq => HBww10.out.block q (HOA9.out.lt q hq).2)
          have HOB10 := Lib.hid (HOB9.out.blocks fun q hq => HBww10.out.block q (HOB9.out.lt q hq).2)
          clear HP9 HX9 HN9 HA9 HOA9 HOB9 HBww10
          refine (check_any arr n w10 HN10.out HFi.out).mono ?_
          rintro e w11 ⟨rfl, hb11⟩
          rw [← HEr.out]
          have HP11 := Lib.hid (HP10.out.below hb11)
          have HX11 := Lib.hid (HX10.out.trans (hb11.mono HX10.out.size))
          have HOA11 := Lib.hid (HOA10.out.blocks fun q hq => hb11.block q (HOA10.out.lt q hq).2)
          have HOB11 := Lib.hid (HOB10.out.blocks fun q hq => hb11.block q (HOB10.out.lt q hq).2)
          clear hb11 HP10 HX10 HN10 HA10 HOA10 HOB10
          have hcb : (er == 0) = false := by simpa using hc
          have hce : (er != er) = false := by simp
          go_wp2_with fail
          go_roundw
          case rel =>
            exact ⟨k + 1, by omega, by go_num, d, _, zs, HP11.out, HX11.out, HD.out.1, HD.out.2.1, HD.out.2.2.1, HD.out.2.2.2.1, by have := HD.out.2.2.2.2; omega, HZ.out.1, HZ.out.2, HOA11.out, HOB11.out,
              fun q hq => by obtain ⟨o, ho⟩ := HLA.out q hq; exact ⟨o, List.mem_cons_of_mem _ ho⟩, fun q hq => by obtain ⟨o, ho⟩ := HLB.out q hq; exact ⟨o, List.mem_cons_of_mem _ ho⟩, List.mem_cons_of_mem _ HLG.out⟩
          case measure => simp [intOf]; omega
    · obtain rfl : k = ns.length := by omega
      obtain ⟨d, L, zs, hps, hx, hsz, hdn, hlf, hwl, hzk, hzo, hlz, howA, howB, hLA, hLB, hgo⟩ := HR.out
      have HP := Lib.hid hps
      have HX := Lib.hid hx
      have HOA := Lib.hid howA
      have HOB := Lib.hid howB
      have HLA := Lib.hid hLA
      have HLB := Lib.hid hLB
      have HLG := Lib.hid hgo
      have HZ := Lib.hid (show ZsOk w2 zs ∧ LiesZ ks b zs d from ⟨hzo, hlz⟩)
      have HD := Lib.hid (show d.size = 32 ∧ d.down = false ∧ d.left = -1 ∧ d.waits.length ≤ zs.length ∧ zs.length ≤ ns.length from ⟨hsz, hdn, hlf, hwl, hzk⟩)
      clear hps hx howA howB hLA hLB hgo hzo hlz hsz hdn hlf hwl hzk HR
      go_wp2_with fail
      refine (flush_ps w2.heap.size P D S W lo b ks (upT zs.length) d L wr HP.out HX.out.size HD.out.2.1 (by rw [(step_up HD.out.2.2.1).1]; exact HD.out.2.1) (by have := HD.out.2.2.2; omega)).mono ?_
      rintro e w7 ⟨rfl, hp7, hx7⟩
      have HOA7 := Lib.hid (HP.out.rows hp7 HOA.out HLA.out)
      have HOB7 := Lib.hid (HP.out.rows hp7 HOB.out HLB.out)
      have HP7 := Lib.hid hp7
      have HX7 := Lib.hid (HX.out.trans hx7)
      clear hp7 hx7 HP HX HOA HOB
      go_wp2_with fail
      refine (crash_ps w2.heap.size P D S W lo b ks (upT zs.length) _ L w7 0 (-1) HP7.out HX7.out.size (by decide) (by show 0 ≤ 1000000; decide) (by decide)).mono ?_
      rintro e w8 ⟨rfl, hp8, hx8⟩
      obtain ⟨d8, hd8⟩ : ∃ d8, d8 = d.step.flushed.crashed 0 (-1) := ⟨_, rfl⟩
      rw [← hd8] at hp8
      have HD8 := Lib.hid (show d8.size = 32 ∧ d8.down = false ∧ d8.waits.length = 0 ∧ LiesZ ks b zs d8 from ⟨by rw [hd8]; exact HD.out.1, by rw [hd8]; rfl, by rw [hd8]; rfl, fun j hj => by rw [hd8]; exact HZ.out.2 j hj⟩)
      have HOA8 := Lib.hid (HP7.out.rows hp8 HOA7.out HLA.out)
      have HOB8 := Lib.hid (HP7.out.rows hp8 HOB7.out HLB.out)
      have HK8 := Lib.hid (show w8.heap[w3.heap.size]? = some (.cells (ks.map Bv).toArray 35 (0, 0)) from by have := hp8.row HLG.out; rw [HGo.out] at this; exact this)
      have HP8 := Lib.hid hp8
      have HX8 := Lib.hid (HX7.out.trans hx8)
      clear hp8 hx8 hd8 HP7 HX7 HOA7 HOB7
      go_wp2_with (refine wpList_load_at rfl _ (.tmp 7) rfl w3.heap.size 0 rfl (ks.map Bv) _ (At.of_row HK8.out) Tryz.underlying35 rfl (by rw [info_keys, List.length_map, HKl.out]) ?_)
      have hc0 : w8.cell? ⟨D, 0, none⟩ = some (.int .i64 ((32 : Nat) : Int)) := by
        obtain ⟨F, L', T, wv, h1, _⟩ := HP8.out.dv
        rw [cell_of_row _ D 0 _ _ _ h1.row, ← HD8.out.1]; rfl
      refine (poNew_ok D 32 ks w8 hc0 (by decide) (by decide) HKl.out).mono ?_
      rintro e w9 ⟨O, S2, W2, rfl, hpl, _, hb9⟩
      obtain ⟨aA, cA, rfl, _⟩ := (Sl.own HOA8.out).len
      obtain ⟨aB, cB, rfl, _⟩ := (Sl.own HOB8.out).len
      have HP9 := Lib.hid (HP8.out.below hb9)
      have HO9 := Lib.hid hpl
      have HX9 := Lib.hid (HX8.out.trans (hb9.mono HX8.out.size))
      have HPt := Lib.hid (show ∀ w', Below w9.heap.size w9 w' → ∀ j (hj : j < zs.length), ∃ g cap, Value.slice aA zs.length cA = .slice (some ⟨g, 0, none⟩) zs.length cap ∧ At w' g (j * 34) (sealP ks b (j + 2) (nodeB zs[j].2)).cells from fun w' hb j hj => by
        have ho := HOA8.out.blocks fun q hq => (hb.block q (Nat.lt_of_lt_of_le (HOA8.out.lt q hq).2 hb9.size)).trans (hb9.block q (HOA8.out.lt q hq).2)
        have hlen : ((ptsZ ks b zs).map Pt.cells).length = zs.length := by rw [List.length_map, ptsZ_length]
        have hw : ∀ l ∈ (ptsZ ks b zs).map Pt.cells, l.length = 34 := by
          intro l hl
          obtain ⟨q, hq, rfl⟩ := List.mem_map.1 hl
          unfold ptsZ at hq
          obtain ⟨z, hz, rfl⟩ := List.mem_map.1 hq
          refine (sealP_wf _ _ _ _ HBt.out ?_).len
          have := List.snd_lt_of_mem_zipIdx hz
          have := HD.out.2.2.2.2
          omega
        rw [← hlen] at ho
        obtain ⟨g, cap, h1, h2, _⟩ := own_at ho hw j (by omega)
        rw [hlen] at h1
        refine ⟨g, cap, h1, ?_⟩
        rw [List.getElem_map, ptsZ_get ks b zs j hj] at h2
        exact h2)
      have HNt := Lib.hid (show ∀ w', Below w9.heap.size w9 w' → ∀ j (hj : j < zs.length), ∃ g cap, Value.slice aB zs.length cB = .slice (some ⟨g, 0, none⟩) zs.length cap ∧ At w' g (j * 4) zs[j].1.toList ∧ NdIs w' zs[j].1 zs[j].2 from fun w' hb j hj => by
        have ho := HOB8.out.blocks fun q hq => (hb.block q (Nat.lt_of_lt_of_le (HOB8.out.lt q hq).2 hb9.size)).trans (hb9.block q (HOB8.out.lt q hq).2)
        have hlen : (zs.map fun z => z.1.toList).length = zs.length := List.length_map _
        have hw : ∀ l ∈ zs.map (fun z => z.1.toList), l.length = 4 := by
          intro l hl
          obtain ⟨z, hz, rfl⟩ := List.mem_map.1 hl
          rw [Array.length_toList]; exact (HZ.out.1.is z hz).1.size
        rw [← hlen] at ho
        obtain ⟨g, cap, h1, h2, _⟩ := own_at ho hw j (by omega)
        rw [hlen] at h1
        refine ⟨g, cap, h1, ?_, ((HZ.out.1.is _ (List.getElem_mem hj)).1.below HX9.out).below hb⟩
        rw [List.getElem_map] at h2
        exact h2)
      clear hc0 hpl hb9 HP8 HX8 HOA8 HOB8 HK8 HLA HLB HLG
      go_wp2_with fail
      go_loopw [87, 17, 19, 20, 21] (fun i _ _ _ _ wr2 => ∃ k : Nat, k ≤ zs.length ∧ i = .int .i64 k ∧ Below w9.heap.size w9 wr2) (fun i _ _ _ _ _ => zs.length - (intOf i).toNat)
      case atStart => exact ⟨0, Nat.zero_le _, rfl, Below.refl _ _⟩
      case round =>
        obtain ⟨k, hk2, rfl, hbk⟩ := hrel
        have HBk := Lib.hid hbk
        clear hbk
        rcases Nat.lt_or_ge k zs.length with hlt | hge2
        · obtain ⟨z, hz⟩ : ∃ z, z = zs[k] := ⟨_, rfl⟩
          obtain ⟨p, hp⟩ : ∃ p, p = sealP ks b (k + 2) (nodeB z.2) := ⟨_, rfl⟩
          have hk12 : k ≤ 11 := by have := HD.out.2.2.2.2; omega
          have HPk := Lib.hid (show ∀ w', Below w9.heap.size w9 w' → ∃ g cap, Value.slice aA zs.length cA = .slice (some ⟨g, 0, none⟩) zs.length cap ∧ At w' g (k * 34) p.cells from fun w' hb => by rw [hp, hz]; exact HPt.out w' hb k hlt)
          have HNk := Lib.hid (show ∀ w', Below w9.heap.size w9 w' → ∃ g cap, Value.slice aB zs.length cB = .slice (some ⟨g, 0, none⟩) zs.length cap ∧ At w' g (k * 4) z.1.toList ∧ NdIs w' z.1 z.2 from fun w' hb => by rw [hz]; exact HNt.out w' hb k hlt)
          have HZk := Lib.hid (show z.2.Fits ∧ formB z.2 = true ∧ sizeN z.2 ≤ 512 ∧ d8.cur (k + 2) = cryptB (ks.take 32) (nonceB b (k + 2)) (nodeB z.2) from by rw [hz]; exact ⟨(HZ.out.1.is _ (List.getElem_mem hlt)).2.1, (HZ.out.1.is _ (List.getElem_mem hlt)).2.2.1, (HZ.out.1.is _ (List.getElem_mem hlt)).2.2.2, HD8.out.2.2.2 k hlt⟩)
          have HPw := Lib.hid (show p.Wf by rw [hp]; exact sealP_wf _ _ _ _ HBt.out (by omega))
          have HPv := Lib.hid (show p.addr = k + 2 ∧ p.birth = b from by rw [hp]; exact ⟨rfl, rfl⟩)
          have HPe := Lib.hid hp
          have HE := Lib.hid (show ptrE p 32 = 0 from by
            refine ptrE_ok ?_
            unfold ptrOk
            rw [if_neg (by rw [HPv.out.1]; omega), HPv.out.1, HPv.out.2]
            simp; omega)
          have HKw := Lib.hid (show ∀ q ∈ z.2.kids, q.Wf from by
            obtain ⟨_, _, _, _, _, _, _, _, _, h4⟩ := ((HZ.out.1.is _ (List.getElem_mem hlt)).1).get
            rw [hz]; exact h4.wf)
          clear hp hz
          go_wp2_with fail
          have HRdP := Lib.hid (show ∀ w', Below w9.heap.size w9 w' → Calls Tryz.prog 22 #[.pointer (some ⟨P, 0, none⟩), .agg p.arr] w' fun e w'' => ∃ arr2, e = .returned (.tuple #[.agg arr2, .int .i64 0]) ∧ NdIs w'' arr2 z.2 ∧ Below w'.heap.size w' w'' from fun w' hb => by
            refine (read_ps w2.heap.size P D S W lo b ks (upT zs.length) d8 L w' p (HP9.out.below hb) HPw.out (by rw [HPv.out.1]; omega) (by rw [HD8.out.1]; exact HE.out) (by rw [HD8.out.2.2.1]; decide)).mono fun e w'' h => ?_
            rw [HPe.out] at h
            exact h.back HD8.out.2.1 HKl.out HZk.out.2.2.2 HZk.out.2.1 HZk.out.2.2.1 HKw.out)
          have HRdO := Lib.hid (show ∀ w', Below w9.heap.size w9 w' → Calls Tryz.prog 22 #[.pointer (some ⟨O, 0, none⟩), .agg p.arr] w' fun e w'' => ∃ arr2, e = .returned (.tuple #[.agg arr2, .int .i64 0]) ∧ NdIs w'' arr2 z.2 ∧ Below w'.heap.size w' w'' from fun w' hb => by
            obtain ⟨F, hdv⟩ := (HP9.out.below hb).dv
            refine (poRead_any O D S2 W2 0 lo ks noneT F d8 p w' (by rw [HD8.out.1]; exact HO9.out.below hb) hdv HPw.out (by rw [HPv.out.1]; omega) (by rw [HD8.out.1]; exact HE.out) (by rw [HD8.out.2.2.1]; decide)).mono fun e w'' h => ?_
            rw [HPe.out] at h
            exact h.back HD8.out.2.1 HKl.out HZk.out.2.2.2 HZk.out.2.1 HZk.out.2.2.1 HKw.out)
          go_loopw [93, 19, 20, 21] (fun i _ _ _ wr3 => ∃ j : Nat, j ≤ 2 ∧ i = .int .i64 j ∧ Below w9.heap.size w9 wr3) (fun i _ _ _ _ => 2 - (intOf i).toNat)
          case atStart => exact ⟨0, by decide, rfl, HBk.out⟩
          case round =>
            obtain ⟨j, hj2, rfl, hbw⟩ := hrel
            have HBw := Lib.hid hbw
            clear hbw
            have ix0 := (index_twoP (.pointer (some ⟨P, 0, none⟩)) (.pointer (some ⟨O, 0, none⟩)) wr).1
            have ix1 := (index_twoP (.pointer (some ⟨P, 0, none⟩)) (.pointer (some ⟨O, 0, none⟩)) wr).2
            obtain rfl | rfl | rfl : j = 0 ∨ j = 1 ∨ j = 2 := by omega
            · rw [show ((0 : Nat) : Int) = 0 from rfl]
              obtain ⟨g, cap, eA, hatp⟩ := HPk.out _ HBw.out
              simp only [Value.slice.injEq, true_and] at eA
              obtain ⟨rfl, rfl⟩ := eA
              have HAp := Lib.hid hatp
              clear hatp
              go_wp2_with (refine load_ptr rfl (.tmp 100) rfl rfl HAp.out HPw.out ?_)
              refine (HRdP.out _ HBw.out).mono ?_
              rintro e w11 ⟨arr2, rfl, hn2, hb11⟩
              have HN11 := Lib.hid hn2
              have HS11 := Lib.hid hn2.size
              have HO11 := Lib.hid hn2.one
              have HB11 := Lib.hid (HBw.out.trans (hb11.mono HBw.out.size))
              clear hn2 hb11
              go_wp2_with (refine store_nd rfl (.tmp 20) (.tmp 103) rfl rfl (arr := arr2) rfl (heap_alloc_new w11 (.cells zeroArr 25)) rfl HS11.out HO11.out ?_; intro w12 hg hf hs; have HGw12 := Lib.hid hg; have HBww12 := Lib.hid (show Below w11.heap.size w11 w12 from ((Below.refl _ w11).alloc (Nat.le_refl _) _).trans (hf.below (by simp) (fun j hj => by omega))); clear hg hf hs)
              have HN12 := Lib.hid (HN11.out.below HBww12.out)
              have HB12 := Lib.hid (HB11.out.trans (HBww12.out.mono HB11.out.size))
              obtain ⟨g2, cap2, eB, hatn, hz2⟩ := HNk.out _ HB12.out
              simp only [Value.slice.injEq, true_and] at eB
              obtain ⟨rfl, rfl⟩ := eB
              have HAn := Lib.hid hatn
              have HZ12 := Lib.hid hz2
              have HZs := Lib.hid hz2.size
              have HUp := Lib.hid (fun u : Wd w12.heap.size w12 => u.at (At_nd HGw12.out))
              have HUn := Lib.hid (fun u : Wd w12.heap.size w12 => u.at HAn.out)
              have HSm := Lib.hid (fun u : Wd w12.heap.size w12 => Calls.wd (B := w12.heap.size) u (Nat.le_refl _) (v := .bool true) (by have := nodeSame_any arr2 z.1 z.2 z.2 u.to (HN12.out.below u.hb) (HZ12.out.below u.hb) HZk.out.1 HZk.out.1; rw [sameN_refl] at this; exact this))
              clear hatn hz2 HN11 HBww12 HB11 HN12 HZ12
              refine wp_region_wd w12.heap.size (by kernel_rfl) (by kernel_rfl) ?_
              repeat (first
                | (refine wpQuiet_load_at rfl 25 (.tmp 20) rfl w11.heap.size 0 rfl _ _ (fun _ hw' => by obtain ⟨u, rfl⟩ := hw'; exact HUp.out u) Tryz.underlying25 rfl (by rw [info_nd4, Array.length_toList, HS11.out]) ?_; simp only [Act.put, List.setIfInBounds_toArray, List.set_cons_succ, List.set_cons_zero])
                | (refine wpQuiet_load_at rfl 25 (.tmp 111) rfl g2 (k * 4) rfl _ _ (fun _ hw' => by obtain ⟨u, rfl⟩ := hw'; exact HUn.out u) Tryz.underlying25 rfl (by rw [info_nd4, Array.length_toList, HZs.out]) ?_; simp only [Act.put, List.setIfInBounds_toArray, List.set_cons_succ, List.set_cons_zero])
                | go_big_quiet_step (with_reducible exact HSm.out _))
              refine wpQuiet_nil ?_
              rintro _ ⟨⟨w13, hb13⟩, rfl⟩
              have HB13 := Lib.hid (HB12.out.trans (hb13.mono HB12.out.size))
              clear hb13
              go_wp2_with fail
              go_roundw
              case rel => exact ⟨1, by decide, rfl, HB13.out⟩
              case measure => simp [intOf]
            · rw [show ((1 : Nat) : Int) = 1 from rfl]
              obtain ⟨g, cap, eA, hatp⟩ := HPk.out _ HBw.out
              simp only [Value.slice.injEq, true_and] at eA
              obtain ⟨rfl, rfl⟩ := eA
              have HAp := Lib.hid hatp
              clear hatp
              go_wp2_with (refine load_ptr rfl (.tmp 100) rfl rfl HAp.out HPw.out ?_)
              refine (HRdO.out _ HBw.out).mono ?_
              rintro e w11 ⟨arr2, rfl, hn2, hb11⟩
              have HN11 := Lib.hid hn2
              have HS11 := Lib.hid hn2.size
              have HO11 := Lib.hid hn2.one
              have HB11 := Lib.hid (HBw.out.trans (hb11.mono HBw.out.size))
              clear hn2 hb11
              go_wp2_with (refine store_nd rfl (.tmp 20) (.tmp 103) rfl rfl (arr := arr2) rfl (heap_alloc_new w11 (.cells zeroArr 25)) rfl HS11.out HO11.out ?_; intro w12 hg hf hs; have HGw12 := Lib.hid hg; have HBww12 := Lib.hid (show Below w11.heap.size w11 w12 from ((Below.refl _ w11).alloc (Nat.le_refl _) _).trans (hf.below (by simp) (fun j hj => by omega))); clear hg hf hs)
              have HN12 := Lib.hid (HN11.out.below HBww12.out)
              have HB12 := Lib.hid (HB11.out.trans (HBww12.out.mono HB11.out.size))
              obtain ⟨g2, cap2, eB, hatn, hz2⟩ := HNk.out _ HB12.out
              simp only [Value.slice.injEq, true_and] at eB
              obtain ⟨rfl, rfl⟩ := eB
              have HAn := Lib.hid hatn
              have HZ12 := Lib.hid hz2
              have HZs := Lib.hid hz2.size
              have HUp := Lib.hid (fun u : Wd w12.heap.size w12 => u.at (At_nd HGw12.out))
              have HUn := Lib.hid (fun u : Wd w12.heap.size w12 => u.at HAn.out)
              have HSm := Lib.hid (fun u : Wd w12.heap.size w12 => Calls.wd (B := w12.heap.size) u (Nat.le_refl _) (v := .bool true) (by have := nodeSame_any arr2 z.1 z.2 z.2 u.to (HN12.out.below u.hb) (HZ12.out.below u.hb) HZk.out.1 HZk.out.1; rw [sameN_refl] at this; exact this))
              clear hatn hz2 HN11 HBww12 HB11 HN12 HZ12
              refine wp_region_wd w12.heap.size (by kernel_rfl) (by kernel_rfl) ?_
              repeat (first
                | (refine wpQuiet_load_at rfl 25 (.tmp 20) rfl w11.heap.size 0 rfl _ _ (fun _ hw' => by obtain ⟨u, rfl⟩ := hw'; exact HUp.out u) Tryz.underlying25 rfl (by rw [info_nd4, Array.length_toList, HS11.out]) ?_; simp only [Act.put, List.setIfInBounds_toArray, List.set_cons_succ, List.set_cons_zero])
                | (refine wpQuiet_load_at rfl 25 (.tmp 111) rfl g2 (k * 4) rfl _ _ (fun _ hw' => by obtain ⟨u, rfl⟩ := hw'; exact HUn.out u) Tryz.underlying25 rfl (by rw [info_nd4, Array.length_toList, HZs.out]) ?_; simp only [Act.put, List.setIfInBounds_toArray, List.set_cons_succ, List.set_cons_zero])
                | go_big_quiet_step (with_reducible exact HSm.out _))
              refine wpQuiet_nil ?_
              rintro _ ⟨⟨w13, hb13⟩, rfl⟩
              have HB13 := Lib.hid (HB12.out.trans (hb13.mono HB12.out.size))
              clear hb13
              go_wp2_with fail
              go_roundw
              case rel => exact ⟨2, by decide, rfl, HB13.out⟩
              case measure => simp [intOf]
            · rw [show ((2 : Nat) : Int) = 2 from rfl]
              go_wp2_with fail
              go_roundw
              case rel => exact ⟨k + 1, by omega, by go_num, HBw.out⟩
              case measure => simp [intOf]; omega
        · obtain rfl : k = zs.length := by omega
          have hl1 := left_ps w2.heap.size P D S W lo b ks (upT zs.length) d8 L wr (HP9.out.below HBk.out)
          rw [HD8.out.1, upT_cnt _ (by have := HD.out.2.2.2.2; omega), show ((32 : Nat) : Int) - 2 - (zs.length : Int) = 30 - (zs.length : Int) by omega] at hl1
          have HL1 := Lib.hid hl1
          have hz12 : zs.length ≤ 12 := by have := HD.out.2.2.2.2; omega
          clear hl1
          go_wp2_with fail
          refine HL1.out.mono ?_
          rintro e w10 ⟨rfl, hb10⟩
          have HB10 := Lib.hid (HBk.out.trans (hb10.mono HBk.out.size))
          clear hb10
          go_wp2_with fail
          have hl2 := poLeft_any O D S2 W2 32 0 ks noneT w10 (HO9.out.below HB10.out)
          rw [cntT_none] at hl2
          refine hl2.mono ?_
          rintro e w11 ⟨rfl, n11, rfl⟩
          go_wp2_with fail
          go_ret
          exact ⟨rfl, HB2.out.trans ((HX9.out.trans ((belowDrewN HB10.out n11).mono HX9.out.size)).mono HB2.out.size)⟩

end Go.Proofs.YtkbnkdokcmpcgaaGreatDoor
