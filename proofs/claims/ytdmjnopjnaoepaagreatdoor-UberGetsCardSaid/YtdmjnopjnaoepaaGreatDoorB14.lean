/- Walks: banyanref03's With, Mac. Walks: the reference's Check of a pointer, and its form of a node. Walks: banyanref10's Check, plain, Put. Plain law: 512 bytes whose code is right are an uber's just if what they tell is put as they are. -/
import Derived.Test.YtdmjnopjnaoepaaGreatDoorB6
import Derived.Test.YtdmjnopjnaoepaaGreatDoorB9
import Derived.Test.YtdmjnopjnaoepaaGreatDoorB10
import Derived.Test.YtdmjnopjnaoepaaGreatDoorB12
import Derived.Test.YtdmjnopjnaoepaaGreatDoorB13
import Derived.Deep.DeepCutAuto
import Derived.Deep.RegionHeld3
import Derived.ArgAppend
namespace Go.Proofs.YtdmjnopjnaoepaaGreatDoor
open Go.RowKit

/-- What With of banyanref03 holds. -/
structure WmRel (w : World) (v1 v2 vk : Value) (kb : List UInt8) (wr : World) : Prop where
  c0 : wr.cell? ⟨w.heap.size, 0, none⟩ = some v1
  c1 : wr.cell? ⟨w.heap.size, 1, none⟩ = some v2
  z : wr.heap[w.heap.size + 1]? = some (.cells ((List.replicate 32 (0 : UInt8)).map Bv).toArray 28 (0, 0))
  m : MadeC wr v1 v2
  k : Sl wr 1 vk 64 (kb.map Bv)
  below : Below w.heap.size w wr
theorem WmRel.bel {w wr w1 : World} {v1 v2 vk : Value} {kb : List UInt8} (h : WmRel w v1 v2 vk kb wr) (hb : Below wr.heap.size wr w1) : WmRel w v1 v2 vk kb w1 :=
  ⟨(hb.cell (p := ⟨w.heap.size, 0, none⟩) (World.block_lt_of_cell? _ _ h.c0)).trans h.c0, (hb.cell (p := ⟨w.heap.size, 1, none⟩) (World.block_lt_of_cell? _ _ h.c1)).trans h.c1, (hb.block _ (lt_of_block h.z)).trans h.z, h.m.below hb, h.k.below hb, h.below.trans (hb.mono h.below.size)⟩

/-- Two are ready. -/
theorem wpAnyC_two {P : Program} {md : Region.Mode} {ops : Array Oper} {C : World → Prop} {Q : Exit → Act → World → Prop} {f : Nat} {listed : Array Bool} {a : Act} {w : World} (i j : Nat) {oi oj : Oper} (hw0 : C w)
    (hr : Region.ready md ops listed = [i, j]) (hoi : ops[i]? = some oi) (hoj : ops[j]? = some oj) (hwi : Region.wanted oi (yielded ops a.tmps) = true) (hwj : Region.wanted oj (yielded ops a.tmps) = true)
    (hi : ∀ K' : Act → World → Prop, (∀ a w, wpAnyC P md ops C Q f (listed.setIfInBounds i true) a w → K' a w) → Oper.wp P oi a w K' Q)
    (hj : ∀ K' : Act → World → Prop, (∀ a w, wpAnyC P md ops C Q f (listed.setIfInBounds j true) a w → K' a w) → Oper.wp P oj a w K' Q) : wpAnyC P md ops C Q (f + 1) listed a w := by
  refine ⟨hw0, fun h0 => (by rw [hr] at h0; cases h0), fun k hk => ?_⟩
  rw [hr] at hk
  simp only [List.mem_cons, List.not_mem_nil, or_false] at hk
  rcases hk with rfl | rfl
  · unfold wpOp
    simp only [hoi]
    rw [if_pos hwi]
    exact .inl (hi _ fun _ _ h' => h')
  · unfold wpOp
    simp only [hoj]
    rw [if_pos hwj]
    exact .inl (hj _ fun _ _ h' => h')
set_option maxRecDepth 100000 in
/-- A place for a hash, made. -/
theorem step_alloc_hash {w : World} {o : Oper} {a : Act} {K : Act → World → Prop} {Q : Exit → Act → World → Prop} (ho : o.op = .alloc 28)
    (h : ∀ w', w'.heap[w.heap.size]? = some (.cells ((List.replicate 32 (0 : UInt8)).map Bv).toArray 28 (0, 0)) → Below w.heap.size w w' → w.heap.size < w'.heap.size → K (a.put o.dst (.pointer (some ⟨w.heap.size, 0, none⟩))) w') : Oper.wp Tryz.prog o a w K Q := by
  have h' := h (w.alloc (.cells ((List.replicate 32 (0 : UInt8)).map Bv).toArray 28)) (heap_alloc_new _ _) ((Below.refl _ w).alloc (Nat.le_refl _) _) (by simp)
  have hr : (execOp a.eval o).run Tryz.prog w = .ok (.value (.pointer (some ⟨w.heap.size, 0, none⟩))) (w.alloc (.cells ((List.replicate 32 (0 : UInt8)).map Bv).toArray 28)) := by
    unfold execOp
    rw [ho]
    kernel_rfl
  unfold Oper.wp
  rw [hr]
  exact h'
set_option maxRecDepth 100000 in
set_option maxHeartbeats 8000000 in
theorem with03_any (v1 v2 vk vm : Value) (key msg : List UInt8) (w : World) (hm : MadeC w v1 v2) (hk : Sl w 1 vk key.length (key.map Bv)) (hmsg : Sl w 1 vm msg.length (msg.map Bv)) (hr : key.length ≤ 1000000) (hr2 : msg.length ≤ 900000) :
    Calls Tryz.prog 40 #[.agg #[v1, v2], vk, vm] w fun e w' => e = .returned (.agg ((macN key msg).map Bv).toArray) ∧ Below w.heap.size w w' := by
  obtain ⟨hv, hhv⟩ : ∃ hv, hv = macN key msg := ⟨_, rfl⟩
  rw [← hhv]
  have HHv := Lib.hid hhv
  obtain ⟨n, hn⟩ : ∃ n, n = key.length := ⟨_, rfl⟩
  obtain ⟨m, hmm⟩ : ∃ m, m = msg.length := ⟨_, rfl⟩
  have HPad := Lib.hid (fun w' (hb : Below w.heap.size w w') => padded03_any v1 v2 vk key w' (hm.below hb) (hk.below hb) hr)
  rw [← hn] at hk
  rw [← hmm] at hmsg hr2
  obtain ⟨a1, c1, rfl⟩ := shape_of hm.1
  obtain ⟨a2, c2, rfl⟩ := shape_of hm.2
  obtain ⟨ak, ck, rfl⟩ := shape_of hk
  obtain ⟨am, cm, rfl⟩ := shape_of hmsg
  have HM := Lib.hid (fun w' (hb : Below w.heap.size w w') => hm.below hb)
  have HMs := Lib.hid (fun w' (hb : Below w.heap.size w w') => hmsg.below hb)
  have HMl := Lib.hid hmm
  obtain ⟨kb, hkb⟩ : ∃ kb, kb = keyB key := ⟨_, rfl⟩
  rw [← hkb] at HPad
  have HKb := Lib.hid hkb
  have HKl := Lib.hid (show kb.length = 64 by rw [hkb]; exact keyB_length key)
  clear hm hk hmsg hr hhv hmm hkb hn
  have hb0 : Below w.heap.size w ((w.alloc (.cells #[.slice a1 8 c1, .slice a2 64 c2] 86)).alloc (.cells ((List.replicate 32 (0 : UInt8)).map Bv).toArray 28)) := ((Below.refl _ w).alloc (Nat.le_refl _) _).alloc (by simp) _
  have hc0 : ((w.alloc (.cells #[.slice a1 8 c1, .slice a2 64 c2] 86)).alloc (.cells ((List.replicate 32 (0 : UInt8)).map Bv).toArray 28)).heap[w.heap.size]? = some (.cells #[.slice a1 8 c1, .slice a2 64 c2] 86 (0, 0)) := (Below.heap_alloc _ _ _ (by simp)).trans (heap_alloc_new _ _)
  have hz0 : ((w.alloc (.cells #[.slice a1 8 c1, .slice a2 64 c2] 86)).alloc (.cells ((List.replicate 32 (0 : UInt8)).map Bv).toArray 28)).heap[w.heap.size + 1]? = some (.cells ((List.replicate 32 (0 : UInt8)).map Bv).toArray 28 (0, 0)) := by
    have h := heap_alloc_new (w.alloc (.cells #[.slice a1 8 c1, .slice a2 64 c2] 86)) (.cells ((List.replicate 32 (0 : UInt8)).map Bv).toArray 28)
    rwa [show (w.alloc (.cells #[.slice a1 8 c1, .slice a2 64 c2] 86)).heap.size = w.heap.size + 1 by simp] at h
  have HB0 := Lib.hid hb0
  have HC0 := Lib.hid hc0
  have HZ0 := Lib.hid hz0
  clear hb0 hc0 hz0
  go_enter Tryz.func40, Tryz.ntmps40
  go_wp2_with fail
  refine (HPad.out _ HB0.out).mono ?_
  rintro e w1 ⟨u, rfl, hu, hb1⟩
  obtain ⟨au, cu, rfl⟩ := shape_of hu
  have hB1 := HB0.out.trans (hb1.mono HB0.out.size)
  have hc1 := (hb1.block w.heap.size (lt_of_block HC0.out)).trans HC0.out
  have HR1 := Lib.hid (show WmRel w (.slice a1 8 c1) (.slice a2 64 c2) (.slice au 64 cu) kb w1 from ⟨cell_of_row _ _ 0 _ _ _ hc1, cell_of_row _ _ 1 _ _ _ hc1, (hb1.block (w.heap.size + 1) (lt_of_block HZ0.out)).trans HZ0.out, HM.out _ hB1, hu, hB1⟩)
  clear hu hb1 hB1 hc1 HB0 HC0 HZ0 HPad
  obtain ⟨w0, hw0⟩ : ∃ w0 : World, w0 = w1 := ⟨_, rfl⟩
  rw [← hw0] at HR1 ⊢
  clear hw0
  obtain ⟨hi, hhi⟩ : ∃ hi, hi = hashN (kb.map (· ^^^ 54) ++ msg) := ⟨_, rfl⟩
  have HHi := Lib.hid hhi
  have HHl := Lib.hid (show hi.length = 32 by rw [hhi]; exact hashN_length _)
  clear hhi
  go_upto_region 2 with fail
  go_cut [7, 8] (fun s7 s8 wx => s7 = .slice au 64 cu ∧ ∃ Z, s8 = .pointer (some ⟨Z, 0, none⟩) ∧ w.heap.size + 1 < Z ∧ wx.heap[Z]? = some (.cells (hi.map Bv).toArray 28 (0, 0)) ∧ WmRel w (.slice a1 8 c1) (.slice a2 64 c2) (.slice au 64 cu) kb wx)
  case first =>
    have HT := Lib.hid (show ∀ w', Sl w' 1 (.slice au 64 cu) 64 (kb.map Bv) → Calls Tryz.prog 64 #[.slice au 64 cu, .int .u8 54] w' fun e w'' => ∃ aa cc, e = .returned (.slice aa 64 cc) ∧ w''.ownsRow w'.heap.size 5 1 (.slice aa 64 cc) 64 ((kb.map (· ^^^ 54)).map Bv) ∧ Below w'.heap.size w' w'' from fun w' h => turned03_any (.slice au 64 cu) kb 54 w' h)
    have HW := Lib.hid (fun (v : Value) (w' : World) (hm : MadeC w' (.slice a1 8 c1) (.slice a2 64 c2)) (h : Sl w' 1 v (64 + m) ((kb.map (· ^^^ 54) ++ msg).map Bv)) => with02' _ _ v _ (64 + m) (by simp [HKl.out, HMl.out]) w' hm h (by omega))
    rw [← HHi.out] at HW
    have HK := Lib.hid (fun W (h : Below w0.heap.size w0 W) => (HR1.out.bel h).k)
    have HMd := Lib.hid (fun W (h : Below w0.heap.size w0 W) => (HR1.out.bel h).m)
    have HMg := Lib.hid (fun W (h : Below w0.heap.size w0 W) => HMs.out W (HR1.out.bel h).below)
    have hb0 : w.heap.size < w0.heap.size := World.block_lt_of_cell? _ ⟨w.heap.size, 0, none⟩ HR1.out.c0
    have HAt := Lib.hid (fun W (h : Below w0.heap.size w0 W) => (show At W w.heap.size 0 [.slice a1 8 c1, .slice a2 64 c2] from fun i u hu => by
      have h2 := HR1.out.bel h
      match i, hu with
      | 0, hu => rw [← Option.some.inj hu]; exact h2.c0
      | 1, hu => rw [← Option.some.inj hu]; exact h2.c1))
    have hD0 : Below w0.heap.size w0 { w0 with drawn := w0.drawn + 1 } := (Below.refl _ w0).drew
    refine wp_region_any (by kernel_rfl) ?_
    refine wpAny_of_C (C := fun W => Below w0.heap.size w0 W) ?_
    refine wpAnyC_take (i := 0) (v := .agg #[.slice a1 8 c1, .slice a2 64 c2]) rfl (by kernel_rfl) (by kernel_rfl) (by kernel_rfl) (fun _ _ _ h => h) (yields_load rfl 86 (.tmp 3) rfl w.heap.size 0 rfl _ _ HAt.out Tryz.underlying86 rfl (by kernel_rfl)) ?_
    refine wpAnyC_take (i := 1) (v := .slice au 64 cu) rfl (by kernel_rfl) (by kernel_rfl) (by kernel_rfl) (fun _ _ _ h => h) (.inl ⟨by rfl, fun w' _ => by go_simp⟩) ?_
    refine wpAnyC_take (i := 3) (v := .slice am m cm) rfl (by kernel_rfl) (by kernel_rfl) (by kernel_rfl) (fun _ _ _ h => h) (.inl ⟨by rfl, fun w' _ => by go_simp⟩) ?_
    obtain ⟨wd, hwd⟩ : ∃ wd : World, wd = { w0 with drawn := w0.drawn + 1 } := ⟨_, rfl⟩
    rw [← hwd] at hD0 ⊢
    clear hwd
    --TREE
    refine wpAnyC_two 2 6 hD0 (by kernel_rfl) rfl rfl rfl rfl (fun K hK => ?_) (fun K hK => ?_)
    · unfold Oper.wp execOp
      go_simp
      refine (HT.out _ (HK.out _ hD0)).mono ?_
      rintro e w1 ⟨aA, cA, rfl, hoA', hbA⟩
      have hoA := hoA'.base hD0.size
      have hB2 := hD0.trans (hbA.mono hD0.size)
      refine hK _ _ ?_
      clear hK K hoA'
      refine wpAnyC_two 4 6 hB2 (by kernel_rfl) rfl rfl rfl rfl (fun K hK => ?_) (fun K hK => ?_)
      · refine step_append_u8 (.tmp 14) (.tmp 15) rfl hoA (HMg.out _ hB2) rfl rfl (by omega) hB2.size ?_
        intro aC cC w3 hoC hfC h3
        have hB4 := hB2.trans (hfC.below hB2.size (fun k hk => (hoA.lt k hk).1))
        refine hK _ _ ?_
        clear hK K h3
        refine wpAnyC_two 5 6 hB4 (by kernel_rfl) rfl rfl rfl rfl (fun K hK => ?_) (fun K hK => ?_)
        · unfold Oper.wp execOp
          go_simp
          refine (HW.out _ _ (HMd.out _ hB4) (Sl.own hoC)).mono ?_
          rintro e w5 ⟨rfl, hbD⟩
          have hB6 := hB4.trans (hbD.mono hB4.size)
          refine hK _ _ ?_
          clear hK K
          refine wpAnyC_forced 6 hB6 (by kernel_rfl) rfl rfl (fun K hK => ?_)
          refine step_alloc_hash rfl ?_
          intro w7 hZ9 hbZ hsZ
          have hB8 := hB6.trans (hbZ.mono hB6.size)
          refine hK _ _ ?_
          clear hK K
          refine wpAnyC_forced 7 hB8 (by kernel_rfl) rfl rfl (fun K hK => ?_)
          refine wp_store_row 28 (.tmp 8) (.tmp 17) rfl (w5.heap.size) rfl (hi.map Bv) rfl _ _ hZ9 (by simp [HHl.out]) (Bv_oneCell _) (by rw [List.length_map, HHl.out]; kernel_rfl) ?_
          intro wS hgS hfS hsS
          have hZw : w0.heap.size ≤ w5.heap.size := hB6.size
          have hBS := hB8.trans (hfS.below hB8.size (fun k hk => by omega))
          refine hK _ _ ?_
          refine wpAnyC_done (by kernel_rfl) hBS ?_
          simp only [Act.put, List.getElem_toArray, List.getElem_cons_succ, List.getElem_cons_zero, List.setIfInBounds_toArray, List.set_cons_succ, List.set_cons_zero]
          clear hK K
          have HLeaf := Lib.hid (And.intro hgS (And.intro hBS hZw))
          have HL2 := Lib.hid (show w.heap.size + 1 < w5.heap.size by have := lt_of_block HR1.out.z; omega)
          obtain ⟨Zv, hZv⟩ : ∃ Zv, Zv = w5.heap.size := ⟨_, rfl⟩
          rw [← hZv] at HLeaf HL2 ⊢
          go_wp2_with fail
          go_meet
          exact ⟨rfl, Zv, rfl, HL2.out, HLeaf.out.1, HR1.out.bel HLeaf.out.2.1⟩
        · refine step_alloc_hash rfl ?_
          intro w10 hZ12 hbZ hsZ
          have hB11 := hB4.trans (hbZ.mono hB4.size)
          replace hoC := hoC.fr (Fr.of_below (S := fun _ => False) hbZ) (fun _ _ => id)
          refine hK _ _ ?_
          clear hK K
          refine wpAnyC_forced 5 hB11 (by kernel_rfl) rfl rfl (fun K hK => ?_)
          unfold Oper.wp execOp
          go_simp
          refine (HW.out _ _ (HMd.out _ hB11) (Sl.own hoC)).mono ?_
          rintro e w13 ⟨rfl, hbD⟩
          have hB14 := hB11.trans (hbD.mono hB11.size)
          have hZ15 := (hbD.block _ (lt_of_block hZ12)).trans hZ12
          refine hK _ _ ?_
          clear hK K
          refine wpAnyC_forced 7 hB14 (by kernel_rfl) rfl rfl (fun K hK => ?_)
          refine wp_store_row 28 (.tmp 8) (.tmp 17) rfl (w3.heap.size) rfl (hi.map Bv) rfl _ _ hZ15 (by simp [HHl.out]) (Bv_oneCell _) (by rw [List.length_map, HHl.out]; kernel_rfl) ?_
          intro wS hgS hfS hsS
          have hZw : w0.heap.size ≤ w3.heap.size := hB4.size
          have hBS := hB14.trans (hfS.below hB14.size (fun k hk => by omega))
          refine hK _ _ ?_
          refine wpAnyC_done (by kernel_rfl) hBS ?_
          simp only [Act.put, List.getElem_toArray, List.getElem_cons_succ, List.getElem_cons_zero]
          clear hK K
          have HLeaf := Lib.hid (And.intro hgS (And.intro hBS hZw))
          have HL2 := Lib.hid (show w.heap.size + 1 < w3.heap.size by have := lt_of_block HR1.out.z; omega)
          obtain ⟨Zv, hZv⟩ : ∃ Zv, Zv = w3.heap.size := ⟨_, rfl⟩
          rw [← hZv] at HLeaf HL2 ⊢
          go_wp2_with fail
          go_meet
          exact ⟨rfl, Zv, rfl, HL2.out, HLeaf.out.1, HR1.out.bel HLeaf.out.2.1⟩
      · refine step_alloc_hash rfl ?_
        intro w16 hZ18 hbZ hsZ
        have hB17 := hB2.trans (hbZ.mono hB2.size)
        have hne : ∀ k, (Value.slice aA 64 cA).ownBlock = some k → k ≠ w1.heap.size := fun k hk e => by have := (hoA.lt k hk).2; omega
        replace hoA := hoA.fr (Fr.of_below (S := fun _ => False) hbZ) (fun _ _ => id)
        refine hK _ _ ?_
        clear hK K
        refine wpAnyC_forced 4 hB17 (by kernel_rfl) rfl rfl (fun K hK => ?_)
        refine step_append_u8 (.tmp 14) (.tmp 15) rfl hoA (HMg.out _ hB17) rfl rfl (by omega) hB17.size ?_
        intro aC cC w19 hoC hfC h3
        have hB20 := hB17.trans (hfC.below hB17.size (fun k hk => (hoA.lt k hk).1))
        have hZ21 := (hfC.block _ (lt_of_block hZ18) (fun h => hne _ h rfl)).trans hZ18
        refine hK _ _ ?_
        clear hK K h3
        refine wpAnyC_forced 5 hB20 (by kernel_rfl) rfl rfl (fun K hK => ?_)
        unfold Oper.wp execOp
        go_simp
        refine (HW.out _ _ (HMd.out _ hB20) (Sl.own hoC)).mono ?_
        rintro e w22 ⟨rfl, hbD⟩
        have hB23 := hB20.trans (hbD.mono hB20.size)
        have hZ24 := (hbD.block _ (lt_of_block hZ21)).trans hZ21
        refine hK _ _ ?_
        clear hK K
        refine wpAnyC_forced 7 hB23 (by kernel_rfl) rfl rfl (fun K hK => ?_)
        refine wp_store_row 28 (.tmp 8) (.tmp 17) rfl (w1.heap.size) rfl (hi.map Bv) rfl _ _ hZ24 (by simp [HHl.out]) (Bv_oneCell _) (by rw [List.length_map, HHl.out]; kernel_rfl) ?_
        intro wS hgS hfS hsS
        have hZw : w0.heap.size ≤ w1.heap.size := hB2.size
        have hBS := hB23.trans (hfS.below hB23.size (fun k hk => by omega))
        refine hK _ _ ?_
        refine wpAnyC_done (by kernel_rfl) hBS ?_
        simp only [Act.put, List.getElem_toArray, List.getElem_cons_succ, List.getElem_cons_zero]
        clear hK K
        have HLeaf := Lib.hid (And.intro hgS (And.intro hBS hZw))
        have HL2 := Lib.hid (show w.heap.size + 1 < w1.heap.size by have := lt_of_block HR1.out.z; omega)
        obtain ⟨Zv, hZv⟩ : ∃ Zv, Zv = w1.heap.size := ⟨_, rfl⟩
        rw [← hZv] at HLeaf HL2 ⊢
        go_wp2_with fail
        go_meet
        exact ⟨rfl, Zv, rfl, HL2.out, HLeaf.out.1, HR1.out.bel HLeaf.out.2.1⟩
    · refine step_alloc_hash rfl ?_
      intro w25 hZ27 hbZ hsZ
      have hB26 := hD0.trans (hbZ.mono hD0.size)
      refine hK _ _ ?_
      clear hK K
      refine wpAnyC_forced 2 hB26 (by kernel_rfl) rfl rfl (fun K hK => ?_)
      unfold Oper.wp execOp
      go_simp
      refine (HT.out _ (HK.out _ hB26)).mono ?_
      rintro e w28 ⟨aA, cA, rfl, hoA', hbA⟩
      have hoA := hoA'.base hB26.size
      have hB29 := hB26.trans (hbA.mono hB26.size)
      have hne : ∀ k, (Value.slice aA 64 cA).ownBlock = some k → k ≠ wd.heap.size := fun k hk e => by have := (hoA'.lt k hk).1; have := lt_of_block hZ27; omega
      have hZ30 := (hbA.block _ (lt_of_block hZ27)).trans hZ27
      refine hK _ _ ?_
      clear hK K hoA'
      refine wpAnyC_forced 4 hB29 (by kernel_rfl) rfl rfl (fun K hK => ?_)
      refine step_append_u8 (.tmp 14) (.tmp 15) rfl hoA (HMg.out _ hB29) rfl rfl (by omega) hB29.size ?_
      intro aC cC w31 hoC hfC h3
      have hB32 := hB29.trans (hfC.below hB29.size (fun k hk => (hoA.lt k hk).1))
      have hZ33 := (hfC.block _ (lt_of_block hZ30) (fun h => hne _ h rfl)).trans hZ30
      refine hK _ _ ?_
      clear hK K h3
      refine wpAnyC_forced 5 hB32 (by kernel_rfl) rfl rfl (fun K hK => ?_)
      unfold Oper.wp execOp
      go_simp
      refine (HW.out _ _ (HMd.out _ hB32) (Sl.own hoC)).mono ?_
      rintro e w34 ⟨rfl, hbD⟩
      have hB35 := hB32.trans (hbD.mono hB32.size)
      have hZ36 := (hbD.block _ (lt_of_block hZ33)).trans hZ33
      refine hK _ _ ?_
      clear hK K
      refine wpAnyC_forced 7 hB35 (by kernel_rfl) rfl rfl (fun K hK => ?_)
      refine wp_store_row 28 (.tmp 8) (.tmp 17) rfl (wd.heap.size) rfl (hi.map Bv) rfl _ _ hZ36 (by simp [HHl.out]) (Bv_oneCell _) (by rw [List.length_map, HHl.out]; kernel_rfl) ?_
      intro wS hgS hfS hsS
      have hZw : w0.heap.size ≤ wd.heap.size := hD0.size
      have hBS := hB35.trans (hfS.below hB35.size (fun k hk => by omega))
      refine hK _ _ ?_
      refine wpAnyC_done (by kernel_rfl) hBS ?_
      simp only [Act.put, List.getElem_toArray, List.getElem_cons_succ, List.getElem_cons_zero]
      clear hK K
      have HLeaf := Lib.hid (And.intro hgS (And.intro hBS hZw))
      have HL2 := Lib.hid (show w.heap.size + 1 < wd.heap.size by have := lt_of_block HR1.out.z; omega)
      obtain ⟨Zv, hZv⟩ : ∃ Zv, Zv = wd.heap.size := ⟨_, rfl⟩
      rw [← hZv] at HLeaf HL2 ⊢
      go_wp2_with fail
      go_meet
      exact ⟨rfl, Zv, rfl, HL2.out, HLeaf.out.1, HR1.out.bel HLeaf.out.2.1⟩
    --END
  case rest =>
    obtain ⟨rfl, Z, rfl, hZ1, hZr, hR2⟩ := hcut
    have hD0 : Below wc.heap.size wc { wc with drawn := wc.drawn + 1 } := (Below.refl _ wc).drew
    have HT := Lib.hid (show ∀ w', Sl w' 1 (.slice au 64 cu) 64 (kb.map Bv) → Calls Tryz.prog 64 #[.slice au 64 cu, .int .u8 92] w' fun e w'' => ∃ aa cc, e = .returned (.slice aa 64 cc) ∧ w''.ownsRow w'.heap.size 5 1 (.slice aa 64 cc) 64 ((kb.map (· ^^^ 92)).map Bv) ∧ Below w'.heap.size w' w'' from fun w' h => turned03_any (.slice au 64 cu) kb 92 w' h)
    have HW := Lib.hid (fun (v : Value) (w' : World) (hm : MadeC w' (.slice a1 8 c1) (.slice a2 64 c2)) (h : Sl w' 1 v (64 + 32) ((kb.map (· ^^^ 92) ++ hi).map Bv)) => with02' _ _ v _ (64 + 32) (by simp [HKl.out, HHl.out]) w' hm h (by omega))
    rw [show hashN (kb.map (· ^^^ 92) ++ hi) = hv by rw [HHv.out, HHi.out, HKb.out]; rfl] at HW
    have HVl := Lib.hid (show hv.length = 32 by rw [HHv.out]; exact macN_length _ _)
    have HR := Lib.hid hR2
    have HK := Lib.hid (fun W (h : Below wc.heap.size wc W) => (hR2.bel h).k)
    have HMd := Lib.hid (fun W (h : Below wc.heap.size wc W) => (hR2.bel h).m)
    have HHs := Lib.hid (fun W (h : Below wc.heap.size wc W) => (show Sl W 1 (.slice (some ⟨Z, 0, none⟩) 32 32) 32 (hi.map Bv) from sl_row' ((h.block _ (lt_of_block hZr)).trans hZr) rfl (by simp [HHl.out])))
    have HAt := Lib.hid (fun W (h : Below wc.heap.size wc W) => (show At W w.heap.size 0 [.slice a1 8 c1, .slice a2 64 c2] from fun i u hu => by
      have h2 := hR2.bel h
      match i, hu with
      | 0, hu => rw [← Option.some.inj hu]; exact h2.c0
      | 1, hu => rw [← Option.some.inj hu]; exact h2.c1))
    clear hR2 hZr
    go_wp2_with fail
    refine wp_region_any (by kernel_rfl) ?_
    refine wpAny_of_C (C := fun W => At W w.heap.size 0 [.slice a1 8 c1, .slice a2 64 c2]) ?_
    refine wpAnyC_take (i := 0) (v := .agg #[.slice a1 8 c1, .slice a2 64 c2]) rfl (by kernel_rfl) (by kernel_rfl) (by kernel_rfl) (fun _ _ _ h => h) (yields_load rfl 86 (.tmp 3) rfl w.heap.size 0 rfl _ _ (fun _ h => h) Tryz.underlying86 rfl (by kernel_rfl)) ?_
    refine wpAnyC_take (i := 1) (v := .slice au 64 cu) rfl (by kernel_rfl) (by kernel_rfl) (by kernel_rfl) (fun _ _ _ h => h) (.inl ⟨by rfl, fun w' _ => by go_simp⟩) ?_
    refine wpAnyC_take (i := 3) (v := .slice (some ⟨Z, 0, none⟩) 32 32) rfl (by kernel_rfl) (by kernel_rfl) (by kernel_rfl) (fun _ _ _ h => h) (.inl ⟨by rfl, fun w' _ => by go_simp⟩) ?_
    obtain ⟨wd, hwd⟩ : ∃ wd : World, wd = { wc with drawn := wc.drawn + 1 } := ⟨_, rfl⟩
    rw [← hwd] at hD0 ⊢
    clear hwd
    refine wpAnyC_forced 2 (HAt.out _ hD0) (by kernel_rfl) rfl rfl (fun K hK => ?_)
    unfold Oper.wp execOp
    go_simp
    refine (HT.out _ (HK.out _ hD0)).mono ?_
    rintro e wA ⟨aA, cA, rfl, hoA', hbA⟩
    have hoA := hoA'.base hD0.size
    have hB2 := hD0.trans (hbA.mono hD0.size)
    refine hK _ _ ?_
    clear hK K hoA'
    refine wpAnyC_forced 4 (HAt.out _ hB2) (by kernel_rfl) rfl rfl (fun K hK => ?_)
    refine step_append_u8 (.tmp 20) (.tmp 21) rfl hoA (HHs.out _ hB2) rfl rfl (by omega) hB2.size ?_
    intro aC cC w9 hoC hfC h3
    have hB3 := hB2.trans (hfC.below hB2.size (fun k hk => (hoA.lt k hk).1))
    refine hK _ _ ?_
    clear hK K
    refine wpAnyC_forced 5 (HAt.out _ hB3) (by kernel_rfl) rfl rfl (fun K hK => ?_)
    unfold Oper.wp execOp
    go_simp
    refine (HW.out _ _ (HMd.out _ hB3) (Sl.own hoC)).mono ?_
    rintro e wD ⟨rfl, hbD⟩
    have hB4 := hB3.trans (hbD.mono hB3.size)
    refine hK _ _ ?_
    clear hK K
    refine wpAnyC_forced 6 (HAt.out _ hB4) (by kernel_rfl) rfl rfl (fun K hK => ?_)
    have hz4 := (HR.out.bel hB4).z
    have hzl : w.heap.size + 1 < wc.heap.size := lt_of_block HR.out.z
    refine wp_store_row 28 (.tmp 6) (.tmp 23) rfl (w.heap.size + 1) rfl (hv.map Bv) rfl _ _ hz4 (by simp [HVl.out]) (Bv_oneCell _) (by rw [List.length_map, HVl.out]; kernel_rfl) ?_
    intro wS hgS hfS hsS
    refine hK _ _ ?_
    clear hK K
    have HBS := Lib.hid (show Below w.heap.size w wS from (HR.out.bel hB4).below.trans (hfS.below (HR.out.bel hB4).below.size (fun k hk => by omega)))
    refine wpAnyC_done (by kernel_rfl) ((HAt.out _ hB4).fr hfS (by omega)) ?_
    simp only [Act.put, List.getElem_toArray, List.getElem_cons_succ, List.getElem_cons_zero]
    have HG := Lib.hid hgS
    clear hgS hfS hsS hz4 hB4 hB3 hB2 hoA hoC hfC h3 hbA hbD hD0 hzl
    go_wp2_with fail
    exact bodyPost_ret (ret_hash1 rfl rfl HG.out HVl.out) rfl ⟨rfl, HBS.out⟩

set_option maxRecDepth 100000 in
set_option maxHeartbeats 4000000 in
theorem mac03_any (vk vm : Value) (key msg : List UInt8) (w : World) (hk : Sl w 1 vk key.length (key.map Bv)) (hm : Sl w 1 vm msg.length (msg.map Bv)) (hr : key.length ≤ 1000000) (hr2 : msg.length ≤ 900000) :
    Calls Tryz.prog 17 #[vk, vm] w fun e w' => e = .returned (.agg ((macN key msg).map Bv).toArray) ∧ Below w.heap.size w w' := by
  obtain ⟨hv, hhv⟩ : ∃ hv, hv = macN key msg := ⟨_, rfl⟩
  have HVl := Lib.hid (show hv.length = 32 by rw [hhv]; exact macN_length _ _)
  have HW := Lib.hid (show ∀ v1 v2 w', MadeC w' v1 v2 → Below w.heap.size w w' → Calls Tryz.prog 40 #[.agg #[v1, v2], vk, vm] w' fun e w'' => e = .returned (.agg (hv.map Bv).toArray) ∧ Below w'.heap.size w' w'' from
    fun v1 v2 w' h hb => by rw [hhv]; exact with03_any v1 v2 vk vm key msg w' h (hk.below hb) (hm.below hb) hr hr2)
  rw [← hhv]
  obtain ⟨ak, ck, rfl⟩ := shape_of hk
  obtain ⟨am, cm, rfl⟩ := shape_of hm
  obtain ⟨nk, hnk⟩ : ∃ nk, nk = key.length := ⟨_, rfl⟩
  obtain ⟨nm, hnm⟩ : ∃ nm, nm = msg.length := ⟨_, rfl⟩
  rw [← hnk, ← hnm] at HW ⊢
  clear hhv hk hm hr hr2 hnk hnm
  have HM := Lib.hid (fun w => made01_any w)
  go_enter Tryz.func17, Tryz.ntmps17
  have hbel0 : Below w.heap.size w (w.alloc (.cells ((List.replicate 32 (0 : UInt8)).map Bv).toArray 28)) := (Below.refl _ w).alloc (Nat.le_refl _) _
  have HB0 := Lib.hid hbel0
  have HZ0 := Lib.hid (heap_alloc_new w (.cells ((List.replicate 32 (0 : UInt8)).map Bv).toArray 28))
  clear hbel0
  go_wp2_with fail
  refine (HM.out _).mono ?_
  rintro e w1 ⟨v1, v2, rfl, hmc, hb1⟩
  have HZ1 := Lib.hid ((hb1.block w.heap.size (by simp)).trans HZ0.out)
  have HB1 := Lib.hid (HB0.out.trans (hb1.mono (by simp)))
  have HMc := Lib.hid hmc
  clear hb1 hmc
  go_wp2_with fail
  refine (HW.out _ _ _ HMc.out HB1.out).mono ?_
  rintro e w2 ⟨rfl, hb2⟩
  have HZ2 := Lib.hid ((hb2.block w.heap.size (lt_of_block HZ1.out)).trans HZ1.out)
  have HB2 := Lib.hid (HB1.out.trans (hb2.mono HB1.out.size))
  clear hb2
  go_wp2_with (refine store_hash rfl (.tmp 4) (.tmp 8) rfl rfl rfl HZ2.out rfl HVl.out ?_; intro w3 hg3 hf3)
  exact bodyPost_ret (ret_hash1 rfl rfl hg3 HVl.out) rfl ⟨rfl, HB2.out.trans (hf3.below HB2.out.size (fun j hj => by omega))⟩
end Go.Proofs.YtdmjnopjnaoepaaGreatDoor
namespace Go.Proofs.YtdmjnopjnaoepaaGreatDoor
open Go.RowKit

set_option maxHeartbeats 2000000 in
theorem refPtrCheck_any (p : Pt) (n : Nat) (w : World) (h : p.Wf) (hn : n ≤ 4294967295) :
    Calls Tryz.prog 66 #[.agg p.arr, .int .i64 (n : Int)] w fun e w' => e = .returned (.int .i64 (ptrE p n)) ∧ Below w.heap.size w w' := by
  have g0 := p.get0
  have g1 := p.get1
  have hg := heap_alloc_new w (.cells p.arr 30)
  have c0 : (w.alloc (.cells p.arr 30)).cell? ⟨w.heap.size, 0, none⟩ = some (.int .u32 (p.addr : Int)) := (cell_of_row _ _ 0 _ _ _ hg).trans g0
  have c1 : (w.alloc (.cells p.arr 30)).cell? ⟨w.heap.size, 1, none⟩ = some (.int .u64 (p.birth : Int)) := (cell_of_row _ _ 1 _ _ _ hg).trans g1
  have HAT := Lib.hid (At_box w p 30)
  have HW := Lib.hid h
  have HB := Lib.hid ((Below.refl _ w).alloc (Nat.le_refl _) (.cells p.arr 30))
  have ha := h.addr
  clear h g0 g1 hg
  obtain ⟨w1, hw1⟩ : ∃ w1, w1 = w.alloc (.cells p.arr 30) := ⟨_, rfl⟩
  by_cases h0 : p.addr = 0
  · have HQ := Lib.hid (show ptrOk p n = decide (p = Pt.zero) by unfold ptrOk; rw [if_pos h0])
    have e0 : ((p.addr : Int) == 0) = true := by rw [beq_zero]; exact decide_eq_true h0
    clear h0
    by_cases hz : p = Pt.zero
    · rw [decide_eq_true hz] at HQ
      replace HQ := Lib.hid (ptrE_ok HQ.out)
      have HZ := Lib.hid hz
      clear hz
      go_enter Tryz.func66, Tryz.ntmps66
      go_wp2_with (first | (refine load_ptr rfl (.tmp 2) rfl rfl HAT.out HW.out ?_) | (refine eql_ptr (q := Pt.zero) rfl (.tmp 8) (.tmp 9) _ rfl rfl rfl HW.out Pt.zero_wf ?_; rw [decide_eq_true HZ.out]))
      go_ret
      exact ⟨by rw [HQ.out]; rfl, HB.out⟩
    · rw [decide_eq_false hz] at HQ
      replace HQ := Lib.hid (ptrE_bad HQ.out)
      have HZ := Lib.hid hz
      clear hz
      go_enter Tryz.func66, Tryz.ntmps66
      go_wp2_with (first | (refine load_ptr rfl (.tmp 2) rfl rfl HAT.out HW.out ?_) | (refine eql_ptr (q := Pt.zero) rfl (.tmp 8) (.tmp 9) _ rfl rfl rfl HW.out Pt.zero_wf ?_; rw [decide_eq_false HZ.out]))
      go_ret
      exact ⟨by rw [HQ.out]; rfl, HB.out⟩
  · have hq : ptrOk p n = (decide (2 ≤ p.addr) && decide ((p.addr : Int) < n) && decide (0 < p.birth)) := by unfold ptrOk; rw [if_neg h0]
    have e0 : ((p.addr : Int) == 0) = false := by rw [beq_zero]; exact decide_eq_false h0
    have n0 : ¬ ((n : Int) < 0) := by omega
    clear h0
    by_cases h1 : 2 ≤ p.addr
    · have m1 : ¬ ((p.addr : Int) < 2) := by omega
      by_cases h2 : (p.addr : Int) < n
      · have m2 : ¬ ((n : Int) ≤ (p.addr : Int)) := by omega
        by_cases h3 : 0 < p.birth
        · rw [decide_eq_true h1, decide_eq_true h2, decide_eq_true h3] at hq
          have HQ := Lib.hid (ptrE_ok hq)
          have m3 : ((p.birth : Int) == 0) = false := by rw [beq_zero]; exact decide_eq_false (by omega)
          clear hq h1 h2 h3
          go_enter Tryz.func66, Tryz.ntmps66
          go_wp2
          go_ret
          exact ⟨by rw [HQ.out]; rfl, HB.out⟩
        · rw [decide_eq_true h1, decide_eq_true h2, decide_eq_false h3] at hq
          have HQ := Lib.hid (ptrE_bad hq)
          have m3 : ((p.birth : Int) == 0) = true := by rw [beq_zero]; exact decide_eq_true (by omega)
          clear hq h1 h2 h3
          go_enter Tryz.func66, Tryz.ntmps66
          go_wp2
          go_ret
          exact ⟨by rw [HQ.out]; rfl, HB.out⟩
      · rw [decide_eq_true h1, decide_eq_false h2] at hq
        have HQ := Lib.hid (ptrE_bad hq)
        have m2 : ((n : Int) ≤ (p.addr : Int)) := by omega
        clear hq h1 h2
        go_enter Tryz.func66, Tryz.ntmps66
        go_wp2
        go_ret
        exact ⟨by rw [HQ.out]; rfl, HB.out⟩
    · rw [decide_eq_false h1] at hq
      have HQ := Lib.hid (ptrE_bad hq)
      have m1 : ((p.addr : Int) < 2) := by omega
      clear hq h1
      go_enter Tryz.func66, Tryz.ntmps66
      go_wp2
      go_ret
      exact ⟨by rw [HQ.out]; rfl, HB.out⟩

end Go.Proofs.YtdmjnopjnaoepaaGreatDoor

namespace Go.Proofs.YtdmjnopjnaoepaaGreatDoor
open Go.RowKit

theorem formB_keysbad {n : Nd} (h : keysB n.keys = false) : formB n = false := by unfold formB; rw [h]; rfl
theorem formB_leafq {n : Nd} (h : keysB n.keys = true) (hl : n.leaf = true) : formB n = (decide (n.vals.length = n.keys.length) && decide (n.kids.length = 0) && !longB n.vals) := by unfold formB; rw [h, hl]; simp
theorem formB_innerq {n : Nd} (h : keysB n.keys = true) (hl : n.leaf = false) : formB n = (decide (n.vals.length = 0) && decide (0 < n.keys.length) && decide (n.kids.length = n.keys.length + 1) && !badB n.kids) := by unfold formB; rw [h, hl]; simp

end Go.Proofs.YtdmjnopjnaoepaaGreatDoor
namespace Go.Proofs.YtdmjnopjnaoepaaGreatDoor
open Go.RowKit

/-- append where there is no room: a row of its own. -/
theorem append_grow_u8 {w : World} {ops : Array Oper} {rest : List Oper} {o : Oper} {a : Act} {Q : Exit → Act → World → Prop} (hgd : o.guard = none) (s x : Operand)
    (ho : o.op = .call { callee := .builtin .append, args := #[s, x], argTypes := #[22, 22] })
    {va vx : Value} {ao : Option Addr} {n c : Nat} {xs : List UInt8} (hv : va = .slice ao n c) (h1 : Sl w 1 va n (xs.map Bv)) {m : Nat} {news : List UInt8} (h2 : Sl w 1 vx m (news.map Bv))
    (hs : a.eval s = va) (hxe : a.eval x = vx) (hm : 0 < m) (hfull : c < n + m) (hr : n + m ≤ 1000000000)
    (h : ∀ aa cc w', w'.ownsRow w.heap.size 5 1 (.slice aa (n + m) cc) (n + m) ((xs ++ news).map Bv) → Below w.heap.size w w' → wpList Tryz.prog ops Q rest (a.put o.dst (.slice aa (n + m) cc)) w') : wpList Tryz.prog ops Q (o :: rest) a w := by
  obtain ⟨i0, hi, hz0, hz1, hz2⟩ := info_parts info_u8
  obtain ⟨hl1, a1, c1, e1, hc1, hn1, hx1⟩ := h1
  rw [hv] at e1
  simp only [Value.slice.injEq, true_and] at e1
  obtain ⟨rfl, rfl⟩ := e1
  obtain ⟨hl2, a2, c2, rfl, hc2, hn2, hx2⟩ := h2
  have hl2' : news.length = m := by simpa using hl2
  obtain ⟨y, hy⟩ : ∃ y, news[0]? = some y := ⟨news[0]'(by omega), List.getElem?_eq_getElem (by omega)⟩
  obtain ⟨b2, o2, rfl, _⟩ := hx2 0 (Bv y) (by rw [List.getElem?_map, hy]; rfl)
  refine wpList_append_grows w hgd s x 22 ho 5 i0 (.int .u8 0) 1 1 Tryz.underlying22 hi hz0 hz1 hz2 rfl (by decide) ao n c (xs.map Bv) (hs.trans hv) (fun e => ⟨by have := hn1 e; omega, hn1 e⟩) hl1 ?_ ⟨b2, o2, none⟩ m c2 (news.map Bv) hxe hl2 ?_ (Bv_oneCell _) hfull (by unfold maxLen; omega) (by omega) ?_
  · intro b hb j u hu
    obtain ⟨g, q, e, hc⟩ := hx1 j u hu
    rw [hb] at e
    obtain rfl := Option.some.inj e
    rw [Addr.add_lit]; exact hc
  · intro j u hu
    obtain ⟨g, q, e, hc⟩ := hx2 j u hu
    simp only [Option.some.injEq, Addr.mk.injEq, and_true] at e
    obtain ⟨rfl, rfl⟩ := e
    rw [Addr.add_lit]; exact hc
  · intro v' w' hown hg
    obtain ⟨aa, cc, rfl⟩ : ∃ aa cc, v' = .slice aa (n + m) cc := by
      rcases hown.2 with ⟨h0, h1⟩ | ⟨g, cap, cur, h0, _⟩
      · omega
      · exact ⟨_, _, h0⟩
    rw [← List.map_append] at hown
    exact h aa cc w' hown ((Below.refl _ _).grown hg (Nat.le_refl _) (fun k e => by cases e))
theorem append_zeros_zB {w : World} {ops : Array Oper} {rest : List Oper} {o : Oper} {a : Act} {Q : Exit → Act → World → Prop} (hgd : o.guard = none) (s x : Operand)
    (ho : o.op = .call { callee := .builtin .append, args := #[s, x], argTypes := #[22, 3] })
    {base : Nat} {v : Value} {n : Nat} {xs : List UInt8} (hown : w.ownsRow base 5 1 v n (xs.map Bv)) {k : Nat}
    (hs : a.eval s = v) (hxe : a.eval x = .int .i64 (k : Int)) (hr : n + k ≤ 140737488355328) (hbase : base ≤ w.heap.size)
    (h : ∀ v' w', w'.ownsRow base 5 1 v' (n + k) ((xs ++ zB k).map Bv) → Fr (fun k => v.ownBlock = some k) w w' → wpList Tryz.prog ops Q rest (a.put o.dst v') w') : wpList Tryz.prog ops Q (o :: rest) a w :=
  append_zeros_u8 hgd s x ho hown hs hxe hr hbase (fun v' w' h1 h2 _ => h v' w' h1 h2)
theorem ptrE_or' (p : Pt) (n : Int) : ptrE p n = 0 ∨ ptrE p n = 4 := by
  cases hq : ptrOk p n with
  | true => exact .inl (ptrE_ok hq)
  | false => exact .inr (ptrE_bad hq)

set_option maxHeartbeats 1000000 in
theorem refUbCheck_any (u : Ub) (w : World) (h : u.Wf) :
    Calls Tryz.prog 45 #[.agg u.arr] w fun e w' => e = .returned (.int .i64 (ubE u)) ∧ Below w.heap.size w w' := by
  have g0 := u.get0
  have g1 := u.get1
  have h64 := h.txg
  have h32 := h.size
  have HAT := Lib.hid (Ub.box_root w u 32)
  have HW := Lib.hid h
  have HB := Lib.hid ((Below.refl _ w).alloc (Nat.le_refl _) (.cells u.arr 32))
  by_cases h0 : u.txg = 0
  · have HQ := Lib.hid (show ubE u = 4 from ubE_bad (by unfold ubOk; rw [h0]; rfl))
    have e0 : ((u.txg : Int) == 0) = true := by rw [h0]; rfl
    clear h h0
    go_enter Tryz.func45, Tryz.ntmps45
    go_wp2
    go_ret
    exact ⟨by rw [HQ.out]; rfl, HB.out⟩
  · have e0 : ((u.txg : Int) == 0) = false := by rw [Bool.eq_false_iff]; intro hh; rw [beq_iff_eq] at hh; omega
    by_cases h1 : 16 ≤ u.size
    · have e1 : ¬ (u.size : Int) < 16 := by omega
      by_cases h2 : u.size ≤ 4096
      · have e2 : ¬ (4096 : Int) < (u.size : Int) := by omega
        have HQ := Lib.hid (ubE_root h0 h1 h2)
        have m1 : u.size ≤ 4096 := h2
        have HP := Lib.hid (ptrE_or' u.root (u.size : Int))
        clear h h0 h1 h2
        go_enter Tryz.func45, Tryz.ntmps45
        go_wp2_with (refine gload_ptr rfl (.tmp 17) rfl rfl HAT.out HW.out.root ?_)
        refine (refPtrCheck_any u.root u.size _ HW.out.root (by omega)).mono ?_
        rintro e w1 ⟨rfl, hb⟩
        have HB1 := Lib.hid (HB.out.trans (hb.mono HB.out.size))
        clear hb
        rcases HP.out with hp | hp
        · have HQ2 := Lib.hid (HQ.out.trans hp)
          rw [hp]
          clear hp
          go_wp2
          go_ret
          exact ⟨by rw [HQ2.out]; rfl, HB1.out⟩
        · have HQ2 := Lib.hid (HQ.out.trans hp)
          rw [hp]
          clear hp
          go_wp2
          go_ret
          exact ⟨by rw [HQ2.out]; rfl, HB1.out⟩
      · have e2 : (4096 : Int) < (u.size : Int) := by omega
        have HQ := Lib.hid (show ubE u = 4 from ubE_bad (by unfold ubOk; rw [decide_eq_false h2]; simp))
        clear h h0 h1 h2
        go_enter Tryz.func45, Tryz.ntmps45
        go_wp2
        go_ret
        exact ⟨by rw [HQ.out]; rfl, HB.out⟩
    · have e1 : (u.size : Int) < 16 := by omega
      have HQ := Lib.hid (show ubE u = 4 from ubE_bad (by unfold ubOk; rw [decide_eq_false h1]; simp))
      clear h h0 h1
      go_enter Tryz.func45, Tryz.ntmps45
      go_wp2
      go_ret
      exact ⟨by rw [HQ.out]; rfl, HB.out⟩

/-- What plain holds while it lays. -/
structure PlRel (w : World) (u : Ub) (v : Value) (ys : List UInt8) (wr : World) : Prop where
  own : wr.ownsRow (w.heap.size + 1) 5 1 v ys.length (ys.map Bv)
  u : wr.heap[w.heap.size]? = some (.cells u.arr 32 (0, 0))
  below : Below w.heap.size w wr
theorem PlRel.size {w wr : World} {u : Ub} {v : Value} {ys : List UInt8} (h : PlRel w u v ys wr) : w.heap.size + 1 ≤ wr.heap.size := lt_of_block h.u
theorem PlRel.bel {w wr w1 : World} {u : Ub} {v : Value} {ys : List UInt8} (h : PlRel w u v ys wr) (hb : Below wr.heap.size wr w1) : PlRel w u v ys w1 :=
  ⟨h.own.fr (Fr.of_below (S := fun _ => False) hb) (fun _ _ => id), (hb.block _ (lt_of_block h.u)).trans h.u, h.below.trans (hb.mono h.below.size)⟩
theorem PlRel.app {w wr w1 : World} {u : Ub} {v v1 : Value} {ys zs : List UInt8} {n : Nat} (h : PlRel w u v ys wr) (hn : n = (ys ++ zs).length) (ho : w1.ownsRow (w.heap.size + 1) 5 1 v1 n ((ys ++ zs).map Bv)) (hf : Fr (fun k => v.ownBlock = some k) wr w1) : PlRel w u v1 (ys ++ zs) w1 :=
  ⟨hn ▸ ho, (hf.block _ (lt_of_block h.u) (fun e => by have := (h.own.lt _ e).1; omega)).trans h.u, h.below.trans (hf.below h.below.size (fun k e => by have := (h.own.lt _ e).1; omega))⟩
theorem PlRel.cells {w wr : World} {u : Ub} {v : Value} {ys : List UInt8} (h : PlRel w u v ys wr) : wr.cell? ⟨w.heap.size, 0, none⟩ = some (.int .u64 (u.txg : Int)) ∧ wr.cell? ⟨w.heap.size, 1, none⟩ = some (.int .u32 (u.size : Int)) ∧ At wr w.heap.size 2 u.root.cells :=
  ⟨(cell_of_row _ _ 0 _ _ _ h.u).trans u.get0, (cell_of_row _ _ 1 _ _ _ h.u).trans u.get1, Ub.rootAt (o := 0) (At.of_row h.u)⟩

set_option maxRecDepth 100000 in
set_option maxHeartbeats 4000000 in
theorem refPlain_any (u : Ub) (w : World) (h : u.Wf) :
    Calls Tryz.prog 46 #[.agg u.arr] w fun e w' => ∃ v, e = .returned v ∧ w'.ownsRow w.heap.size 5 1 v 480 ((ubB u).map Bv) ∧ Below w.heap.size w w' := by
  have HW := Lib.hid h
  have h64 := h.txg
  have h32 := h.size
  have h0 := heap_alloc_new w (.cells u.arr 32)
  have hb0 : Below w.heap.size w (w.alloc (.cells u.arr 32)) := (Below.refl _ w).alloc (Nat.le_refl _) _
  obtain ⟨w0, hw0⟩ : ∃ w0, w0 = w.alloc (.cells u.arr 32) := ⟨_, rfl⟩
  have hs0 : w0.heap.size = w.heap.size + 1 := by rw [hw0]; simp
  have cm := conv_mark w0 (w.heap.size + 1) hs0.symm
  have hlit : Sl (w0.alloc (.cells #[.int .u8 66, .int .u8 78, .int .u8 89, .int .u8 78] 5 (4, 5))) 1 (.slice (some ⟨w.heap.size + 1, 0, none⟩) 4 4) 4 (markB.map Bv) := Sl_litm w0 _ markB _ 4 rfl hs0.symm rfl
  rw [← hw0] at h0 hb0
  rw [hw0] at cm
  have hbl : Below w0.heap.size w0 (w0.alloc (.cells #[.int .u8 66, .int .u8 78, .int .u8 89, .int .u8 78] 5 (4, 5))) := (Below.refl _ _).alloc (Nat.le_refl _) _
  have hu1 := (hbl.block w.heap.size (by rw [hs0]; omega)).trans h0
  have c0 : (w0.alloc (.cells #[.int .u8 66, .int .u8 78, .int .u8 89, .int .u8 78] 5 (4, 5))).cell? ⟨w.heap.size, 0, none⟩ = some (.int .u64 (u.txg : Int)) := (cell_of_row _ _ 0 _ _ _ hu1).trans u.get0
  rw [hw0] at c0
  have HU1 := Lib.hid hu1
  have HLit := Lib.hid hlit
  have HBl := Lib.hid (hb0.trans (hbl.mono hb0.size))
  have HW0 := Lib.hid hw0
  have HTx := Lib.hid (show ∀ w, Calls Tryz.prog 67 #[.int .u64 (u.txg : Int), .int .i64 8] w fun e w' => ∃ aa cc, e = .returned (.slice aa 8 cc) ∧ w'.ownsRow w.heap.size 5 1 (.slice aa 8 cc) 8 ((putB u.txg 8).map Bv) ∧ Below w.heap.size w w' from fun w => refNum_any u.txg 8 w (by omega) h64 (Nat.div_eq_of_lt (by simpa using h64)))
  have HSz := Lib.hid (show ∀ w, Calls Tryz.prog 67 #[.int .u64 (u.size : Int), .int .i64 4] w fun e w' => ∃ aa cc, e = .returned (.slice aa 4 cc) ∧ w'.ownsRow w.heap.size 5 1 (.slice aa 4 cc) 4 ((putB u.size 4).map Bv) ∧ Below w.heap.size w w' from fun w => refNum_any u.size 4 w (by omega) (by omega) (Nat.div_eq_of_lt (by simpa using h32)))
  have HRt := Lib.hid (fun w => refPtrBytes_any u.root w h.root)
  have hw32 : IntKind.u64.wrap (u.size : Int) = (u.size : Int) := by rw [IntKind.wrap_u64]; omega
  have HS0 := Lib.hid hs0
  clear h h0 hb0 hw0 hs0 hlit hbl hu1 h64
  go_enter Tryz.func46, Tryz.ntmps46
  go_wp2_with fail
  refine (HTx.out _).mono ?_
  rintro e w1 ⟨a1, c1, rfl, ho1, hb1⟩
  rw [← HW0.out] at hb1 ho1
  have HU2 := Lib.hid ((hb1.block w.heap.size (lt_of_block HU1.out)).trans HU1.out)
  have HB1 := Lib.hid (HBl.out.trans (hb1.mono HBl.out.size))
  have HL1 := Lib.hid (HLit.out.below hb1)
  have HS1 := Lib.hid (Sl.own ho1)
  clear ho1 hb1 cm c0
  go_wp2_with (at_builtin; refine append_grow_u8 rfl (.tmp 5) (.tmp 8) rfl rfl HL1.out HS1.out rfl rfl (by omega) (by omega) (by omega) ?_)
  intro a2 c2 w2 ho2 hb2
  have hp2 : PlRel w u (.slice a2 (4 + 8) c2) (markB ++ putB u.txg 8) w2 := by
    have hu2 := (hb2.block _ (lt_of_block HU2.out)).trans HU2.out
    have h := ho2.base (show w.heap.size + 1 ≤ w1.heap.size from lt_of_block HU2.out)
    refine ⟨?_, hu2, HB1.out.trans (hb2.mono HB1.out.size)⟩
    have e : (markB ++ putB u.txg 8).length = 4 + 8 := by rw [List.length_append, putB_length]; rfl
    rw [e]; exact h
  have c1 := hp2.cells.2.1
  have HP2 := Lib.hid hp2
  clear ho2 hb2 hp2
  go_wp2_with fail
  refine (HSz.out _).mono ?_
  rintro e w3 ⟨a3, c3, rfl, ho3, hb3⟩
  have hp3 := HP2.out.bel hb3
  have hown3 := hp3.own
  rw [show (markB ++ putB u.txg 8).length = 12 by rw [List.length_append, putB_length]; rfl] at hown3
  have HS3 := Lib.hid (Sl.own ho3)
  have HO3 := Lib.hid hown3
  have HP3 := Lib.hid hp3
  have HZ3 := Lib.hid hp3.size
  clear ho3 hb3 hown3 hp3 c1
  go_wp2_with (at_builtin; refine append_u8 rfl (.tmp 10) (.tmp 14) rfl HO3.out HS3.out rfl rfl (by omega) HZ3.out ?_)
  intro a4 c4 w4 ho4 hf4 h34
  have hp4 := HP3.out.app (n := 12 + 4) (zs := putB u.size 4) (by rw [List.length_append, List.length_append, putB_length, putB_length]; rfl) ho4 hf4
  have HA4 := Lib.hid hp4.cells.2.2
  have HP4 := Lib.hid hp4
  clear ho4 hf4 h34 hp4 HO3 HS3 HP3 HZ3
  go_wp2_with (refine load_ptr rfl (.tmp 17) rfl rfl HA4.out HW.out.root ?_)
  refine (HRt.out _).mono ?_
  rintro e w5 ⟨a5, c5, rfl, ho5, hb5⟩
  have hp5 := HP4.out.bel hb5
  have hown5 := hp5.own
  rw [show (markB ++ putB u.txg 8 ++ putB u.size 4).length = 16 by rw [List.length_append, List.length_append, putB_length, putB_length]; rfl] at hown5
  have HS5 := Lib.hid (Sl.own ho5)
  have HO5 := Lib.hid hown5
  have HP5 := Lib.hid hp5
  have HZ5 := Lib.hid hp5.size
  clear ho5 hb5 hown5 hp5 HA4
  go_wp2_with (at_builtin; refine append_u8 rfl (.tmp 16) (.tmp 19) rfl HO5.out HS5.out rfl rfl (by omega) HZ5.out ?_)
  intro a6 c6 w6 ho6 hf6 h36
  have hp6 := HP5.out.app (n := 16 + 44) (zs := ptrB u.root) (by have := ubH_length HW.out; unfold ubH at this; rw [this]) ho6 hf6
  have hown6 := hp6.own
  have hl6 := ubH_length HW.out
  unfold ubH at hl6
  rw [hl6] at hown6
  obtain ⟨hd, hhd⟩ : ∃ hd, hd = ubH u := ⟨_, rfl⟩
  unfold ubH at hhd
  rw [← hhd] at hown6
  have HHd := Lib.hid (show ubB u = hd ++ zB 420 by rw [hhd]; rfl)
  have HO6 := Lib.hid hown6
  have HB6 := Lib.hid hp6.below
  have HZ6 := Lib.hid hp6.size
  clear ho6 hf6 h36 hp6 hown6 hl6 hhd HO5 HS5 HP5 HZ5
  go_wp2_with (at_builtin; refine append_zeros_zB (k := 420) rfl (.tmp 21) (.tmp 24) rfl HO6.out rfl rfl (by omega) HZ6.out ?_)
  intro v7 w7 ho7 hf7
  have HO7 := Lib.hid (show w7.ownsRow w.heap.size 5 1 v7 480 ((ubB u).map Bv) by rw [HHd.out, List.map_append]; exact ho7.base (Nat.le_succ _))
  have HB7 := Lib.hid (HB6.out.trans (hf7.below HB6.out.size (fun k hk => by have := (HO6.out.lt k hk).1; omega)))
  clear ho7 hf7
  go_wp2
  go_ret
  exact ⟨_, rfl, HO7.out, HB7.out⟩

set_option maxRecDepth 100000 in
set_option maxHeartbeats 4000000 in
theorem refUbPut_any (vk : Value) (key : List UInt8) (u : Ub) (w : World) (hk : Sl w 1 vk key.length (key.map Bv)) (hr : key.length ≤ 1000000) (hu : u.Wf) :
    Calls Tryz.prog 20 #[vk, .agg u.arr] w (PutUPost key u w) := by
  obtain ⟨n, hn⟩ : ∃ n, n = key.length := ⟨_, rfl⟩
  have HMac := Lib.hid (fun v w' (hb : Below w.heap.size w w') (h : Sl w' 1 v 480 ((ubB u).map Bv)) => mac03_any vk v key (ubB u) w' (hk.below hb) (by rw [ubB_length hu]; exact h) hr (by rw [ubB_length hu]; decide))
  obtain ⟨ak, ck, rfl⟩ := shape_of hk
  rw [← hn] at HMac ⊢
  have HPl := Lib.hid (fun w => refPlain_any u w hu)
  have HCk := Lib.hid (fun w => refUbCheck_any u w hu)
  have HAt := Lib.hid (fun w' (hb : Below w.heap.size w w') (h : w'.heap[w.heap.size]? = some (.cells u.arr 32 (0, 0))) => (At.of_row h : At w' w.heap.size 0 u.cells))
  have HU := Lib.hid hu
  have h0 := heap_alloc_new w (.cells u.arr 32)
  have hb0 : Below w.heap.size w (w.alloc (.cells u.arr 32)) := (Below.refl _ w).alloc (Nat.le_refl _) _
  have HA0 := Lib.hid (HAt.out _ hb0 h0)
  have HG0 := Lib.hid h0
  have HB0 := Lib.hid hb0
  clear hk hr hn h0 hb0 hu
  obtain ⟨mv, hmv⟩ : ∃ mv, mv = macN key (ubB u) := ⟨_, rfl⟩
  have HMl := Lib.hid (show mv.length = 32 by rw [hmv]; exact macN_length _ _)
  rw [← hmv] at HMac
  have HMv := Lib.hid hmv
  clear hmv
  rcases ubE_or u with hc | hc
  · rw [hc] at HCk
    have HC := Lib.hid hc
    clear hc
    go_enter Tryz.func20, Tryz.ntmps20
    go_wp2_with (refine load_ub rfl (.tmp 3) rfl rfl HA0.out HU.out ?_)
    refine (HCk.out _).mono ?_
    rintro e w1 ⟨rfl, hb1⟩
    have HB1 := Lib.hid (HB0.out.trans (hb1.mono HB0.out.size))
    have HG1 := Lib.hid ((hb1.block _ (lt_of_block HG0.out)).trans HG0.out)
    have HA1 := Lib.hid (HAt.out _ HB1.out HG1.out)
    clear hb1
    go_wp2_with (refine load_ub rfl (.tmp 3) rfl rfl HA1.out HU.out ?_)
    refine (HPl.out _).mono ?_
    rintro e w2 ⟨v2, rfl, ho2, hb2⟩
    obtain ⟨a2, c2, rfl⟩ := shape_of (Sl.own ho2)
    have HB2 := Lib.hid (HB1.out.trans (hb2.mono HB1.out.size))
    have HO2 := Lib.hid ho2
    have HZ2 := Lib.hid (show w1.heap.size ≤ w2.heap.size from hb2.size)
    clear ho2 hb2
    go_wp2_with fail
    refine (HMac.out _ _ HB2.out (Sl.own HO2.out)).mono ?_
    rintro e w3 ⟨rfl, hb3⟩
    have HB3 := Lib.hid (HB2.out.trans (hb3.mono HB2.out.size))
    have HO3 := Lib.hid (HO2.out.fr (Fr.of_below (S := fun _ => False) hb3) (fun _ _ => id))
    have HZ3 := Lib.hid (Nat.le_trans HZ2.out hb3.size)
    clear hb3
    go_wp2_with (refine store_hash rfl (.tmp 8) (.tmp 18) rfl rfl rfl (heap_alloc_new _ _) rfl HMl.out ?_)
    intro w4 hg4 hf4
    have hbel4 : Below w3.heap.size w3 w4 := ((Below.refl _ w3).alloc (Nat.le_refl _) _).trans (hf4.below (by simp) (fun j hj => by omega))
    have HB4 := Lib.hid (HB3.out.trans (hbel4.mono HB3.out.size))
    have HO4 := Lib.hid (HO3.out.fr (Fr.of_below (S := fun _ => False) hbel4) (fun _ _ => id))
    have HS4 := Lib.hid (show Sl w4 1 (.slice (some ⟨w3.heap.size, 0, none⟩) 32 32) 32 (mv.map Bv) from sl_row' hg4 rfl (by simp [HMl.out]))
    have HZ4 := Lib.hid (Nat.le_trans HZ3.out hbel4.size)
    clear hg4 hf4 hbel4
    go_wp2_with (at_builtin; refine append_u8 rfl (.tmp 19) (.tmp 20) rfl HO4.out HS4.out rfl rfl (by omega) HZ4.out ?_)
    intro a5 c5 w5 ho5 hf5 h35
    have HO5 := Lib.hid (Sl.own ho5)
    have HB5 := Lib.hid (HB4.out.trans (hf5.below HB4.out.size (fun k hk => by have := (HO4.out.lt k hk).1; have := HB1.out.size; omega)))
    clear ho5 hf5 h35
    have HP := Lib.hid (show putU key u = ubB u ++ mv by unfold putU; rw [if_pos HC.out, HMv.out]; rfl)
    have HPL := Lib.hid (show (putU key u).length = 512 by rw [HP.out, List.length_append, ubB_length HU.out, HMl.out])
    go_wp2
    go_ret2
    exact ⟨a5, 512, c5, by rw [HC.out]; rfl, HPL.out.symm, by rw [HP.out, List.map_append]; exact HO5.out, HB5.out⟩
  · rw [hc] at HCk
    have HP := Lib.hid (show putU key u = [] by unfold putU; rw [if_neg (by rw [hc]; decide)])
    have HC := Lib.hid hc
    clear hc
    go_enter Tryz.func20, Tryz.ntmps20
    go_wp2_with (refine load_ub rfl (.tmp 3) rfl rfl HA0.out HU.out ?_)
    refine (HCk.out _).mono ?_
    rintro e w1 ⟨rfl, hb1⟩
    have HB1 := Lib.hid (HB0.out.trans (hb1.mono HB0.out.size))
    clear hb1
    go_wp2
    go_ret2
    exact ⟨none, 0, 0, by rw [HC.out]; rfl, by rw [HP.out]; rfl, by rw [HP.out]; exact Sl.nil _ _, HB1.out⟩
end Go.Proofs.YtdmjnopjnaoepaaGreatDoor
namespace Go.Proofs.YtdmjnopjnaoepaaGreatDoor

theorem putB_last (x n : Nat) : putB x (n + 1) = putB (x / 256) n ++ [UInt8.ofNat x] := by
  apply List.ext_getElem?
  intro j
  simp only [putB, List.getElem?_map, List.getElem?_append, List.length_map, List.length_range]
  by_cases h : j < n
  · simp only [h, if_true, List.getElem?_range, show j < n + 1 by omega, Option.map_some]
    congr 2
    rw [show n + 1 - 1 - j = (n - 1 - j) + 1 by omega, Nat.pow_succ, Nat.mul_comm, Nat.div_div_eq_div_mul]
  · by_cases h2 : j = n
    · subst h2; simp
    · simp [h, show ¬ j < n + 1 by omega, show j - n ≠ 0 by omega]
theorem putB_of_getB : ∀ (n : Nat) (l : List UInt8), l.length = n → putB (getB l) n = l
  | 0, l, h => by
    have : l = [] := List.eq_nil_of_length_eq_zero h
    subst this; rfl
  | n + 1, l, h => by
    have hne : l ≠ [] := by intro e; subst e; simp at h
    have e := List.dropLast_concat_getLast hne
    have hl : l.dropLast.length = n := by rw [List.length_dropLast, h]; rfl
    have ih := putB_of_getB n l.dropLast hl
    have hg : getB l = getB l.dropLast * 256 + (l.getLast hne).toNat := by
      conv => lhs; rw [← e]
      rw [getB_append]
      simp [getB]
    have hc := (l.getLast hne).toNat_lt
    rw [putB_last, hg, show (getB l.dropLast * 256 + (l.getLast hne).toNat) / 256 = getB l.dropLast by omega, ih]
    conv => rhs; rw [← e]
    congr 2
    apply UInt8.toNat_inj.1
    rw [UInt8.toNat_ofNat']
    have e3 : (2 : Nat) ^ 8 = 256 := rfl
    rw [e3]; omega
theorem cut3 (l : List UInt8) (i j : Nat) : (l.drop i).take j ++ l.drop (i + j) = l.drop i := by
  conv => rhs; rw [← List.take_append_drop j (l.drop i)]
  rw [List.drop_drop]
/-- What a pointer's bytes tell, put. -/
theorem ptrB_ptrOf (l : List UInt8) (h : 44 ≤ l.length) : ptrB (ptrOf l).1 = l.take 44 := by
  unfold ptrOf
  rw [if_neg (by omega)]
  unfold ptrB
  rw [putB_of_getB 4 _ (by rw [List.length_take]; omega), putB_of_getB 8 _ (by rw [List.length_take, List.length_drop]; omega)]
  have e1 : l.take 44 = l.take 4 ++ ((l.drop 4).take 8 ++ (l.drop 12).take 32) := by
    apply List.append_cancel_right (bs := l.drop 44)
    rw [List.take_append_drop, List.append_assoc, List.append_assoc, cut3 l 12 32, cut3 l 4 8, List.take_append_drop]
  rw [e1, List.append_assoc]
/-- .. looks at 44 bytes alone. -/
theorem ptrOf_take (l : List UInt8) (n : Nat) (hn : 44 ≤ n) (h : 44 ≤ l.length) : (ptrOf (l.take n)).1 = (ptrOf l).1 := by
  unfold ptrOf
  rw [if_neg (by rw [List.length_take]; omega), if_neg (by omega)]
  simp only [List.take_take, List.drop_take]
  congr 2 <;> (try congr 2) <;> omega
theorem endE_zeros (l : List UInt8) : endE l = 0 ↔ l = List.replicate l.length 0 := by
  constructor
  · intro h
    have h0 : ∀ y ∈ l, y = 0 := by
      unfold endE at h
      split at h
      · rename_i ha; simpa using ha
      · cases h
    exact List.eq_replicate_iff.2 ⟨rfl, h0⟩
  · intro h
    exact endE_zero (fun y hy => by rw [h] at hy; exact (List.mem_replicate.1 hy).2)
theorem ubB_toldU (hd : List UInt8) (h : hd.length = 480) (hm : hd.take 4 = markB) (hz : endE (hd.drop 60) = 0) : ubB (toldU hd) = hd := by
  rw [ubB_eq]
  unfold toldU
  simp only
  rw [putB_of_getB 8 _ (by rw [List.length_take, List.length_drop]; omega), putB_of_getB 4 _ (by rw [List.length_take, List.length_drop]; omega), ptrB_ptrOf _ (by rw [List.length_drop]; omega), ← hm]
  have hz' := (endE_zeros _).1 hz
  rw [List.length_drop, h] at hz'
  rw [show List.replicate 420 (0 : UInt8) = hd.drop 60 from hz'.symm, cut3 hd 16 44, cut3 hd 12 4, cut3 hd 4 8, List.take_append_drop]
theorem okU_iff (hd : List UInt8) (h : hd.length = 480) : okU hd = true ↔ ubE (toldU hd) = 0 ∧ ubB (toldU hd) = hd := by
  constructor
  · intro ho
    unfold okU at ho
    simp only [Bool.and_eq_true, decide_eq_true_eq] at ho
    exact ⟨ubE_ok ho.2, ubB_toldU hd h ho.1.1 ho.1.2⟩
  · rintro ⟨h1, h2⟩
    have := okU_ubB (toldU_wf hd) h1
    rwa [h2] at this
/-- The code being right, what is told is put as the bytes are just if they may be. -/
theorem okU_put (key xs : List UInt8) (hl : xs.length = 512) (hm : macN key (xs.take 480) = xs.drop 480) :
    okU (xs.take 480) = true ↔ ubE (toldU (xs.take 480)) = 0 ∧ putU key (toldU (xs.take 480)) = xs := by
  have h480 : (xs.take 480).length = 480 := by rw [List.length_take, hl]; rfl
  rw [okU_iff _ h480]
  constructor
  · rintro ⟨h1, h2⟩
    refine ⟨h1, ?_⟩
    unfold putU
    rw [if_pos h1]
    unfold ubS
    rw [h2, hm, List.take_append_drop]
  · rintro ⟨h1, h2⟩
    refine ⟨h1, ?_⟩
    unfold putU at h2
    rw [if_pos h1] at h2
    have := ubS_take key (toldU_wf (xs.take 480))
    rw [h2] at this
    exact this.symm
theorem told_512 (xs : List UInt8) (hl : xs.length = 512) : toldU (xs.take 480) = ⟨getB ((xs.drop 4).take 8), getB ((xs.drop 12).take 4), (ptrOf (xs.drop 16)).1⟩ := by
  unfold toldU
  rw [List.drop_take, List.drop_take, List.drop_take, List.take_take, List.take_take, ptrOf_take _ _ (by decide) (by rw [List.length_drop, hl]; decide)]
  rfl
end Go.Proofs.YtdmjnopjnaoepaaGreatDoor
