/- Walk: banyanlaw07's CodecReads. -/
import Derived.Test.YtdhlcofjpkbgaaaDoorLaw07G
import Derived.Test.YtdhlcofjpkbgaaaDoorLaw07C
import Derived.Test.YtdhlcofjpkbgaaaDoorRegion
namespace Go.Proofs.YtdhlcofjpkbgaaaDoor
open Go.RowKit

theorem Sl_block_lt {w : World} {v : Value} {n : Nat} {xs : List UInt8} (h : Sl w 1 v n (xs.map Bv)) (hx : xs ≠ []) : ∀ k, v.ownBlock = some k → k < w.heap.size := by
  obtain ⟨_, a, c, rfl, _, _, h4⟩ := h
  obtain ⟨x, l, rfl⟩ : ∃ x l, xs = x :: l := by cases xs with | nil => exact absurd rfl hx | cons x l => exact ⟨x, l, rfl⟩
  obtain ⟨b', o', rfl, hc⟩ := h4 0 (Bv x) rfl
  intro k hk
  simp only [Value.ownBlock, Option.some.injEq] at hk
  subst hk
  exact World.block_lt_of_cell? w _ hc
theorem Sl_fr_own {w w' : World} {v : Value} {n : Nat} {xs : List UInt8} {S : Nat → Prop} (h : Sl w 1 v n (xs.map Bv)) (hf : Fr S w w') (hs : xs ≠ [] → ∀ k, v.ownBlock = some k → ¬ S k) : Sl w' 1 v n (xs.map Bv) := by
  cases xs with
  | nil => exact h.cells (fun p u hu => by simp at hu)
  | cons x l =>
    refine h.fr hf ?_
    rintro a m c rfl
    exact hs (by simp) _ rfl

/-- Read, and where its bytes lie. -/
theorem read_own (v : Value) (xs : List UInt8) (w : World) (h : Sl w 1 v xs.length (xs.map Bv)) (hr : xs.length ≤ 140737488351232) :
    Calls Tryd.prog 19 #[v] w fun e w' => ∃ b ob, w.heap.size ≤ b ∧ (∀ k, ob = some k → w.heap.size ≤ k) ∧ e = .returned (.pointer (some ⟨b, 0, none⟩)) ∧ RdO w' b ob xs ∧ Below w.heap.size w w' := by
  have HH := Lib.hid h
  clear h
  go_enter Tryd.func19, Tryd.ntmps19
  go_wp2_with fail
  refine (clone_any v xs xs.length w HH.out hr).mono ?_
  rintro e w1 ⟨aa, cc, rfl, hown, hb⟩
  have HO := Lib.hid hown
  have HB := Lib.hid hb
  have hs := hb.size
  clear hown hb
  go_wp2
  go_ret
  refine ⟨w1.heap.size, _, hs, fun k hk => (HO.out.lt k hk).1, rfl, ⟨_, heap_alloc_new _ _, ?_, rfl⟩, HB.out.alloc hs _⟩
  exact (Sl.own HO.out).below ((Below.refl _ _).alloc (Nat.le_refl _) _)

/-- Cells that are bytes. -/
def AllU8 (cs : List Value) : Prop := ∀ i, i < cs.length → ∃ m : Int, cs[i]? = some (.int .u8 m)
theorem AllU8.map (xs : List UInt8) : AllU8 (xs.map Bv) := fun i hi => ⟨_, by rw [List.getElem?_map, List.getElem?_eq_getElem (by simpa using hi)]; rfl⟩
theorem AllU8.set {cs : List Value} (h : AllU8 cs) (j : Nat) (m : Int) : AllU8 (cs.set j (.int .u8 m)) := by
  intro i hi
  rw [List.length_set] at hi
  rw [List.getElem?_set]
  split
  · split
    · exact ⟨m, rfl⟩
    · omega
  · exact h i hi
def OwnS (v : Value) (k : Nat) : Prop := v.ownBlock = some k

set_option maxHeartbeats 1000000 in
theorem codecReads_long (v v1 : Value) (xs : List UInt8) (n1 : Nat) (a1 : Option Addr) (c1 : Nat) (w : World) (h : Sl w 1 v xs.length (xs.map Bv)) (hv1 : v1 = .slice a1 n1 c1) (hl : 3000 < xs.length ∨ 200 < n1) (hm : xs.length ≤ 140737488351232) :
    Calls Tryd.prog 5 #[v, v1] w fun e w' => e = .returned (.bool true) ∧ Below w.heap.size w w' := by
  obtain ⟨a, cap, rfl, _⟩ := h.len
  subst hv1
  clear h
  by_cases h1 : (3000 : Int) < (xs.length : Int)
  · clear hl
    go_enter Tryd.func5, Tryd.ntmps5
    go_wp2_with fail
    refine (alive07 _).mono ?_
    rintro e w0 ⟨rfl, hb0⟩
    have HB0 := Lib.hid hb0
    clear hb0
    go_wp2
    go_ret
    exact ⟨rfl, HB0.out⟩
  · have h2 : (200 : Int) < (n1 : Int) := by omega
    clear hl
    go_enter Tryd.func5, Tryd.ntmps5
    go_wp2_with fail
    refine (alive07 _).mono ?_
    rintro e w0 ⟨rfl, hb0⟩
    have HB0 := Lib.hid hb0
    clear hb0
    go_wp2
    go_ret
    exact ⟨rfl, HB0.out⟩

set_option maxHeartbeats 4000000 in
set_option maxRecDepth 100000 in
theorem codecReads_any (v v1 : Value) (xs : List UInt8) (acs : List Ac) (w : World) (h : Sl w 1 v xs.length (xs.map Bv)) (hA : ActsIn w v1 acs) (hl : xs.length ≤ 3000) (hl2 : acs.length ≤ 200) :
    Calls Tryd.prog 5 #[v, v1] w fun e w' => e = .returned (.bool true) ∧ Below w.heap.size w w' := by
  have hlt := Sl_block_lt h
  have hbl := fun (w' : World) (hb : Below w.heap.size w w') => (h.below hb : Sl w' 1 v xs.length (xs.map Bv))
  have hbA := fun (w' : World) (hb : Below w.heap.size w w') => (hA.below hb : ActsIn w' v1 acs)
  obtain ⟨a, cap, rfl, _⟩ := h.len
  obtain ⟨a1, cap1, rfl, -⟩ := hA
  have HH := Lib.hid hbl
  have HA := Lib.hid hbA
  have HLT := Lib.hid hlt
  have b1 : ¬ (3000 : Int) < (xs.length : Int) := by omega
  have b2 : ¬ (200 : Int) < (acs.length : Int) := by omega
  clear h hbl hbA hlt
  go_enter Tryd.func5, Tryd.ntmps5
  go_wp2_with fail
  refine (alive07 _).mono ?_
  rintro e w0 ⟨rfl, hb0⟩
  have hs0 := hb0.size
  have HB0 := Lib.hid hb0
  have HOe := Lib.hid (own_empty w0)
  have HHe := Lib.hid (HH.out _ (hb0.trans ((Below.refl _ w0).alloc hs0 (.cells #[] 5))))
  clear hb0
  go_wp2_with (at_builtin; refine append_u8 rfl (.tmp 21) (.tmp 22) rfl HOe.out HHe.out rfl rfl (by omega) (by simp) ?_)
  intro aa cc w1 hown hg h3
  have hb1 : Below w.heap.size w w1 := (HB0.out.trans ((Below.refl _ w0).alloc hs0 (.cells #[] 5))).trans (hg.below (by simp; omega) (fun k hk => by simp [Value.ownBlock] at hk; omega))
  have hs1 := hb1.size
  have HB1 := Lib.hid hb1
  have HO1 := Lib.hid hown
  clear hb1 hown hg h3
  go_wp2_with fail
  refine (read_own _ xs _ (Sl.own HO1.out) (by omega)).mono ?_
  rintro e w2 ⟨br, obr, hbr, hobr, rfl, hrd, hb2⟩
  have hs2 := hb2.size
  have HB2 := Lib.hid (HB1.out.trans (hb2.mono hs1))
  have HO2 := Lib.hid (HO1.out.fr (Fr.of_below (S := fun _ => False) hb2) (fun _ _ => id))
  have HRD2 := Lib.hid hrd
  have HOBR := Lib.hid hobr
  have HV2 := Lib.hid (HH.out _ (HB2.out.trans ((Below.refl _ w2).alloc (by have := HB2.out.size; omega) (.cells #[.slice a xs.length cap] 43))))
  have HG2 := Lib.hid (fun k (hk : (Value.slice aa xs.length cc).ownBlock = some k) => (HO1.out.lt k hk))
  clear hb2 hrd hobr
  go_wp2_with fail
  have hRf3 : RfO (w2.alloc (.cells #[.slice a xs.length cap] 43)) w2.heap.size (Value.slice a xs.length cap).ownBlock xs := ⟨_, heap_alloc_new _ _, HV2.out, rfl⟩
  have hb3 : Below w2.heap.size w2 (w2.alloc (.cells #[.slice a xs.length cap] 43)) := (Below.refl _ w2).alloc (Nat.le_refl _) _
  have HRF3 := Lib.hid hRf3
  have HRD3 := Lib.hid (HRD2.out.fr (Fr.of_below (S := fun _ => False) hb3) id (fun _ _ => id))
  have HO3 := Lib.hid (HO2.out.fr (Fr.of_below (S := fun _ => False) hb3) (fun _ _ => id))
  have HB3 := Lib.hid (HB2.out.trans (hb3.mono HB2.out.size))
  have hs3 : (w2.alloc (.cells #[.slice a xs.length cap] 43)).heap.size = w2.heap.size + 1 := by simp
  obtain ⟨w3, hw3⟩ : ∃ w3, w3 = w2.alloc (.cells #[.slice a xs.length cap] 43) := ⟨_, rfl⟩
  rw [← hw3] at HRF3 HRD3 HO3 HB3 hs3 ⊢
  clear hRf3 hb3 hw3
  go_loopw [31, 8] (fun i u wr => ∃ k : Nat, k ≤ xs.length ∧ i = .int .i64 k ∧ ∃ cs, AllU8 cs ∧ wr.ownsRow w0.heap.size 5 1 (.slice aa xs.length cc) xs.length cs ∧ Fr (OwnS (.slice aa xs.length cc)) w3 wr) (fun i _ _ => xs.length - (intOf i).toNat)
  case atStart => exact ⟨0, Nat.zero_le _, rfl, _, AllU8.map xs, HO3.out, Fr.refl _ _⟩
  case round =>
    obtain ⟨k, hk, rfl, cs, hcs, hown, hfr⟩ := hrel
    rcases Nat.lt_or_ge k xs.length with hlt | hge
    · obtain ⟨g, rfl⟩ : ∃ g, aa = some ⟨g, 0, none⟩ := by
        rcases hown.2 with ⟨h0, h1⟩ | ⟨g, cp, cu, h0, _⟩
        · simp only [Value.slice.injEq] at h0; omega
        · simp only [Value.slice.injEq] at h0; exact ⟨g, h0.1⟩
      have hlen : cs.length = xs.length := by have := hown.1; omega
      obtain ⟨m, hm⟩ := hcs k (by omega)
      have hc : wr.cell? ⟨g, k, none⟩ = some (.int .u8 m) := by rw [hown.cellAt k (by omega)]; exact hm
      have hf := hown.frozenAt k
      have HOW := Lib.hid hown
      have HFR := Lib.hid hfr
      have HCS := Lib.hid hcs
      clear hown hfr hcs hm hlen
      go_wp2
      go_roundw
      case rel =>
        refine ⟨k + 1, by omega, by go_num, _, HCS.out.set k _, (HOW.out.stored k _).1, HFR.out.set _ _ rfl _⟩
      case measure => simp [intOf]; omega
    · obtain rfl : k = xs.length := by omega
      have hgs : ∀ j, OwnS (.slice aa xs.length cc) j → w0.heap.size ≤ j ∧ j < w1.heap.size := fun j hj => HG2.out j hj
      have hsz := hfr.size
      have hR0 : RdO wr br obr xs := HRD3.out.fr hfr (fun e => by have := hgs _ e; omega) (fun j hj e => by have := hgs _ e; have := HOBR.out j hj; omega)
      have hF0 : Rf wr w2.heap.size xs := by
        obtain ⟨v0, h1, h2, h3⟩ := HRF3.out
        refine ⟨v0, (hfr.block _ (by omega) (fun e => by have := hgs _ e; omega)).trans h1, Sl_fr_own h2 hfr (fun hx j hj e => ?_)⟩
        have h4 := HLT.out hx j (by rw [← h3]; exact hj)
        have := hgs _ e
        omega
      have hB0 : Below w.heap.size w wr := HB3.out.trans (hfr.below (by omega) (fun j hj => by have := hgs _ hj; omega))
      have HR0 := Lib.hid hR0.rd
      have HF0 := Lib.hid hF0
      have HBw := Lib.hid hB0
      have hbrs : br ≠ w2.heap.size := by
        have := HRD2.out.rd.lt
        omega
      clear hcs hown hfr hgs hR0 hF0 hB0
      go_wp2_with fail
      go_loopw [43, 10] (fun i u wz => ∃ k : Nat, k ≤ acs.length ∧ i = .int .i64 k ∧ ∃ ys : List UInt8, ys.length ≤ xs.length ∧ Rd wz br ys ∧ Rf wz w2.heap.size ys ∧ Below w.heap.size w wz) (fun i _ _ => acs.length - (intOf i).toNat)
      case atStart => exact ⟨0, Nat.zero_le _, rfl, xs, Nat.le_refl _, HR0.out, HF0.out, HBw.out⟩
      case round =>
        obtain ⟨k, hk, rfl, ys, hyl, hRz, hFz, hBz⟩ := hrel
        rcases Nat.lt_or_ge k acs.length with hlt | hge
        · obtain ⟨a', cap', e', hel⟩ := HA.out _ hBz
          simp only [Value.slice.injEq, true_and] at e'
          obtain ⟨rfl, rfl⟩ := e'
          obtain ⟨b, o, arr, rfl, hat, hac⟩ := hel k hlt
          have hac2 := hac.fr (w' := (wr.alloc (.cells arr 48)).drew) (fun v hv => hv.below (((Below.refl _ wr).alloc (Nat.le_refl _) _).drew))
          have HAT := Lib.hid hat
          have HS := Lib.hid hac.size
          have HON := Lib.hid hac.one
          have HAC := Lib.hid hac
          have HRz := Lib.hid hRz
          have HFz := Lib.hid hFz
          have HBz := Lib.hid hBz
          clear hel hat hac hac2 hRz hFz hBz
          go_wp2_with (first | (refine load_act rfl (.tmp 45) rfl rfl HAT.out HS.out ?_) | (refine store_act rfl (.tmp 10) (.tmp 46) rfl rfl rfl (heap_alloc_new _ _) rfl HS.out HON.out ?_))
          intro w4 hb4 hf4 hs4
          have hbel4 : Below wr.heap.size wr w4 := ((Below.refl _ wr).alloc (Nat.le_refl _) _).trans (hf4.below (by simp) (fun k hk => by omega))
          have HR4 := Lib.hid ((HRz.out.below hbel4).below ((Below.refl _ w4).drew))
          have HF4 := Lib.hid ((HFz.out.below hbel4).below ((Below.refl _ w4).drew))
          have HC4 := Lib.hid (HAC.out.fr (fun v hv => (hv.below hbel4).below ((Below.refl _ w4).drew)))
          have HB4 := Lib.hid ((HBz.out.trans (hbel4.mono HBz.out.size)).drew)
          have HG4 := Lib.hid ((At.of_row (cs := arr.toList) (by simpa using hb4) : At w4 wr.heap.size 0 arr.toList).fr (Fr.of_below (S := fun _ => False) ((Below.refl _ w4).drew)) id)
          clear hbel4 hb4 hf4 hs4
          go_wp2_with fail
          refine wp_region_any (by kernel_rfl) ?_
          change wpAny _ _ _ _ _ _ _ (World.drew _)
          refine wpAny_take (i := 0) (v := .pointer (some ⟨br, 0, none⟩)) rfl (by kernel_rfl) (by kernel_rfl) (by kernel_rfl) (fun _ _ _ h => h) (Or.inl ⟨by rfl, fun w => BigFrame.run_move (.tmp 6) rfl w⟩) ?_
          refine wpAny_take (i := 1) (v := .pointer (some ⟨w2.heap.size, 0, none⟩)) rfl (by kernel_rfl) (by kernel_rfl) (by kernel_rfl) (fun _ _ _ h => h) (Or.inl ⟨by rfl, fun w => BigFrame.run_move (.tmp 7) rfl w⟩) ?_
          refine wpAny_forced 2 (by kernel_rfl) rfl rfl (fun K hK => ?_)
          refine wp_load_at 48 (.tmp 10) rfl wr.heap.size 0 rfl arr.toList _ HG4.out Tryd.underlying48 rfl (by rw [info_act]; simp [HS.out]) ?_
          refine hK _ _ ?_
          clear hK K
          refine wpAny_forced 3 (by kernel_rfl) rfl rfl (fun K hK => ?_)
          unfold Oper.wp execOp
          go_simp
          refine (read_law br w2.heap.size ys arr acs[k] w4.drew HR4.out HF4.out hbrs HC4.out (by omega)).mono ?_
          rintro e w5 ⟨rfl, ys', hyl', hR5, hF5, hfr5⟩
          obtain ⟨a5, c5, hc5, -, -, hs5⟩ := rf_pre hF5
          have hq5 : ∀ n, Calls Tryd.prog 22 #[.pointer (some ⟨br, 0, none⟩)] (w5.drewN n) fun e w'' => e = .returned (.int .i64 (ys'.length : Int)) ∧ ∃ m, w'' = w5.drewN m := fun n => by
            obtain ⟨v5, g1, g2⟩ := hR5
            exact (rLeft_any br ys' (w5.drewN n) ⟨v5, g1, g2.fr (Fr_drewN (fun _ => False) w5 n) (fun _ _ _ _ => id)⟩).mono (fun e w'' ⟨he, hw⟩ => ⟨he, n, hw.symm⟩)
          have HR5 := Lib.hid hR5
          have HF5 := Lib.hid hF5
          have HFR5 := Lib.hid hfr5
          have HQ5 := Lib.hid hq5
          clear hR5 hF5 hfr5 hs5 hq5
          refine hK _ _ ?_
          clear hK K
          refine wpAny_tail 4 rfl (by kernel_rfl) (by kernel_rfl) ?_
          simp only [List.drop_succ_cons, List.drop_zero]
          repeat (go_big_quiet_step (exact HQ5.out _))
          refine wpQuiet_nil ?_
          rintro _ ⟨nq, rfl⟩
          have hR6 : Rd (w5.drewN nq) br ys' := by
            obtain ⟨v5, g1, g2⟩ := HR5.out
            exact ⟨v5, g1, g2.fr (Fr_drewN (fun _ => False) w5 nq) (fun _ _ _ _ => id)⟩
          have hF6 : Rf (w5.drewN nq) w2.heap.size ys' := by
            obtain ⟨v5, g1, g2⟩ := HF5.out
            exact ⟨v5, g1, g2.fr (Fr_drewN (fun _ => False) w5 nq) (fun _ _ _ _ => id)⟩
          have hB6 : Below w.heap.size w (w5.drewN nq) := HB4.out.trans ((HFR5.out.trans (Fr_drewN _ w5 nq)).below HB4.out.size (fun j hj => by rcases hj with rfl | rfl <;> omega))
          have HR6 := Lib.hid hR6
          have HF6 := Lib.hid hF6
          have HB6 := Lib.hid hB6
          clear hR6 hF6 hB6
          go_wp2
          go_roundw
          case rel => exact ⟨k + 1, by omega, by go_num, ys', by omega, HR6.out, HF6.out, HB6.out⟩
          case measure => simp [intOf]; omega
        · obtain rfl : k = acs.length := by omega
          have HBl := Lib.hid hBz
          clear hRz hFz hBz
          go_wp2
          go_ret
          exact ⟨rfl, HBl.out⟩

end Go.Proofs.YtdhlcofjpkbgaaaDoor
