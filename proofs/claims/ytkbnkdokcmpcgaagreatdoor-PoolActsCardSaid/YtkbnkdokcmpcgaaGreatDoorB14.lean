/- Walks: node's form, Size, Check. Walks: node's Size, Check. Walks: codec.Writer's Hash, Raw, Pad; the reference's Str and Put. What an act is, and what laying one gives; the walk of laying one into a Writer. Walk: banyanlaw07's alive. Walks: node's Check; cmp.Or of noughts; ptr.Put. -/
import Derived.Test.YtkbnkdokcmpcgaaGreatDoorB0
import Derived.Test.YtkbnkdokcmpcgaaGreatDoorB3
import Derived.Test.YtkbnkdokcmpcgaaGreatDoorB13
namespace Go.Proofs.YtkbnkdokcmpcgaaGreatDoor
open Go.RowKit

def formB (n : Nd) : Bool :=
  keysB n.keys && (if n.leaf then decide (n.vals.length = n.keys.length) && decide (n.kids.length = 0) && !longB n.vals
    else decide (n.vals.length = 0) && decide (0 < n.keys.length) && decide (n.kids.length = n.keys.length + 1) && !badB n.kids)

theorem beq_nat (a b : Nat) : ((a : Int) == (b : Int)) = decide (a = b) := by rw [Bool.eq_iff_iff]; simp only [beq_iff_eq, decide_eq_true_iff]; omega
theorem beq_zero (a : Nat) : ((a : Int) == 0) = decide (a = 0) := beq_nat a 0
theorem beq_succ (a b : Nat) : ((a : Int) == (b : Int) + 1) = decide (a = b + 1) := by rw [Bool.eq_iff_iff]; simp only [beq_iff_eq, decide_eq_true_iff]; omega

structure Nd.Fits (n : Nd) : Prop where
  keys : n.keys.length ≤ 140737488351232
  vals : n.vals.length ≤ 140737488351232
  kids : n.kids.length ≤ 4139337892682
  keyS : ∀ s ∈ n.keys, s.size ≤ 140737488351232
  valS : ∀ s ∈ n.vals, s.size ≤ 140737488351232

theorem NdIs.get {w : World} {arr : Array Value} {n : Nd} (h : NdIs w arr n) : ∃ ak ck av cv ap cp, arr = #[.bool n.leaf, .slice ak n.keys.length ck, .slice av n.vals.length cv, .slice ap n.kids.length cp] ∧
    StrsIn w (.slice ak n.keys.length ck) n.keys ∧ StrsIn w (.slice av n.vals.length cv) n.vals ∧ PtsIn w (.slice ap n.kids.length cp) n.kids := by
  obtain ⟨vk, vv, vp, h0, h1, h2, h3⟩ := h
  obtain ⟨ak, ck, rfl, _⟩ := h1.open
  obtain ⟨av, cv, rfl, _⟩ := h2.open
  obtain ⟨ap, cp, rfl, _⟩ := h3.open
  exact ⟨ak, ck, av, cv, ap, cp, h0, h1, h2, h3⟩

set_option maxHeartbeats 2000000 in
theorem form_any (arr : Array Value) (n : Nd) (w : World) (h : NdIs w arr n) (hf : n.Fits) :
    Calls Tryz.prog 123 #[.agg arr] w fun e w' => e = .returned (.bool (formB n)) ∧ Below w.heap.size w w' := by
  obtain ⟨ak, ck, av, cv, ap, cp, rfl, hk, hv, hp⟩ := h.get
  have hb0 : Below w.heap.size w (w.alloc (.cells #[.bool n.leaf, .slice ak n.keys.length ck, .slice av n.vals.length cv, .slice ap n.kids.length cp] 25)) := (Below.refl _ w).alloc (Nat.le_refl _) _
  have HK := Lib.hid (hk.below hb0)
  have HV := Lib.hid (hv.below hb0)
  have HP := Lib.hid (hp.below hb0)
  have HB := Lib.hid hb0
  have HF := Lib.hid hf
  have b1 := hf.keys
  have b2 := hf.vals
  have b3 := hf.kids
  clear h hk hv hp hb0 hf
  cases hkb : keysB n.keys with
  | false =>
    have HQ := Lib.hid (show formB n = false by unfold formB; rw [hkb]; rfl)
    have HKK := Lib.hid (fun v w h => keys_any v n.keys w h HF.out.keys)
    rw [hkb] at HKK
    clear hkb
    go_enter Tryz.func123, Tryz.ntmps123
    go_wp2_with fail
    refine (HKK.out _ _ HK.out).mono ?_
    rintro e w1 ⟨rfl, rfl⟩
    go_wp2
    go_ret
    exact ⟨by rw [HQ.out]; rfl, HB.out⟩
  | true =>
    have HKK := Lib.hid (fun v w h => keys_any v n.keys w h HF.out.keys)
    rw [hkb] at HKK
    cases hl : n.leaf with
    | true =>
      have hq : formB n = (decide (n.vals.length = n.keys.length) && decide (n.kids.length = 0) && !longB n.vals) := by unfold formB; rw [hkb, hl]; simp
      rw [hl] at HK HV HP HB
      clear hkb hl
      by_cases h1 : n.vals.length = n.keys.length
      · by_cases h2 : n.kids.length = 0
        · rw [decide_eq_true h1, decide_eq_true h2] at hq
          have HQ := Lib.hid hq
          have e1 : ((n.vals.length : Int) == (n.keys.length : Int)) = true := by rw [beq_nat]; first | exact decide_eq_true h1 | exact decide_eq_false h1
          have e2 : ((n.kids.length : Int) == 0) = true := by rw [beq_zero]; exact decide_eq_true h2
          clear h1 h2 hq
          go_enter Tryz.func123, Tryz.ntmps123
          go_wp2_with fail
          refine (HKK.out _ _ HK.out).mono ?_
          rintro e w1 ⟨rfl, rfl⟩
          go_wp2_with fail
          refine (containsLong_any _ _ _ HV.out HF.out.vals).mono ?_
          rintro e w1 ⟨rfl, rfl⟩
          go_wp2
          go_ret
          exact ⟨by rw [HQ.out]; rfl, HB.out⟩
        · rw [decide_eq_true h1, decide_eq_false h2] at hq
          have HQ := Lib.hid hq
          have e1 : ((n.vals.length : Int) == (n.keys.length : Int)) = true := by rw [beq_nat]; first | exact decide_eq_true h1 | exact decide_eq_false h1
          have e2 : ((n.kids.length : Int) == 0) = false := by rw [beq_zero]; exact decide_eq_false h2
          clear h1 h2 hq
          go_enter Tryz.func123, Tryz.ntmps123
          go_wp2_with fail
          refine (HKK.out _ _ HK.out).mono ?_
          rintro e w1 ⟨rfl, rfl⟩
          go_wp2
          go_ret
          exact ⟨by rw [HQ.out]; rfl, HB.out⟩
      · rw [decide_eq_false h1] at hq
        have HQ := Lib.hid hq
        have e1 : ((n.vals.length : Int) == (n.keys.length : Int)) = false := by rw [beq_nat]; first | exact decide_eq_true h1 | exact decide_eq_false h1
        clear h1 hq
        go_enter Tryz.func123, Tryz.ntmps123
        go_wp2_with fail
        refine (HKK.out _ _ HK.out).mono ?_
        rintro e w1 ⟨rfl, rfl⟩
        go_wp2
        go_ret
        exact ⟨by rw [HQ.out]; rfl, HB.out⟩
    | false =>
      have hq : formB n = (decide (n.vals.length = 0) && decide (0 < n.keys.length) && decide (n.kids.length = n.keys.length + 1) && !badB n.kids) := by unfold formB; rw [hkb, hl]; simp
      rw [hl] at HK HV HP HB
      clear hkb hl
      by_cases h1 : n.vals.length = 0
      · by_cases h2 : 0 < n.keys.length
        · by_cases h3 : n.kids.length = n.keys.length + 1
          · rw [decide_eq_true h1, decide_eq_true h2, decide_eq_true h3] at hq
            have HQ := Lib.hid hq
            have e1 : ((n.vals.length : Int) == 0) = true := by rw [beq_zero]; exact decide_eq_true h1
            have e2 : (0 : Int) < (n.keys.length : Int) := by omega
            have e3 : ((n.kids.length : Int) == (n.keys.length : Int) + 1) = true := by rw [beq_succ]; exact decide_eq_true h3
            clear h1 h2 h3 hq
            go_enter Tryz.func123, Tryz.ntmps123
            go_wp2_with fail
            refine (HKK.out _ _ HK.out).mono ?_
            rintro e w1 ⟨rfl, rfl⟩
            go_wp2_with fail
            refine (containsBad_any _ _ _ HP.out (by omega)).mono ?_
            rintro e w2 ⟨rfl, hb⟩
            have HB2 := Lib.hid (HB.out.trans (hb.mono HB.out.size))
            clear hb
            go_wp2
            go_ret
            exact ⟨by rw [HQ.out]; rfl, HB2.out⟩
          · rw [decide_eq_true h1, decide_eq_true h2, decide_eq_false h3] at hq
            have HQ := Lib.hid hq
            have e1 : ((n.vals.length : Int) == 0) = true := by rw [beq_zero]; exact decide_eq_true h1
            have e2 : (0 : Int) < (n.keys.length : Int) := by omega
            have e3 : ((n.kids.length : Int) == (n.keys.length : Int) + 1) = false := by rw [beq_succ]; exact decide_eq_false h3
            clear h1 h2 h3 hq
            go_enter Tryz.func123, Tryz.ntmps123
            go_wp2_with fail
            refine (HKK.out _ _ HK.out).mono ?_
            rintro e w1 ⟨rfl, rfl⟩
            go_wp2
            go_ret
            exact ⟨by rw [HQ.out]; rfl, HB.out⟩
        · rw [decide_eq_true h1, decide_eq_false h2] at hq
          have HQ := Lib.hid hq
          have e1 : ((n.vals.length : Int) == 0) = true := by rw [beq_zero]; exact decide_eq_true h1
          have e2 : ¬ (0 : Int) < (n.keys.length : Int) := by omega
          clear h1 h2 hq
          go_enter Tryz.func123, Tryz.ntmps123
          go_wp2_with fail
          refine (HKK.out _ _ HK.out).mono ?_
          rintro e w1 ⟨rfl, rfl⟩
          go_wp2
          go_ret
          exact ⟨by rw [HQ.out]; rfl, HB.out⟩
      · rw [decide_eq_false h1] at hq
        have HQ := Lib.hid hq
        have e1 : ((n.vals.length : Int) == 0) = false := by rw [beq_zero]; exact decide_eq_false h1
        clear h1 hq
        go_enter Tryz.func123, Tryz.ntmps123
        go_wp2_with fail
        refine (HKK.out _ _ HK.out).mono ?_
        rintro e w1 ⟨rfl, rfl⟩
        go_wp2
        go_ret
        exact ⟨by rw [HQ.out]; rfl, HB.out⟩

end Go.Proofs.YtkbnkdokcmpcgaaGreatDoor
namespace Go.Proofs.YtkbnkdokcmpcgaaGreatDoor
open Go.RowKit

def strsN (l : List ByteArray) : Nat := (l.map (fun s => 1 + s.size)).sum
theorem strsN_step (l : List ByteArray) (k : Nat) (h : k < l.length) : strsN (l.take (k + 1)) = strsN (l.take k) + (1 + l[k].size) := by
  unfold strsN
  rw [List.take_succ_eq_append_getElem h, List.map_append, List.sum_append]; simp
theorem strsN_le (m : Nat) : ∀ (l : List ByteArray), (∀ s ∈ l, s.size ≤ m) → strsN l ≤ (m + 1) * l.length
  | [], _ => by simp [strsN]
  | a :: l, h => by
    have h1 := strsN_le m l (fun s hs => h s (by simp [hs]))
    have h2 := h a (by simp)
    have e : strsN (a :: l) = (1 + a.size) + strsN l := by simp [strsN]
    rw [e, List.length_cons, Nat.mul_succ]; omega
def sizeN (n : Nd) : Nat := 2 + 44 * n.kids.length + strsN n.keys + strsN n.vals
def sizeV (n : Nd) : Int := if formB n then (sizeN n : Int) else 0
def sizeR (n : Nd) : Int := if formB n then 0 else 4
theorem sizeV_ok {n : Nd} (h : formB n = true) : sizeV n = (sizeN n : Int) := by unfold sizeV; rw [if_pos h]
theorem sizeR_ok {n : Nd} (h : formB n = true) : sizeR n = 0 := by unfold sizeR; rw [if_pos h]
theorem sizeV_bad {n : Nd} (h : formB n = false) : sizeV n = 0 := by unfold sizeV; rw [if_neg (by rw [h]; simp)]
theorem sizeR_bad {n : Nd} (h : formB n = false) : sizeR n = 4 := by unfold sizeR; rw [if_neg (by rw [h]; simp)]

theorem keysB_size {l : List ByteArray} (h : keysB l = true) : ∀ s ∈ l, s.size ≤ 32 := by
  intro s hs
  obtain ⟨i, hi, rfl⟩ := List.getElem_of_mem hs
  have h1 := List.all_eq_true.1 h i (by simpa using hi)
  unfold keyAt at h1
  rw [List.getElem?_eq_getElem hi] at h1
  simp only [Bool.and_eq_true, decide_eq_true_iff] at h1
  exact h1.1.2
theorem formB_keys {n : Nd} (h : formB n = true) : keysB n.keys = true := by
  unfold formB at h; simp only [Bool.and_eq_true] at h; exact h.1
theorem formB_vals {n : Nd} (h : formB n = true) : ∀ s ∈ n.vals, s.size ≤ 96 := by
  unfold formB at h
  simp only [Bool.and_eq_true] at h
  have h2 := h.2
  split at h2
  · simp only [Bool.and_eq_true, Bool.not_eq_true', decide_eq_true_iff] at h2
    intro s hs
    have := List.any_eq_false.1 h2.2 s hs
    simp at this; omega
  · simp only [Bool.and_eq_true, decide_eq_true_iff] at h2
    have : n.vals = [] := List.eq_nil_of_length_eq_zero h2.1.1.1
    rw [this]; simp

theorem size_strs : ∃ i, Tryz.prog.info? 22 = some i ∧ i.size = 1 := by
  have h1 : (Tryz.prog.info? 22).map (·.size) = some 1 := by kernel_rfl
  cases hq : Tryz.prog.info? 22 with
  | none => simp [hq] at h1
  | some i => exact ⟨i, rfl, by simpa [hq] using h1⟩
theorem index_two (cs : Array Value) (k : Nat) (x : Value) (h : cs[k]? = some x) (hk : k < 2) (w : World) : (Instr.index 223 (.agg cs) (.int .i64 (k : Int))).run Tryz.prog w = .ok x w := by
  obtain ⟨i, hi, hs⟩ := size_strs
  have hsz : (sizeOf 22).run Tryz.prog w = .ok 1 w := by simp [sizeOf, typeInfo, hi, hs]
  have hpart : (part 22 cs k).run Tryz.prog w = .ok x w := by
    simp [part, isAgg, run_underlying Tryz.underlying22, h]
  unfold Instr.index
  simp only [asIntOf, Sem.run_bind, Sem.run_pure, Result.andThen_ok, run_underlying Tryz.underlying223]
  rw [if_pos (by omega)]
  simp only [Sem.run_bind, hsz, Result.andThen_ok, Nat.mul_one, Int.toNat_natCast, hpart]

set_option maxRecDepth 100000 in
set_option maxHeartbeats 2000000 in
theorem size_any (arr : Array Value) (n : Nd) (w : World) (h : NdIs w arr n) (hf : n.Fits) :
    Calls Tryz.prog 76 #[.agg arr] w fun e w' => e = .returned (.tuple #[.int .i64 (sizeV n), .int .i64 (sizeR n)]) ∧ Below w.heap.size w w' := by
  have HN := Lib.hid h
  obtain ⟨ak, ck, av, cv, ap, cp, rfl, hk, hv, hp⟩ := h.get
  have hb0 : Below w.heap.size w (w.alloc (.cells #[.bool n.leaf, .slice ak n.keys.length ck, .slice av n.vals.length cv, .slice ap n.kids.length cp] 25)) := (Below.refl _ w).alloc (Nat.le_refl _) _
  have HK := Lib.hid hk
  have HV := Lib.hid hv
  have HB := Lib.hid hb0
  have HF := Lib.hid hf
  have b1 := hf.keys
  have b2 := hf.vals
  have b3 := hf.kids
  have HFm := Lib.hid (fun w h => form_any #[.bool n.leaf, .slice ak n.keys.length ck, .slice av n.vals.length cv, .slice ap n.kids.length cp] n w h HF.out)
  have HN0 := Lib.hid (HN.out.below hb0)
  clear h hk hv hp hb0 hf
  cases hfb : formB n with
  | false =>
    have HQ := Lib.hid (And.intro (sizeV_bad hfb) (sizeR_bad hfb))
    rw [hfb] at HFm
    clear hfb
    go_enter Tryz.func76, Tryz.ntmps76
    go_wp2_with fail
    refine (HFm.out _ HN0.out).mono ?_
    rintro e w1 ⟨rfl, hb⟩
    have HB1 := Lib.hid (HB.out.trans (hb.mono HB.out.size))
    clear hb
    go_wp2
    go_ret2
    exact ⟨by rw [HQ.out.1, HQ.out.2]; rfl, HB1.out⟩
  | true =>
    have HQ := Lib.hid (And.intro (sizeV_ok hfb) (sizeR_ok hfb))
    have hks := keysB_size (formB_keys hfb)
    have hvs := formB_vals hfb
    have hkn := strsN_le 32 n.keys hks
    have hvn := strsN_le 96 n.vals hvs
    rw [hfb] at HFm
    have HKS := Lib.hid hks
    have HVS := Lib.hid hvs
    clear hfb hks hvs
    have hkt : ∀ j, strsN (n.keys.take j) ≤ 33 * 140737488351232 := fun j => by
      have h1 := strsN_le 32 (n.keys.take j) (fun s hs => HKS.out s (List.mem_of_mem_take hs))
      have h2 : (n.keys.take j).length ≤ n.keys.length := by simp [List.length_take]; omega
      omega
    have hvt : ∀ j, strsN (n.vals.take j) ≤ 97 * 140737488351232 := fun j => by
      have h1 := strsN_le 96 (n.vals.take j) (fun s hs => HVS.out s (List.mem_of_mem_take hs))
      have h2 : (n.vals.take j).length ≤ n.vals.length := by simp [List.length_take]; omega
      omega
    have HKT := Lib.hid hkt
    have HVT := Lib.hid hvt
    obtain ⟨A0, hA0⟩ : ∃ A0 : Nat, A0 = 2 + 44 * n.kids.length := ⟨_, rfl⟩
    have hA0' : (2 : Int) + 44 * (n.kids.length : Int) = (A0 : Int) := by omega
    have hA0b : A0 ≤ 200000000000000 := by omega
    obtain ⟨A1, hA1⟩ : ∃ A1 : Nat, A1 = A0 + strsN n.keys := ⟨_, rfl⟩
    have hA1b : A1 ≤ 10000000000000000 := by omega
    have HA0 := Lib.hid hA0
    have HA1 := Lib.hid hA1
    have q0 : ∀ w, (Instr.index 223 (.agg #[.slice ak n.keys.length ck, .slice av n.vals.length cv]) (.int .i64 0)).run Tryz.prog w = .ok (.slice ak n.keys.length ck) w := fun w => index_two _ 0 _ rfl (by decide) w
    have q1 : ∀ w, (Instr.index 223 (.agg #[.slice ak n.keys.length ck, .slice av n.vals.length cv]) (.int .i64 1)).run Tryz.prog w = .ok (.slice av n.vals.length cv) w := fun w => index_two _ 1 _ rfl (by decide) w
    clear hkt hvt hkn hvn hA0 hA1
    go_enter Tryz.func76, Tryz.ntmps76
    go_wp2_with fail
    refine (HFm.out _ HN0.out).mono ?_
    rintro e w1 ⟨rfl, hb⟩
    have hg : w1.heap[w.heap.size]? = some (.cells #[.bool n.leaf, .slice ak n.keys.length ck, .slice av n.vals.length cv, .slice ap n.kids.length cp] 25 (0, 0)) := (hb.block _ (by simp)).trans (heap_alloc_new _ _)
    have c1 : w1.cell? ⟨w.heap.size, 1, none⟩ = some (.slice ak n.keys.length ck) := cell_of_row w1 _ 1 _ _ _ hg
    have c2 : w1.cell? ⟨w.heap.size, 2, none⟩ = some (.slice av n.vals.length cv) := cell_of_row w1 _ 2 _ _ _ hg
    have c3 : w1.cell? ⟨w.heap.size, 3, none⟩ = some (.slice ap n.kids.length cp) := cell_of_row w1 _ 3 _ _ _ hg
    have HB1 := Lib.hid (HB.out.trans (hb.mono HB.out.size))
    have HK1 := Lib.hid (HK.out.below HB1.out)
    have HV1 := Lib.hid (HV.out.below HB1.out)
    clear hb hg
    go_wp2_with fail
    go_loop [4, 22] (fun z i => (i = .int .i64 0 ∧ z = .int .i64 (A0 : Int)) ∨ (i = .int .i64 1 ∧ z = .int .i64 (A1 : Int)) ∨ (i = .int .i64 2 ∧ z = .int .i64 (sizeN n : Int))) (fun _ i => 2 - (intOf i).toNat)
    case atStart => exact Or.inl ⟨rfl, by rw [← hA0']⟩
    case round =>
      rcases hrel with ⟨rfl, rfl⟩ | ⟨rfl, rfl⟩ | ⟨rfl, rfl⟩
      · obtain ⟨a', c', e', hel⟩ := HK1.out.open
        simp only [Value.slice.injEq, true_and] at e'
        obtain ⟨rfl, rfl⟩ := e'
        have HE := Lib.hid hel
        clear hel
        go_wp2_with fail
        go_loop [4, 27] (fun z i => ∃ j : Nat, j ≤ n.keys.length ∧ i = .int .i64 j ∧ z = .int .i64 ((A0 + strsN (n.keys.take j) : Nat) : Int)) (fun _ i => n.keys.length - (intOf i).toNat)
        case atStart => exact ⟨0, Nat.zero_le _, rfl, by simp [strsN]⟩
        case round =>
          obtain ⟨j, hj, rfl, rfl⟩ := hrel
          rcases Nat.lt_or_ge j n.keys.length with hlt | hge
          · obtain ⟨b, o, rfl, hc⟩ := HE.out j hlt
            have hst := strsN_step n.keys j hlt
            have h1 := HKT.out j
            have h2 := HKS.out _ (List.getElem_mem hlt)
            obtain ⟨x, hx⟩ : ∃ x, x = n.keys[j]'hlt := ⟨_, rfl⟩
            rw [← hx] at hc hst h2
            obtain ⟨T, hT⟩ : ∃ T, T = strsN (n.keys.take j) := ⟨_, rfl⟩
            rw [← hT] at hst h1 ⊢
            have HST := Lib.hid hst
            have ew : wrap64 (1 + (x.size : Int)) = 1 + (x.size : Int) := by unfold wrap64; omega
            clear hx hT hst
            go_wp2
            go_round
            case rel => exact ⟨j + 1, by omega, by go_num, by rw [HST.out]; go_num⟩
            case measure => simp [intOf]; omega
          · obtain rfl : j = n.keys.length := by omega
            have e0 : A0 + strsN (n.keys.take n.keys.length) = A1 := by rw [List.take_length, HA1.out]
            rw [e0]
            clear e0
            go_wp2
            go_round
            case rel => exact Or.inr (Or.inl ⟨rfl, rfl⟩)
            case measure => simp [intOf]
      · obtain ⟨a', c', e', hel⟩ := HV1.out.open
        simp only [Value.slice.injEq, true_and] at e'
        obtain ⟨rfl, rfl⟩ := e'
        have HE := Lib.hid hel
        clear hel
        go_wp2_with fail
        go_loop [4, 27] (fun z i => ∃ j : Nat, j ≤ n.vals.length ∧ i = .int .i64 j ∧ z = .int .i64 ((A1 + strsN (n.vals.take j) : Nat) : Int)) (fun _ i => n.vals.length - (intOf i).toNat)
        case atStart => exact ⟨0, Nat.zero_le _, rfl, by simp [strsN]⟩
        case round =>
          obtain ⟨j, hj, rfl, rfl⟩ := hrel
          rcases Nat.lt_or_ge j n.vals.length with hlt | hge
          · obtain ⟨b, o, rfl, hc⟩ := HE.out j hlt
            have hst := strsN_step n.vals j hlt
            have h1 := HVT.out j
            have h2 := HVS.out _ (List.getElem_mem hlt)
            obtain ⟨x, hx⟩ : ∃ x, x = n.vals[j]'hlt := ⟨_, rfl⟩
            rw [← hx] at hc hst h2
            obtain ⟨T, hT⟩ : ∃ T, T = strsN (n.vals.take j) := ⟨_, rfl⟩
            rw [← hT] at hst h1 ⊢
            have HST := Lib.hid hst
            have ew : wrap64 (1 + (x.size : Int)) = 1 + (x.size : Int) := by unfold wrap64; omega
            clear hx hT hst
            go_wp2
            go_round
            case rel => exact ⟨j + 1, by omega, by go_num, by rw [HST.out]; go_num⟩
            case measure => simp [intOf]; omega
          · obtain rfl : j = n.vals.length := by omega
            have e0 : A1 + strsN (n.vals.take n.vals.length) = sizeN n := by rw [List.take_length, HA1.out, HA0.out]; rfl
            rw [e0]
            clear e0
            go_wp2
            go_round
            case rel => exact Or.inr (Or.inr ⟨rfl, rfl⟩)
            case measure => simp [intOf]
      · go_wp2
        go_ret2
        exact ⟨by rw [HQ.out.1, HQ.out.2]; rfl, HB1.out⟩

end Go.Proofs.YtkbnkdokcmpcgaaGreatDoor
namespace Go.Proofs.YtkbnkdokcmpcgaaGreatDoor
open Go.RowKit

theorem Sl_box (w : World) (h : List UInt8) (t : TypeId) : Sl (w.alloc (.cells (h.map Bv).toArray t)) 1 (.slice (some ⟨w.heap.size, 0, none⟩) h.length h.length) h.length (h.map Bv) := by
  refine ⟨by simp, _, _, rfl, Nat.le_refl _, fun h => (by cases h), fun i u hu => ⟨_, 0, rfl, ?_⟩⟩
  rw [Nat.zero_add, cell_of_row _ w.heap.size i _ t (0, 0) (heap_alloc_new _ _)]
  simpa using hu

set_option maxHeartbeats 400000 in
theorem wHash_ok (b base : Nat) (row : Option Nat) (os h : List UInt8) (w : World) (hw : Wr w base b row os) (hbase : base ≤ w.heap.size) (hh : h.length = 32) (hr : os.length + 32 ≤ 140737488351232) :
    Calls Tryz.prog 139 #[.pointer (some ⟨b, 0, none⟩), .agg (h.map Bv).toArray] w fun e w' => e = .returned (.int .i64 0) ∧ Laid w w' base b row (os ++ h) := by
  have hS := Sl_box w h 33
  rw [hh] at hS
  obtain ⟨cs, hcs⟩ : ∃ cs, cs = (h.map Bv).toArray := ⟨_, rfl⟩
  rw [← hcs] at hS ⊢
  have HS := Lib.hid hS
  have HW := Lib.hid (hw.fr ((Fr.refl (fun _ => False) w).alloc (.cells cs 33)) id (fun _ _ => id))
  have HH := Lib.hid hh
  clear hcs hS hw hh
  go_enter Tryz.func139, Tryz.ntmps139
  go_wp2_with fail
  refine (add_ok b base row os h _ _ HW.out (by simp; omega) (by rw [HH.out]; exact HS.out) (by rw [HH.out]; omega)).mono ?_
  rintro e w2 ⟨rfl, hl⟩
  have HL := Lib.hid hl
  clear hl
  go_wp2
  go_ret
  obtain ⟨row', a1, a2, a3⟩ := HL.out
  exact ⟨rfl, row', a1, ((Fr.refl _ w).alloc _).trans a2, fun k hk => (a3 k hk).imp id (fun h => by simp at h; omega)⟩

set_option maxHeartbeats 400000 in
theorem wPad_ok (b base n : Nat) (row : Option Nat) (os : List UInt8) (w : World) (hw : Wr w base b row os) (hbase : base ≤ w.heap.size) (h1 : n ≤ 65536) (h2 : os.length ≤ n) :
    Calls Tryz.prog 106 #[.pointer (some ⟨b, 0, none⟩), .int .i64 (n : Int)] w fun e w' => e = .returned (.int .i64 0) ∧ Laid w w' base b row (os ++ List.replicate (n - os.length) 0) := by
  have HW := Lib.hid hw
  obtain ⟨v0, hb, ho, rfl⟩ := hw
  have c0 := cell_of_one hb
  obtain ⟨a, cap, rfl, _⟩ := (Sl.own ho).len
  have b1 : decide ((65536 : Int) < (n : Int)) = false := by simp; omega
  have b2 : ¬ (n : Int) < (os.length : Int) := by omega
  have es : (n : Int) - (os.length : Int) = ((n - os.length : Nat) : Int) := by omega
  clear hb ho
  go_enter Tryz.func106, Tryz.ntmps106
  go_wp2_with (at_make; refine make_u8 rfl (.tmp 25) (.tmp 25) rfl (n - os.length) rfl rfl (by omega) ?_)
  intro w1 hown hb
  have hw1 := Lib.hid (HW.out.fr (Fr.of_below (S := fun _ => False) hb) id (fun _ _ => id))
  have HB := Lib.hid hb
  have hs := hb.size
  have HS := Lib.hid (Sl.own hown)
  clear hown hb es
  go_wp2_with fail
  refine (add_ok b base _ os (List.replicate (n - os.length) 0) _ w1 hw1.out (by omega) (by simpa using HS.out) (by simp; omega)).mono ?_
  rintro e w2 ⟨rfl, hl⟩
  have HL := Lib.hid hl
  clear hl
  go_wp2
  go_ret
  obtain ⟨row', a1, a2, a3⟩ := HL.out
  exact ⟨rfl, row', a1, (Fr.of_below HB.out).trans a2, fun k hk => (a3 k hk).imp id (fun h => by omega)⟩

set_option maxHeartbeats 400000 in
theorem refStr_any (s : ByteArray) (w : World) (h8 : s.size ≤ 255) :
    Calls Tryz.prog 194 #[.string s] w fun e w' => ∃ v, e = .returned v ∧ Sl w' 1 v (strB s).length ((strB s).map Bv) ∧ Below w.heap.size w w' := by
  have hown := World.ownsRow_lit (e := 5) (size := 1) (base := w.heap.size) w #[.int .u8 (s.size : Int)] 1 (Nat.le_refl _) (by decide) rfl
  have ev : ([.int .u8 (s.size : Int)] : List Value) = [UInt8.ofNat s.size].map Bv := by simp [Bv, UInt8.toNat_ofNat', Nat.mod_eq_of_lt (show s.size < 256 by omega)]
  have hown' : (w.alloc (.cells #[.int .u8 (s.size : Int)] 5)).ownsRow w.heap.size 5 1 (.slice (some ⟨w.heap.size, 0, none⟩) 1 1) 1 ([UInt8.ofNat s.size].map Bv) := by rw [← ev]; exact hown
  have HO := Lib.hid hown'
  clear hown hown' ev
  go_enter Tryz.func194, Tryz.ntmps194
  go_wp2_with (at_builtin; refine append_str rfl (.tmp 6) (.tmp 7) rfl HO.out rfl rfl (by omega) (by simp) ?_)
  intro v' w1 hown hf
  have hb1 : Below w.heap.size w w1 := ((Below.refl _ _).alloc (Nat.le_refl _) _).trans (hf.below (by simp) (fun k h => by simp [Value.ownBlock] at h; omega))
  have HB := Lib.hid hb1
  have hS : Sl w1 1 v' (strB s).length ((strB s).map Bv) := by
    rw [strB_length, Nat.add_comm]
    exact Sl.own hown
  have HS := Lib.hid hS
  clear hS hown hf hb1
  go_wp2
  go_ret
  exact ⟨_, rfl, HS.out, HB.out⟩

def putDown (x n k : Nat) : List UInt8 := (List.range n).map fun j => if j < k then 0 else UInt8.ofNat (x / 256 ^ (n - 1 - j))
theorem putDown_all (x n : Nat) : putDown x n n = List.replicate n 0 := by
  apply List.ext_getElem? ; intro j; by_cases h : j < n <;> simp [putDown, h]
theorem putDown_zero (x n : Nat) : putDown x n 0 = putB x n := by
  apply List.ext_getElem? ; intro j; by_cases h : j < n <;> simp [putDown, putB, h]
theorem putDown_succ (x n k : Nat) (h : k < n) : (putDown x n (k + 1)).set k (UInt8.ofNat (x / 256 ^ (n - 1 - k))) = putDown x n k := by
  apply List.ext_getElem?
  intro j
  rw [List.getElem?_set]
  by_cases hj : k = j
  · subst hj
    simp [putDown, h]
  · by_cases h1 : j < k
    · by_cases h2 : j < n <;> simp [putDown, hj, h1, h2, show j < k + 1 by omega]
    · by_cases h2 : j < n <;> simp [putDown, hj, h1, h2, show ¬ j < k + 1 by omega]

set_option maxRecDepth 100000 in
set_option maxHeartbeats 400000 in
theorem refPut_all (x n : Nat) (w : World) (h8 : n ≤ 8) (hx : x < 18446744073709551616) :
    Calls Tryz.prog 217 #[.int .u64 (x : Int), .int .i64 (n : Int)] w fun e w' => Below w.heap.size w w' ∧
      ((0 < x / 256 ^ n ∧ e = .returned (.tuple #[.slice none 0 0, .int .i64 2])) ∨ (x / 256 ^ n = 0 ∧ ∃ aa cc, e = .returned (.tuple #[.slice aa n cc, .int .i64 0]) ∧ w'.ownsRow w.heap.size 5 1 (.slice aa n cc) n ((putB x n).map Bv))) := by
  have b1 : decide ((n : Int) < 0) = false := by simp
  have b2 : decide ((8 : Int) < (n : Int)) = false := by simp; omega
  have HX := Lib.hid hx
  clear hx
  go_enter Tryz.func217, Tryz.ntmps217
  go_wp2_with (at_make; refine make_u8 rfl (.tmp 14) (.tmp 14) rfl n rfl rfl (by omega) ?_)
  intro w1 hown hb
  have HO := Lib.hid hown
  have HB := Lib.hid hb
  clear hown hb
  go_wp2_with fail
  go_loopw [0, 7] (fun y i wr => ∃ k : Nat, k ≤ n ∧ i = .int .i64 ((k : Int) - 1) ∧ y = .int .u64 ((x / 256 ^ (n - k) : Nat) : Int) ∧ wr.ownsRow w.heap.size 5 1 (.slice (some ⟨w.heap.size, 0, none⟩) n n) n ((putDown x n k).map Bv) ∧ Below w.heap.size w wr) (fun _ i _ => (intOf i + 1).toNat)
  case atStart => exact ⟨n, Nat.le_refl _, rfl, by simp, by rw [putDown_all]; simpa using HO.out, HB.out⟩
  case round =>
    obtain ⟨k, hk, rfl, rfl, hown, hb⟩ := hrel
    have HO := Lib.hid hown
    have HB := Lib.hid hb
    clear hb
    cases k with
    | zero =>
      clear hown
      obtain ⟨y, hy⟩ : ∃ y, y = x / 256 ^ n := ⟨_, rfl⟩
      rw [Nat.sub_zero, ← hy]
      have HY := Lib.hid hy
      clear hy
      rw [putDown_zero] at HO
      rcases Nat.eq_zero_or_pos y with h0 | h0
      · subst h0
        go_wp2
        go_ret2
        exact ⟨HB.out, Or.inr ⟨HY.out.symm, _, _, rfl, HO.out⟩⟩
      · go_wp2
        go_ret2
        exact ⟨HB.out, Or.inl ⟨HY.out ▸ h0, rfl⟩⟩
    | succ j =>
      have hc : ∃ u, wr.cell? ⟨w.heap.size, j, none⟩ = some (Bv u) := ⟨_, by rw [hown.cellAt j (by omega)]; simp [putDown, show j < n by omega]; rfl⟩
      obtain ⟨u, hc⟩ := hc
      have hf := hown.frozenAt j
      have e1 : ((j + 1 : Nat) : Int) - 1 = (j : Int) := by omega
      rw [e1]
      clear hown e1
      obtain ⟨y, hy⟩ : ∃ y, y = x / 256 ^ (n - (j + 1)) := ⟨_, rfl⟩
      rw [← hy]
      have hy2 : ((y : Int) / 256) = ((x / 256 ^ (n - j) : Nat) : Int) := by
        rw [hy, show n - j = (n - (j + 1)) + 1 by omega, Nat.pow_succ, ← Nat.div_div_eq_div_mul]; simp
      have hy3 : Value.int .u8 ((y : Int) % 256) = Bv (UInt8.ofNat (x / 256 ^ (n - 1 - j))) := by
        rw [hy, show n - (j + 1) = n - 1 - j by omega]
        simp only [Bv, UInt8.toNat_ofNat']; rfl
      have hyw : IntKind.u64.wrap ((y : Int) / 256) = (y : Int) / 256 := by
        have h1 : y ≤ x := by rw [hy]; exact Nat.div_le_self _ _
        have h2 := HX.out
        rw [IntKind.wrap_u64]; omega
      have HW := Lib.hid hyw
      clear hyw
      have HY2 := Lib.hid hy2
      have HY3 := Lib.hid hy3
      clear hy hy2 hy3
      go_wp2
      go_roundw
      case rel =>
        refine ⟨j, by omega, by go_num, by first | rw [HW.out, HY2.out] | rw [HY2.out], ?_, HB.out.setCell (Nat.le_refl _) _⟩
        have h2 := (HO.out.stored j (.int .u8 ((y : Int) % 256))).1
        rw [HY3.out, ← List.map_set, putDown_succ x n j (by omega)] at h2
        rw [HY3.out]
        exact h2
      case measure => simp [intOf]

end Go.Proofs.YtkbnkdokcmpcgaaGreatDoor
namespace Go.Proofs.YtkbnkdokcmpcgaaGreatDoor
open Go.RowKit

theorem info_hash : (Tryz.prog.info? 33).map (·.size) = some 32 := by kernel_rfl

theorem load_hash {ops : Array Oper} {rest : List Oper} {o : Oper} {a : Act} {w : World} {Q : Exit → Act → World → Prop} (hgd : o.guard = none) (x : Operand) (ho : o.op = .load 33 x)
    {b off : Nat} (hx : a.eval x = .pointer (some ⟨b, off, none⟩)) {h : List UInt8} (hc : At w b off (h.map Bv)) (hl : h.length = 32)
    (hK : wpList Tryz.prog ops Q rest (a.put o.dst (.agg (h.map Bv).toArray)) w) : wpList Tryz.prog ops Q (o :: rest) a w :=
  wpList_load_at hgd _ x ho b off hx (h.map Bv) _ hc Tryz.underlying33 rfl (by rw [info_hash]; simp [hl]) hK

theorem Laid.alloc {w w' : World} {o : Obj} {base b : Nat} {row : Option Nat} {xs : List UInt8} (h : Laid (w.alloc o) w' base b row xs) : Laid w w' base b row xs := by
  obtain ⟨row', a1, a2, a3⟩ := h
  exact ⟨row', a1, ((Fr.refl _ w).alloc _).trans a2, fun k hk => (a3 k hk).imp id (fun h => by simp at h; omega)⟩
theorem Laid.none {w w' : World} {base b : Nat} {row : Option Nat} {xs : List UInt8} (h : Wr w base b row xs) (hf : Fr (WS b row) w w') (hw : w'.heap = w.heap ∨ Wr w' base b row xs) : Laid w w' base b row xs :=
  ⟨row, hw.elim (fun e => by obtain ⟨v, h1, h2, h3⟩ := h; exact ⟨v, by rw [e]; exact h1, by simpa only [World.ownsRow, e] using h2, h3⟩) id, hf, fun k hk => Or.inl hk⟩

end Go.Proofs.YtkbnkdokcmpcgaaGreatDoor
namespace Go.Proofs.YtkbnkdokcmpcgaaGreatDoor
open Go.RowKit

theorem Wr.new (w : World) (B : Nat) : Wr (w.alloc (.cells #[.slice none 0 0] 198)) B w.heap.size none [] :=
  ⟨_, heap_alloc_new _ _, World.ownsRow_nil _ _ _ _, rfl⟩

theorem Laid.below {w w' : World} {base b B : Nat} {row : Option Nat} {xs : List UInt8} (h : Laid w w' base b row xs) (hB : B ≤ w.heap.size) (h1 : B ≤ b) (h2 : ∀ k, row = some k → B ≤ k) : Below B w w' := by
  obtain ⟨_, _, hf, _⟩ := h
  exact hf.below hB (fun k hk => hk.elim (fun e => e ▸ h1) (h2 k))

end Go.Proofs.YtkbnkdokcmpcgaaGreatDoor
namespace Go.Proofs.YtkbnkdokcmpcgaaGreatDoor
open Go.RowKit

def checkE (n : Nd) : Int := if formB n then (if 512 < sizeN n then 6 else 0) else 4
theorem checkE_bad {n : Nd} (h : formB n = false) : checkE n = 4 := by unfold checkE; rw [if_neg (by rw [h]; simp)]
theorem checkE_full {n : Nd} (h : formB n = true) (h2 : 512 < sizeN n) : checkE n = 6 := by unfold checkE; rw [if_pos h, if_pos h2]
theorem checkE_ok {n : Nd} (h : formB n = true) (h2 : ¬ 512 < sizeN n) : checkE n = 0 := by unfold checkE; rw [if_pos h, if_neg h2]

set_option maxHeartbeats 1000000 in
theorem check_any (arr : Array Value) (n : Nd) (w : World) (h : NdIs w arr n) (hf : n.Fits) :
    Calls Tryz.prog 27 #[.agg arr] w fun e w' => e = .returned (.int .i64 (checkE n)) ∧ Below w.heap.size w w' := by
  have HN := Lib.hid h
  obtain ⟨ak, ck, av, cv, ap, cp, rfl, hk, hv, hp⟩ := h.get
  have hb0 : Below w.heap.size w (w.alloc (.cells #[.bool n.leaf, .slice ak n.keys.length ck, .slice av n.vals.length cv, .slice ap n.kids.length cp] 25)) := (Below.refl _ w).alloc (Nat.le_refl _) _
  have HB := Lib.hid hb0
  have HF := Lib.hid hf
  have HFm := Lib.hid (fun w h => size_any #[.bool n.leaf, .slice ak n.keys.length ck, .slice av n.vals.length cv, .slice ap n.kids.length cp] n w h HF.out)
  have HN0 := Lib.hid (HN.out.below hb0)
  clear h hk hv hp hb0 hf
  cases hfb : formB n with
  | false =>
    have HQ := Lib.hid (checkE_bad hfb)
    rw [sizeV_bad hfb, sizeR_bad hfb] at HFm
    clear hfb
    go_enter Tryz.func27, Tryz.ntmps27
    go_wp2_with fail
    refine (HFm.out _ HN0.out).mono ?_
    rintro e w1 ⟨rfl, hb⟩
    have HB1 := Lib.hid (HB.out.trans (hb.mono HB.out.size))
    clear hb
    go_wp2
    go_ret
    exact ⟨by rw [HQ.out]; rfl, HB1.out⟩
  | true =>
    rw [sizeV_ok hfb, sizeR_ok hfb] at HFm
    by_cases h2 : 512 < sizeN n
    · have HQ := Lib.hid (checkE_full hfb h2)
      have b1 : (512 : Int) < (sizeN n : Int) := by omega
      clear hfb h2
      go_enter Tryz.func27, Tryz.ntmps27
      go_wp2_with fail
      refine (HFm.out _ HN0.out).mono ?_
      rintro e w1 ⟨rfl, hb⟩
      have HB1 := Lib.hid (HB.out.trans (hb.mono HB.out.size))
      clear hb
      go_wp2
      go_ret
      exact ⟨by rw [HQ.out]; rfl, HB1.out⟩
    · have HQ := Lib.hid (checkE_ok hfb h2)
      have b1 : ¬ (512 : Int) < (sizeN n : Int) := by omega
      clear hfb h2
      go_enter Tryz.func27, Tryz.ntmps27
      go_wp2_with fail
      refine (HFm.out _ HN0.out).mono ?_
      rintro e w1 ⟨rfl, hb⟩
      have HB1 := Lib.hid (HB.out.trans (hb.mono HB.out.size))
      clear hb
      go_wp2
      go_ret
      exact ⟨by rw [HQ.out]; rfl, HB1.out⟩

theorem or_zero (a : Option Addr) (m c : Nat) (w : World) (hr : m ≤ 1000) (h : ∀ i, i < m → ∃ b o, a = some ⟨b, o, none⟩ ∧ w.cell? ⟨b, o + i, none⟩ = some (.int .i64 0)) :
    Calls Tryz.prog 140 #[.slice a m c] w fun e w' => e = .returned (.int .i64 0) ∧ w = w' := by
  have HH := Lib.hid h
  clear h
  go_enter Tryz.func140, Tryz.ntmps140
  go_wp2
  go_loop [8] (fun i => ∃ k : Nat, k ≤ m ∧ i = .int .i64 k) (fun i => m - (intOf i).toNat)
  case atStart => exact ⟨0, Nat.zero_le _, rfl⟩
  case round =>
    obtain ⟨k, hk, rfl⟩ := hrel
    rcases Nat.lt_or_ge k m with hlt | hge
    · obtain ⟨b, o, rfl, hc⟩ := HH.out k hlt
      go_wp2
      go_round
      case rel => exact ⟨k + 1, by omega, by go_num⟩
      case measure => simp [intOf]; omega
    · obtain rfl : k = m := by omega
      go_wp2
      go_ret
      exact ⟨rfl, rfl⟩

def ptrB (p : Pt) : List UInt8 := putB p.addr 4 ++ putB p.birth 8 ++ p.sum
theorem ptrB_length (p : Pt) (h : p.Wf) : (ptrB p).length = 44 := by
  unfold ptrB; simp [putB_length, h.sum]

theorem Laid.trans {w w1 w2 : World} {base b : Nat} {row row1 : Option Nat} {xs ys : List UInt8} (_h1 : Wr w1 base b row1 xs) (hf : Fr (WS b row) w w1) (hr : ∀ k, row1 = some k → row = some k ∨ w.heap.size ≤ k) (h2 : Laid w1 w2 base b row1 ys) : Laid w w2 base b row ys := by
  obtain ⟨row2, a1, a2, a3⟩ := h2
  refine ⟨row2, a1, hf.step a2 (fun k hk => ?_), fun k hk => ?_⟩
  · rcases hk with e | e
    · exact Or.inl (Or.inl e)
    · rcases hr k e with h | h
      · exact Or.inl (Or.inr h)
      · exact Or.inr h
  · rcases a3 k hk with h | h
    · exact hr k h
    · exact Or.inr (Nat.le_trans hf.size h)

set_option maxHeartbeats 2000000 in
theorem ptrPut_ok (p : Pt) (b base : Nat) (row : Option Nat) (os : List UInt8) (w : World) (hw : Wr w base b row os) (hbase : base ≤ w.heap.size) (hp : p.Wf) (hr : os.length ≤ 1000000000) :
    Calls Tryz.prog 105 #[.pointer (some ⟨b, 0, none⟩), .agg p.arr] w fun e w' => e = .returned (.int .i64 0) ∧ Laid w w' base b row (os ++ ptrB p) := by
  have g0 := p.get0
  have g1 := p.get1
  have ha := hp.addr
  have HW := Lib.hid (hw.fr ((Fr.refl (fun _ => False) w).alloc (.cells p.arr 43)) id (fun _ _ => id))
  have HP := Lib.hid hp
  have HAD := Lib.hid (show (4 : Nat) = 8 ∨ p.addr < 256 ^ 4 from Or.inr (by have := hp.addr; omega))
  have hwl := hw.lt
  have HWL := Lib.hid hwl
  have hne : b ≠ w.heap.size := by omega
  have hrow : ∀ k, row = some k → k ≠ w.heap.size := fun k hk => by have := (hwl.2 k hk).2; omega
  have HROW := Lib.hid hrow
  clear hw hp hwl hrow
  go_enter Tryz.func105, Tryz.ntmps105
  go_wp2_with fail
  refine (wNum_ok b base row os p.addr 4 _ HW.out (by simp; omega) (by omega) HAD.out (by omega)).mono ?_
  rintro e w1 ⟨rfl, row1, hW1, hf1, hr1⟩
  have hb1 := (hf1.block w.heap.size (by simp) (fun e => by rcases e with e | e; (· omega); (· exact HROW.out _ e rfl))).trans (heap_alloc_new w (.cells p.arr 43))
  have c1 : w1.cell? ⟨w.heap.size, 1, none⟩ = some (.int .u64 (p.birth : Int)) := (cell_of_row w1 _ 1 _ _ _ hb1).trans g1
  have hs1 := hf1.size
  rw [World.size_alloc] at hs1 hr1
  have hrow1 : ∀ k, row1 = some k → k ≠ w.heap.size := fun k hk => by rcases hr1 k hk with h | h; (· exact HROW.out k h); (· omega)
  have HB1 := Lib.hid hb1
  have HW1 := Lib.hid hW1
  have HF1 := Lib.hid (((Fr.refl (WS b row) w).alloc (.cells p.arr 43)).trans hf1)
  have HR1 := Lib.hid (show ∀ k, row1 = some k → row = some k ∨ w.heap.size ≤ k from fun k hk => (hr1 k hk).imp id (fun h => by omega))
  have HRO1 := Lib.hid hrow1
  clear hW1 hf1 hr1 hb1 hrow1
  go_wp2_with fail
  refine (wNum_ok b base row1 _ p.birth 8 _ HW1.out (by omega) (by omega) (Or.inl rfl) (by rw [List.length_append, putB_length]; omega)).mono ?_
  rintro e w2 ⟨rfl, row2, hW2, hf2, hr2⟩
  have hb2 := (hf2.block w.heap.size (by omega) (fun e => by rcases e with e | e; (· omega); (· exact HRO1.out _ e rfl))).trans HB1.out
  have hs2 := hf2.size
  have hL2 := Laid.trans HW1.out HF1.out HR1.out ⟨row2, hW2, hf2, hr2⟩
  have HAT2 := Lib.hid (show At w2 w.heap.size 2 (p.sum.map Bv) from Pt.sumAt (o := 0) (At.of_row hb2))
  have hrow2 : ∀ k, row2 = some k → k ≠ w.heap.size := fun k hk => by rcases hr2 k hk with h | h; (· exact HRO1.out k h); (· omega)
  obtain ⟨row2', hW2', hf2', hr2'⟩ := hL2
  have HW2 := Lib.hid hW2'
  have HF2 := Lib.hid hf2'
  have HR2 := Lib.hid hr2'
  clear hW2 hf2 hr2 hb2 hrow2 hW2' hf2' hr2' c1
  go_wp2_with (refine load_hash rfl (.tmp 20) rfl rfl HAT2.out HP.out.sum ?_)
  refine (wHash_ok b base row2' _ p.sum _ HW2.out (by omega) HP.out.sum (by rw [List.length_append, List.length_append, putB_length, putB_length]; omega)).mono ?_
  rintro e w3 ⟨rfl, hl3⟩
  have hL3 := Laid.trans HW2.out HF2.out HR2.out hl3
  have HL3 := Lib.hid hL3
  clear hl3 hL3
  go_wp2_with fail
  refine (or_zero _ 3 3 _ (by omega) (fun i hi => ⟨_, 0, rfl, ?_⟩)).mono ?_
  · rw [Nat.zero_add, cell_of_row _ w3.heap.size i _ _ _ (heap_alloc_new _ _)]
    rcases i with _ | _ | _ | i
    · rfl
    · rfl
    · rfl
    · omega
  rintro e w4 ⟨rfl, rfl⟩
  go_wp2
  go_ret
  obtain ⟨row3, hW3, hf3, hr3⟩ := HL3.out
  refine ⟨rfl, row3, ?_, hf3.alloc _, hr3⟩
  have e : os ++ ptrB p = os ++ putB p.addr 4 ++ putB p.birth 8 ++ p.sum := by unfold ptrB; simp
  rw [e]
  exact hW3.fr ((Fr.refl (fun _ => False) _).alloc _) id (fun _ _ => id)

end Go.Proofs.YtkbnkdokcmpcgaaGreatDoor
