/- Walks: node's Size, Check. -/
import Derived.Test.YtdmgmpagnmmehaaDoorNodeB
namespace Go.Proofs.YtdmgmpagnmmehaaDoor
open Go.RowKit

def strsN (l : List ByteArray) : Nat := (l.map (fun s => 1 + s.size)).sum
theorem strsN_step (l : List ByteArray) (k : Nat) (h : k < l.length) : strsN (l.take (k + 1)) = strsN (l.take k) + (1 + l[k].size) := by
  unfold strsN
  rw [List.take_succ_eq_append_getElem h, List.map_append, List.sum_append]; simp
theorem strsN_le (m : Nat) : ∀ (l : List ByteArray), (∀ s ∈ l, s.size ≤ m) → strsN l ≤ (m + 1) * l.length
  | [], _ => by simp [strsN]
  | a :: l, h => by
    have h1 := strsN_le m l (fun s hs => h s (by simp [hs]))
    have h2 := h a (by simp)
    have e : strsN (a :: l) = (1 + a.size) + strsN l := by simp [strsN]
    rw [e, List.length_cons, Nat.mul_succ]; omega
def sizeN (n : Nd) : Nat := 2 + 44 * n.kids.length + strsN n.keys + strsN n.vals
def sizeV (n : Nd) : Int := if formB n then (sizeN n : Int) else 0
def sizeR (n : Nd) : Int := if formB n then 0 else 4
theorem sizeV_ok {n : Nd} (h : formB n = true) : sizeV n = (sizeN n : Int) := by unfold sizeV; rw [if_pos h]
theorem sizeR_ok {n : Nd} (h : formB n = true) : sizeR n = 0 := by unfold sizeR; rw [if_pos h]
theorem sizeV_bad {n : Nd} (h : formB n = false) : sizeV n = 0 := by unfold sizeV; rw [if_neg (by rw [h]; simp)]
theorem sizeR_bad {n : Nd} (h : formB n = false) : sizeR n = 4 := by unfold sizeR; rw [if_neg (by rw [h]; simp)]

theorem keysB_size {l : List ByteArray} (h : keysB l = true) : ∀ s ∈ l, s.size ≤ 32 := by
  intro s hs
  obtain ⟨i, hi, rfl⟩ := List.getElem_of_mem hs
  have h1 := List.all_eq_true.1 h i (by simpa using hi)
  unfold keyAt at h1
  rw [List.getElem?_eq_getElem hi] at h1
  simp only [Bool.and_eq_true, decide_eq_true_iff] at h1
  exact h1.1.2
theorem formB_keys {n : Nd} (h : formB n = true) : keysB n.keys = true := by
  unfold formB at h; simp only [Bool.and_eq_true] at h; exact h.1
theorem formB_vals {n : Nd} (h : formB n = true) : ∀ s ∈ n.vals, s.size ≤ 96 := by
  unfold formB at h
  simp only [Bool.and_eq_true] at h
  have h2 := h.2
  split at h2
  · simp only [Bool.and_eq_true, Bool.not_eq_true', decide_eq_true_iff] at h2
    intro s hs
    have := List.any_eq_false.1 h2.2 s hs
    simp at this; omega
  · simp only [Bool.and_eq_true, decide_eq_true_iff] at h2
    have : n.vals = [] := List.eq_nil_of_length_eq_zero h2.1.1.1
    rw [this]; simp

theorem size_strs : ∃ i, Tryd.prog.info? 22 = some i ∧ i.size = 1 := by
  have h1 : (Tryd.prog.info? 22).map (·.size) = some 1 := by kernel_rfl
  cases hq : Tryd.prog.info? 22 with
  | none => simp [hq] at h1
  | some i => exact ⟨i, rfl, by simpa [hq] using h1⟩
theorem index_two (cs : Array Value) (k : Nat) (x : Value) (h : cs[k]? = some x) (hk : k < 2) (w : World) : (Instr.index 76 (.agg cs) (.int .i64 (k : Int))).run Tryd.prog w = .ok x w := by
  obtain ⟨i, hi, hs⟩ := size_strs
  have hsz : (sizeOf 22).run Tryd.prog w = .ok 1 w := by simp [sizeOf, typeInfo, hi, hs]
  have hpart : (part 22 cs k).run Tryd.prog w = .ok x w := by
    simp [part, isAgg, run_underlying Tryd.underlying22, h]
  unfold Instr.index
  simp only [asIntOf, Sem.run_bind, Sem.run_pure, Result.andThen_ok, run_underlying Tryd.underlying76]
  rw [if_pos (by omega)]
  simp only [Sem.run_bind, hsz, Result.andThen_ok, Nat.mul_one, Int.toNat_natCast, hpart]

set_option maxRecDepth 100000 in
set_option maxHeartbeats 2000000 in
theorem size_any (arr : Array Value) (n : Nd) (w : World) (h : NdIs w arr n) (hf : n.Fits) :
    Calls Tryd.prog 12 #[.agg arr] w fun e w' => e = .returned (.tuple #[.int .i64 (sizeV n), .int .i64 (sizeR n)]) ∧ Below w.heap.size w w' := by
  have HN := Lib.hid h
  obtain ⟨ak, ck, av, cv, ap, cp, rfl, hk, hv, hp⟩ := h.get
  have hb0 : Below w.heap.size w (w.alloc (.cells #[.bool n.leaf, .slice ak n.keys.length ck, .slice av n.vals.length cv, .slice ap n.kids.length cp] 25)) := (Below.refl _ w).alloc (Nat.le_refl _) _
  have HK := Lib.hid hk
  have HV := Lib.hid hv
  have HB := Lib.hid hb0
  have HF := Lib.hid hf
  have b1 := hf.keys
  have b2 := hf.vals
  have b3 := hf.kids
  have HFm := Lib.hid (fun w h => form_any #[.bool n.leaf, .slice ak n.keys.length ck, .slice av n.vals.length cv, .slice ap n.kids.length cp] n w h HF.out)
  have HN0 := Lib.hid (HN.out.below hb0)
  clear h hk hv hp hb0 hf
  cases hfb : formB n with
  | false =>
    have HQ := Lib.hid (And.intro (sizeV_bad hfb) (sizeR_bad hfb))
    rw [hfb] at HFm
    clear hfb
    go_enter Tryd.func12, Tryd.ntmps12
    go_wp2_with fail
    refine (HFm.out _ HN0.out).mono ?_
    rintro e w1 ⟨rfl, hb⟩
    have HB1 := Lib.hid (HB.out.trans (hb.mono HB.out.size))
    clear hb
    go_wp2
    go_ret2
    exact ⟨by rw [HQ.out.1, HQ.out.2]; rfl, HB1.out⟩
  | true =>
    have HQ := Lib.hid (And.intro (sizeV_ok hfb) (sizeR_ok hfb))
    have hks := keysB_size (formB_keys hfb)
    have hvs := formB_vals hfb
    have hkn := strsN_le 32 n.keys hks
    have hvn := strsN_le 96 n.vals hvs
    rw [hfb] at HFm
    have HKS := Lib.hid hks
    have HVS := Lib.hid hvs
    clear hfb hks hvs
    have hkt : ∀ j, strsN (n.keys.take j) ≤ 33 * 140737488351232 := fun j => by
      have h1 := strsN_le 32 (n.keys.take j) (fun s hs => HKS.out s (List.mem_of_mem_take hs))
      have h2 : (n.keys.take j).length ≤ n.keys.length := by simp [List.length_take]; omega
      omega
    have hvt : ∀ j, strsN (n.vals.take j) ≤ 97 * 140737488351232 := fun j => by
      have h1 := strsN_le 96 (n.vals.take j) (fun s hs => HVS.out s (List.mem_of_mem_take hs))
      have h2 : (n.vals.take j).length ≤ n.vals.length := by simp [List.length_take]; omega
      omega
    have HKT := Lib.hid hkt
    have HVT := Lib.hid hvt
    obtain ⟨A0, hA0⟩ : ∃ A0 : Nat, A0 = 2 + 44 * n.kids.length := ⟨_, rfl⟩
    have hA0' : (2 : Int) + 44 * (n.kids.length : Int) = (A0 : Int) := by omega
    have hA0b : A0 ≤ 200000000000000 := by omega
    obtain ⟨A1, hA1⟩ : ∃ A1 : Nat, A1 = A0 + strsN n.keys := ⟨_, rfl⟩
    have hA1b : A1 ≤ 10000000000000000 := by omega
    have HA0 := Lib.hid hA0
    have HA1 := Lib.hid hA1
    have q0 : ∀ w, (Instr.index 76 (.agg #[.slice ak n.keys.length ck, .slice av n.vals.length cv]) (.int .i64 0)).run Tryd.prog w = .ok (.slice ak n.keys.length ck) w := fun w => index_two _ 0 _ rfl (by decide) w
    have q1 : ∀ w, (Instr.index 76 (.agg #[.slice ak n.keys.length ck, .slice av n.vals.length cv]) (.int .i64 1)).run Tryd.prog w = .ok (.slice av n.vals.length cv) w := fun w => index_two _ 1 _ rfl (by decide) w
    clear hkt hvt hkn hvn hA0 hA1
    go_enter Tryd.func12, Tryd.ntmps12
    go_wp2_with fail
    refine (HFm.out _ HN0.out).mono ?_
    rintro e w1 ⟨rfl, hb⟩
    have hg : w1.heap[w.heap.size]? = some (.cells #[.bool n.leaf, .slice ak n.keys.length ck, .slice av n.vals.length cv, .slice ap n.kids.length cp] 25 (0, 0)) := (hb.block _ (by simp)).trans (heap_alloc_new _ _)
    have c1 : w1.cell? ⟨w.heap.size, 1, none⟩ = some (.slice ak n.keys.length ck) := cell_of_row w1 _ 1 _ _ _ hg
    have c2 : w1.cell? ⟨w.heap.size, 2, none⟩ = some (.slice av n.vals.length cv) := cell_of_row w1 _ 2 _ _ _ hg
    have c3 : w1.cell? ⟨w.heap.size, 3, none⟩ = some (.slice ap n.kids.length cp) := cell_of_row w1 _ 3 _ _ _ hg
    have HB1 := Lib.hid (HB.out.trans (hb.mono HB.out.size))
    have HK1 := Lib.hid (HK.out.below HB1.out)
    have HV1 := Lib.hid (HV.out.below HB1.out)
    clear hb hg
    go_wp2_with fail
    go_loop [4, 22] (fun z i => (i = .int .i64 0 ∧ z = .int .i64 (A0 : Int)) ∨ (i = .int .i64 1 ∧ z = .int .i64 (A1 : Int)) ∨ (i = .int .i64 2 ∧ z = .int .i64 (sizeN n : Int))) (fun _ i => 2 - (intOf i).toNat)
    case atStart => exact Or.inl ⟨rfl, by rw [← hA0']⟩
    case round =>
      rcases hrel with ⟨rfl, rfl⟩ | ⟨rfl, rfl⟩ | ⟨rfl, rfl⟩
      · obtain ⟨a', c', e', hel⟩ := HK1.out.open
        simp only [Value.slice.injEq, true_and] at e'
        obtain ⟨rfl, rfl⟩ := e'
        have HE := Lib.hid hel
        clear hel
        go_wp2_with fail
        go_loop [4, 27] (fun z i => ∃ j : Nat, j ≤ n.keys.length ∧ i = .int .i64 j ∧ z = .int .i64 ((A0 + strsN (n.keys.take j) : Nat) : Int)) (fun _ i => n.keys.length - (intOf i).toNat)
        case atStart => exact ⟨0, Nat.zero_le _, rfl, by simp [strsN]⟩
        case round =>
          obtain ⟨j, hj, rfl, rfl⟩ := hrel
          rcases Nat.lt_or_ge j n.keys.length with hlt | hge
          · obtain ⟨b, o, rfl, hc⟩ := HE.out j hlt
            have hst := strsN_step n.keys j hlt
            have h1 := HKT.out j
            have h2 := HKS.out _ (List.getElem_mem hlt)
            obtain ⟨x, hx⟩ : ∃ x, x = n.keys[j]'hlt := ⟨_, rfl⟩
            rw [← hx] at hc hst h2
            obtain ⟨T, hT⟩ : ∃ T, T = strsN (n.keys.take j) := ⟨_, rfl⟩
            rw [← hT] at hst h1 ⊢
            have HST := Lib.hid hst
            have ew : wrap64 (1 + (x.size : Int)) = 1 + (x.size : Int) := by unfold wrap64; omega
            clear hx hT hst
            go_wp2
            go_round
            case rel => exact ⟨j + 1, by omega, by go_num, by rw [HST.out]; go_num⟩
            case measure => simp [intOf]; omega
          · obtain rfl : j = n.keys.length := by omega
            have e0 : A0 + strsN (n.keys.take n.keys.length) = A1 := by rw [List.take_length, HA1.out]
            rw [e0]
            clear e0
            go_wp2
            go_round
            case rel => exact Or.inr (Or.inl ⟨rfl, rfl⟩)
            case measure => simp [intOf]
      · obtain ⟨a', c', e', hel⟩ := HV1.out.open
        simp only [Value.slice.injEq, true_and] at e'
        obtain ⟨rfl, rfl⟩ := e'
        have HE := Lib.hid hel
        clear hel
        go_wp2_with fail
        go_loop [4, 27] (fun z i => ∃ j : Nat, j ≤ n.vals.length ∧ i = .int .i64 j ∧ z = .int .i64 ((A1 + strsN (n.vals.take j) : Nat) : Int)) (fun _ i => n.vals.length - (intOf i).toNat)
        case atStart => exact ⟨0, Nat.zero_le _, rfl, by simp [strsN]⟩
        case round =>
          obtain ⟨j, hj, rfl, rfl⟩ := hrel
          rcases Nat.lt_or_ge j n.vals.length with hlt | hge
          · obtain ⟨b, o, rfl, hc⟩ := HE.out j hlt
            have hst := strsN_step n.vals j hlt
            have h1 := HVT.out j
            have h2 := HVS.out _ (List.getElem_mem hlt)
            obtain ⟨x, hx⟩ : ∃ x, x = n.vals[j]'hlt := ⟨_, rfl⟩
            rw [← hx] at hc hst h2
            obtain ⟨T, hT⟩ : ∃ T, T = strsN (n.vals.take j) := ⟨_, rfl⟩
            rw [← hT] at hst h1 ⊢
            have HST := Lib.hid hst
            have ew : wrap64 (1 + (x.size : Int)) = 1 + (x.size : Int) := by unfold wrap64; omega
            clear hx hT hst
            go_wp2
            go_round
            case rel => exact ⟨j + 1, by omega, by go_num, by rw [HST.out]; go_num⟩
            case measure => simp [intOf]; omega
          · obtain rfl : j = n.vals.length := by omega
            have e0 : A1 + strsN (n.vals.take n.vals.length) = sizeN n := by rw [List.take_length, HA1.out, HA0.out]; rfl
            rw [e0]
            clear e0
            go_wp2
            go_round
            case rel => exact Or.inr (Or.inr ⟨rfl, rfl⟩)
            case measure => simp [intOf]
      · go_wp2
        go_ret2
        exact ⟨by rw [HQ.out.1, HQ.out.2]; rfl, HB1.out⟩

end Go.Proofs.YtdmgmpagnmmehaaDoor
