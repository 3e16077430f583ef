/- Walk: sha's spread. -/
import Derived.Test.YtdmgmpagnmmehaaDoorShaA
import Derived.Test.YtdmgmpagnmmehaaDoorNum
import Derived.Test.YtdmgmpagnmmehaaDoorWords
import Derived.Test.YtdmgmpagnmmehaaDoorQuietTail
namespace Go.Proofs.YtdmgmpagnmmehaaDoor
open Go.RowKit

theorem wnext_val {x0 x1 x9 x14 : Nat} (b1 : x1 < 4294967296) (b14 : x14 < 4294967296) :
    (Value.int .u32 (((x0 : Int) + (x9 : Int) + bits .xor .u32 (bits .xor .u32 (rotl x1 25 : Int) (rotl x1 14 : Int)) ((x1 : Int) / 8) + bits .xor .u32 (bits .xor .u32 (rotl x14 15 : Int) (rotl x14 13 : Int)) ((x14 : Int) / 1024)) % 4294967296)) =
      U32 ((x0 + x9 + smallN x1 7 18 3 + smallN x14 17 19 10) % 4294967296) := by
  have h1 : (x1 : Int) / 8 = ((x1 / 8 : Nat) : Int) := by omega
  have h2 : (x14 : Int) / 1024 = ((x14 / 1024 : Nat) : Int) := by omega
  rw [h1, h2, u32_xor_nat _ _ (rotl_lt _ b1) (rotl_lt _ b1), u32_xor_nat _ _ (xor_lt32 (rotl_lt _ b1) (rotl_lt _ b1)) (by omega), u32_xor_nat _ _ (rotl_lt _ b14) (rotl_lt _ b14), u32_xor_nat _ _ (xor_lt32 (rotl_lt _ b14) (rotl_lt _ b14)) (by omega)]
  unfold U32 smallN
  congr 1
theorem info_w64' : (Tryd.prog.info? 146).map (·.size) = some 64 := by kernel_rfl

theorem Fr_drewN' (S : Nat → Prop) (w : World) (n : Nat) : Fr S w (w.drewN n) := ⟨rfl, rfl, rfl, Nat.le_refl _, fun _ _ _ => rfl⟩
def SpreadRel (w0 : World) (R : Nat) (l : List Nat) (wr : World) : Prop := wr.heap[R]? = some (.cells (rowZ 64 l).toArray 146 (0, 0)) ∧ Fr (fun k => k = R) w0 wr

set_option maxRecDepth 100000 in
set_option maxHeartbeats 8000000 in
theorem spread_any (v : Value) (b : List UInt8) (w : World) (h : Sl w 1 v 64 (b.map Bv)) :
    Calls Tryd.prog 107 #[v] w fun e w' => e = .returned (.agg ((spreadL b 64).map U32).toArray) ∧ Below w.heap.size w w' := by
  have hl : b.length = 64 := by simpa using h.1
  obtain ⟨a, cap, rfl, _⟩ := h.len
  have HS := Lib.hid (fun (w' : World) (hh : Below w.heap.size w w') => (h.below hh : Sl w' 1 (.slice a 64 cap) 64 (b.map Bv)))
  clear h
  go_enter Tryd.func107, Tryd.ntmps107
  go_wp2_with fail
  have hR0 : SpreadRel (w.alloc (.cells (rowZ 64 []).toArray 146)) w.heap.size (spreadL b 0) (w.alloc (.cells (rowZ 64 []).toArray 146)) := ⟨heap_alloc_new _ _, Fr.refl _ _⟩
  have hB0 : Below w.heap.size w (w.alloc (.cells (rowZ 64 []).toArray 146)) := (Below.refl _ w).alloc (Nat.le_refl _) _
  obtain ⟨w0, hw0⟩ : ∃ w0, w0 = w.alloc (.cells (rowZ 64 []).toArray 146) := ⟨_, rfl⟩
  have HR0 := Lib.hid (show SpreadRel w0 w.heap.size (spreadL b 0) (w.alloc (.cells (rowZ 64 []).toArray 146)) by rw [hw0]; exact hR0)
  have HB0 := Lib.hid (show Below w.heap.size w w0 by rw [hw0]; exact hB0)
  clear hR0 hB0 hw0
  go_loopw [9, 3, 4, 5] (fun i _ _ _ wr => ∃ k : Nat, k ≤ 16 ∧ i = .int .i64 k ∧ SpreadRel w0 w.heap.size (spreadL b k) wr) (fun i _ _ _ _ => 16 - (intOf i).toNat)
  case atStart => exact ⟨0, Nat.zero_le _, rfl, HR0.out⟩
  case round =>
    obtain ⟨k, hk, rfl, hrow, hfr⟩ := hrel
    rcases Nat.lt_or_ge k 16 with hlt | hge
    · have hsl := HS.out wr (HB0.out.trans (hfr.below HB0.out.size (fun j hj => by omega)))
      obtain ⟨A, C, q, hA⟩ := cut_u8 hsl (lo := 4 * k) (hi := 4 * k + 4) (by omega) (by omega)
      have HRow := Lib.hid hrow
      have HFr := Lib.hid hfr
      have e4 : 4 * k + 4 - 4 * k = 4 := by omega
      rw [e4] at q hA
      have ec : ((4 * k : Nat) : Int) = 4 * (k : Int) := by omega
      have ec2 : ((4 * k + 4 : Nat) : Int) = 4 * (k : Int) + 4 := by omega
      rw [ec, ec2] at q
      have HA := Lib.hid hA
      clear hrow hfr hsl e4 ec ec2 hA
      have hx : spreadL b (k + 1) = spreadL b k ++ [getB ((b.drop (4 * k)).take 4)] := by
        show spreadL b k ++ [if k < 16 then getB ((b.drop (4 * k)).take 4) else wNext (spreadL b k) k] = _
        rw [if_pos hlt]
      have hx32 : getB ((b.drop (4 * k)).take 4) < 4294967296 := spreadL_lt b (k + 1) _ (by rw [hx]; simp)
      have HX := Lib.hid hx
      obtain ⟨X, hX⟩ : ∃ X, X = getB ((b.drop (4 * k)).take 4) := ⟨_, rfl⟩
      have HGet := Lib.hid (numGet_ok (.slice A 4 C) ((b.drop (4 * k)).take 4) 4 wr HA.out (by omega))
      rw [← hX] at HX HGet hx32
      have HLk := Lib.hid (spreadL_length b k)
      clear hx hX
      go_wp2_with fail
      refine HGet.out.mono ?_
      rintro e w2 ⟨rfl, rfl⟩
      have c0 : wr.cell? ⟨w.heap.size, k, none⟩ = some (.int .u32 0) := by
        rw [cell_of_row _ _ k _ _ _ HRow.out, List.getElem?_toArray]
        have h1 := rowZ_get 64 (spreadL b k) k (by rw [HLk.out]; omega) (by omega)
        rw [h1, List.getD_eq_getElem?_getD, List.getElem?_eq_none (by rw [HLk.out]; exact Nat.le_refl _)]
        rfl
      have f0 : wr.frozen? ⟨w.heap.size, k, none⟩ = false := by simp [World.frozen?, HRow.out]
      go_wp2
      go_roundw
      case rel =>
        refine ⟨k + 1, by omega, by go_num, ?_, HFr.out.set _ _ rfl _⟩
        have h1 := heap_setCell_same _ _ k _ _ (U32 X) HRow.out
        rw [HX.out]
        rw [List.setIfInBounds_toArray] at h1
        have h2 := rowZ_set 64 (spreadL b k) X (by rw [HLk.out]; omega)
        rw [HLk.out] at h2
        rw [h2] at h1
        exact h1
      case measure => simp [intOf]; omega
    · obtain rfl : k = 16 := by omega
      have HR16 := Lib.hid (show SpreadRel w0 w.heap.size (spreadL b 16) wr from ⟨hrow, hfr⟩)
      clear hrow hfr hk hge
      go_wp2_with fail
      obtain ⟨wo, hwo⟩ : ∃ wo : World, wo = wr := ⟨_, rfl⟩
      rw [← hwo] at HR16 ⊢
      clear hwo
      go_loopw [6, 7, 8] (fun i _ _ wr => ∃ m : Nat, m ≤ 48 ∧ i = .int .i64 ((m : Int) + 16) ∧ SpreadRel w0 w.heap.size (spreadL b (m + 16)) wr) (fun i _ _ _ => 64 - (intOf i).toNat)
      case atStart => exact ⟨0, by omega, rfl, HR16.out⟩
      case round =>
        obtain ⟨m, hm, rfl, hrow, hfr⟩ := hrel
        rcases Nat.lt_or_ge m 48 with hlt | hge
        · have HRow := Lib.hid hrow
          have HFr := Lib.hid hfr
          have HLk := Lib.hid (spreadL_length b (m + 16))
          have hc : ∀ j, j < 64 → wr.cell? ⟨w.heap.size, j, none⟩ = some (.int .u32 (((spreadL b (m + 16)).getD j 0 : Nat) : Int)) := fun j hj => by
            rw [cell_of_row _ _ j _ _ _ HRow.out, List.getElem?_toArray]
            exact rowZ_get 64 _ _ (by rw [HLk.out]; omega) hj
          have hlt32 : ∀ j, (spreadL b (m + 16)).getD j 0 < 4294967296 := fun j => by
            rw [List.getD_eq_getElem?_getD]
            cases hq : (spreadL b (m + 16))[j]? with
            | none => decide
            | some x => exact spreadL_lt b (m + 16) x (List.mem_of_getElem? hq)
          have d0 := hc m (by omega)
          have d1 := hc (m + 1) (by omega)
          have d9 := hc (m + 9) (by omega)
          have d14 := hc (m + 14) (by omega)
          have d16 := hc (m + 16) (by omega)
          have f16 : wr.frozen? ⟨w.heap.size, m + 16, none⟩ = false := by simp [World.frozen?, HRow.out]
          obtain ⟨x0, hx0⟩ : ∃ x0, x0 = (spreadL b (m + 16)).getD m 0 := ⟨_, rfl⟩
          obtain ⟨x1, hx1⟩ : ∃ x1, x1 = (spreadL b (m + 16)).getD (m + 1) 0 := ⟨_, rfl⟩
          obtain ⟨x9, hx9⟩ : ∃ x9, x9 = (spreadL b (m + 16)).getD (m + 9) 0 := ⟨_, rfl⟩
          obtain ⟨x14, hx14⟩ : ∃ x14, x14 = (spreadL b (m + 16)).getD (m + 14) 0 := ⟨_, rfl⟩
          have b0 : x0 < 4294967296 := by rw [hx0]; exact hlt32 _
          have b1 : x1 < 4294967296 := by rw [hx1]; exact hlt32 _
          have b9 : x9 < 4294967296 := by rw [hx9]; exact hlt32 _
          have b14 : x14 < 4294967296 := by rw [hx14]; exact hlt32 _
          rw [← hx0] at d0
          rw [← hx1] at d1
          rw [← hx9] at d9
          rw [← hx14] at d14
          have HXs := Lib.hid (And.intro hx0 (And.intro hx1 (And.intro hx9 hx14)))
          clear hrow hfr hc hlt32 hx0 hx1 hx9 hx14
          go_wp2_with fail
          go_quiet (fail)
          have t1 := Lib.hid (quiet_same (fun w => turn_any x1 25 (-7) w b1 (by decide) (by decide)))
          have t2 := Lib.hid (quiet_same (fun w => turn_any x1 14 (-18) w b1 (by decide) (by decide)))
          have t3 := Lib.hid (quiet_same (fun w => turn_any x14 15 (-17) w b14 (by decide) (by decide)))
          have t4 := Lib.hid (quiet_same (fun w => turn_any x14 13 (-19) w b14 (by decide) (by decide)))
          go_wp2_with fail
          refine wp_region_quiet_tail 29 (by kernel_rfl) (by kernel_rfl) ?_
          simp only [List.take_succ_cons, List.take_zero, List.drop_succ_cons, List.drop_zero]
          repeat (first | go_big_quiet_step (fail) | (go_big_quiet_want; go_big_quiet_op; apply Exists.intro; refine ⟨?_, ?_⟩; (focus (first | with_reducible exact t1.out _ | with_reducible exact t2.out _ | with_reducible exact t3.out _ | with_reducible exact t4.out _)); go_big_quiet_on))
          refine wpQuiet_nil ?_
          have HV := Lib.hid (wnext_val (x0 := x0) (x9 := x9) b1 b14)
          clear b0 b1 b9 b14 t1 t2 t3 t4
          go_wp2_with fail
          go_roundw
          case rel =>
            refine ⟨m + 1, by omega, by go_num, ?_, (HFr.out.trans (Fr_drewN' _ wr _)).set _ _ rfl _⟩
            have hx : spreadL b (m + 1 + 16) = spreadL b (m + 16) ++ [(x0 + x9 + smallN x1 7 18 3 + smallN x14 17 19 10) % 4294967296] := by
              rw [show m + 1 + 16 = m + 16 + 1 by omega]
              show spreadL b (m + 16) ++ [if m + 16 < 16 then getB ((b.drop (4 * (m + 16))).take 4) else wNext (spreadL b (m + 16)) (m + 16)] = _
              obtain ⟨q0, q1, q9, q14⟩ := HXs.out
              rw [if_neg (by omega), wNext, show m + 16 - 16 = m by omega, show m + 16 - 7 = m + 9 by omega, show m + 16 - 15 = m + 1 by omega, show m + 16 - 2 = m + 14 by omega, ← q0, ← q1, ← q9, ← q14]
            have h1 := heap_setCell_same (wr.drewN (nq + 1)) _ (m + 16) _ _ (U32 ((x0 + x9 + smallN x1 7 18 3 + smallN x14 17 19 10) % 4294967296)) HRow.out
            rw [List.setIfInBounds_toArray] at h1
            have h2 := rowZ_set 64 (spreadL b (m + 16)) ((x0 + x9 + smallN x1 7 18 3 + smallN x14 17 19 10) % 4294967296) (by rw [HLk.out]; omega)
            rw [HLk.out] at h2
            rw [h2, ← hx] at h1
            rw [HV.out]
            exact h1
          case measure => simp [intOf]; omega
        · obtain rfl : m = 48 := by omega
          have HRow := Lib.hid (show wr.heap[w.heap.size]? = some (.cells ((spreadL b 64).map U32).toArray 146 (0, 0)) by rw [hrow, rowZ_full 64 _ (spreadL_length b 64)])
          have HB := Lib.hid (HB0.out.trans (hfr.below HB0.out.size (fun j hj => by omega)))
          have HLn := Lib.hid (show ((spreadL b 64).map U32).length = 64 by rw [List.length_map, spreadL_length])
          clear hrow hfr hm hge
          obtain ⟨sp, hsp⟩ : ∃ sp, sp = spreadL b 64 := ⟨_, rfl⟩
          rw [← hsp] at HRow HLn
          have HSp := Lib.hid hsp
          clear hsp
          go_wp2_with (first | (refine wpList_load_at rfl 146 (.tmp 2) rfl w.heap.size 0 rfl (sp.map U32) _ (At.of_row (by simpa using HRow.out)) Tryd.underlying146 rfl (by rw [info_w64', HLn.out]) ?_) | (refine wpList_store_row rfl 146 (.tmp 2) (.tmp 69) rfl w.heap.size rfl (sp.map U32) rfl _ _ HRow.out (by rw [List.size_toArray]) (U32_one sp) (by rw [info_w64', HLn.out]) ?_; intro w9 hg9 hf9 hs9))
          have HG9 := Lib.hid hg9
          have HB9 := Lib.hid (HB.out.trans (hf9.below HB.out.size (fun j hj => by omega)))
          clear hg9 hf9 hs9
          go_wp2
          exact bodyPost_ret (results_cell_row rfl _ w9 w.heap.size _ _ _ _ rfl HG9.out Tryd.underlying146 rfl (by rw [info_w64', List.size_toArray, HLn.out])) rfl ⟨by rw [HSp.out], HB9.out⟩

end Go.Proofs.YtdmgmpagnmmehaaDoor
