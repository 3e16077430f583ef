/- Walk: banyanlaw09's great. -/
import Derived.Test.YtdmgmpagnmmehaaDoorNodeB
namespace Go.Proofs.YtdmgmpagnmmehaaDoor
open Go.RowKit

def lenS (l : List ByteArray) : Int := (l.map (fun s => (s.size : Int))).sum
theorem lenS_step (l : List ByteArray) (k : Nat) (h : k < l.length) : lenS (l.take (k + 1)) = lenS (l.take k) + (l[k].size : Int) := by
  unfold lenS
  rw [List.take_succ_eq_append_getElem h, List.map_append, List.sum_append]; simp
def costN (n : Nd) : Int := 44 * (n.kids.length : Int) + lenS n.keys + lenS n.vals
def great9 (n : Nd) : Bool := decide (6000 < wrap64 (costN n)) || decide (200 < (n.keys.length : Int)) || decide (200 < (n.vals.length : Int))
theorem wrap64_add' (a b : Int) : wrap64 (wrap64 a + b) = wrap64 (a + b) := by unfold wrap64; omega

set_option maxRecDepth 100000 in
set_option maxHeartbeats 2000000 in
theorem great09_any (arr : Array Value) (n : Nd) (w : World) (h : NdIs w arr n) (hf : n.Fits) :
    Calls Tryd.prog 11 #[.agg arr] w fun e w' => e = .returned (.bool (great9 n)) ∧ Below w.heap.size w w' := by
  obtain ⟨ak, ck, av, cv, ap, cp, rfl, hk, hv, hp⟩ := h.get
  have hb0 : Below w.heap.size w (w.alloc (.cells #[.bool n.leaf, .slice ak n.keys.length ck, .slice av n.vals.length cv, .slice ap n.kids.length cp] 25)) := (Below.refl _ w).alloc (Nat.le_refl _) _
  have HK := Lib.hid (hk.below hb0)
  have HV := Lib.hid (hv.below hb0)
  have HB := Lib.hid hb0
  have b1 := hf.keys
  have b2 := hf.vals
  have b3 := hf.kids
  obtain ⟨A0, hA0⟩ : ∃ A0 : Int, A0 = 44 * (n.kids.length : Int) := ⟨_, rfl⟩
  have ew : (n.kids.length : Int) * 44 = A0 := by omega
  have ew2 : wrap64 A0 = A0 := by unfold wrap64; omega
  obtain ⟨A1, hA1⟩ : ∃ A1 : Int, A1 = A0 + lenS n.keys := ⟨_, rfl⟩
  have HA0 := Lib.hid hA0
  have HA1 := Lib.hid hA1
  clear h hk hv hp hb0 hf hA0 hA1
  go_enter Tryd.func11, Tryd.ntmps11
  go_wp2_with fail
  go_loop [3, 15] (fun x i => ∃ k : Nat, k ≤ n.keys.length ∧ i = .int .i64 k ∧ x = .int .i64 (wrap64 (A0 + lenS (n.keys.take k)))) (fun _ i => n.keys.length - (intOf i).toNat)
  case atStart => exact ⟨0, Nat.zero_le _, rfl, by simp [lenS, ew2]⟩
  case round =>
    obtain ⟨k, hk, rfl, rfl⟩ := hrel
    rcases Nat.lt_or_ge k n.keys.length with hlt | hge
    · obtain ⟨a', c', e', hel⟩ := HK.out.open
      simp only [Value.slice.injEq, true_and] at e'
      obtain ⟨rfl, rfl⟩ := e'
      obtain ⟨b, o, rfl, hc⟩ := hel k hlt
      have HS := Lib.hid (lenS_step n.keys k hlt)
      clear hel
      go_wp2
      go_round
      case rel => exact ⟨k + 1, by omega, by go_num, by rw [HS.out]; simp only [wrap64_add', Int.add_assoc]⟩
      case measure => simp [intOf]; omega
    · obtain rfl : k = n.keys.length := by omega
      have e1 : A0 + lenS (n.keys.take n.keys.length) = A1 := by rw [List.take_length, HA1.out]
      rw [e1]
      clear e1
      go_wp2_with fail
      go_loop [3, 27] (fun x i => ∃ k : Nat, k ≤ n.vals.length ∧ i = .int .i64 k ∧ x = .int .i64 (wrap64 (A1 + lenS (n.vals.take k)))) (fun _ i => n.vals.length - (intOf i).toNat)
      case atStart => exact ⟨0, Nat.zero_le _, rfl, by simp [lenS]⟩
      case round =>
        obtain ⟨k, hk, rfl, rfl⟩ := hrel
        rcases Nat.lt_or_ge k n.vals.length with hlt | hge
        · obtain ⟨a', c', e', hel⟩ := HV.out.open
          simp only [Value.slice.injEq, true_and] at e'
          obtain ⟨rfl, rfl⟩ := e'
          obtain ⟨b, o, rfl, hc⟩ := hel k hlt
          have HS := Lib.hid (lenS_step n.vals k hlt)
          clear hel
          go_wp2
          go_round
          case rel => exact ⟨k + 1, by omega, by go_num, by rw [HS.out]; simp only [wrap64_add', Int.add_assoc]⟩
          case measure => simp [intOf]; omega
        · obtain rfl : k = n.vals.length := by omega
          have e2 : A1 + lenS (n.vals.take n.vals.length) = costN n := by rw [List.take_length, HA1.out, HA0.out]; rfl
          rw [e2]
          clear e2
          obtain ⟨Z, hZ⟩ : ∃ Z, Z = wrap64 (costN n) := ⟨_, rfl⟩
          rw [← hZ]
          have HZ := Lib.hid (show great9 n = (decide (6000 < Z) || decide (200 < (n.keys.length : Int)) || decide (200 < (n.vals.length : Int))) by rw [hZ]; rfl)
          clear hZ
          by_cases z1 : 6000 < Z
          · go_wp2
            go_ret
            exact ⟨by rw [HZ.out]; simp [z1], HB.out⟩
          · by_cases z2 : (200 : Int) < (n.keys.length : Int)
            · go_wp2
              go_ret
              exact ⟨by rw [HZ.out]; simp [z1, z2], HB.out⟩
            · by_cases z3 : (200 : Int) < (n.vals.length : Int)
              · go_wp2
                go_ret
                exact ⟨by rw [HZ.out]; simp [z1, z2, z3], HB.out⟩
              · go_wp2
                go_ret
                exact ⟨by rw [HZ.out]; simp [z1, z2, z3], HB.out⟩

end Go.Proofs.YtdmgmpagnmmehaaDoor
