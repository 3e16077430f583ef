/- Walk: mac.Fits. -/
import Derived.Test.YtdmgmpagnmmehaaDoorMac
namespace Go.Proofs.YtdmgmpagnmmehaaDoor
open Go.RowKit

theorem u8_differ_val (d x y : UInt8) : Value.int .u8 (bits .or .u8 (d.toNat : Int) (bits .xor .u8 (x.toNat : Int) (y.toNat : Int))) = Bv (d ||| (x ^^^ y)) := by
  rw [u8_xor_nat _ _ x.toNat_lt y.toNat_lt, ← UInt8.toNat_xor, u8_or_nat _ _ d.toNat_lt (x ^^^ y).toNat_lt, ← UInt8.toNat_or]; rfl
theorem u8_differ_zero (d x y : UInt8) : d ||| (x ^^^ y) = 0 ↔ d = 0 ∧ x = y := by
  constructor
  · intro h
    have h1 := congrArg UInt8.toNat h
    rw [UInt8.toNat_or, UInt8.toNat_xor] at h1
    have h2 : d.toNat = 0 ∧ (x.toNat ^^^ y.toNat) = 0 := by
      have := Nat.or_eq_zero_iff.1 (show d.toNat ||| (x.toNat ^^^ y.toNat) = 0 from h1)
      exact this
    refine ⟨UInt8.toNat_inj.1 h2.1, UInt8.toNat_inj.1 ?_⟩
    have h3 := congrArg (· ^^^ y.toNat) h2.2
    simpa [Nat.xor_assoc] using h3
  · rintro ⟨rfl, rfl⟩
    simp
theorem take_eq_succ (xs ys : List UInt8) (n : Nat) (h1 : n < xs.length) (h2 : n < ys.length) : xs.take (n + 1) = ys.take (n + 1) ↔ xs.take n = ys.take n ∧ xs[n] = ys[n] := by
  rw [List.take_succ_eq_append_getElem h1, List.take_succ_eq_append_getElem h2]
  constructor
  · intro h
    have := List.append_inj h (by simp; omega)
    exact ⟨this.1, by simpa using this.2⟩
  · rintro ⟨h, e⟩
    rw [h, e]

set_option maxRecDepth 100000 in
set_option maxHeartbeats 4000000 in
theorem fits_any (vk vm : Value) (key msg code : List UInt8) (w : World) (hk : Sl w 1 vk key.length (key.map Bv)) (hm : Sl w 1 vm msg.length (msg.map Bv)) (hr : key.length ≤ 140737488351232) (hr2 : msg.length + 64 ≤ 140737488351232) (hcl : code.length = 32) :
    Calls Tryd.prog 24 #[vk, vm, .agg (code.map Bv).toArray] w fun e w' => e = .returned (.bool (decide (macN key msg = code))) ∧ Below w.heap.size w w' := by
  obtain ⟨hv, hhv⟩ : ∃ hv, hv = macN key msg := ⟨_, rfl⟩
  have hvl : hv.length = 32 := by rw [hhv]; exact macN_length _ _
  rw [← hhv]
  have hbel0 : Below w.heap.size w (w.alloc (.cells (code.map Bv).toArray 45)) := (Below.refl _ w).alloc (Nat.le_refl _) _
  have hz0 := heap_alloc_new w (.cells (code.map Bv).toArray 45)
  have hmac := mac_any vk vm key msg (w.alloc (.cells (code.map Bv).toArray 45)) (hk.below hbel0) (hm.below hbel0) hr hr2
  rw [← hhv] at hmac
  obtain ⟨r, hrr⟩ : ∃ r, r = decide (hv = code) := ⟨_, rfl⟩
  rw [← hrr]
  have HR := Lib.hid hrr
  have HVl := Lib.hid hvl
  have HCl := Lib.hid hcl
  have HB0 := Lib.hid hbel0
  have HZ0 := Lib.hid hz0
  have HMac := Lib.hid hmac
  clear hrr hvl hcl hbel0 hz0 hmac hk hm hhv
  go_enter Tryd.func24, Tryd.ntmps24
  go_wp2_with fail
  refine HMac.out.mono ?_
  rintro e w1 ⟨rfl, hb1⟩
  have HZ1 := Lib.hid ((hb1.block w.heap.size (lt_of_block HZ0.out)).trans HZ0.out)
  have HB1 := Lib.hid (HB0.out.trans (hb1.mono HB0.out.size))
  clear hb1
  go_wp2_with (refine store_hash rfl (.tmp 7) (.tmp 12) rfl rfl rfl (heap_alloc_new _ _) rfl HVl.out ?_)
  intro w2 hg2 hf2
  have hbel2 : Below w1.heap.size w1 w2 := ((Below.refl _ w1).alloc (Nat.le_refl _) _).trans (hf2.below (by simp) (fun j hj => by omega))
  have HZ2 := Lib.hid ((hbel2.block w.heap.size (lt_of_block HZ1.out)).trans HZ1.out)
  have HB2 := Lib.hid (HB1.out.trans (hbel2.mono HB1.out.size))
  have HG2 := Lib.hid hg2
  clear hg2 hf2 hbel2
  go_wp2_with fail
  go_loopw [13, 8] (fun i dv wr => ∃ (n : Nat) (d : UInt8), n ≤ 32 ∧ i = .int .i64 n ∧ dv = .int .u8 (d.toNat : Int) ∧ (d = 0 ↔ hv.take n = code.take n) ∧ ∃ j, wr = w2.drewN j) (fun i _ _ => 32 - (intOf i).toNat)
  case atStart => exact ⟨0, 0, Nat.zero_le _, rfl, rfl, by simp, 0, rfl⟩
  case round =>
    obtain ⟨n, d, hn, rfl, rfl, hd, j, rfl⟩ := hrel
    rcases Nat.lt_or_ge n 32 with hlt | hge
    · have h1 : n < hv.length := by rw [HVl.out]; exact hlt
      have h2 : n < code.length := by rw [HCl.out]; exact hlt
      have ca : w2.cell? ⟨w1.heap.size, n, none⟩ = some (.int .u8 ((hv[n]'h1).toNat : Int)) := by
        rw [cell_of_row _ _ n _ _ _ HG2.out, List.getElem?_toArray, List.getElem?_map, List.getElem?_eq_getElem h1]; rfl
      have cb : w2.cell? ⟨w.heap.size, n, none⟩ = some (.int .u8 ((code[n]'h2).toNat : Int)) := by
        rw [cell_of_row _ _ n _ _ _ HZ2.out, List.getElem?_toArray, List.getElem?_map, List.getElem?_eq_getElem h2]; rfl
      have hiff := take_eq_succ hv code n h1 h2
      obtain ⟨x, hx⟩ : ∃ x, x = hv[n]'h1 := ⟨_, rfl⟩
      obtain ⟨y, hy⟩ : ∃ y, y = code[n]'h2 := ⟨_, rfl⟩
      rw [← hx] at ca hiff
      rw [← hy] at cb hiff
      have hval := u8_differ_val d x y
      have hz := u8_differ_zero d x y
      have HVal := Lib.hid hval
      have HNew := Lib.hid (show d ||| (x ^^^ y) = 0 ↔ hv.take (n + 1) = code.take (n + 1) by rw [hz, hiff, hd])
      clear hval hz hiff hd hx hy
      go_wp2_with fail
      go_quiet (fail)
      go_wp2
      go_roundw
      case rel => exact ⟨n + 1, d ||| (x ^^^ y), by omega, by go_num, HVal.out, HNew.out, _, rfl⟩
      case measure => simp [intOf]; omega
    · obtain rfl : n = 32 := by omega
      have hfin : ((d.toNat : Int) == 0) = r := by
        rw [HR.out, Bool.eq_iff_iff, beq_iff_eq, decide_eq_true_iff]
        rw [List.take_of_length_le (by rw [HVl.out]; exact Nat.le_refl _), List.take_of_length_le (by rw [HCl.out]; exact Nat.le_refl _)] at hd
        rw [← hd]
        constructor
        · intro h; exact UInt8.toNat_inj.1 (show d.toNat = 0 by omega)
        · rintro rfl; rfl
      have HFin := Lib.hid hfin
      have hdl := d.toNat_lt
      clear hfin hd
      go_wp2
      go_ret
      exact ⟨by rw [← HFin.out]; rfl, by repeat (first | exact HB2.out | refine belowDrewN ?_ _)⟩
end Go.Proofs.YtdmgmpagnmmehaaDoor
