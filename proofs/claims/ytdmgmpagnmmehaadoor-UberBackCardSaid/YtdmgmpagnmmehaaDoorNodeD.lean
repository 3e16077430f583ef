/- Walks: node's Check; cmp.Or of noughts; ptr.Put. -/
import Derived.Test.YtdmgmpagnmmehaaDoorNodeC
import Derived.Test.YtdmgmpagnmmehaaDoorActs
import Derived.Test.YtdmgmpagnmmehaaDoorLaw07
namespace Go.Proofs.YtdmgmpagnmmehaaDoor
open Go.RowKit

def checkE (n : Nd) : Int := if formB n then (if 512 < sizeN n then 6 else 0) else 4
theorem checkE_bad {n : Nd} (h : formB n = false) : checkE n = 4 := by unfold checkE; rw [if_neg (by rw [h]; simp)]
theorem checkE_full {n : Nd} (h : formB n = true) (h2 : 512 < sizeN n) : checkE n = 6 := by unfold checkE; rw [if_pos h, if_pos h2]
theorem checkE_ok {n : Nd} (h : formB n = true) (h2 : ¬ 512 < sizeN n) : checkE n = 0 := by unfold checkE; rw [if_pos h, if_neg h2]

set_option maxHeartbeats 1000000 in
theorem check_any (arr : Array Value) (n : Nd) (w : World) (h : NdIs w arr n) (hf : n.Fits) :
    Calls Tryd.prog 16 #[.agg arr] w fun e w' => e = .returned (.int .i64 (checkE n)) ∧ Below w.heap.size w w' := by
  have HN := Lib.hid h
  obtain ⟨ak, ck, av, cv, ap, cp, rfl, hk, hv, hp⟩ := h.get
  have hb0 : Below w.heap.size w (w.alloc (.cells #[.bool n.leaf, .slice ak n.keys.length ck, .slice av n.vals.length cv, .slice ap n.kids.length cp] 25)) := (Below.refl _ w).alloc (Nat.le_refl _) _
  have HB := Lib.hid hb0
  have HF := Lib.hid hf
  have HFm := Lib.hid (fun w h => size_any #[.bool n.leaf, .slice ak n.keys.length ck, .slice av n.vals.length cv, .slice ap n.kids.length cp] n w h HF.out)
  have HN0 := Lib.hid (HN.out.below hb0)
  clear h hk hv hp hb0 hf
  cases hfb : formB n with
  | false =>
    have HQ := Lib.hid (checkE_bad hfb)
    rw [sizeV_bad hfb, sizeR_bad hfb] at HFm
    clear hfb
    go_enter Tryd.func16, Tryd.ntmps16
    go_wp2_with fail
    refine (HFm.out _ HN0.out).mono ?_
    rintro e w1 ⟨rfl, hb⟩
    have HB1 := Lib.hid (HB.out.trans (hb.mono HB.out.size))
    clear hb
    go_wp2
    go_ret
    exact ⟨by rw [HQ.out]; rfl, HB1.out⟩
  | true =>
    rw [sizeV_ok hfb, sizeR_ok hfb] at HFm
    by_cases h2 : 512 < sizeN n
    · have HQ := Lib.hid (checkE_full hfb h2)
      have b1 : (512 : Int) < (sizeN n : Int) := by omega
      clear hfb h2
      go_enter Tryd.func16, Tryd.ntmps16
      go_wp2_with fail
      refine (HFm.out _ HN0.out).mono ?_
      rintro e w1 ⟨rfl, hb⟩
      have HB1 := Lib.hid (HB.out.trans (hb.mono HB.out.size))
      clear hb
      go_wp2
      go_ret
      exact ⟨by rw [HQ.out]; rfl, HB1.out⟩
    · have HQ := Lib.hid (checkE_ok hfb h2)
      have b1 : ¬ (512 : Int) < (sizeN n : Int) := by omega
      clear hfb h2
      go_enter Tryd.func16, Tryd.ntmps16
      go_wp2_with fail
      refine (HFm.out _ HN0.out).mono ?_
      rintro e w1 ⟨rfl, hb⟩
      have HB1 := Lib.hid (HB.out.trans (hb.mono HB.out.size))
      clear hb
      go_wp2
      go_ret
      exact ⟨by rw [HQ.out]; rfl, HB1.out⟩

/-- cmp.Or of noughts. -/
theorem or_zero (a : Option Addr) (m c : Nat) (w : World) (hr : m ≤ 1000) (h : ∀ i, i < m → ∃ b o, a = some ⟨b, o, none⟩ ∧ w.cell? ⟨b, o + i, none⟩ = some (.int .i64 0)) :
    Calls Tryd.prog 55 #[.slice a m c] w fun e w' => e = .returned (.int .i64 0) ∧ w = w' := by
  have HH := Lib.hid h
  clear h
  go_enter Tryd.func55, Tryd.ntmps55
  go_wp2
  go_loop [8] (fun i => ∃ k : Nat, k ≤ m ∧ i = .int .i64 k) (fun i => m - (intOf i).toNat)
  case atStart => exact ⟨0, Nat.zero_le _, rfl⟩
  case round =>
    obtain ⟨k, hk, rfl⟩ := hrel
    rcases Nat.lt_or_ge k m with hlt | hge
    · obtain ⟨b, o, rfl, hc⟩ := HH.out k hlt
      go_wp2
      go_round
      case rel => exact ⟨k + 1, by omega, by go_num⟩
      case measure => simp [intOf]; omega
    · obtain rfl : k = m := by omega
      go_wp2
      go_ret
      exact ⟨rfl, rfl⟩

/-- A pointer's bytes. -/
def ptrB (p : Pt) : List UInt8 := putB p.addr 4 ++ putB p.birth 8 ++ p.sum
theorem ptrB_length (p : Pt) (h : p.Wf) : (ptrB p).length = 44 := by
  unfold ptrB; simp [putB_length, h.sum]

theorem Laid.trans {w w1 w2 : World} {base b : Nat} {row row1 : Option Nat} {xs ys : List UInt8} (h1 : Wr w1 base b row1 xs) (hf : Fr (WS b row) w w1) (hr : ∀ k, row1 = some k → row = some k ∨ w.heap.size ≤ k) (h2 : Laid w1 w2 base b row1 ys) : Laid w w2 base b row ys := by
  obtain ⟨row2, a1, a2, a3⟩ := h2
  refine ⟨row2, a1, hf.step a2 (fun k hk => ?_), fun k hk => ?_⟩
  · rcases hk with e | e
    · exact Or.inl (Or.inl e)
    · rcases hr k e with h | h
      · exact Or.inl (Or.inr h)
      · exact Or.inr h
  · rcases a3 k hk with h | h
    · exact hr k h
    · exact Or.inr (Nat.le_trans hf.size h)

set_option maxHeartbeats 2000000 in
theorem ptrPut_ok (p : Pt) (b base : Nat) (row : Option Nat) (os : List UInt8) (w : World) (hw : Wr w base b row os) (hbase : base ≤ w.heap.size) (hp : p.Wf) (hr : os.length ≤ 1000000000) :
    Calls Tryd.prog 30 #[.pointer (some ⟨b, 0, none⟩), .agg p.arr] w fun e w' => e = .returned (.int .i64 0) ∧ Laid w w' base b row (os ++ ptrB p) := by
  have g0 := p.get0
  have g1 := p.get1
  have ha := hp.addr
  have HW := Lib.hid (hw.fr ((Fr.refl (fun _ => False) w).alloc (.cells p.arr 47)) id (fun _ _ => id))
  have HP := Lib.hid hp
  have HAD := Lib.hid (show (4 : Nat) = 8 ∨ p.addr < 256 ^ 4 from Or.inr (by have := hp.addr; omega))
  have hwl := hw.lt
  have HWL := Lib.hid hwl
  have hne : b ≠ w.heap.size := by omega
  have hrow : ∀ k, row = some k → k ≠ w.heap.size := fun k hk => by have := (hwl.2 k hk).2; omega
  have HROW := Lib.hid hrow
  clear hw hp hwl hrow
  go_enter Tryd.func30, Tryd.ntmps30
  go_wp2_with fail
  refine (wNum_ok b base row os p.addr 4 _ HW.out (by simp; omega) (by omega) HAD.out (by omega)).mono ?_
  rintro e w1 ⟨rfl, row1, hW1, hf1, hr1⟩
  have hb1 := (hf1.block w.heap.size (by simp) (fun e => by rcases e with e | e; (· omega); (· exact HROW.out _ e rfl))).trans (heap_alloc_new w (.cells p.arr 47))
  have c1 : w1.cell? ⟨w.heap.size, 1, none⟩ = some (.int .u64 (p.birth : Int)) := (cell_of_row w1 _ 1 _ _ _ hb1).trans g1
  have hs1 := hf1.size
  rw [World.size_alloc] at hs1 hr1
  have hrow1 : ∀ k, row1 = some k → k ≠ w.heap.size := fun k hk => by rcases hr1 k hk with h | h; (· exact HROW.out k h); (· omega)
  have HB1 := Lib.hid hb1
  have HW1 := Lib.hid hW1
  have HF1 := Lib.hid (((Fr.refl (WS b row) w).alloc (.cells p.arr 47)).trans hf1)
  have HR1 := Lib.hid (show ∀ k, row1 = some k → row = some k ∨ w.heap.size ≤ k from fun k hk => (hr1 k hk).imp id (fun h => by omega))
  have HRO1 := Lib.hid hrow1
  clear hW1 hf1 hr1 hb1 hrow1
  go_wp2_with fail
  refine (wNum_ok b base row1 _ p.birth 8 _ HW1.out (by omega) (by omega) (Or.inl rfl) (by rw [List.length_append, putB_length]; omega)).mono ?_
  rintro e w2 ⟨rfl, row2, hW2, hf2, hr2⟩
  have hb2 := (hf2.block w.heap.size (by omega) (fun e => by rcases e with e | e; (· omega); (· exact HRO1.out _ e rfl))).trans HB1.out
  have hs2 := hf2.size
  have hL2 := Laid.trans HW1.out HF1.out HR1.out ⟨row2, hW2, hf2, hr2⟩
  have HAT2 := Lib.hid (show At w2 w.heap.size 2 (p.sum.map Bv) from Pt.sumAt (o := 0) (At.of_row hb2))
  have hrow2 : ∀ k, row2 = some k → k ≠ w.heap.size := fun k hk => by rcases hr2 k hk with h | h; (· exact HRO1.out k h); (· omega)
  obtain ⟨row2', hW2', hf2', hr2'⟩ := hL2
  have HW2 := Lib.hid hW2'
  have HF2 := Lib.hid hf2'
  have HR2 := Lib.hid hr2'
  clear hW2 hf2 hr2 hb2 hrow2 hW2' hf2' hr2' c1
  go_wp2_with (refine load_hash rfl (.tmp 20) rfl rfl HAT2.out HP.out.sum ?_)
  refine (wHash_ok b base row2' _ p.sum _ HW2.out (by omega) HP.out.sum (by rw [List.length_append, List.length_append, putB_length, putB_length]; omega)).mono ?_
  rintro e w3 ⟨rfl, hl3⟩
  have hL3 := Laid.trans HW2.out HF2.out HR2.out hl3
  have HL3 := Lib.hid hL3
  clear hl3 hL3
  go_wp2_with fail
  refine (or_zero _ 3 3 _ (by omega) (fun i hi => ⟨_, 0, rfl, ?_⟩)).mono ?_
  · rw [Nat.zero_add, cell_of_row _ w3.heap.size i _ _ _ (heap_alloc_new _ _)]
    rcases i with _ | _ | _ | i
    · rfl
    · rfl
    · rfl
    · omega
  rintro e w4 ⟨rfl, rfl⟩
  go_wp2
  go_ret
  obtain ⟨row3, hW3, hf3, hr3⟩ := HL3.out
  refine ⟨rfl, row3, ?_, hf3.alloc _, hr3⟩
  have e : os ++ ptrB p = os ++ putB p.addr 4 ++ putB p.birth 8 ++ p.sum := by unfold ptrB; simp
  rw [e]
  exact hW3.fr ((Fr.refl (fun _ => False) _).alloc _) id (fun _ _ => id)

end Go.Proofs.YtdmgmpagnmmehaaDoor
