/- Walks: the reference's Size, Check and Put of a node. -/
import Derived.Test.YtdhlcofjpkbgaaaDoorRefBytesB
import Derived.Test.YtdhlcofjpkbgaaaDoorRefFormB
import Derived.Test.YtdhlcofjpkbgaaaDoorCopy
namespace Go.Proofs.YtdhlcofjpkbgaaaDoor
open Go.RowKit

theorem NdIs.wf {w : World} {arr : Array Value} {n : Nd} (h : NdIs w arr n) : ∀ p ∈ n.kids, p.Wf := by
  obtain ⟨_, _, _, _, _, _, h3⟩ := h
  exact h3.wf

set_option maxHeartbeats 2000000 in
theorem refSize_any (arr : Array Value) (n : Nd) (w : World) (h : NdIs w arr n) (hf : n.Fits) (hk : n.keys.length ≤ 255) :
    Calls Tryd.prog 116 #[.agg arr] w fun e w' => e = .returned (.tuple #[.int .i64 (sizeV n), .int .i64 (sizeR n)]) ∧ Below w.heap.size w w' := by
  have hwf := h.wf
  have hsz := h.size
  have hb0 : Below w.heap.size w (w.alloc (.cells arr 64)) := (Below.refl _ w).alloc (Nat.le_refl _) _
  have HB := Lib.hid hb0
  have HN := Lib.hid (h.below hb0)
  have HT := Lib.hid (At_nd (heap_alloc_new w (.cells arr 64)))
  have HF := Lib.hid hf
  have HSZ := Lib.hid hsz
  clear h hb0 hf hsz
  cases hfb : formB n with
  | false =>
    have HFm := Lib.hid (fun w h => refForm_any arr n w h HF.out)
    rw [hfb] at HFm
    have HV := Lib.hid (And.intro (sizeV_bad hfb) (sizeR_bad hfb))
    clear hfb hwf
    go_enter Tryd.func116, Tryd.ntmps116
    go_wp2_with (refine load_nd rfl (.tmp 1) rfl rfl HT.out HSZ.out ?_)
    refine (HFm.out _ HN.out).mono ?_
    rintro e w1 ⟨rfl, hb1⟩
    have HB1 := Lib.hid (HB.out.trans (hb1.mono HB.out.size))
    clear hb1
    go_wp2
    go_ret2
    exact ⟨by rw [HV.out.1, HV.out.2]; rfl, HB1.out⟩
  | true =>
    have HFm := Lib.hid (fun w h => refForm_any arr n w h HF.out)
    have HBy := Lib.hid (fun w h => refBytes_any arr n w h hfb hk)
    rw [hfb] at HFm
    have HV := Lib.hid (And.intro (sizeV_ok hfb) (sizeR_ok hfb))
    have HL := Lib.hid (bytesN_length hfb hwf)
    clear hfb hwf
    go_enter Tryd.func116, Tryd.ntmps116
    go_wp2_with (refine load_nd rfl (.tmp 1) rfl rfl HT.out HSZ.out ?_)
    refine (HFm.out _ HN.out).mono ?_
    rintro e w1 ⟨rfl, hb1⟩
    have HB1 := Lib.hid (HB.out.trans (hb1.mono HB.out.size))
    have HN1 := Lib.hid (HN.out.below hb1)
    have HT1 := Lib.hid (HT.out.fr (Fr.of_below (S := fun _ => False) hb1) id)
    clear hb1
    go_wp2_with (refine load_nd rfl (.tmp 1) rfl rfl HT1.out HSZ.out ?_)
    refine (HBy.out _ HN1.out).mono ?_
    rintro e w2 ⟨aa, cc, rfl, ho2, hb2⟩
    rw [HL.out]
    have HB2 := Lib.hid (HB1.out.trans (hb2.mono HB1.out.size))
    clear hb2 ho2
    go_wp2
    go_ret2
    exact ⟨by rw [HV.out.1, HV.out.2]; rfl, HB2.out⟩

set_option maxHeartbeats 2000000 in
theorem refCheck_any (arr : Array Value) (n : Nd) (w : World) (h : NdIs w arr n) (hf : n.Fits) (hk : n.keys.length ≤ 255) :
    Calls Tryd.prog 91 #[.agg arr] w fun e w' => e = .returned (.int .i64 (checkE n)) ∧ Below w.heap.size w w' := by
  have hsz := h.size
  have hb0 : Below w.heap.size w (w.alloc (.cells arr 64)) := (Below.refl _ w).alloc (Nat.le_refl _) _
  have HB := Lib.hid hb0
  have HN := Lib.hid (h.below hb0)
  have HT := Lib.hid (At_nd (heap_alloc_new w (.cells arr 64)))
  have HSZ := Lib.hid hsz
  have HS := Lib.hid (fun w h => refSize_any arr n w h hf hk)
  clear h hb0 hf hsz
  cases hfb : formB n with
  | false =>
    have HQ := Lib.hid (checkE_bad hfb)
    rw [sizeV_bad hfb, sizeR_bad hfb] at HS
    clear hfb
    go_enter Tryd.func91, Tryd.ntmps91
    go_wp2_with (refine load_nd rfl (.tmp 1) rfl rfl HT.out HSZ.out ?_)
    refine (HS.out _ HN.out).mono ?_
    rintro e w1 ⟨rfl, hb1⟩
    have HB1 := Lib.hid (HB.out.trans (hb1.mono HB.out.size))
    clear hb1
    go_wp2
    go_ret
    exact ⟨by rw [HQ.out]; rfl, HB1.out⟩
  | true =>
    rw [sizeV_ok hfb, sizeR_ok hfb] at HS
    by_cases h2 : 512 < sizeN n
    · have HQ := Lib.hid (checkE_full hfb h2)
      have b1 : (512 : Int) < (sizeN n : Int) := by omega
      clear hfb h2
      go_enter Tryd.func91, Tryd.ntmps91
      go_wp2_with (refine load_nd rfl (.tmp 1) rfl rfl HT.out HSZ.out ?_)
      refine (HS.out _ HN.out).mono ?_
      rintro e w1 ⟨rfl, hb1⟩
      have HB1 := Lib.hid (HB.out.trans (hb1.mono HB.out.size))
      clear hb1
      go_wp2
      go_ret
      exact ⟨by rw [HQ.out]; rfl, HB1.out⟩
    · have HQ := Lib.hid (checkE_ok hfb h2)
      have b1 : ¬ (512 : Int) < (sizeN n : Int) := by omega
      clear hfb h2
      go_enter Tryd.func91, Tryd.ntmps91
      go_wp2_with (refine load_nd rfl (.tmp 1) rfl rfl HT.out HSZ.out ?_)
      refine (HS.out _ HN.out).mono ?_
      rintro e w1 ⟨rfl, hb1⟩
      have HB1 := Lib.hid (HB.out.trans (hb1.mono HB.out.size))
      clear hb1
      go_wp2
      go_ret
      exact ⟨by rw [HQ.out]; rfl, HB1.out⟩

set_option maxHeartbeats 1000000 in
theorem refNodePut_bad (arr : Array Value) (n : Nd) (w : World) (h : NdIs w arr n) (hf : n.Fits) (hk : n.keys.length ≤ 255) (hc : checkE n ≠ 0) :
    Calls Tryd.prog 64 #[.agg arr] w fun e w' => e = .returned (.tuple #[.slice none 0 0, .int .i64 (checkE n)]) ∧ Below w.heap.size w w' := by
  have hsz := h.size
  have hb0 : Below w.heap.size w (w.alloc (.cells arr 64)) := (Below.refl _ w).alloc (Nat.le_refl _) _
  have HB := Lib.hid hb0
  have HN := Lib.hid (h.below hb0)
  have HT := Lib.hid (At_nd (heap_alloc_new w (.cells arr 64)))
  have HSZ := Lib.hid hsz
  have HS := Lib.hid (fun w h => refCheck_any arr n w h hf hk)
  have hbc : (checkE n != 0) = true := by simpa using hc
  clear h hb0 hf hsz hc
  go_enter Tryd.func64, Tryd.ntmps64
  go_wp2_with (refine load_nd rfl (.tmp 1) rfl rfl HT.out HSZ.out ?_)
  refine (HS.out _ HN.out).mono ?_
  rintro e w1 ⟨rfl, hb1⟩
  have HB1 := Lib.hid (HB.out.trans (hb1.mono HB.out.size))
  clear hb1
  go_wp2
  go_ret2
  exact ⟨rfl, HB1.out⟩

theorem make_u8' {w : World} {ops : Array Oper} {rest : List Oper} {o : Oper} {a : Act} {Q : Exit → Act → World → Prop}
    (hg : o.guard = none) (l c : Operand) (hop : o.op = Op.makeSlice 22 l c) (n : Nat) (hl : a.eval l = .int .i64 (n : Int)) (hc : a.eval c = .int .i64 (n : Int)) (hn : n ≤ 140737488351232) (Z : List UInt8) (hZ : Z = List.replicate n 0)
    (hK : ∀ w', w'.ownsRow w.heap.size 5 1 (.slice (some ⟨w.heap.size, 0, none⟩) n n) n (Z.map Bv) → Below w.heap.size w w' → wpList Tryd.prog ops Q rest (a.put o.dst (.slice (some ⟨w.heap.size, 0, none⟩) n n)) w') :
    wpList Tryd.prog ops Q (o :: rest) a w := by
  subst hZ
  exact make_u8 hg l c hop n hl hc hn hK

theorem row_full {w : World} {base e g n : Nat} {xs : List Value} (h : w.ownsRow base e 1 (.slice (some ⟨g, 0, none⟩) n n) n xs) : w.heap[g]? = some (.cells xs.toArray e (0, 0)) := by
  obtain ⟨hl, h2⟩ := h
  rcases h2 with ⟨h0, _⟩ | ⟨g', cap, cur, hs, hb, hg, hnc, hcm, hcs, htake⟩
  · cases h0
  · simp only [Value.slice.injEq, Option.some.injEq, Addr.mk.injEq, and_true, true_and] at hs
    obtain ⟨rfl, rfl⟩ := hs
    have e1 : cur = xs.toArray := by
      apply Array.toList_inj.1
      rw [← htake, List.take_of_length_le (by simp [hcs])]
    rw [hg, e1]

set_option maxRecDepth 100000 in
set_option maxHeartbeats 2000000 in
theorem refNodePut_ok (arr : Array Value) (n : Nd) (w : World) (h : NdIs w arr n) (hf : n.Fits) (hk : n.keys.length ≤ 255) (hfb : formB n = true) (hs : sizeN n ≤ 512) :
    Calls Tryd.prog 64 #[.agg arr] w fun e w' => ∃ aa cc, e = .returned (.tuple #[.slice aa 512 cc, .int .i64 0]) ∧ Sl w' 1 (.slice aa 512 cc) 512 ((bytesN n ++ List.replicate (512 - sizeN n) 0).map Bv) ∧ Below w.heap.size w w' := by
  have hsz := h.size
  have hwf := h.wf
  have hb0 : Below w.heap.size w (w.alloc (.cells arr 64)) := (Below.refl _ w).alloc (Nat.le_refl _) _
  have HB := Lib.hid hb0
  have HN := Lib.hid (h.below hb0)
  have HT := Lib.hid (At_nd (heap_alloc_new w (.cells arr 64)))
  have HSZ := Lib.hid hsz
  have HS := Lib.hid (fun w h => refCheck_any arr n w h hf hk)
  rw [checkE_ok hfb (by omega)] at HS
  have HBy := Lib.hid (fun w h => refBytes_any arr n w h hfb hk)
  have hlen := bytesN_length hfb hwf
  have HL := Lib.hid hlen
  have HLE := Lib.hid hs
  clear h hb0 hf hsz hfb hwf hlen hs
  go_enter Tryd.func64, Tryd.ntmps64
  go_wp2_with (refine load_nd rfl (.tmp 1) rfl rfl HT.out HSZ.out ?_)
  refine (HS.out _ HN.out).mono ?_
  rintro e w1 ⟨rfl, hb1⟩
  have HB1 := Lib.hid (HB.out.trans (hb1.mono HB.out.size))
  have HN1 := Lib.hid (HN.out.below hb1)
  have HT1 := Lib.hid (HT.out.fr (Fr.of_below (S := fun _ => False) hb1) id)
  clear hb1
  obtain ⟨Z, hZ⟩ : ∃ Z : List UInt8, Z = List.replicate 512 0 := ⟨_, rfl⟩
  have hZl : Z.length = 512 := by rw [hZ]; simp
  have HZ := Lib.hid hZ
  clear hZ
  go_wp2_with (at_make; refine make_u8' rfl _ _ rfl 512 rfl rfl (by decide) Z HZ.out ?_)
  intro w2 hown2 hb2
  have HG2 := Lib.hid (row_full hown2)
  have HB2 := Lib.hid (HB1.out.trans (hb2.mono HB1.out.size))
  have HN2 := Lib.hid (HN1.out.below hb2)
  have HT2 := Lib.hid (HT1.out.fr (Fr.of_below (S := fun _ => False) hb2) id)
  have hlt2 := lt_of_block HG2.out
  have HW1 := Lib.hid (hb2.size)
  clear hown2 hb2
  go_wp2_with (refine load_nd rfl (.tmp 1) rfl rfl HT2.out HSZ.out ?_)
  refine (HBy.out _ HN2.out).mono ?_
  rintro e w3 ⟨a3, c3, rfl, ho3, hb3⟩
  have HG3 := Lib.hid ((hb3.block w1.heap.size hlt2).trans HG2.out)
  have HB3 := Lib.hid (HB2.out.trans (hb3.mono HB2.out.size))
  have HS3 := Lib.hid (Sl.own ho3)
  have HBw := Lib.hid (HB1.out.size)
  clear ho3 hb3
  have hfit : 0 + min (bytesN n).length 512 ≤ Z.length := by omega
  have HFit := Lib.hid hfit
  clear hfit
  go_wp2_with (refine copy_u8 rfl (.tmp 12) (.tmp 14) rfl HG3.out HS3.out rfl rfl HFit.out ?_)
  intro w4 hg4 hf4
  have hmin : min (bytesN n).length 512 = (bytesN n).length := by have := HLE.out; rw [HL.out]; omega
  have hov : over Z 0 ((bytesN n).take (min (bytesN n).length 512)) = bytesN n ++ List.replicate (512 - sizeN n) 0 := by
    rw [hmin, List.take_length]
    unfold over
    rw [List.take_zero, List.nil_append, HZ.out, List.drop_replicate, Nat.zero_add, HL.out]
  rw [hov] at hg4
  have HS4 := Lib.hid (show Sl w4 1 (.slice (some ⟨w1.heap.size, 0, none⟩) 512 512) 512 ((bytesN n ++ List.replicate (512 - sizeN n) 0).map Bv) from Sl_row hg4 (by simp) (by have := HLE.out; simp [HL.out]; omega))
  have HB4 := Lib.hid (HB3.out.trans (hf4.below HB3.out.size (fun k hk => by have := HBw.out; omega)))
  clear hmin hov hg4 hf4 hZl
  go_wp2
  go_ret2
  exact ⟨_, _, rfl, HS4.out, HB4.out⟩

end Go.Proofs.YtdhlcofjpkbgaaaDoor

namespace Go.Proofs.YtdhlcofjpkbgaaaDoor
open Go.RowKit

theorem checkE_zero3 {n : Nd} (h : checkE n = 0) : formB n = true ∧ sizeN n ≤ 512 := by
  cases hf : formB n with
  | false => rw [checkE_bad hf] at h; cases h
  | true =>
    refine ⟨rfl, Nat.not_lt.1 fun h2 => ?_⟩
    rw [checkE_full hf h2] at h; cases h

/-- A Put that went as the reference's. -/
def PutPost (n : Nd) (w : World) (e : Ending) (w' : World) : Prop :=
  ∃ v xs L, e = .returned (.tuple #[v, .int .i64 (checkE n)]) ∧ Sl w' 1 v L (xs.map Bv) ∧ xs = (if checkE n = 0 then bytesN n ++ List.replicate (512 - sizeN n) 0 else []) ∧ Below w.heap.size w w'

theorem putAny (arr : Array Value) (n : Nd) (w : World) (h : NdIs w arr n) (hf : n.Fits) : Calls Tryd.prog 33 #[.agg arr] w (PutPost n w) := by
  by_cases hc : checkE n = 0
  · obtain ⟨h1, h2⟩ := checkE_zero3 hc
    refine (put_ok arr n w h hf h1 h2).mono ?_
    rintro e w' ⟨aa, cc, rfl, ho, hb⟩
    exact ⟨_, _, 512, by rw [hc], Sl.own ho, by rw [if_pos hc], hb⟩
  · refine (put_bad arr n w h hf hc).mono ?_
    rintro e w' ⟨rfl, hb⟩
    exact ⟨_, _, 0, rfl, Sl.nil _ _, by rw [if_neg hc], hb⟩
theorem refPutAny (arr : Array Value) (n : Nd) (w : World) (h : NdIs w arr n) (hf : n.Fits) (hk : n.keys.length ≤ 255) : Calls Tryd.prog 64 #[.agg arr] w (PutPost n w) := by
  by_cases hc : checkE n = 0
  · obtain ⟨h1, h2⟩ := checkE_zero3 hc
    refine (refNodePut_ok arr n w h hf hk h1 h2).mono ?_
    rintro e w' ⟨aa, cc, rfl, ho, hb⟩
    exact ⟨_, _, 512, by rw [hc], ho, by rw [if_pos hc], hb⟩
  · refine (refNodePut_bad arr n w h hf hk hc).mono ?_
    rintro e w' ⟨rfl, hb⟩
    exact ⟨_, _, 0, rfl, Sl.nil _ _, by rw [if_neg hc], hb⟩

end Go.Proofs.YtdhlcofjpkbgaaaDoor
