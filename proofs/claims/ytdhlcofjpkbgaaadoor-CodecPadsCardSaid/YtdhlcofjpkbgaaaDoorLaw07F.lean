/- Walks: banyanlaw07's CodecPads. -/
import Derived.Test.YtdhlcofjpkbgaaaDoorCodecD
import Derived.Test.YtdhlcofjpkbgaaaDoorCodecC
import Derived.Test.YtdhlcofjpkbgaaaDoorLaw07
namespace Go.Proofs.YtdhlcofjpkbgaaaDoor
open Go.RowKit

set_option maxHeartbeats 1000000 in
theorem codecPads_long (v : Value) (xs : List UInt8) (c : Nat) (w : World) (h : Sl w 1 v xs.length (xs.map Bv)) (hl : 1000 < xs.length) (hm : xs.length ≤ 140737488351232) :
    Calls Tryd.prog 3 #[v, .int .u16 (c : Int)] w fun e w' => e = .returned (.bool true) ∧ Below w.heap.size w w' := by
  obtain ⟨a, cap, rfl, _⟩ := h.len
  clear h
  go_enter Tryd.func3, Tryd.ntmps3
  go_wp2_with fail
  refine (alive07 _).mono ?_
  rintro e w0 ⟨rfl, hb0⟩
  have HB0 := Lib.hid hb0
  clear hb0
  go_wp2
  go_ret
  exact ⟨rfl, HB0.out⟩

set_option maxHeartbeats 2000000 in
theorem codecPads_few (v : Value) (xs : List UInt8) (c k : Nat) (w : World) (h : Sl w 1 v xs.length (xs.map Bv)) (hl : xs.length ≤ 1000) (hc : c < 65536) (ek : (c : Int) % 2000 = (k : Int)) (hk : k < xs.length) :
    Calls Tryd.prog 3 #[v, .int .u16 (c : Int)] w fun e w' => e = .returned (.bool true) ∧ Below w.heap.size w w' := by
  obtain ⟨a, cap, rfl, hcap⟩ := h.len
  have HH := Lib.hid h
  have hlt : (k : Int) < (xs.length : Int) := by omega
  clear h hcap
  go_enter Tryd.func3, Tryd.ntmps3
  go_wp2_with fail
  refine (alive07 _).mono ?_
  rintro e w0 ⟨rfl, hb0⟩
  have HB0 := Lib.hid hb0
  have HH0 := Lib.hid (HH.out.below hb0)
  have hs0 := hb0.size
  clear hb0
  go_wp2_with fail
  refine (wRaw_ok w0.heap.size w0.heap.size none [] xs _ _ (Wr.new w0 _) (by simp) (HH0.out.below ((Below.refl _ w0).alloc (Nat.le_refl _) _)) (by simp; omega)).mono ?_
  rw [List.nil_append]
  rintro e w1 ⟨rfl, hl⟩
  have hb1 := HB0.out.trans (((Below.refl w.heap.size w0).alloc hs0 (.cells #[.slice none 0 0] 26)).trans (hl.below (by simp; omega) hs0 (by simp)))
  obtain ⟨row1, hw1, -, hr1⟩ := hl
  have HW := Lib.hid hw1
  have HB := Lib.hid hb1
  have hs1 := hb1.size
  clear hw1 hb1 hr1 HB0
  go_wp2_with fail
  refine (wPad_err w0.heap.size w0.heap.size (k : Int) row1 xs _ HW.out (Or.inr hlt)).mono ?_
  rintro e w2 ⟨rfl, rfl⟩
  go_wp2_with fail
  refine (wBytes_ok w0.heap.size w0.heap.size row1 _ _ HW.out (by omega)).mono ?_
  rintro e w2 ⟨aa, cc, rfl, hown, hb⟩
  have HS := Lib.hid (Sl.own hown)
  have HB2 := Lib.hid (HB.out.trans (hb.mono hs1))
  have HH2 := Lib.hid (HH.out.below HB2.out)
  clear hown hb
  go_wp2_with fail
  refine (same_any _ _ _ _ _ _ _ HS.out HH2.out).mono ?_
  rintro e w3 ⟨rfl, rfl⟩
  rw [decide_eq_true (rfl : xs = xs)]
  go_wp2
  go_ret
  exact ⟨rfl, HB2.out⟩

set_option maxHeartbeats 2000000 in
theorem codecPads_many (v : Value) (xs : List UInt8) (c k : Nat) (w : World) (h : Sl w 1 v xs.length (xs.map Bv)) (hl : xs.length ≤ 1000) (hc : c < 65536) (ek : (c : Int) % 2000 = (k : Int)) (hk : xs.length ≤ k) (hk2 : k < 2000) :
    Calls Tryd.prog 3 #[v, .int .u16 (c : Int)] w fun e w' => e = .returned (.bool true) ∧ Below w.heap.size w w' := by
  obtain ⟨a, cap, rfl, hcap⟩ := h.len
  have HH := Lib.hid h
  have hlt : ¬ (k : Int) < (xs.length : Int) := by omega
  obtain ⟨m, hm⟩ : ∃ m, m = xs.length := ⟨_, rfl⟩
  obtain ⟨ys, hys⟩ : ∃ ys, ys = xs ++ List.replicate (k - xs.length) (0 : UInt8) := ⟨_, rfl⟩
  have hyl : ys.length = k := by rw [hys, List.length_append, List.length_replicate]; omega
  have htk : ys.take m = xs := by rw [hys, hm, List.take_left]
  have hdr : ys.drop m = List.replicate (k - m) 0 := by rw [hys, hm, List.drop_left]
  have HY := Lib.hid hys
  have HT := Lib.hid htk
  have HD := Lib.hid hdr
  have HL := Lib.hid hyl
  have HM := Lib.hid hm
  clear h hcap hys htk hdr hyl hm
  go_enter Tryd.func3, Tryd.ntmps3
  go_wp2_with fail
  refine (alive07 _).mono ?_
  rintro e w0 ⟨rfl, hb0⟩
  have HB0 := Lib.hid hb0
  have HH0 := Lib.hid (HH.out.below hb0)
  have hs0 := hb0.size
  clear hb0
  go_wp2_with fail
  refine (wRaw_ok w0.heap.size w0.heap.size none [] xs _ _ (Wr.new w0 _) (by simp) (HH0.out.below ((Below.refl _ w0).alloc (Nat.le_refl _) _)) (by simp; omega)).mono ?_
  rw [List.nil_append]
  rintro e w1 ⟨rfl, hl⟩
  have hb1 := HB0.out.trans (((Below.refl w.heap.size w0).alloc hs0 (.cells #[.slice none 0 0] 26)).trans (hl.below (by simp; omega) hs0 (by simp)))
  obtain ⟨row1, hw1, -, hr1⟩ := hl
  have HW := Lib.hid hw1
  have HB := Lib.hid hb1
  have HR := Lib.hid hr1
  have hs1 := hb1.size
  clear hw1 hb1 hr1 HB0
  go_wp2_with fail
  refine (wPad_ok w0.heap.size w0.heap.size k row1 xs _ HW.out (by have := HW.out.lt.1; omega) (by omega) hk).mono ?_
  rw [← HY.out]
  rintro e w2 ⟨rfl, hl⟩
  have hrow1 : ∀ j, row1 = some j → w.heap.size ≤ j := fun j hj => by have := (HW.out.lt.2 j hj).1; omega
  have hb2 := HB.out.trans (hl.below hs1 hs0 hrow1)
  obtain ⟨row2, hw2, -, hr2⟩ := hl
  have HW2 := Lib.hid hw2
  have HB2 := Lib.hid hb2
  have hs2 := hb2.size
  clear hw2 hb2 hr2 hrow1
  go_wp2_with fail
  refine (wBytes_ok w0.heap.size w0.heap.size row2 _ _ HW2.out (by rw [HL.out]; omega)).mono ?_
  rw [HL.out]
  rintro e w3 ⟨aa, cc, rfl, hown, hb⟩
  have hb3 := HB2.out.trans (hb.mono hs2)
  have hs3 := hb3.size
  have hmk : m ≤ k := by have := HM.out; omega
  obtain ⟨A, C, q, hA⟩ := cut_u8_hi (Sl.own hown) (hi := m) hmk
  obtain ⟨A2, C2, q2, hA2⟩ := cut_u8_lo (Sl.own hown) (lo := m) hmk
  rw [HT.out] at hA
  rw [HD.out] at hA2
  rw [HM.out] at q hA q2 hA2
  have HA := Lib.hid hA
  have HA2 := Lib.hid hA2
  have HB3 := Lib.hid hb3
  have HW3 := Lib.hid (HW2.out.fr (Fr.of_below (S := fun _ => False) hb) id (fun _ _ => id))
  have HH3 := Lib.hid (HH.out.below hb3)
  clear hown hb hb3 hA hA2 hmk
  go_wp2_with fail
  refine (same_any _ _ _ _ _ _ _ HA.out HH3.out).mono ?_
  rintro e w4 ⟨rfl, rfl⟩
  rw [decide_eq_true (rfl : xs = xs)]
  go_wp2_with fail
  obtain ⟨zs, hzs⟩ : ∃ zs, zs = List.replicate (k - xs.length) (0 : UInt8) := ⟨_, rfl⟩
  have hzl : zs.length = k - xs.length := by rw [hzs, List.length_replicate]
  have hz0 : endE zs = 0 := endE_zero (by rw [hzs]; intro y hy; exact (List.mem_replicate.1 hy).2)
  have HA3 := HA2.out
  rw [← hzs, ← hzl] at HA3
  have HA4 := Lib.hid HA3
  have HZ := Lib.hid hz0
  have HZL := Lib.hid hzl
  rw [← hzl]
  clear hzs hz0 HA3 hzl
  refine (read_any _ zs _ HA4.out (by rw [HZL.out]; omega)).mono ?_
  rintro e w5 ⟨b, hbs, rfl, hrd, hb⟩
  have hb5 := HB3.out.trans (hb.mono hs3)
  have hs5 := hb5.size
  have HB5 := Lib.hid hb5
  have HR5 := Lib.hid hrd
  have HW5 := Lib.hid (HW3.out.fr (Fr.of_below (S := fun _ => False) hb) id (fun _ _ => id))
  clear hb hb5 hrd
  go_wp2_with fail
  refine (rEnd_any b zs _ HR5.out (by rw [HZL.out]; omega)).mono ?_
  rw [HZ.out]
  rintro e w6 ⟨rfl, hrd, hb⟩
  have hb6 := HB5.out.trans (hb.mono hs5)
  have hs6 := hb6.size
  have HB6 := Lib.hid hb6
  have HW6 := Lib.hid (HW5.out.fr (Fr.of_below (S := fun _ => False) hb) id (fun _ _ => id))
  clear hb hb6 hrd
  go_wp2_with fail
  refine (wPad_ok w0.heap.size w0.heap.size k row2 ys _ HW6.out (by have := HW6.out.lt.1; omega) (by omega) (by have := HL.out; omega)).mono ?_
  have e0 : ys ++ List.replicate (k - ys.length) 0 = ys := by rw [HL.out, Nat.sub_self]; simp
  rw [e0]
  clear e0
  rintro e w7 ⟨rfl, hl⟩
  have hrow2 : ∀ j, row2 = some j → w.heap.size ≤ j := fun j hj => by have := (HW2.out.lt.2 j hj).1; omega
  have hb7 := HB6.out.trans (hl.below hs6 hs0 hrow2)
  obtain ⟨row7, hw7, -, hr7⟩ := hl
  have HW7 := Lib.hid hw7
  have HB7 := Lib.hid hb7
  have hs7 := hb7.size
  clear hw7 hb7 hr7 hrow2
  go_wp2_with fail
  refine (wBytes_ok w0.heap.size w0.heap.size row7 _ _ HW7.out (by rw [HL.out]; omega)).mono ?_
  rw [HL.out]
  rintro e w8 ⟨aa8, cc8, rfl, hown, hb⟩
  have HB8 := Lib.hid (HB7.out.trans (hb.mono hs7))
  clear hown hb
  go_wp2
  go_ret
  exact ⟨by simp, HB8.out⟩

theorem codecPads_any (v : Value) (xs : List UInt8) (c : Nat) (w : World) (h : Sl w 1 v xs.length (xs.map Bv)) (hl : xs.length ≤ 140737488351232) (hc : c < 65536) :
    Calls Tryd.prog 3 #[v, .int .u16 (c : Int)] w fun e w' => e = .returned (.bool true) ∧ Below w.heap.size w w' := by
  rcases Nat.lt_or_ge 1000 xs.length with h1 | h1
  · exact codecPads_long v xs c w h h1 hl
  · have ek : (c : Int) % 2000 = ((c % 2000 : Nat) : Int) := by omega
    have hk : c % 2000 < 2000 := Nat.mod_lt _ (by decide)
    rcases Nat.lt_or_ge (c % 2000) xs.length with h2 | h2
    · exact codecPads_few v xs c _ w h h1 hc ek h2
    · exact codecPads_many v xs c _ w h h1 hc ek h2 hk

end Go.Proofs.YtdhlcofjpkbgaaaDoor
