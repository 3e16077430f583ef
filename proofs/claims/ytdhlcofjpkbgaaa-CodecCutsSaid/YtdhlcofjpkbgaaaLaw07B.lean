/- Walks: banyanlaw07's CodecCuts. -/
import Derived.Test.YtdhlcofjpkbgaaaLaw07A
namespace Go.Proofs.Ytdhlcofjpkbgaaa
open Go.RowKit

theorem str_back (s : ByteArray) : (⟨((s.data.toList).take (UInt8.ofNat s.size).toNat).toArray⟩ : ByteArray) = s ∨ 255 < s.size := by
  rcases Nat.lt_or_ge 255 s.size with h | h
  · exact Or.inr h
  · refine Or.inl ?_
    have e : (UInt8.ofNat s.size).toNat = s.data.toList.length := by
      rw [UInt8.toNat_ofNat', Array.length_toList]
      exact Nat.mod_eq_of_lt (show s.size < 256 by omega)
    rw [e, List.take_length]

set_option maxHeartbeats 1000000 in
theorem codecCuts_long (s : ByteArray) (at_ : Nat) (w : World) (hs : 255 < s.size) :
    Calls Try.prog 5 #[.string s, .int .u8 (at_ : Int)] w fun e w' => e = .returned (.bool true) ∧ Below w.heap.size w w' := by
  go_enter Try.func5, Try.ntmps5
  go_wp2_with fail
  refine (alive07 _).mono ?_
  rintro e w0 ⟨rfl, hb0⟩
  have HB0 := Lib.hid hb0
  clear hb0
  go_wp2
  go_ret
  exact ⟨rfl, HB0.out⟩

theorem strB_take (s : ByteArray) (k : Nat) (hk : k ≤ s.size + 1) : (([] ++ strB s).take k = [] ∧ k = 0) ∨ ∃ j, k = j + 1 ∧ ([] ++ strB s).take k = UInt8.ofNat s.size :: s.data.toList.take j := by
  cases k with
  | zero => exact Or.inl ⟨by simp, rfl⟩
  | succ j => exact Or.inr ⟨j, rfl, by simp [strB]⟩

set_option maxHeartbeats 1000000 in
theorem codecCuts_any (s : ByteArray) (c : Nat) (w : World) (hs : s.size ≤ 255) (hc : c < 256) :
    Calls Try.prog 5 #[.string s, .int .u8 (c : Int)] w fun e w' => e = .returned (.bool true) ∧ Below w.heap.size w w' := by
  obtain ⟨n, hn⟩ : ∃ n, n = s.size + 1 := ⟨_, rfl⟩
  have hk : c % (n + 1) < n + 1 := Nat.mod_lt _ (by omega)
  obtain ⟨k, hkc⟩ : ∃ k, k = c % (n + 1) := ⟨_, rfl⟩
  have ek : ((c : Int) % ((n : Int) + 1)) = (k : Int) := by rw [hkc]; simp
  have hk : k ≤ n := by omega
  have SB := Lib.hid ((str_back s).resolve_right (by omega))
  have hl0 : ([] ++ strB s).length = n := by simp [strB_length, hn]
  have hsl : s.data.toList.length + 1 = n := by rw [hn, Array.length_toList]; rfl
  have hst : (UInt8.ofNat s.size).toNat + 1 = n := by rw [UInt8.toNat_ofNat', hn, Nat.mod_eq_of_lt (show s.size < 2 ^ 8 by omega)]
  have hcs := strB_take s k (by omega)
  have hn' : n ≤ 256 := by omega
  have HS := Lib.hid hsl
  have HT := Lib.hid hst
  have HC := Lib.hid hcs
  have HL0 := Lib.hid hl0
  clear hkc hl0 hn hst hsl hcs
  go_enter Try.func5, Try.ntmps5
  go_wp2_with fail
  refine (alive07 _).mono ?_
  rintro e w0 ⟨rfl, hb0⟩
  have HB0 := Lib.hid hb0
  have hs0 := hb0.size
  clear hb0
  go_wp2_with fail
  refine (wStr_ok w0.heap.size w0.heap.size none [] s _ (Wr.new w0 _) (by simp) hs (by decide)).mono ?_
  rintro e w1 ⟨rfl, hl⟩
  have hb1 := HB0.out.trans (((Below.refl w.heap.size w0).alloc hs0 (.cells #[.slice none 0 0] 26)).trans (hl.below (by simp; omega) hs0 (by simp)))
  obtain ⟨row1, hw1, -, hr1⟩ := hl
  have HW := Lib.hid hw1
  have HB := Lib.hid hb1
  have hs1 := hb1.size
  clear hw1 hb1 hr1 HB0
  go_wp2_with fail
  refine (wBytes_ok w0.heap.size w0.heap.size row1 _ _ HW.out (by rw [HL0.out]; omega)).mono ?_
  rw [HL0.out]
  rintro e w2 ⟨aa, cc, rfl, hown, hb⟩
  have hb2 := HB.out.trans (hb.mono hs1)
  have hs2 := hb2.size
  have hsl := Sl.own hown
  obtain ⟨A, C, q, hA⟩ := cut_u8_hi hsl (hi := k) hk
  have hll : (([] ++ strB s).take k).length = k := by rw [List.length_take, HL0.out]; omega
  have HA := Lib.hid hA
  have HLL := Lib.hid hll
  have HB2 := Lib.hid hb2
  clear hown hb hb2 HB hsl hA hll
  go_wp2_with fail
  refine (read_any _ (([] ++ strB s).take k) _ (by rw [HLL.out]; exact HA.out) (by rw [HLL.out]; omega)).mono ?_
  rintro e w3 ⟨b, hbs, rfl, hrd, hb⟩
  have hb3 := HB2.out.trans (hb.mono hs2)
  have hs3 := hb3.size
  have HB3 := Lib.hid hb3
  clear hb hb3 HB2 HA
  rcases HC.out with ⟨e1, rfl⟩ | ⟨j, rfl, e1⟩
  · rw [e1] at hrd
    have HR := Lib.hid hrd
    have b1 : ((0 : Int) == (n : Int)) = false := by have := HS.out; simp; omega
    clear hrd e1
    go_wp2_with fail
    refine (rStr_empty b _ HR.out).mono ?_
    rintro e w4 ⟨rfl, rfl⟩
    go_wp2_with fail
    refine (rLeft_any b _ _ HR.out).mono ?_
    rintro e w6 ⟨rfl, rfl⟩
    go_wp2
    go_ret
    exact ⟨rfl, HB3.out⟩
  · rw [e1] at hrd
    have HR := Lib.hid hrd
    rcases Nat.lt_or_ge j (n - 1) with hj | hj
    · have b1 : (((j + 1 : Nat) : Int) == (n : Int)) = false := by simp; omega
      have hlt : (s.data.toList.take j).length = j := by rw [List.length_take]; have := HS.out; omega
      have HLT := Lib.hid hlt
      clear hrd e1 hlt
      go_wp2_with fail
      refine (rStr_cut b _ _ _ HR.out (by rw [HLT.out]; have := HT.out; omega) (by rw [HLT.out]; omega)).mono ?_
      rintro e w4 ⟨rfl, rfl⟩
      go_wp2_with fail
      refine (rLeft_any b _ _ HR.out).mono ?_
      rintro e w6 ⟨rfl, rfl⟩
      rw [List.length_cons, HLT.out]
      go_wp2
      go_ret
      exact ⟨by simp, HB3.out⟩
    · obtain rfl : n = j + 1 := by omega
      have ek' : (c : Int) % ((j : Int) + 1 + 1) = (j : Int) + 1 := by have := ek; rw [Int.natCast_add] at this; exact this
      clear ek
      have hlt : s.data.toList.take j = s.data.toList := List.take_of_length_le (by have := HS.out; omega)
      rw [hlt] at hrd
      have HR := Lib.hid hrd
      clear hrd e1 hlt
      go_wp2_with fail
      refine (rStr_ok b _ _ _ HR.out (by have := HS.out; have := HT.out; omega) (by have := HS.out; omega)).mono ?_
      rw [SB.out]
      rintro e w4 ⟨rfl, hrd, hf⟩
      have hb4 := HB3.out.trans (hf.below hs3 (fun j hj => by omega))
      have HR4 := Lib.hid hrd
      have HB4 := Lib.hid hb4
      clear hrd hf hb4 HB3
      go_wp2_with fail
      refine (rLeft_any b _ _ HR4.out).mono ?_
      rintro e w6 ⟨rfl, rfl⟩
      have el : (List.drop (UInt8.ofNat s.size).toNat s.data.toList).length = 0 := by rw [List.length_drop]; have := HS.out; have := HT.out; omega
      rw [el]
      go_wp2
      go_ret
      exact ⟨by simp, HB4.out⟩

end Go.Proofs.Ytdhlcofjpkbgaaa
