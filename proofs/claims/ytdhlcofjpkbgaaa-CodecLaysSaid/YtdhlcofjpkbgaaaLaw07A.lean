/- Walks: banyanlaw07's alive, CodecParts, CodecCuts. -/
import Derived.Test.YtdhlcofjpkbgaaaCodecB
namespace Go.Proofs.Ytdhlcofjpkbgaaa
open Go.RowKit

/-- A new Writer. -/
theorem Wr.new (w : World) (B : Nat) : Wr (w.alloc (.cells #[.slice none 0 0] 26)) B w.heap.size none [] :=
  ⟨_, heap_alloc_new _ _, World.ownsRow_nil _ _ _ _, rfl⟩

theorem Laid.below {w w' : World} {base b B : Nat} {row : Option Nat} {xs : List UInt8} (h : Laid w w' base b row xs) (hB : B ≤ w.heap.size) (h1 : B ≤ b) (h2 : ∀ k, row = some k → B ≤ k) : Below B w w' := by
  obtain ⟨_, _, hf, _⟩ := h
  exact hf.below hB (fun k hk => hk.elim (fun e => e ▸ h1) (h2 k))

theorem Sl_lit (w : World) (cs : Array Value) (xs : List UInt8) (n : Nat) (hn : n = xs.length) (hcs : cs.toList = xs.map Bv) (hm : n ≤ maxLen) : Sl (w.alloc (.cells cs 5)) 1 (.slice (some ⟨w.heap.size, 0, none⟩) n n) n (xs.map Bv) := by
  have := World.ownsRow_lit (e := 5) (size := 1) (base := w.heap.size) w cs n (Nat.le_refl _) hm (by rw [Nat.mul_one, hn, ← Array.length_toList, hcs]; simp)
  rw [hcs] at this
  exact Sl.own this

set_option maxHeartbeats 1000000 in
theorem alive07 (w : World) : Calls Try.prog 10 #[] w fun e w' => e = .returned (.bool true) ∧ Below w.heap.size w w' := by
  go_enter Try.func10, Try.ntmps10
  go_wp2_with fail
  refine (wNum_ok w.heap.size w.heap.size none [] 258 2 _ (Wr.new w _) (by simp) (by decide) (Or.inr (by decide)) (by decide)).mono ?_
  rintro e w1 ⟨rfl, hl⟩
  have hb1 := ((Below.refl w.heap.size w).alloc (Nat.le_refl _) (.cells #[.slice none 0 0] 26)).trans (hl.below (by simp) (Nat.le_refl _) (by simp))
  obtain ⟨row1, hw1, -, hr1⟩ := hl
  have hr1' : ∀ k, row1 = some k → w.heap.size ≤ k := fun k hk => by rcases hr1 k hk with h | h; (· cases h); (· simp at h; omega)
  have HW := Lib.hid hw1
  have HB := Lib.hid hb1
  have HR := Lib.hid hr1'
  have hs1 := hb1.size
  clear hw1 hb1 hr1 hr1'
  go_wp2_with fail
  refine (wStr_ok w.heap.size w.heap.size row1 _ _ _ HW.out (by omega) (by decide) (by decide)).mono ?_
  rintro e w2 ⟨rfl, hl⟩
  have hb2 := HB.out.trans (hl.below hs1 (Nat.le_refl _) HR.out)
  obtain ⟨row2, hw2, -, hr2⟩ := hl
  have HW2 := Lib.hid hw2
  have HB2 := Lib.hid hb2
  have hs2 := hb2.size
  clear hw2 hb2 hr2 HW HB HR hs1
  go_wp2_with fail
  refine (rNum_nil _).mono ?_
  rintro e w3 ⟨rfl, rfl⟩
  go_wp2_with fail
  refine (wBytes_ok w.heap.size w.heap.size row2 _ _ HW2.out (by decide)).mono ?_
  rintro e w3 ⟨aa, cc, rfl, hown, hb⟩
  have hb3 := HB2.out.trans (hb.mono hs2)
  have hs3 := hb3.size
  have HO := Lib.hid (Sl.own hown)
  have HB3 := Lib.hid hb3
  clear hown hb hb3 HB2
  go_wp2_with fail
  refine (same_any _ _ _ _ _ [1, 2, 2, 97, 98] _ (HO.out.below ((Below.refl _ _).alloc (Nat.le_refl _) _)) (Sl_lit _ _ _ 5 rfl rfl (by decide))).mono ?_
  rintro e w4 ⟨rfl, rfl⟩
  rw [show decide (([] ++ putB 258 2 ++ strB ⟨#[97, 98]⟩) = [1, 2, 2, 97, 98]) = true by decide]
  go_wp2
  go_ret
  exact ⟨rfl, HB3.out.alloc hs3 _⟩

theorem parts_eq (x k : Nat) (hx : x < 18446744073709551616) (hk : k ≤ 8) :
    (bits .or .u64 (IntKind.u64.wrap ((getB (List.take k (putB x 8)) : Int) * 2 ^ (8 * (8 - k)))) (getB (List.take (8 - k) (List.drop k (putB x 8))) : Int) == (x : Int)) = true := by
  have hl := putB_length x 8
  have e1 : List.take (8 - k) (List.drop k (putB x 8)) = List.drop k (putB x 8) := List.take_of_length_le (by simp [hl])
  rw [e1]
  have h1 := getB_append (List.take k (putB x 8)) (List.drop k (putB x 8))
  rw [List.take_append_drop, getB_putB, Nat.mod_eq_of_lt (show x < 256 ^ 8 from hx), List.length_drop, hl] at h1
  have h2 := getB_lt (List.drop k (putB x 8))
  rw [List.length_drop, hl] at h2
  have e2 : (256 : Nat) ^ (8 - k) = 2 ^ (8 * (8 - k)) := by rw [Nat.pow_mul]
  rw [e2] at h1 h2
  generalize getB (List.take k (putB x 8)) = A at *
  generalize getB (List.drop k (putB x 8)) = D at *
  have e3 : (A : Int) * 2 ^ (8 * (8 - k)) = ((A * 2 ^ (8 * (8 - k)) : Nat) : Int) := by simp
  rw [e3, IntKind.wrap_u64]
  have h4 : D < 18446744073709551616 := Nat.lt_of_lt_of_le h2 (Nat.le_trans (Nat.pow_le_pow_right (by decide) (show 8 * (8 - k) ≤ 64 by omega)) (by decide))
  rw [show ((A * 2 ^ (8 * (8 - k)) : Nat) : Int) % 18446744073709551616 = ((A * 2 ^ (8 * (8 - k)) : Nat) : Int) by omega, u64_or_nat _ _ (by omega) h4, nat_join (8 * (8 - k)) _ _ (Nat.mul_mod_left _ _) h2, ← h1]
  simp

set_option maxHeartbeats 1000000 in
theorem codecParts_any (x c : Nat) (w : World) (hx : x < 18446744073709551616) (hc : c < 256) :
    Calls Try.prog 3 #[.int .u64 (x : Int), .int .u8 (c : Int)] w fun e w' => e = .returned (.bool true) ∧ Below w.heap.size w w' := by
  have HX := Lib.hid hx
  clear hx
  have hk : c % 9 < 9 := Nat.mod_lt _ (by decide)
  obtain ⟨k, hkc⟩ : ∃ k, k = c % 9 := ⟨_, rfl⟩
  have ek : ((c : Int) % 9) = (k : Int) := by omega
  have hk : k ≤ 8 := by omega
  have EK := Lib.hid hkc
  clear hkc
  go_enter Try.func3, Try.ntmps3
  go_wp2_with fail
  refine (alive07 _).mono ?_
  rintro e w0 ⟨rfl, hb0⟩
  have HB0 := Lib.hid hb0
  have hs0 := hb0.size
  clear hb0
  go_wp2_with fail
  refine (wNum_ok w0.heap.size w0.heap.size none [] x 8 _ (Wr.new w0 _) (by simp) (by decide) (Or.inl rfl) (by decide)).mono ?_
  rintro e w1 ⟨rfl, hl⟩
  have hb1 := HB0.out.trans (((Below.refl w.heap.size w0).alloc hs0 (.cells #[.slice none 0 0] 26)).trans (hl.below (by simp; omega) hs0 (by simp)))
  obtain ⟨row1, hw1, -, hr1⟩ := hl
  have HW := Lib.hid hw1
  have HB := Lib.hid hb1
  have hs1 := hb1.size
  clear hw1 hb1 hr1 HB0
  go_wp2_with fail
  refine (wBytes_ok w0.heap.size w0.heap.size row1 _ _ HW.out (by simp [putB_length])).mono ?_
  rintro e w2 ⟨aa, cc, rfl, hown, hb⟩
  have hb2 := HB.out.trans (hb.mono hs1)
  have hs2 := hb2.size
  have HO := Lib.hid (Sl.own hown)
  have HB2 := Lib.hid hb2
  clear hown hb hb2 HB
  go_wp2_with fail
  refine (read_any _ _ _ HO.out (by simp [putB_length])).mono ?_
  rintro e w3 ⟨b, hbs, rfl, hrd, hb⟩
  have hb3 := HB2.out.trans (hb.mono hs2)
  have hs3 := hb3.size
  have HR := Lib.hid hrd
  have HB3 := Lib.hid hb3
  clear hrd hb hb3 HB2
  go_wp2_with fail
  refine (rNum_ok b _ k _ HR.out hk (by simp [putB_length]; omega) (by simp [putB_length])).mono ?_
  rintro e w4 ⟨rfl, hrd, hf⟩
  have hb4 := HB3.out.trans (hf.below hs3 (fun j hj => by omega))
  have hs4 := hb4.size
  have HR4 := Lib.hid hrd
  have HB4 := Lib.hid hb4
  clear hrd hf hb4 HB3
  go_wp2_with fail
  rw [show (8 : Int) - (k : Int) = ((8 - k : Nat) : Int) by omega]
  refine (rNum_ok b _ (8 - k) _ HR4.out (by omega) (by simp [putB_length]) (by simp [putB_length]; omega)).mono ?_
  rintro e w5 ⟨rfl, hrd, hf⟩
  have hb5 := HB4.out.trans (hf.below hs4 (fun j hj => by omega))
  have hs5 := hb5.size
  have HR5 := Lib.hid hrd
  have HB5 := Lib.hid hb5
  clear hrd hf hb5 HB4
  go_wp2_with fail
  refine (rLeft_any b _ _ HR5.out).mono ?_
  rintro e w6 ⟨rfl, rfl⟩
  have el : (List.drop (8 - k) (List.drop k ([] ++ putB x 8))).length = 0 := by simp [putB_length]; omega
  rw [el]
  go_wp2
  go_ret
  exact ⟨congrArg (fun t => Ending.returned (.bool t)) (parts_eq x k HX.out hk), HB5.out⟩

end Go.Proofs.Ytdhlcofjpkbgaaa
