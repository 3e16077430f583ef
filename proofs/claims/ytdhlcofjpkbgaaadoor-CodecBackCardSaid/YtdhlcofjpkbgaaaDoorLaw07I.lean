/- Data of banyanlaw07's CodecBack: what is laid well is read back. No program. -/
import Derived.Test.YtdhlcofjpkbgaaaDoorCodecF
import Derived.Test.YtdhlcofjpkbgaaaDoorRegion
import Derived.Test.YtdhlcofjpkbgaaaDoorLaw07C
namespace Go.Proofs.YtdhlcofjpkbgaaaDoor
open Go.RowKit

/-- Is an act laid well, and read back? -/
def good (a : Ac) : Bool := decide (a.kind ≠ 4) && decide (layE [] a = 0)
def bytesA (a : Ac) : List UInt8 := layB [] a
def goods (acs : List Ac) : List Ac := acs.filter good
def laidG (acs : List Ac) : List UInt8 := (goods acs).flatMap bytesA

theorem layE_eq (xs : List UInt8) (a : Ac) (h4 : a.kind ≠ 4) : layE xs a = layE [] a := by
  unfold layE; simp [h4]
theorem layB_eq (xs : List UInt8) (a : Ac) (h4 : a.kind ≠ 4) : layB xs a = xs ++ (if layE [] a = 0 then bytesA a else []) := by
  unfold bytesA layB layE
  simp only [if_neg h4]
  by_cases h1 : a.kind = 1
  · simp only [if_pos h1]; split <;> simp
  simp only [if_neg h1]
  by_cases h2 : a.kind = 2
  · simp only [if_pos h2]; simp
  simp only [if_neg h2]
  by_cases h3 : a.kind = 3
  · simp only [if_pos h3]; simp
  simp only [if_neg h3]
  split <;> simp

theorem goods_step (acs : List Ac) (k : Nat) (h : k < acs.length) : goods (acs.take (k + 1)) = goods (acs.take k) ++ (if good acs[k] then [acs[k]] else []) := by
  unfold goods
  rw [List.take_succ_eq_append_getElem h, List.filter_append]
  cases hg : good acs[k] <;> simp [hg]
theorem laidG_step (acs : List Ac) (k : Nat) (h : k < acs.length) : laidG (acs.take (k + 1)) = laidG (acs.take k) ++ (if good acs[k] then bytesA acs[k] else []) := by
  unfold laidG
  rw [goods_step acs k h, List.flatMap_append]
  cases hg : good acs[k] <;> simp
theorem laidG_lay (acs : List Ac) (k : Nat) (h : k < acs.length) (h4 : acs[k].kind ≠ 4) : layB (laidG (acs.take k)) acs[k] = laidG (acs.take (k + 1)) := by
  rw [laidG_step acs k h, layB_eq _ _ h4]
  congr 1
  unfold good
  by_cases h0 : layE [] acs[k] = 0 <;> simp [h4, h0]
theorem goods_mem {acs : List Ac} {a : Ac} (h : a ∈ goods acs) : a ∈ acs ∧ a.kind ≠ 4 ∧ layE [] a = 0 := by
  obtain ⟨h1, h2⟩ := List.mem_filter.1 h
  unfold good at h2
  simp only [Bool.and_eq_true, decide_eq_true_iff] at h2
  exact ⟨h1, h2.1, h2.2⟩
theorem bytesA_le (a : Ac) (hh : a.h.length = 32) (h4 : a.kind ≠ 4) : (bytesA a).length ≤ 256 + a.b.length := by
  unfold bytesA layB
  by_cases h1 : a.kind = 1
  · rw [if_pos h1]
    split
    · simp
    · rw [List.nil_append, strB_length]; omega
  rw [if_neg h1]
  by_cases h2 : a.kind = 2
  · rw [if_pos h2]; simp [hh]; omega
  rw [if_neg h2]
  by_cases h3 : a.kind = 3
  · rw [if_pos h3]; simp
  rw [if_neg h3, if_neg h4]
  split
  · simp
  · rw [List.nil_append, putB_length]; omega
theorem laidG_le (acs : List Ac) (hh : ∀ a ∈ acs, a.h.length = 32) : (laidG acs).length ≤ 256 * acs.length + (acs.map (fun a => a.b.length)).sum := by
  induction acs with
  | nil => simp [laidG, goods]
  | cons a l ih =>
    have h1 := ih (fun x hx => hh x (by simp [hx]))
    have h2 : (laidG (a :: l)).length ≤ 256 + a.b.length + (laidG l).length := by
      unfold laidG goods
      rw [List.filter_cons]
      split
      · rename_i hg
        have h4 : a.kind ≠ 4 := by unfold good at hg; simp at hg; exact hg.1
        rw [List.flatMap_cons, List.length_append]
        have := bytesA_le a (hh a (by simp)) h4
        omega
      · omega
    simp only [List.length_cons, List.map_cons, List.sum_cons]
    omega
theorem sum_b_le (acs : List Ac) (hb : ∀ a ∈ acs, a.b.length ≤ 140737488351232 ∧ a.s.size ≤ 140737488351232 ∧ -9223372036854775808 ≤ a.size ∧ a.size ≤ 9223372036854775807) : (((acs.map (fun a => a.b.length)).sum : Nat) : Int) ≤ cost acs := by
  induction acs with
  | nil => simp [cost]
  | cons a l ih =>
    have h1 := ih (fun x hx => hb x (by simp [hx]))
    have h2 := costOf_bounds a (hb a (by simp))
    have e : cost (a :: l) = costOf a + cost l := by simp [cost]
    rw [e, List.map_cons, List.sum_cons]
    omega
theorem laidG_take_le (acs : List Ac) (k : Nat) (hk : k < acs.length) : (laidG (acs.take k)).length ≤ (laidG (acs.take (k + 1))).length := by
  rw [laidG_step acs k hk, List.length_append]; omega
theorem laidG_mono (acs : List Ac) : ∀ (d k : Nat), k + d = acs.length → (laidG (acs.take k)).length ≤ (laidG acs).length
  | 0, k, h => by rw [List.take_of_length_le (by omega)]; exact Nat.le_refl _
  | d + 1, k, h => Nat.le_trans (laidG_take_le acs k (by omega)) (laidG_mono acs d (k + 1) (by omega))

theorem read_str (s : ByteArray) (r : List UInt8) (h : s.size ≤ 255) : strOf (strB s ++ r) = (s, 0, r) := by
  have e : (UInt8.ofNat s.size).toNat = s.data.toList.length := by
    rw [UInt8.toNat_ofNat', Array.length_toList]
    exact Nat.mod_eq_of_lt (show s.size < 256 by omega)
  unfold strB strOf
  simp only [List.cons_append]
  rw [if_neg (by rw [e, List.length_append]; omega), e, List.take_left, List.drop_left]
theorem read_hash (h r : List UInt8) (hh : h.length = 32) : hashOf (h ++ r) = (h, 0, r) := by
  unfold hashOf
  rw [if_neg (by rw [List.length_append]; omega), ← hh, List.take_left, List.drop_left]
theorem read_raw (b r : List UInt8) : rawOf (b.length : Int) (b ++ r) = (b, 0, r) := by
  unfold rawOf
  rw [if_neg (by omega), if_neg (by rw [List.length_append]; omega)]
  simp
theorem read_num (x n : Nat) (r : List UInt8) (h8 : n ≤ 8) (hx : x / 256 ^ n = 0) : numOf (n : Int) (putB x n ++ r) = (x, 0, r) := by
  have hl := putB_length x n
  unfold numOf
  rw [if_neg (by omega), if_neg (by rw [List.length_append]; omega)]
  have e : ((n : Int)).toNat = n := by simp
  rw [e]
  have e1 : (putB x n ++ r).take n = putB x n := by rw [List.take_append_of_le_length (by omega), List.take_of_length_le (by omega)]
  have e2 : (putB x n ++ r).drop n = r := by rw [List.drop_append_of_le_length (by omega), List.drop_of_length_le (by omega)]; rfl
  rw [e1, e2, getB_putB, Nat.mod_eq_of_lt (Nat.lt_of_div_eq_zero (Nat.pow_pos (by decide)) hx)]

end Go.Proofs.YtdhlcofjpkbgaaaDoor
