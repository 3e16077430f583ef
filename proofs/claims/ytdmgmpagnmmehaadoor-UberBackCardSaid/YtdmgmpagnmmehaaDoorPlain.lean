/- Plain words: a number as bytes, bytes as a number. Nothing of the program. -/
import Derived.PlainAid
namespace Go.Proofs.YtdmgmpagnmmehaaDoor

/-- A number's bytes, the highest first. -/
def putB (x n : Nat) : List UInt8 := (List.range n).map fun j => UInt8.ofNat (x / 256 ^ (n - 1 - j))
theorem putB_length (x n : Nat) : (putB x n).length = n := by simp [putB]
theorem putB_get (x n j : Nat) (h : j < n) : (putB x n)[j]? = some (UInt8.ofNat (x / 256 ^ (n - 1 - j))) := by simp [putB, h]
/-- Bytes' number. -/
def getB (l : List UInt8) : Nat := l.foldl (fun a c => a * 256 + c.toNat) 0

/-- The bytes laid when k rounds are done. -/
def putTo (x n k : Nat) : List UInt8 := (List.range n).map fun j => if j < k then UInt8.ofNat (x / 256 ^ (n - 1 - j)) else 0
theorem putTo_length (x n k : Nat) : (putTo x n k).length = n := by simp [putTo]
theorem putTo_zero (x n : Nat) : putTo x n 0 = List.replicate n 0 := by
  apply List.ext_getElem? ; intro j; by_cases h : j < n <;> simp [putTo, h]
theorem putTo_all (x n : Nat) : putTo x n n = putB x n := by
  apply List.ext_getElem? ; intro j; by_cases h : j < n <;> simp [putTo, putB, h]
theorem putTo_succ (x n k : Nat) (h : k < n) : (putTo x n k).set k (UInt8.ofNat (x / 256 ^ (n - 1 - k))) = putTo x n (k + 1) := by
  apply List.ext_getElem?
  intro j
  rw [List.getElem?_set]
  by_cases hj : k = j
  · subst hj
    simp [putTo, h]
  · by_cases h1 : j < k
    · by_cases h2 : j < n <;> simp [putTo, hj, h1, h2, show j < k + 1 by omega]
    · by_cases h2 : j < n <;> simp [putTo, hj, h1, h2, show ¬ j < k + 1 by omega]

theorem getB_fold (l : List UInt8) : ∀ a : Nat, l.foldl (fun a c => a * 256 + c.toNat) a = a * 256 ^ l.length + getB l := by
  induction l with
  | nil => intro a; simp [getB]
  | cons c l ih =>
    intro a
    unfold getB
    simp only [List.foldl_cons, List.length_cons]
    rw [ih, ih (0 * 256 + c.toNat), Nat.pow_succ]
    simp only [Nat.add_mul, Nat.mul_assoc, Nat.mul_comm 256, Nat.zero_mul, Nat.zero_add, Nat.add_assoc]
theorem getB_append (l r : List UInt8) : getB (l ++ r) = getB l * 256 ^ r.length + getB r := by
  unfold getB; rw [List.foldl_append]; exact getB_fold r _
theorem getB_lt (l : List UInt8) : getB l < 256 ^ l.length := by
  induction l with
  | nil => simp [getB]
  | cons c l ih =>
    have := getB_append [c] l
    rw [List.singleton_append] at this
    rw [this, List.length_cons, Nat.pow_succ, Nat.mul_comm (256 ^ l.length) 256]
    have h1 : getB [c] < 256 := by simp only [getB, List.foldl_cons, List.foldl_nil]; have := c.toNat_lt; omega
    have h2 : getB [c] * 256 ^ l.length + 256 ^ l.length ≤ 256 * 256 ^ l.length := by rw [← Nat.succ_mul]; exact Nat.mul_le_mul_right _ h1
    omega
theorem getB_putB (x n : Nat) : getB (putB x n) = x % 256 ^ n := by
  induction n generalizing x with
  | zero => simp [putB, getB, Nat.mod_one]
  | succ n ih =>
    have e : putB x (n + 1) = putB (x / 256) n ++ [UInt8.ofNat x] := by
      apply List.ext_getElem?
      intro j
      simp only [putB, List.getElem?_map, List.getElem?_append, List.length_map, List.length_range]
      by_cases h : j < n
      · simp only [h, if_true, List.getElem?_range, show j < n + 1 by omega, Option.map_some]
        congr 2
        rw [show n + 1 - 1 - j = (n - 1 - j) + 1 by omega, Nat.pow_succ, Nat.mul_comm, Nat.div_div_eq_div_mul]
      · by_cases h2 : j = n
        · subst h2; simp
        · simp [h, show ¬ j < n + 1 by omega, show j - n ≠ 0 by omega]
    rw [e, getB_append, ih]
    simp only [List.length_singleton, Nat.pow_one, getB, List.foldl_cons, List.foldl_nil, UInt8.toNat_ofNat']
    have e2 : (256 : Nat) ^ (n + 1) = 256 * 256 ^ n := by rw [Nat.pow_succ, Nat.mul_comm]
    have e3 : (2 : Nat) ^ 8 = 256 := rfl
    rw [e2, Nat.mod_mul, e3]
    omega

#print axioms putTo_succ
end Go.Proofs.YtdmgmpagnmmehaaDoor
