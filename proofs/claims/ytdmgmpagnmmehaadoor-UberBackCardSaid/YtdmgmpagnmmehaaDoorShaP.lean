/- The document's hash and code as plain functions over numbers and bytes: roots' fractions, primes, blocks, hashes, codes. Nothing of the program. -/
import Derived.Test.YtdmgmpagnmmehaaDoorPlain
namespace Go.Proofs.YtdmgmpagnmmehaaDoor

/-- A word turned to the left. -/
def rotl (x k : Nat) : Nat := (x * 2 ^ k % 4294967296) ||| (x / 2 ^ (32 - k))
theorem or_lt32 {a b : Nat} (ha : a < 4294967296) (hb : b < 4294967296) : a ||| b < 4294967296 := Nat.or_lt_two_pow (n := 32) ha hb
theorem xor_lt32 {a b : Nat} (ha : a < 4294967296) (hb : b < 4294967296) : a ^^^ b < 4294967296 := Nat.xor_lt_two_pow (n := 32) ha hb
theorem and_lt32 {a b : Nat} (ha : a < 4294967296) : a &&& b < 4294967296 := Nat.lt_of_le_of_lt Nat.and_le_left ha
theorem rotl_lt {x : Nat} (k : Nat) (hx : x < 4294967296) : rotl x k < 4294967296 :=
  or_lt32 (Nat.mod_lt _ (by decide)) (Nat.lt_of_le_of_lt (Nat.div_le_self _ _) hx)

/-- A word turned by three, together. -/
def mixN (x a b c : Nat) : Nat := rotl x (32 - a) ^^^ rotl x (32 - b) ^^^ rotl x (32 - c)
theorem mixN_lt {x : Nat} (a b c : Nat) (hx : x < 4294967296) : mixN x a b c < 4294967296 := xor_lt32 (xor_lt32 (rotl_lt _ hx) (rotl_lt _ hx)) (rotl_lt _ hx)
/-- A word turned by two, and moved. -/
def smallN (x a b c : Nat) : Nat := rotl x (32 - a) ^^^ rotl x (32 - b) ^^^ (x / 2 ^ c)
theorem smallN_lt {x : Nat} (a b c : Nat) (hx : x < 4294967296) : smallN x a b c < 4294967296 :=
  xor_lt32 (xor_lt32 (rotl_lt _ hx) (rotl_lt _ hx)) (Nat.lt_of_le_of_lt (Nat.div_le_self _ _) hx)

/-- The root whose power isn't more than p times 2^32 as often, bit by bit: behind n rounds. -/
def rootTo (p k : Nat) : Nat → Nat
  | 0 => 0
  | n + 1 => if (rootTo p k n + 2 ^ (40 - n)) ^ k ≤ p * 4294967296 ^ k then rootTo p k n + 2 ^ (40 - n) else rootTo p k n
def fracN (p k : Nat) : Nat := rootTo p k 41 % 4294967296
theorem fracN_lt (p k : Nat) : fracN p k < 4294967296 := Nat.mod_lt _ (by decide)
theorem rootTo_form (p k : Nat) : ∀ n, n ≤ 41 → ∃ q, rootTo p k n = q * 2 ^ (41 - n) ∧ q < 2 ^ n
  | 0, _ => ⟨0, by simp [rootTo], by decide⟩
  | n + 1, h => by
    obtain ⟨q, e, hq⟩ := rootTo_form p k n (by omega)
    have e2 : 2 ^ (41 - n) = 2 * 2 ^ (40 - n) := by rw [show 41 - n = (40 - n) + 1 by omega, Nat.pow_succ, Nat.mul_comm]
    have e3 : 41 - (n + 1) = 40 - n := by omega
    rw [e2, ← Nat.mul_assoc] at e
    unfold rootTo
    rw [e3, Nat.pow_succ]
    split
    · exact ⟨q * 2 + 1, by rw [e, Nat.add_mul, Nat.one_mul], by omega⟩
    · exact ⟨q * 2, e, by omega⟩
theorem rootTo_lt (p k n : Nat) (h : n ≤ 41) : rootTo p k n < 2 ^ 41 := by
  obtain ⟨q, e, hq⟩ := rootTo_form p k n h
  rw [e]
  have : 2 ^ 41 = 2 ^ n * 2 ^ (41 - n) := by rw [← Nat.pow_add]; congr 1; omega
  rw [this]
  exact Nat.mul_lt_mul_of_pos_right hq (Nat.pow_pos (by decide))
theorem rootTo_next_lt (p k n : Nat) (h : n < 41) : rootTo p k n + 2 ^ (40 - n) < 2 ^ 41 := by
  obtain ⟨q, e, hq⟩ := rootTo_form p k n (by omega)
  have e2 : 2 ^ (41 - n) = 2 * 2 ^ (40 - n) := by rw [show 41 - n = (40 - n) + 1 by omega, Nat.pow_succ, Nat.mul_comm]
  have e4 : 2 ^ 41 = 2 ^ n * (2 * 2 ^ (40 - n)) := by rw [← e2, ← Nat.pow_add]; congr 1; omega
  have h5 : (q + 1) * (2 * 2 ^ (40 - n)) ≤ 2 ^ n * (2 * 2 ^ (40 - n)) := Nat.mul_le_mul_right _ hq
  have hp : 0 < 2 ^ (40 - n) := Nat.pow_pos (by decide)
  rw [e, e2, e4]
  rw [Nat.add_mul, Nat.one_mul] at h5
  omega
theorem rootTo_or (p k n : Nat) (h : n < 41) : rootTo p k n ||| 2 ^ (40 - n) = rootTo p k n + 2 ^ (40 - n) := by
  obtain ⟨q, e, hq⟩ := rootTo_form p k n (by omega)
  have hlt : 2 ^ (40 - n) < 2 ^ (41 - n) := Nat.pow_lt_pow_right (by decide) (by omega)
  rw [e, Nat.mul_comm]
  exact (Nat.two_pow_add_eq_or_of_lt hlt q).symm

/-- The primes among 2 .. n + 1, in order. -/
def sieve : Nat → List Nat
  | 0 => []
  | n + 1 => if (sieve n).any (fun q => (n + 2) % q == 0) then sieve n else sieve n ++ [n + 2]
theorem sieve_lt : ∀ n, ∀ q ∈ sieve n, 2 ≤ q ∧ q < n + 2
  | 0 => by simp [sieve]
  | n + 1 => by
    intro q hq
    unfold sieve at hq
    split at hq
    · have := sieve_lt n q hq; omega
    · rcases List.mem_append.1 hq with h | h
      · have := sieve_lt n q h; omega
      · rw [List.mem_singleton] at h; omega
theorem sieve_310 : (sieve 310).length = 64 := by decide +kernel
theorem sieve_309 : (sieve 309).length = 63 := by decide +kernel
theorem sieve_mono : ∀ n m, n ≤ m → (sieve n).length ≤ (sieve m).length := by
  intro n m h
  induction h with
  | refl => exact Nat.le_refl _
  | step _ ih =>
    refine Nat.le_trans ih ?_
    conv => rhs; unfold sieve
    split
    · exact Nat.le_refl _
    · simp
theorem sieve_small (n : Nat) (h : (sieve n).length < 64) : n < 310 := by
  rcases Nat.lt_or_ge n 310 with h1 | h1
  · exact h1
  · have := sieve_mono 310 n h1; rw [sieve_310] at this; omega
theorem sieve_le (n : Nat) (h : n ≤ 310) : (sieve n).length ≤ 64 := by have := sieve_mono n 310 h; rwa [sieve_310] at this

/-- What hashes begin with, and go on with. -/
def hInit : List Nat := ((sieve 310).take 8).map (fracN · 2)
def kInit : List Nat := (sieve 310).map (fracN · 3)
theorem hInit_length : hInit.length = 8 := by rw [hInit, List.length_map, List.length_take, sieve_310]; rfl
theorem kInit_length : kInit.length = 64 := by rw [kInit, List.length_map, sieve_310]
theorem hInit_lt : ∀ x ∈ hInit, x < 4294967296 := by
  intro x hx
  obtain ⟨p, _, rfl⟩ := List.mem_map.1 hx
  exact fracN_lt _ _
theorem kInit_lt : ∀ x ∈ kInit, x < 4294967296 := by
  intro x hx
  obtain ⟨p, _, rfl⟩ := List.mem_map.1 hx
  exact fracN_lt _ _

def wNext (l : List Nat) (i : Nat) : Nat := (l.getD (i - 16) 0 + l.getD (i - 7) 0 + smallN (l.getD (i - 15) 0) 7 18 3 + smallN (l.getD (i - 2) 0) 17 19 10) % 4294967296
/-- The first k numbers that a block gives. -/
def spreadL (b : List UInt8) : Nat → List Nat
  | 0 => []
  | k + 1 => spreadL b k ++ [if k < 16 then getB ((b.drop (4 * k)).take 4) else wNext (spreadL b k) k]
theorem spreadL_length (b : List UInt8) : ∀ k, (spreadL b k).length = k
  | 0 => rfl
  | k + 1 => by unfold spreadL; rw [List.length_append, spreadL_length b k]; rfl
theorem spreadL_lt (b : List UInt8) : ∀ k, ∀ x ∈ spreadL b k, x < 4294967296
  | 0 => by simp [spreadL]
  | k + 1 => by
    intro x hx
    unfold spreadL at hx
    rcases List.mem_append.1 hx with h | h
    · exact spreadL_lt b k x h
    · rw [List.mem_singleton] at h
      subst h
      split
      · have h1 := getB_lt ((b.drop (4 * k)).take 4)
        have h2 : ((b.drop (4 * k)).take 4).length ≤ 4 := by rw [List.length_take]; omega
        exact Nat.lt_of_lt_of_le h1 (by have := Nat.pow_le_pow_right (show 0 < 256 by decide) h2; simpa using this)
      · exact Nat.mod_lt _ (by decide)

/-- Eight words. -/
structure St where
  a : Nat
  b : Nat
  c : Nat
  d : Nat
  e : Nat
  f : Nat
  g : Nat
  h : Nat
def St.list (s : St) : List Nat := [s.a, s.b, s.c, s.d, s.e, s.f, s.g, s.h]
structure St.Ok (s : St) : Prop where
  a : s.a < 4294967296
  b : s.b < 4294967296
  c : s.c < 4294967296
  d : s.d < 4294967296
  e : s.e < 4294967296
  f : s.f < 4294967296
  g : s.g < 4294967296
  h : s.h < 4294967296
def t1N (x : St) (k w : Nat) : Nat := (x.h + mixN x.e 6 11 25 + (x.g ^^^ (x.e &&& (x.f ^^^ x.g))) + k + w) % 4294967296
def t2N (x : St) : Nat := (mixN x.a 2 13 22 + ((x.a &&& (x.b ||| x.c)) ||| (x.b &&& x.c))) % 4294967296
def roundN (x : St) (k w : Nat) : St := ⟨(t1N x k w + t2N x) % 4294967296, x.a, x.b, x.c, (x.d + t1N x k w) % 4294967296, x.e, x.f, x.g⟩
theorem roundN_ok {x : St} (k w : Nat) (h : x.Ok) : (roundN x k w).Ok := ⟨Nat.mod_lt _ (by decide), h.a, h.b, h.c, Nat.mod_lt _ (by decide), h.e, h.f, h.g⟩
/-- The state behind i rounds. -/
def roundsN (s : St) (k w : List Nat) : Nat → St
  | 0 => s
  | i + 1 => roundN (roundsN s k w i) (k.getD i 0) (w.getD i 0)
theorem roundsN_ok {s : St} (k w : List Nat) (h : s.Ok) : ∀ i, (roundsN s k w i).Ok
  | 0 => h
  | i + 1 => roundN_ok _ _ (roundsN_ok k w h i)
def addSt (x s : St) : St := ⟨(x.a + s.a) % 4294967296, (x.b + s.b) % 4294967296, (x.c + s.c) % 4294967296, (x.d + s.d) % 4294967296, (x.e + s.e) % 4294967296, (x.f + s.f) % 4294967296, (x.g + s.g) % 4294967296, (x.h + s.h) % 4294967296⟩
theorem addSt_ok (x s : St) : (addSt x s).Ok := ⟨Nat.mod_lt _ (by decide), Nat.mod_lt _ (by decide), Nat.mod_lt _ (by decide), Nat.mod_lt _ (by decide), Nat.mod_lt _ (by decide), Nat.mod_lt _ (by decide), Nat.mod_lt _ (by decide), Nat.mod_lt _ (by decide)⟩
/-- The state behind a block. -/
def takeN (s : St) (b : List UInt8) : St := addSt (roundsN s kInit (spreadL b 64) 64) s
theorem takeN_ok (s : St) (b : List UInt8) : (takeN s b).Ok := addSt_ok _ _
/-- .. behind q blocks. -/
def blocksN (s : St) (b : List UInt8) : Nat → St
  | 0 => s
  | k + 1 => takeN (blocksN s b k) ((b.drop (64 * k)).take 64)
theorem blocksN_ok {s : St} (b : List UInt8) (h : s.Ok) : ∀ k, (blocksN s b k).Ok
  | 0 => h
  | k + 1 => takeN_ok _ _
theorem blocksN_take (s : St) (b : List UInt8) (n : Nat) : ∀ k, 64 * k ≤ n → blocksN s (b.take n) k = blocksN s b k
  | 0, _ => rfl
  | k + 1, h => by
    unfold blocksN
    rw [blocksN_take s b n k (by omega), List.drop_take, List.take_take]
    congr 2
    omega
theorem blocksN_append (s : St) (x y : List UInt8) (k : Nat) (h : 64 * k ≤ x.length) : blocksN s (x ++ y) k = blocksN s x k := by
  have h1 := blocksN_take s (x ++ y) x.length k h
  rw [List.take_left'] at h1
  · exact h1.symm
  · rfl
theorem blocksN_behind (s : St) (x y : List UInt8) (q : Nat) (h : x.length = 64 * q) : ∀ k, blocksN s (x ++ y) (q + k) = blocksN (blocksN s x q) y k
  | 0 => blocksN_append s x y q (by omega)
  | k + 1 => by
    show takeN (blocksN s (x ++ y) (q + k)) (((x ++ y).drop (64 * (q + k))).take 64) = takeN (blocksN (blocksN s x q) y k) ((y.drop (64 * k)).take 64)
    rw [blocksN_behind s x y q h k, List.drop_append, List.drop_of_length_le (by omega), List.nil_append, h, show 64 * (q + k) - 64 * q = 64 * k by omega]

def St.of (l : List Nat) : St := ⟨l.getD 0 0, l.getD 1 0, l.getD 2 0, l.getD 3 0, l.getD 4 0, l.getD 5 0, l.getD 6 0, l.getD 7 0⟩
theorem St.of_list (l : List Nat) (h : l.length = 8) : (St.of l).list = l := by
  match l, h with
  | [_, _, _, _, _, _, _, _], _ => rfl
theorem getD_lt32 {l : List Nat} (h : ∀ x ∈ l, x < 4294967296) (i : Nat) : l.getD i 0 < 4294967296 := by
  rw [List.getD_eq_getElem?_getD]
  cases hq : l[i]? with
  | none => decide
  | some x => exact h x (List.mem_of_getElem? hq)
theorem St.of_ok {l : List Nat} (h : ∀ x ∈ l, x < 4294967296) : (St.of l).Ok := ⟨getD_lt32 h _, getD_lt32 h _, getD_lt32 h _, getD_lt32 h _, getD_lt32 h _, getD_lt32 h _, getD_lt32 h _, getD_lt32 h _⟩
def sInit : St := St.of hInit
theorem sInit_list : sInit.list = hInit := St.of_list hInit hInit_length
theorem sInit_ok : sInit.Ok := St.of_ok hInit_lt

/-- How many noughts bring n + 1 bytes to 56 behind a multiple of 64. -/
def padZ (n : Nat) : Nat := (119 - n % 64) % 64
theorem padZ_at (n : Nat) : (n + 1 + padZ n) % 64 = 56 := by unfold padZ; omega
theorem padZ_lt (n : Nat) : padZ n < 64 := Nat.mod_lt _ (by decide)
theorem padZ_min (n j : Nat) (h : j < padZ n) : (n + 1 + j) % 64 ≠ 56 := by unfold padZ at h; omega
/-- All that is hashed of xs, whose head was taken: what stands behind it. -/
def endOf (rest : List UInt8) (n : Nat) : List UInt8 := rest ++ [0x80] ++ List.replicate (padZ rest.length) 0 ++ putB (n * 8) 8
theorem endOf_length (rest : List UInt8) (n : Nat) : (endOf rest n).length = rest.length + 1 + padZ rest.length + 8 := by
  simp only [endOf, putB_length, List.length_append, List.length_replicate, List.length_singleton]
theorem endOf_dvd (rest : List UInt8) (n : Nat) : (endOf rest n).length % 64 = 0 := by
  rw [endOf_length]; have := padZ_at rest.length; omega
def outB (s : St) : List UInt8 := (s.list.map fun x => putB x 4).flatten
theorem outB_length (s : St) : (outB s).length = 32 := by simp [outB, St.list, putB_length]
/-- Bytes' hash. -/
def hashN (xs : List UInt8) : List UInt8 := outB (blocksN sInit (endOf xs xs.length) ((endOf xs xs.length).length / 64))
theorem hashN_length (xs : List UInt8) : (hashN xs).length = 32 := outB_length _
/-- What a hasher holds when xs was taken. -/
def headQ (xs : List UInt8) : Nat := xs.length / 64
def stOf (xs : List UInt8) : St := blocksN sInit xs (headQ xs)
def restOf (xs : List UInt8) : List UInt8 := xs.drop (64 * headQ xs)
theorem stOf_ok (xs : List UInt8) : (stOf xs).Ok := blocksN_ok _ sInit_ok _
theorem restOf_length (xs : List UInt8) : (restOf xs).length = xs.length % 64 := by simp only [restOf, headQ, List.length_drop]; omega
theorem hashN_of (xs : List UInt8) : hashN xs = outB (blocksN (stOf xs) (endOf (restOf xs) xs.length) ((endOf (restOf xs) xs.length).length / 64)) := by
  have hlen : (xs.take (64 * headQ xs)).length = 64 * headQ xs := by rw [List.length_take, headQ]; omega
  have e : endOf xs xs.length = xs.take (64 * headQ xs) ++ endOf (restOf xs) xs.length := by
    unfold endOf
    rw [restOf_length, show padZ (xs.length % 64) = padZ xs.length by unfold padZ; omega]
    simp only [← List.append_assoc]
    rw [restOf, List.take_append_drop]
  have el : (endOf xs xs.length).length / 64 = headQ xs + (endOf (restOf xs) xs.length).length / 64 := by
    rw [e, List.length_append, hlen, Nat.add_comm, Nat.add_mul_div_left _ _ (by decide), Nat.add_comm]
  unfold hashN
  rw [el, e, blocksN_behind _ _ _ _ hlen, blocksN_take _ _ _ _ (Nat.le_refl _)]
  rfl

/-- A key as a block. -/
def keyB (key : List UInt8) : List UInt8 := if 64 < key.length then hashN key ++ List.replicate 32 0 else key ++ List.replicate (64 - key.length) 0
theorem keyB_length (key : List UInt8) : (keyB key).length = 64 := by
  unfold keyB
  split
  · simp [hashN_length]
  · simp; omega
/-- A message's code under a key. -/
def macN (key msg : List UInt8) : List UInt8 := hashN ((keyB key).map (· ^^^ 0x5C) ++ hashN ((keyB key).map (· ^^^ 0x36) ++ msg))
theorem macN_length (key msg : List UInt8) : (macN key msg).length = 32 := hashN_length _

end Go.Proofs.YtdmgmpagnmmehaaDoor
