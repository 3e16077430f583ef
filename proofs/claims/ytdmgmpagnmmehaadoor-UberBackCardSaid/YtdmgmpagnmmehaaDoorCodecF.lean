/- The two Readers, each reading by one law: Str, Num, Raw, Hash; what stays of one while the other reads. -/
import Derived.Test.YtdmgmpagnmmehaaDoorCodecE
namespace Go.Proofs.YtdmgmpagnmmehaaDoor
open Go.RowKit

def strOf : List UInt8 → ByteArray × Int × List UInt8
  | [] => (⟨#[]⟩, 3, [])
  | c :: xs => if xs.length < c.toNat then (⟨#[]⟩, 3, c :: xs) else (⟨(xs.take c.toNat).toArray⟩, 0, xs.drop c.toNat)
def numOf (n : Int) (xs : List UInt8) : Nat × Int × List UInt8 :=
  if n < 0 ∨ 8 < n then (0, 2, xs) else if (xs.length : Int) < n then (0, 3, xs) else (getB (xs.take n.toNat), 0, xs.drop n.toNat)
def rawOf (n : Int) (xs : List UInt8) : List UInt8 × Int × List UInt8 :=
  if n < 0 then ([], 2, xs) else if (xs.length : Int) < n then ([], 3, xs) else (xs.take n.toNat, 0, xs.drop n.toNat)
def hashOf (xs : List UInt8) : List UInt8 × Int × List UInt8 :=
  if xs.length < 32 then (List.replicate 32 0, 3, xs) else (xs.take 32, 0, xs.drop 32)

theorem hashOf_length (xs : List UInt8) : (hashOf xs).1.length = 32 := by
  unfold hashOf; split
  · simp
  · simp only [List.length_take]; omega
theorem strOf_le (xs : List UInt8) : (strOf xs).2.2.length ≤ xs.length := by
  unfold strOf; split
  · exact Nat.le_refl _
  · split
    · exact Nat.le_refl _
    · simp only [List.length_drop, List.length_cons]; omega
theorem numOf_le (n : Int) (xs : List UInt8) : (numOf n xs).2.2.length ≤ xs.length := by
  unfold numOf; split
  · exact Nat.le_refl _
  · split
    · exact Nat.le_refl _
    · simp only [List.length_drop]; omega
theorem rawOf_le (n : Int) (xs : List UInt8) : (rawOf n xs).2.2.length ≤ xs.length := by
  unfold rawOf; split
  · exact Nat.le_refl _
  · split
    · exact Nat.le_refl _
    · simp only [List.length_drop]; omega
theorem hashOf_le (xs : List UInt8) : (hashOf xs).2.2.length ≤ xs.length := by
  unfold hashOf; split
  · exact Nat.le_refl _
  · simp only [List.length_drop]; omega

theorem rStr_any (b : Nat) (xs : List UInt8) (w : World) (h : Rd w b xs) (hr : xs.length ≤ 140737488351232) :
    Calls Tryd.prog 36 #[.pointer (some ⟨b, 0, none⟩)] w fun e w' => e = .returned (.tuple #[.string (strOf xs).1, .int .i64 (strOf xs).2.1]) ∧ Rd w' b (strOf xs).2.2 ∧ Fr (fun k => k = b) w w' := by
  cases xs with
  | nil => exact (rStr_empty b w h).mono (by rintro e w' ⟨rfl, rfl⟩; exact ⟨rfl, h, Fr.refl _ _⟩)
  | cons c xs =>
    unfold strOf
    rcases Nat.lt_or_ge xs.length c.toNat with hc | hc
    · simp only [hc, if_true]
      exact (rStr_cut b c xs w h hc hr).mono (by rintro e w' ⟨rfl, rfl⟩; exact ⟨rfl, h, Fr.refl _ _⟩)
    · simp only [Nat.not_lt.2 hc, if_false]
      exact rStr_ok b c xs w h hc hr
theorem rNum_any (b : Nat) (n : Int) (xs : List UInt8) (w : World) (h : Rd w b xs) (hr : xs.length ≤ 140737488351232) :
    Calls Tryd.prog 35 #[.pointer (some ⟨b, 0, none⟩), .int .i64 n] w fun e w' => e = .returned (.tuple #[.int .u64 ((numOf n xs).1 : Int), .int .i64 (numOf n xs).2.1]) ∧ Rd w' b (numOf n xs).2.2 ∧ Fr (fun k => k = b) w w' := by
  unfold numOf
  by_cases h1 : n < 0 ∨ 8 < n
  · simp only [h1, if_true]
    exact (rNum_arg b n w h1).mono (by rintro e w' ⟨rfl, rfl⟩; exact ⟨rfl, h, Fr.refl _ _⟩)
  · simp only [h1, if_false]
    obtain ⟨k, rfl⟩ := Int.eq_ofNat_of_zero_le (show 0 ≤ n by omega)
    by_cases h2 : (xs.length : Int) < (k : Int)
    · simp only [h2, if_true]
      exact (rNum_short b xs k w h (by omega) (by omega)).mono (by rintro e w' ⟨rfl, rfl⟩; exact ⟨rfl, h, Fr.refl _ _⟩)
    · simp only [h2, if_false]
      exact rNum_ok b xs k w h (by omega) (by omega) hr
theorem rHash_any (b : Nat) (xs : List UInt8) (w : World) (h : Rd w b xs) (hr : xs.length ≤ 140737488351232) :
    Calls Tryd.prog 66 #[.pointer (some ⟨b, 0, none⟩)] w fun e w' => e = .returned (.tuple #[.agg ((hashOf xs).1.map Bv).toArray, .int .i64 (hashOf xs).2.1]) ∧ Rd w' b (hashOf xs).2.2 ∧ Fr (fun k => k = b) w w' := by
  unfold hashOf
  rcases Nat.lt_or_ge xs.length 32 with h1 | h1
  · simp only [h1, if_true]
    exact (rHash_short b xs w h h1).mono (by rintro e w' ⟨rfl, h1, h2⟩; exact ⟨rfl, h1, Fr.of_below h2⟩)
  · simp only [Nat.not_lt.2 h1, if_false]
    exact rHash_ok b xs w h h1 hr
/-- A Reader's own block holds no bytes. -/
theorem slice_notByte {w : World} {b : Nat} {a : Option Addr} {n c : Nat} {t : TypeId} (hb : w.heap[b]? = some (.cells #[.slice a n c] t (0, 0))) : ∀ p (x : UInt8), w.cell? p = some (Bv x) → p.block ≠ b := by
  intro p x hp rfl
  unfold World.cell? at hp
  rw [hb] at hp
  simp only at hp
  split at hp
  · cases hp
  · cases hq : p.off with
    | zero => rw [hq] at hp; simp [Bv] at hp
    | succ m => rw [hq] at hp; simp at hp
theorem Rd.notByte {w : World} {b : Nat} {xs : List UInt8} (h : Rd w b xs) : ∀ p (x : UInt8), w.cell? p = some (Bv x) → p.block ≠ b := by
  obtain ⟨v, hb, hs⟩ := h
  obtain ⟨a, c, rfl, _⟩ := hs.len
  exact slice_notByte hb
theorem Sl.stay {w w' : World} {S : Nat → Prop} {v : Value} {n : Nat} {ys : List UInt8} (h : Sl w 1 v n (ys.map Bv)) (hf : Fr S w w') (hs : ∀ p (x : UInt8), w.cell? p = some (Bv x) → ¬ S p.block) : Sl w' 1 v n (ys.map Bv) := by
  refine h.cells fun p u hu hp => ?_
  obtain ⟨x, _, rfl⟩ := List.mem_map.1 hu
  exact hf.cell hp (hs p x hp)

end Go.Proofs.YtdmgmpagnmmehaaDoor
