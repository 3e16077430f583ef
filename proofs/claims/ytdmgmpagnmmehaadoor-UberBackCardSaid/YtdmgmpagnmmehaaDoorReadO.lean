/- The two Readers, each reading by one law, the block of their bytes kept in sight. -/
import Derived.Test.YtdmgmpagnmmehaaDoorCodecF
namespace Go.Proofs.YtdmgmpagnmmehaaDoor
open Go.RowKit

set_option maxHeartbeats 400000 in
theorem rNumO_ok (b : Nat) (ob : Option Nat) (xs : List UInt8) (n : Nat) (w : World) (h : RdO w b ob xs) (h8 : n ≤ 8) (hn : n ≤ xs.length) (hr : xs.length ≤ 140737488351232) :
    Calls Tryd.prog 35 #[.pointer (some ⟨b, 0, none⟩), .int .i64 (n : Int)] w fun e w' => e = .returned (.tuple #[.int .u64 (getB (xs.take n) : Int), .int .i64 0]) ∧ RdO w' b ob (xs.drop n) ∧ Fr (fun k => k = b) w w' := by
  have HH := Lib.hid h
  have b1 : decide ((n : Int) < 0) = false := by simp
  have b2 : decide ((8 : Int) < (n : Int)) = false := by simp; omega
  clear h
  go_enter Tryd.func35, Tryd.ntmps35
  go_wp2_with fail
  refine (take_stay b ob xs 0 n _ HH.out (by omega) hr).mono ?_
  rintro e w1 ⟨aa, cc, rfl, hown, hrd, hfr⟩
  have HS := Lib.hid (Sl.own hown)
  have HR := Lib.hid hrd
  have HF := Lib.hid hfr
  clear hown hrd hfr
  go_wp2_with fail
  refine (numGet_ok _ _ n _ HS.out h8).mono ?_
  rintro e w2 ⟨rfl, rfl⟩
  go_wp2
  go_ret2
  exact ⟨by simp, by simpa using HR.out, HF.out⟩

set_option maxHeartbeats 400000 in
theorem rStrO_ok (b : Nat) (ob : Option Nat) (c : UInt8) (xs : List UInt8) (w : World) (h : RdO w b ob (c :: xs)) (hn : c.toNat ≤ xs.length) (hr : xs.length + 1 ≤ 140737488351232) :
    Calls Tryd.prog 36 #[.pointer (some ⟨b, 0, none⟩)] w fun e w' => e = .returned (.tuple #[.string ⟨(xs.take c.toNat).toArray⟩, .int .i64 0]) ∧ RdO w' b ob (xs.drop c.toNat) ∧ Fr (fun k => k = b) w w' := by
  obtain ⟨a, cap, hc, hf, hb, hs⟩ := take_pre b _ w h.rd
  obtain ⟨b', o', rfl, hc0⟩ : ∃ b' o', a = some ⟨b', o', none⟩ ∧ w.cell? ⟨b', o', none⟩ = some (.int .u8 (c.toNat : Int)) := by
    obtain ⟨_, a', cap', e, _, _, hcs⟩ := hs
    obtain ⟨b', o', rfl, h0⟩ := hcs 0 (Bv c) rfl
    simp only [Value.slice.injEq, true_and] at e
    exact ⟨b', o', e.1, h0⟩
  have HH := Lib.hid h
  have hc256 := c.toNat_lt
  clear hb hs h hf
  go_enter Tryd.func36, Tryd.ntmps36
  go_wp2_with fail
  refine (rLeft_any b _ _ HH.out.rd).mono ?_
  rintro e w1 ⟨rfl, rfl⟩
  rw [List.length_cons]
  go_wp2_with fail
  refine (take_stay b ob (c :: xs) 1 c.toNat _ HH.out (by rw [List.length_cons]; omega) (by rw [List.length_cons]; omega)).mono ?_
  rintro e w1 ⟨aa, cc, rfl, hown, hrd, hfr⟩
  have q := toStr_u8 (Sl.own hown)
  have HR := Lib.hid hrd
  have HF := Lib.hid hfr
  clear hown hrd hfr
  go_wp2
  go_ret2
  refine ⟨rfl, ?_, HF.out⟩
  have := HR.out
  rwa [Nat.add_comm, List.drop_succ_cons] at this

set_option maxRecDepth 100000 in
set_option maxHeartbeats 1000000 in
theorem rHashO_ok (b : Nat) (ob : Option Nat) (xs : List UInt8) (w : World) (h : RdO w b ob xs) (hn : 32 ≤ xs.length) (hr : xs.length ≤ 140737488351232) :
    Calls Tryd.prog 66 #[.pointer (some ⟨b, 0, none⟩)] w fun e w' => e = .returned (.tuple #[.agg ((xs.take 32).map Bv).toArray, .int .i64 0]) ∧ RdO w' b ob (xs.drop 32) ∧ Fr (fun k => k = b) w w' := by
  have hlt := h.rd.lt
  have ho := h
  have hobl := ho.lt (by intro e; subst e; simp at hn)
  have HH := Lib.hid (ho.fr ((Fr.refl (fun _ => False) w).alloc (.cells ((List.replicate 32 (0 : UInt8)).map Bv).toArray 45)) id (fun _ _ => id))
  have HOL := Lib.hid hobl
  clear h ho hobl
  go_enter Tryd.func66, Tryd.ntmps66
  go_wp2_with fail
  refine (take_stay b ob xs 0 32 _ HH.out (by omega) hr).mono ?_
  rintro e w1 ⟨aa, cc, rfl, hown, hst, hfr⟩
  have HG := Lib.hid ((hfr.block w.heap.size (by simp) (by omega)).trans (alloc_zero32 w))
  have HS := Lib.hid (Sl.own hown)
  have HR := Lib.hid hst
  have HF := Lib.hid hfr
  clear hown hst hfr
  go_wp2_with (refine copy_u8 rfl (.tmp 10) (.tmp 11) rfl HG.out HS.out rfl rfl (by simp) ?_)
  intro w2 hg2 hf2
  have hov : over [0, 0, 0, 0, 0, 0, 0, 0, 0, 0, 0, 0, 0, 0, 0, 0, 0, 0, 0, 0, 0, 0, 0, 0, 0, 0, 0, 0, 0, 0, 0, 0] 0 (List.take 32 (List.take 32 xs)) = xs.take 32 := by
    rw [List.take_take, Nat.min_self]; exact over_all _ _ (by simp; omega)
  obtain ⟨y, hy⟩ : ∃ y, y = xs.take 32 := ⟨_, rfl⟩
  rw [hov, ← hy] at hg2
  have hlen : y.length = 32 := by rw [hy]; simp; omega
  have HG2 := Lib.hid hg2
  have HLn := Lib.hid hlen
  have HY := Lib.hid hy
  have HA2 := Lib.hid (At.of_row (cs := y.map Bv) hg2)
  have hF2 : Fr (fun k => k = b) w w2 := (((Fr.refl (fun k => k = b) w).alloc (.cells ((List.replicate 32 (0 : UInt8)).map Bv).toArray 45)).trans HF.out).step hf2 (fun k hk => Or.inr (by omega))
  have HF2 := Lib.hid hF2
  have HR2 := Lib.hid (HR.out.fr hf2 (by omega) (fun k hk e => by have := HOL.out k hk; omega))
  clear hg2 hf2 hov hlen hF2 hy
  go_wp2_with (first | (refine load_hash' rfl (.tmp 2) rfl rfl HA2.out HLn.out ?_) | (refine store_hash rfl (.tmp 2) (.tmp 13) rfl rfl rfl HG2.out (by rw [List.size_toArray, List.length_map]; exact HLn.out) HLn.out ?_))
  intro w3 hg3 hf3
  have HG3 := Lib.hid hg3
  have HF3 := Lib.hid hf3
  clear hg3 hf3
  go_wp2
  refine bodyPost_ret (ret_hash rfl rfl HG3.out HLn.out) rfl ?_
  refine ⟨by rw [HY.out]; rfl, ?_, HF2.out.step HF3.out (fun k hk => Or.inr (by omega))⟩
  have := (HR2.out.fr HF3.out (by omega) (fun k hk e => by have := HOL.out k hk; omega))
  simpa using this

theorem RdO.below {w w' : World} {b : Nat} {ob : Option Nat} {xs : List UInt8} (h : RdO w b ob xs) (hb : Below w.heap.size w w') : RdO w' b ob xs := h.fr (Fr.of_below (S := fun _ => False) hb) id (fun _ _ => id)
theorem rNumO_any (b : Nat) (ob : Option Nat) (n : Int) (xs : List UInt8) (w : World) (h : RdO w b ob xs) (hr : xs.length ≤ 140737488351232) :
    Calls Tryd.prog 35 #[.pointer (some ⟨b, 0, none⟩), .int .i64 n] w fun e w' => e = .returned (.tuple #[.int .u64 ((numOf n xs).1 : Int), .int .i64 (numOf n xs).2.1]) ∧ RdO w' b ob (numOf n xs).2.2 ∧ Fr (fun k => k = b) w w' := by
  unfold numOf
  by_cases h1 : n < 0 ∨ 8 < n
  · simp only [h1, if_true]
    exact (rNum_arg b n w h1).mono (by rintro e w' ⟨rfl, rfl⟩; exact ⟨rfl, h, Fr.refl _ _⟩)
  · simp only [h1, if_false]
    obtain ⟨k, rfl⟩ := Int.eq_ofNat_of_zero_le (show 0 ≤ n by omega)
    by_cases h2 : (xs.length : Int) < (k : Int)
    · simp only [h2, if_true]
      exact (rNum_short b xs k w h.rd (by omega) (by omega)).mono (by rintro e w' ⟨rfl, rfl⟩; exact ⟨rfl, h, Fr.refl _ _⟩)
    · simp only [h2, if_false]
      exact rNumO_ok b ob xs k w h (by omega) (by omega) hr
theorem rStrO_any (b : Nat) (ob : Option Nat) (xs : List UInt8) (w : World) (h : RdO w b ob xs) (hr : xs.length ≤ 140737488351232) :
    Calls Tryd.prog 36 #[.pointer (some ⟨b, 0, none⟩)] w fun e w' => e = .returned (.tuple #[.string (strOf xs).1, .int .i64 (strOf xs).2.1]) ∧ RdO w' b ob (strOf xs).2.2 ∧ Fr (fun k => k = b) w w' := by
  cases xs with
  | nil => exact (rStr_empty b w h.rd).mono (by rintro e w' ⟨rfl, rfl⟩; exact ⟨rfl, h, Fr.refl _ _⟩)
  | cons c xs =>
    unfold strOf
    rcases Nat.lt_or_ge xs.length c.toNat with hc | hc
    · simp only [hc, if_true]
      exact (rStr_cut b c xs w h.rd hc hr).mono (by rintro e w' ⟨rfl, rfl⟩; exact ⟨rfl, h, Fr.refl _ _⟩)
    · simp only [Nat.not_lt.2 hc, if_false]
      exact rStrO_ok b ob c xs w h hc hr
theorem rHashO_any (b : Nat) (ob : Option Nat) (xs : List UInt8) (w : World) (h : RdO w b ob xs) (hr : xs.length ≤ 140737488351232) :
    Calls Tryd.prog 66 #[.pointer (some ⟨b, 0, none⟩)] w fun e w' => e = .returned (.tuple #[.agg ((hashOf xs).1.map Bv).toArray, .int .i64 (hashOf xs).2.1]) ∧ RdO w' b ob (hashOf xs).2.2 ∧ Fr (fun k => k = b) w w' := by
  unfold hashOf
  rcases Nat.lt_or_ge xs.length 32 with h1 | h1
  · simp only [h1, if_true]
    exact (rHash_short b xs w h.rd h1).mono (by rintro e w' ⟨rfl, _, h2⟩; exact ⟨rfl, h.below h2, Fr.of_below h2⟩)
  · simp only [Nat.not_lt.2 h1, if_false]
    exact rHashO_ok b ob xs w h h1 hr
end Go.Proofs.YtdmgmpagnmmehaaDoor
