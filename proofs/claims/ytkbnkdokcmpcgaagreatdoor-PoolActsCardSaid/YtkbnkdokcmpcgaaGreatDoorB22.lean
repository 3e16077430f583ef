/- Plain laws: what is laid is told; what is told, and well, was laid. What the document's example of layer 13 asks of hash and cipher: one key, one sealed leaf, two hashes, reckoned by the kernel over forced twins. Nothing of the program. Printed by tools/genaesk.py. Walk: banyanlaw13.alive: the document's example. -/
import Derived.Test.YtkbnkdokcmpcgaaGreatDoorB6
import Derived.Test.YtkbnkdokcmpcgaaGreatDoorB20
import Derived.Test.YtkbnkdokcmpcgaaGreatDoorB21
namespace Go.Proofs.YtkbnkdokcmpcgaaGreatDoor
open Go.RowKit

theorem putB_succ (x n : Nat) : putB x (n + 1) = putB (x / 256) n ++ [UInt8.ofNat x] := by
  apply List.ext_getElem?
  intro j
  simp only [putB, List.getElem?_map, List.getElem?_append, List.length_map, List.length_range]
  by_cases h : j < n
  · simp only [h, if_true, List.getElem?_range, show j < n + 1 by omega, Option.map_some]
    congr 2
    rw [show n + 1 - 1 - j = (n - 1 - j) + 1 by omega, Nat.pow_succ, Nat.mul_comm, Nat.div_div_eq_div_mul]
  · by_cases h2 : j = n
    · subst h2; simp
    · simp [h, show ¬ j < n + 1 by omega, show j - n ≠ 0 by omega]
theorem putB_getB : ∀ (n : Nat) (l : List UInt8), l.length = n → putB (getB l) n = l
  | 0, l, h => by
    have : l = [] := List.eq_nil_of_length_eq_zero h
    subst this; rfl
  | n + 1, l, h => by
    have hne : l ≠ [] := by intro e; subst e; simp at h
    have e := List.dropLast_concat_getLast hne
    have hl : l.dropLast.length = n := by rw [List.length_dropLast, h]; rfl
    have ih := putB_getB n l.dropLast hl
    have hg : getB l = getB l.dropLast * 256 + (l.getLast hne).toNat := by
      conv => lhs; rw [← e]
      rw [getB_append]
      simp [getB]
    have hc := (l.getLast hne).toNat_lt
    rw [putB_succ, hg, show (getB l.dropLast * 256 + (l.getLast hne).toNat) / 256 = getB l.dropLast by omega, ih]
    conv => rhs; rw [← e]
    congr 2
    apply UInt8.toNat_inj.1
    rw [UInt8.toNat_ofNat']
    have e3 : (2 : Nat) ^ 8 = 256 := rfl
    rw [e3]; omega

theorem strOf_strB (s : ByteArray) (r : List UInt8) (h : s.size ≤ 255) : strOf (strB s ++ r) = (s, 0, r) := by
  have hs : s.data.toList.length = s.size := by rw [Array.length_toList]; rfl
  unfold strB strOf
  simp only [List.cons_append]
  have hc : (UInt8.ofNat s.size).toNat = s.size := by rw [UInt8.toNat_ofNat']; exact Nat.mod_eq_of_lt (by omega)
  rw [if_neg (by rw [hc, List.length_append, hs]; omega), hc]
  rw [List.take_append_of_le_length (by omega), List.drop_append_of_le_length (by omega), List.take_of_length_le (by omega), List.drop_of_length_le (by omega)]
  simp
theorem strOf_ok (ys : List UInt8) (h : ((strOf ys).2.1 == 0) = true) : ys = strB (strOf ys).1 ++ (strOf ys).2.2 := by
  unfold strOf at h ⊢
  split
  · simp at h
  · rename_i c xs
    split
    · rename_i hc
      simp [hc] at h
    · rename_i hc
      have hl : (xs.take c.toNat).length = c.toNat := by rw [List.length_take]; omega
      simp only [strB, ByteArray.size, List.size_toArray, hl, List.cons_append, List.cons.injEq]
      refine ⟨?_, by simp⟩
      apply UInt8.toNat_inj.1
      rw [UInt8.toNat_ofNat', Nat.mod_eq_of_lt c.toNat_lt]
theorem ptrOf_ptrB (p : Pt) (r : List UInt8) (h : p.Wf) : ptrOf (ptrB p ++ r) = (p, 0, r) := by
  have h1 := ptrB_length p h
  have e4 : (putB p.addr 4).length = 4 := putB_length _ _
  have e8 : (putB p.birth 8).length = 8 := putB_length _ _
  have e32 := h.sum
  have ha := h.addr
  have hb := h.birth
  unfold ptrOf
  rw [if_neg (by rw [List.length_append, h1]; omega)]
  have t1 : (ptrB p ++ r).take 4 = putB p.addr 4 := by
    unfold ptrB; rw [List.append_assoc, List.append_assoc, List.take_append_of_le_length (by omega), List.take_of_length_le (by omega)]
  have t2 : (ptrB p ++ r).drop 4 = putB p.birth 8 ++ (p.sum ++ r) := by
    unfold ptrB; rw [List.append_assoc, List.append_assoc, List.drop_append_of_le_length (by omega), List.drop_of_length_le (by omega)]; rfl
  have t3 : (ptrB p ++ r).drop 12 = p.sum ++ r := by
    rw [show 12 = 4 + 8 from rfl, ← List.drop_drop, t2, List.drop_append_of_le_length (by omega), List.drop_of_length_le (by omega)]; rfl
  have t4 : (ptrB p ++ r).drop 44 = r := by
    rw [show 44 = 12 + 32 from rfl, ← List.drop_drop, t3, List.drop_append_of_le_length (by omega), List.drop_of_length_le (by omega)]; rfl
  rw [t1, t2, t3, t4, List.take_append_of_le_length (by omega), List.take_of_length_le (by omega), List.take_append_of_le_length (by omega), List.take_of_length_le (by omega), getB_putB, getB_putB, Nat.mod_eq_of_lt (by simpa using ha), Nat.mod_eq_of_lt (by simpa using hb)]
theorem ptrOf_ok (ys : List UInt8) (h : ((ptrOf ys).2.1 == 0) = true) : ys = ptrB (ptrOf ys).1 ++ (ptrOf ys).2.2 := by
  unfold ptrOf at h ⊢
  split
  · rename_i hc
    simp [hc] at h
  · rename_i hc
    have l4 : (ys.take 4).length = 4 := by rw [List.length_take]; omega
    have l8 : ((ys.drop 4).take 8).length = 8 := by rw [List.length_take, List.length_drop]; omega
    simp only [ptrB]
    rw [putB_getB 4 _ l4, putB_getB 8 _ l8]
    have e1 : (ys.drop 4) = (ys.drop 4).take 8 ++ ys.drop 12 := by
      conv => lhs; rw [← List.take_append_drop 8 (ys.drop 4)]
      rw [List.drop_drop]
    have e2 : (ys.drop 12) = (ys.drop 12).take 32 ++ ys.drop 44 := by
      conv => lhs; rw [← List.take_append_drop 32 (ys.drop 12)]
      rw [List.drop_drop]
    conv => lhs; rw [← List.take_append_drop 4 ys, e1, e2]
    simp only [List.append_assoc]

theorem kvTo_more (leaf : Bool) (ks vs ks' vs' : List ByteArray) (ps : List Pt) (k : Nat) (hk : k ≤ ks.length) (hv : leaf = true → k ≤ vs.length) : kvTo ⟨leaf, ks ++ ks', vs ++ vs', ps⟩ k = kvTo ⟨leaf, ks, vs, ps⟩ k := by
  unfold kvTo
  apply congrArg List.flatten
  apply List.map_congr_left
  intro i hi
  have hi' : i < k := by simpa using hi
  unfold kvAt
  simp only [List.getD_eq_getElem?_getD]
  rw [List.getElem?_append_left (by omega)]
  cases leaf with
  | false => rfl
  | true => rw [List.getElem?_append_left (by have := hv rfl; omega)]

theorem tellKV_laid (leaf : Bool) (zs : List UInt8) (ok0 : Bool) : ∀ k, (tellKV leaf k ⟨[], [], zs, ok0⟩).ok = true → ok0 = true ∧ zs = kvTo ⟨leaf, (tellKV leaf k ⟨[], [], zs, ok0⟩).keys, (tellKV leaf k ⟨[], [], zs, ok0⟩).vals, []⟩ k ++ (tellKV leaf k ⟨[], [], zs, ok0⟩).rest
  | 0, h => ⟨h, rfl⟩
  | k + 1, h => by
    have hk := tellKV_keys leaf ⟨[], [], zs, ok0⟩ k
    have hv : leaf = true → (tellKV leaf k ⟨[], [], zs, ok0⟩).vals.length = k := fun e => by subst e; rw [tellKV_vals]; simp
    have hvn : leaf = false → (tellKV leaf k ⟨[], [], zs, ok0⟩).vals = [] := fun e => by subst e; rw [tellKV_novals]
    have ih := tellKV_laid leaf zs ok0 k
    unfold tellKV at h ⊢
    obtain ⟨S, hS⟩ : ∃ S, S = tellKV leaf k ⟨[], [], zs, ok0⟩ := ⟨_, rfl⟩
    rw [← hS] at h hk hv hvn ih ⊢
    simp only [List.length_nil, Nat.zero_add] at hk
    cases leaf with
    | true =>
      unfold stepKV at h ⊢
      simp only [if_true, Bool.and_eq_true] at h ⊢
      obtain ⟨⟨h1, h2⟩, h3⟩ := h
      obtain ⟨g1, g2⟩ := ih h1
      refine ⟨g1, ?_⟩
      have e1 := strOf_ok S.rest h2
      have e2 := strOf_ok _ h3
      rw [kvTo_succ, kvTo_more true S.keys S.vals _ _ [] k (by omega) (fun _ => by have := hv rfl; omega)]
      have ekv : kvAt ⟨true, S.keys ++ [(strOf S.rest).1], S.vals ++ [(strOf (strOf S.rest).2.2).1], []⟩ k = strB (strOf S.rest).1 ++ strB (strOf (strOf S.rest).2.2).1 := by
        unfold kvAt
        simp only [List.getD_eq_getElem?_getD, if_true]
        rw [List.getElem?_append_right (by omega), List.getElem?_append_right (by have := hv rfl; omega), hk, hv rfl]
        simp
      rw [ekv, List.append_assoc, List.append_assoc, ← e2, ← e1]
      exact g2
    | false =>
      unfold stepKV at h ⊢
      simp only [Bool.false_eq_true, if_false, Bool.and_eq_true] at h ⊢
      obtain ⟨h1, h2⟩ := h
      obtain ⟨g1, g2⟩ := ih h1
      refine ⟨g1, ?_⟩
      have e1 := strOf_ok S.rest h2
      have em := kvTo_more false S.keys S.vals [(strOf S.rest).1] [] [] k (by omega) (fun e => by cases e)
      rw [List.append_nil] at em
      rw [kvTo_succ, em]
      have ekv : kvAt ⟨false, S.keys ++ [(strOf S.rest).1], S.vals, []⟩ k = strB (strOf S.rest).1 := by
        unfold kvAt
        simp only [List.getD_eq_getElem?_getD, Bool.false_eq_true, if_false, List.append_nil]
        rw [List.getElem?_append_right (by omega), hk]
        simp
      rw [ekv, List.append_assoc, ← e1]
      exact g2
theorem tellP_laid (zs : List UInt8) (ok0 : Bool) : ∀ k, (tellP k ⟨[], zs, ok0⟩).ok = true → ok0 = true ∧ zs = (tellP k ⟨[], zs, ok0⟩).kids.flatMap ptrB ++ (tellP k ⟨[], zs, ok0⟩).rest
  | 0, h => ⟨h, rfl⟩
  | k + 1, h => by
    have ih := tellP_laid zs ok0 k
    unfold tellP at h ⊢
    obtain ⟨S, hS⟩ : ∃ S, S = tellP k ⟨[], zs, ok0⟩ := ⟨_, rfl⟩
    rw [← hS] at h ih ⊢
    unfold stepP at h ⊢
    simp only [Bool.and_eq_true] at h ⊢
    obtain ⟨h1, h2⟩ := h
    obtain ⟨g1, g2⟩ := ih h1
    refine ⟨g1, ?_⟩
    rw [List.flatMap_append, List.append_assoc]
    conv => lhs; rw [g2]
    congr 1
    simpa using ptrOf_ok S.rest h2

def kvFrom (n : Nd) (k : Nat) : List UInt8 := ((List.range n.keys.length).drop k).flatMap (kvAt n)
theorem kvFrom_zero (n : Nd) : kvFrom n 0 = kvTo n n.keys.length := rfl
theorem kvFrom_step (n : Nd) (k : Nat) (h : k < n.keys.length) : kvFrom n k = kvAt n k ++ kvFrom n (k + 1) := by
  unfold kvFrom
  rw [List.drop_eq_getElem_cons (by simpa using h)]
  simp
theorem kvFrom_end (n : Nd) : kvFrom n n.keys.length = [] := by unfold kvFrom; rw [List.drop_of_length_le (by simp)]; rfl
theorem tellKV_told (n : Nd) (tail : List UInt8) (hk : ∀ s ∈ n.keys, s.size ≤ 255) (hv : ∀ s ∈ n.vals, s.size ≤ 255) (hl : n.leaf = true → n.vals.length = n.keys.length) :
    ∀ k, k ≤ n.keys.length → tellKV n.leaf k ⟨[], [], kvFrom n 0 ++ tail, true⟩ = ⟨n.keys.take k, if n.leaf then n.vals.take k else [], kvFrom n k ++ tail, true⟩
  | 0, _ => by cases n.leaf <;> rfl
  | k + 1, h => by
    have ih := tellKV_told n tail hk hv hl k (by omega)
    unfold tellKV
    rw [ih, kvFrom_step n k (by omega)]
    have s1 := hk _ (List.getElem_mem (show k < n.keys.length by omega))
    cases hlf : n.leaf with
    | true =>
      have hvl := hl hlf
      have s2 := hv _ (List.getElem_mem (show k < n.vals.length by omega))
      have ekv : kvAt n k = strB (n.keys[k]'(by omega)) ++ strB (n.vals[k]'(by omega)) := by
        unfold kvAt
        rw [hlf, if_pos rfl, List.getD_eq_getElem?_getD, List.getD_eq_getElem?_getD, List.getElem?_eq_getElem (by omega), List.getElem?_eq_getElem (by omega)]
        rfl
      unfold stepKV
      simp only [if_true]
      rw [ekv, List.append_assoc, List.append_assoc, strOf_strB _ _ s1]
      simp only
      rw [strOf_strB _ _ s2]
      simp only [List.take_succ_eq_append_getElem (show k < n.keys.length by omega), List.take_succ_eq_append_getElem (show k < n.vals.length by omega)]
      rfl
    | false =>
      have ekv : kvAt n k = strB (n.keys[k]'(by omega)) := by
        unfold kvAt
        rw [hlf, List.getD_eq_getElem?_getD, List.getElem?_eq_getElem (by omega)]
        simp
      unfold stepKV
      simp only [Bool.false_eq_true, if_false]
      rw [ekv, List.append_assoc, strOf_strB _ _ s1]
      simp only [List.take_succ_eq_append_getElem (show k < n.keys.length by omega)]
      rfl
theorem tellP_told (ps : List Pt) (tail : List UInt8) (hw : ∀ p ∈ ps, p.Wf) : ∀ k, k ≤ ps.length → tellP k ⟨[], ps.flatMap ptrB ++ tail, true⟩ = ⟨ps.take k, (ps.drop k).flatMap ptrB ++ tail, true⟩
  | 0, _ => rfl
  | k + 1, h => by
    have ih := tellP_told ps tail hw k (by omega)
    have h1 := hw _ (List.getElem_mem (show k < ps.length by omega))
    unfold tellP
    rw [ih, List.drop_eq_getElem_cons (show k < ps.length by omega)]
    unfold stepP
    simp only [List.flatMap_cons, List.append_assoc]
    rw [ptrOf_ptrB _ _ h1]
    simp only [List.take_succ_eq_append_getElem (show k < ps.length by omega)]
    rfl

end Go.Proofs.YtkbnkdokcmpcgaaGreatDoor

namespace Go.Proofs.YtkbnkdokcmpcgaaGreatDoor
open Go.RowKit

theorem numOf_one (c : UInt8) (ys : List UInt8) : numOf 1 (c :: ys) = (c.toNat, 0, ys) := by
  unfold numOf
  rw [if_neg (by omega), if_neg (by simp; omega)]
  simp [getB]
theorem tellP_wf (s : Tp) (h : ∀ p ∈ s.kids, p.Wf) : ∀ k, ∀ p ∈ (tellP k s).kids, p.Wf
  | 0 => h
  | k + 1 => by
    have ih := tellP_wf s h k
    unfold tellP stepP
    intro p hp
    rcases List.mem_append.1 hp with g | g
    · exact ih p g
    · rw [List.mem_singleton] at g; subst g; exact ptrOf_wf _
theorem toldN_wf (xs : List UInt8) : ∀ p ∈ (toldN xs).kids, p.Wf := by
  unfold toldN tell2
  simp only
  split
  · simp
  · exact tellP_wf _ (by simp) _

theorem putB_one (c : UInt8) : putB c.toNat 1 = [c] := by
  have := putB_getB 1 [c] rfl
  simpa [getB] using this

theorem told_laid (c0 c1 : UInt8) (zs : List UInt8) (h : (tell2 (c0 :: c1 :: zs)).ok = true) : c0 :: c1 :: zs = bytesN (toldN (c0 :: c1 :: zs)) ++ (tell2 (c0 :: c1 :: zs)).rest := by
  have hk : kind (c0 :: c1 :: zs) = c0.toNat := by unfold kind; rw [numOf_one]
  have hc : count (c0 :: c1 :: zs) = c1.toNat := by unfold count; rw [numOf_one, numOf_one]
  have ht1 : tell1 (c0 :: c1 :: zs) = tellKV (c0.toNat == 1) c1.toNat ⟨[], [], zs, c0.toNat == 1 || c0.toNat == 2⟩ := by unfold tell1; rw [hk, hc, numOf_one, numOf_one]
  obtain ⟨S, hS⟩ : ∃ S, S = tell1 (c0 :: c1 :: zs) := ⟨_, rfl⟩
  have hlaid := tellKV_laid (c0.toNat == 1) zs (c0.toNat == 1 || c0.toNat == 2) c1.toNat
  have hkl := tellKV_keys (c0.toNat == 1) ⟨[], [], zs, c0.toNat == 1 || c0.toNat == 2⟩ c1.toNat
  rw [← ht1, ← hS] at hlaid hkl
  simp only [List.length_nil, Nat.zero_add] at hkl
  cases hL : (c0.toNat == 1) with
  | true =>
    have e2 : tell2 (c0 :: c1 :: zs) = ⟨[], S.rest, S.ok⟩ := by unfold tell2; rw [hk, hL, if_pos rfl, hS]
    have e3 : toldN (c0 :: c1 :: zs) = ⟨true, S.keys, S.vals, []⟩ := by unfold toldN; rw [hk, hL, e2, hS]
    rw [e2] at h ⊢
    rw [e3]
    rw [hL] at hlaid
    obtain ⟨-, g⟩ := hlaid h
    have h1 : c0.toNat = 1 := by simpa using hL
    unfold bytesN headB kidsTo
    simp only [if_true, hkl, List.length_nil, List.take_nil, List.flatMap_nil, List.append_nil]
    rw [show putB 1 1 = [c0] by have := putB_one c0; rwa [h1] at this, putB_one]
    simp only [List.cons_append, List.nil_append]
    rw [← g]
  | false =>
    have e2 : tell2 (c0 :: c1 :: zs) = tellP (c1.toNat + 1) ⟨[], S.rest, S.ok⟩ := by unfold tell2; rw [hk, hL, hc, hS]; rfl
    have e3 : toldN (c0 :: c1 :: zs) = ⟨false, S.keys, S.vals, (tell2 (c0 :: c1 :: zs)).kids⟩ := by unfold toldN; rw [hk, hL, hS]
    have hp := tellP_laid S.rest S.ok (c1.toNat + 1)
    rw [← e2] at hp
    obtain ⟨g1, g2⟩ := hp h
    rw [hL] at hlaid
    obtain ⟨g3, g4⟩ := hlaid g1
    have h2 : c0.toNat = 2 := by simpa using g3
    rw [e3]
    unfold bytesN headB kidsTo
    simp only [Bool.false_eq_true, if_false, hkl]
    rw [show putB 2 1 = [c0] by have := putB_one c0; rwa [h2] at this, putB_one, List.take_length]
    have ekv : kvTo ⟨false, S.keys, S.vals, (tell2 (c0 :: c1 :: zs)).kids⟩ c1.toNat = kvTo ⟨false, S.keys, S.vals, []⟩ c1.toNat := rfl
    rw [ekv]
    simp only [List.cons_append, List.nil_append, List.append_assoc]
    rw [← g2, ← g4]

theorem formB_leaf' {n : Nd} (h : formB n = true) (hl : n.leaf = true) : n.kids = [] := by
  unfold formB at h
  rw [hl] at h
  simp only [if_true, Bool.and_eq_true, decide_eq_true_iff] at h
  exact List.eq_nil_of_length_eq_zero h.2.1.2
theorem formB_inner' {n : Nd} (h : formB n = true) (hl : n.leaf = false) : n.kids.length = n.keys.length + 1 ∧ n.vals = [] := by
  unfold formB at h
  rw [hl] at h
  simp only [Bool.false_eq_true, if_false, Bool.and_eq_true, decide_eq_true_iff] at h
  exact ⟨h.2.1.2, List.eq_nil_of_length_eq_zero h.2.1.1.1⟩

theorem told_of_bytes (n : Nd) (tail : List UInt8) (hf : formB n = true) (hk : n.keys.length ≤ 255) (hw : ∀ p ∈ n.kids, p.Wf) :
    toldN (bytesN n ++ tail) = n ∧ (tell2 (bytesN n ++ tail)).ok = true ∧ (tell2 (bytesN n ++ tail)).rest = tail := by
  have hok := formB_ok hf
  have hks : ∀ s ∈ n.keys, s.size ≤ 255 := fun s hs => by have := (hok.keyS s hs).2; omega
  have hvs : ∀ s ∈ n.vals, s.size ≤ 255 := fun s hs => by have := hok.valS s hs; omega
  have ebytes : bytesN n ++ tail = UInt8.ofNat (if n.leaf then 1 else 2) :: UInt8.ofNat n.keys.length :: (kvFrom n 0 ++ (n.kids.flatMap ptrB ++ tail)) := by
    unfold bytesN headB kidsTo
    rw [List.take_length, kvFrom_zero]
    simp [putB, List.range_succ]
  have hb : (UInt8.ofNat n.keys.length).toNat = n.keys.length := by rw [UInt8.toNat_ofNat']; exact Nat.mod_eq_of_lt (by omega)
  have hkind : kind (bytesN n ++ tail) = if n.leaf then 1 else 2 := by
    rw [ebytes]; unfold kind; rw [numOf_one]
    cases n.leaf <;> rfl
  have hcount : count (bytesN n ++ tail) = n.keys.length := by
    rw [ebytes]; unfold count; rw [numOf_one, numOf_one]; exact hb
  have hleaf : (kind (bytesN n ++ tail) == 1) = n.leaf := by rw [hkind]; cases n.leaf <;> rfl
  have hok0 : (kind (bytesN n ++ tail) == 1 || kind (bytesN n ++ tail) == 2) = true := by rw [hkind]; cases n.leaf <;> rfl
  have ht1 : tell1 (bytesN n ++ tail) = ⟨n.keys, if n.leaf then n.vals else [], n.kids.flatMap ptrB ++ tail, true⟩ := by
    have h0 : (numOf 1 (numOf 1 (bytesN n ++ tail)).2.2).2.2 = kvFrom n 0 ++ (n.kids.flatMap ptrB ++ tail) := by rw [ebytes, numOf_one, numOf_one]
    have h1 := tellKV_told n (n.kids.flatMap ptrB ++ tail) hks hvs hok.vals n.keys.length (Nat.le_refl _)
    unfold tell1
    rw [hok0, hleaf, hcount, h0, h1, kvFrom_end, List.take_length, List.nil_append]
    cases hl : n.leaf with
    | true => rw [if_pos rfl, if_pos rfl, ← hok.vals hl, List.take_length]
    | false => rfl
  cases hl : n.leaf with
  | true =>
    have hkid := formB_leaf' hf hl
    rw [hl] at ht1 hleaf
    have e2 : tell2 (bytesN n ++ tail) = ⟨[], tail, true⟩ := by
      unfold tell2; rw [hleaf, if_pos rfl, ht1, hkid]; rfl
    refine ⟨?_, by rw [e2], by rw [e2]⟩
    unfold toldN
    rw [hleaf, e2, ht1]
    obtain ⟨lf, ks, vs, ps⟩ := n
    simp only at hl hkid ⊢
    rw [hl, hkid]; rfl
  | false =>
    have hkid := formB_inner' hf hl
    rw [hl] at ht1 hleaf
    have e2 : tell2 (bytesN n ++ tail) = ⟨n.kids, tail, true⟩ := by
      have h1 := tellP_told n.kids tail hw n.kids.length (Nat.le_refl _)
      unfold tell2
      rw [hleaf, hcount, ht1, ← hkid.1]
      simp only [Bool.false_eq_true, if_false]
      rw [h1, List.take_length, List.drop_length]; rfl
    refine ⟨?_, by rw [e2], by rw [e2]⟩
    unfold toldN
    rw [hleaf, e2, ht1]
    have hv := hkid.2
    obtain ⟨lf, ks, vs, ps⟩ := n
    simp only at hl hv ⊢
    rw [hl, hv]; rfl

theorem endE_iff (ys : List UInt8) : (endE ys == 0) = true ↔ ys = List.replicate ys.length 0 := by
  constructor
  · intro h
    have h0 : ∀ y ∈ ys, y = 0 := by
      unfold endE at h
      split at h
      · rename_i ha; simpa using ha
      · simp at h
    exact List.eq_replicate_iff.2 ⟨rfl, h0⟩
  · intro h
    rw [endE_zero (fun y hy => by rw [h] at hy; exact (List.mem_replicate.1 hy).2)]; rfl

theorem checkE_split {n : Nd} : checkE n = 0 ↔ formB n = true ∧ sizeN n ≤ 512 := by
  unfold checkE
  cases formB n with
  | false => simp
  | true =>
    simp only [if_true, true_and]
    split
    · rename_i h; simp; omega
    · rename_i h; simp; omega

theorem getOk_iff (xs : List UInt8) (hl : xs.length = 512) : getOk xs = true ↔ (checkE (toldN xs) = 0 ∧ bytesN (toldN xs) ++ List.replicate (512 - sizeN (toldN xs)) 0 = xs) := by
  constructor
  · intro h
    unfold getOk at h
    simp only [Bool.and_eq_true] at h
    obtain ⟨⟨h1, h2⟩, h3⟩ := h
    have hc : checkE (toldN xs) = 0 := by simpa using h3
    obtain ⟨c0, c1, zs, rfl⟩ : ∃ c0 c1 zs, xs = c0 :: c1 :: zs := by
      match xs, hl with
      | c0 :: c1 :: zs, _ => exact ⟨c0, c1, zs, rfl⟩
    have hlaid := told_laid c0 c1 zs h1
    have hlen := bytesN_length (checkE_split.1 hc).1 (toldN_wf (c0 :: c1 :: zs))
    have hr := (endE_iff _).1 h2
    refine ⟨hc, ?_⟩
    have e : (tell2 (c0 :: c1 :: zs)).rest.length = 512 - sizeN (toldN (c0 :: c1 :: zs)) := by
      have := congrArg List.length hlaid
      rw [List.length_append, hlen, hl] at this
      omega
    rw [← e, ← hr]
    exact hlaid.symm
  · rintro ⟨hc, hx⟩
    obtain ⟨hf, hs⟩ := checkE_split.1 hc
    have hk : (toldN xs).keys.length ≤ 255 := by
      have h1 := tell1_len xs
      have h2 := count_le xs
      unfold toldN; simp only; omega
    have h := told_of_bytes (toldN xs) (List.replicate (512 - sizeN (toldN xs)) 0) hf hk (toldN_wf xs)
    rw [hx] at h
    unfold getOk
    rw [h.2.1, h.2.2, (endE_iff _).2 (by simp), hc]
    rfl

end Go.Proofs.YtkbnkdokcmpcgaaGreatDoor
namespace Go.Proofs.YtkbnkdokcmpcgaaGreatDoor

def seqN {α : Type} (n : Nat) (k : Nat → α) : α := match n with | 0 => k 0 | m + 1 => k (m + 1)
theorem seqN_eq {α : Type} (n : Nat) (k : Nat → α) : seqN n k = k n := by cases n <;> rfl
def seqL {α : Type} : List Nat → (List Nat → α) → α
  | [], k => k []
  | x :: xs, k => seqN x fun y => seqL xs fun ys => k (y :: ys)
theorem seqL_eq {α : Type} : ∀ (l : List Nat) (k : List Nat → α), seqL l k = k l
  | [], _ => rfl
  | x :: xs, k => by unfold seqL; rw [seqN_eq, seqL_eq xs]
def seqU {α : Type} : List UInt8 → (List UInt8 → α) → α
  | [], k => k []
  | x :: xs, k => seqN x.toNat fun y => seqU xs fun ys => k (UInt8.ofNat y :: ys)
theorem seqU_eq {α : Type} : ∀ (l : List UInt8) (k : List UInt8 → α), seqU l k = k l
  | [], _ => rfl
  | x :: xs, k => by unfold seqU; rw [seqN_eq, seqU_eq xs, UInt8.ofNat_toNat]

def kLit : List Nat := [1116352408, 1899447441, 3049323471, 3921009573, 961987163, 1508970993, 2453635748, 2870763221, 3624381080, 310598401, 607225278, 1426881987, 1925078388, 2162078206, 2614888103, 3248222580, 3835390401, 4022224774, 264347078, 604807628, 770255983, 1249150122, 1555081692, 1996064986, 2554220882, 2821834349, 2952996808, 3210313671, 3336571891, 3584528711, 113926993, 338241895, 666307205, 773529912, 1294757372, 1396182291, 1695183700, 1986661051, 2177026350, 2456956037, 2730485921, 2820302411, 3259730800, 3345764771, 3516065817, 3600352804, 4094571909, 275423344, 430227734, 506948616, 659060556, 883997877, 958139571, 1322822218, 1537002063, 1747873779, 1955562222, 2024104815, 2227730452, 2361852424, 2428436474, 2756734187, 3204031479, 3329325298]
def sLit : St := ⟨1779033703, 3144134277, 1013904242, 2773480762, 1359893119, 2600822924, 528734635, 1541459225⟩
theorem kInit_lit : kInit = kLit := by decide +kernel
theorem hInit_lit : hInit = sLit.list := by decide +kernel
theorem sInit_lit : sInit = sLit := by unfold sInit; rw [hInit_lit]; rfl

def wNextR (r : List Nat) : Nat := (r.getD 15 0 + r.getD 6 0 + smallN (r.getD 14 0) 7 18 3 + smallN (r.getD 1 0) 17 19 10) % 4294967296
def schedF : Nat → List Nat → List Nat
  | 0, r => r
  | n + 1, r => seqN (wNextR r) fun x => schedF n (x :: r)
theorem getD_rev (l : List Nat) (j : Nat) (h : j < l.length) : l.reverse.getD j 0 = l.getD (l.length - 1 - j) 0 := by
  simp only [List.getD_eq_getElem?_getD]
  rw [List.getElem?_reverse h]
theorem schedF_eq (b : List UInt8) : ∀ n k, 16 ≤ k → schedF n (spreadL b k).reverse = (spreadL b (k + n)).reverse
  | 0, _, _ => rfl
  | n + 1, k, h => by
    unfold schedF
    rw [seqN_eq]
    have hl := spreadL_length b k
    have e : wNextR (spreadL b k).reverse :: (spreadL b k).reverse = (spreadL b (k + 1)).reverse := by
      conv => rhs; unfold spreadL
      rw [List.reverse_append, if_neg (by omega)]
      show _ = wNext (spreadL b k) k :: _
      congr 1
      unfold wNextR wNext
      rw [getD_rev _ 15 (by omega), getD_rev _ 6 (by omega), getD_rev _ 14 (by omega), getD_rev _ 1 (by omega), hl,
        show k - 1 - 15 = k - 16 by omega, show k - 1 - 6 = k - 7 by omega, show k - 1 - 14 = k - 15 by omega, show k - 1 - 1 = k - 2 by omega]
    rw [e, schedF_eq b n (k + 1) (by omega), show k + 1 + n = k + (n + 1) by omega]

def seqSt {α : Type} (s : St) (k : St → α) : α :=
  seqN s.a fun a => seqN s.b fun b => seqN s.c fun c => seqN s.d fun d => seqN s.e fun e => seqN s.f fun f => seqN s.g fun g => seqN s.h fun h => k ⟨a, b, c, d, e, f, g, h⟩
theorem seqSt_eq {α : Type} (s : St) (k : St → α) : seqSt s k = k s := by unfold seqSt; simp only [seqN_eq]
def roundsF : List Nat → List Nat → St → St
  | k :: ks, w :: ws, s => seqSt (roundN s k w) (roundsF ks ws)
  | _, _, s => s
theorem roundsN_cons (s : St) (k w : Nat) (ks ws : List Nat) : ∀ n, roundsN s (k :: ks) (w :: ws) (n + 1) = roundsN (roundN s k w) ks ws n
  | 0 => rfl
  | n + 1 => by
    show roundN (roundsN s (k :: ks) (w :: ws) (n + 1)) _ _ = roundN (roundsN (roundN s k w) ks ws n) _ _
    rw [roundsN_cons s k w ks ws n]; rfl
theorem roundsF_eq : ∀ (ks ws : List Nat) (s : St), ks.length = ws.length → roundsF ks ws s = roundsN s ks ws ks.length
  | [], _, _, _ => rfl
  | k :: ks, [], _, h => by simp at h
  | k :: ks, w :: ws, s, h => by
    unfold roundsF
    rw [seqSt_eq, roundsF_eq ks ws _ (by simpa using h)]
    exact (roundsN_cons s k w ks ws ks.length).symm
def words16 (b : List UInt8) : List Nat := (List.range 16).map fun k => getB ((b.drop (4 * k)).take 4)
theorem words16_eq (b : List UInt8) : words16 b = spreadL b 16 := rfl
def takeF (s : St) (b : List UInt8) : St :=
  seqL (words16 b).reverse fun r => addSt (roundsF kLit (schedF 48 r).reverse s) s
theorem takeF_eq (s : St) (b : List UInt8) : takeF s b = takeN s b := by
  unfold takeF takeN
  rw [seqL_eq, words16_eq, schedF_eq b 48 16 (Nat.le_refl _), List.reverse_reverse, roundsF_eq _ _ _ (by rw [spreadL_length]; rfl), kInit_lit]
  rfl
def blocksF : Nat → List UInt8 → St → St
  | 0, _, s => s
  | n + 1, l, s => seqSt (takeF s (l.take 64)) (blocksF n (l.drop 64))
theorem blocksN_first (s : St) (b : List UInt8) : ∀ n, blocksN s b (n + 1) = blocksN (takeN s (b.take 64)) (b.drop 64) n
  | 0 => rfl
  | n + 1 => by
    show takeN (blocksN s b (n + 1)) _ = takeN (blocksN (takeN s (b.take 64)) (b.drop 64) n) _
    rw [blocksN_first s b n, List.drop_drop, show 64 + 64 * n = 64 * (n + 1) by omega]
theorem blocksF_eq : ∀ n l s, blocksF n l s = blocksN s l n
  | 0, _, _ => rfl
  | n + 1, l, s => by unfold blocksF; rw [seqSt_eq, takeF_eq, blocksF_eq n, blocksN_first]
def hashF (xs : List UInt8) : List UInt8 := outB (blocksF ((endOf xs xs.length).length / 64) (endOf xs xs.length) sLit)
theorem hashF_eq (xs : List UInt8) : hashF xs = hashN xs := by unfold hashF hashN; rw [blocksF_eq, sInit_lit]

def boxN : Nat := 2869618975290639062594974519597816386035077209210385677284518162336985023502962151465775969507961862820568736543004676439868535775640188584098917533413284844376797297285941524888791401501466624530423689326528054213168201056672989590893583853414110162539122864583953358348775951166211353578440977400428507475679327181038682772945817200201960445064847785221508011893952350688324234443749897213621340677040612747745615276448919507935121141307752692835344166708617454322778699219895865633266409040561742768581056182730443599545881830075941537620590442514083341749674612746994879540562701631131184186066652929592955206755
def boxF (b : UInt8) : UInt8 := UInt8.ofNat (boxN >>> (8 * b.toNat))
theorem boxF_all : ∀ i, i < 256 → boxF (UInt8.ofNat i) = boxB (UInt8.ofNat i) := by decide +kernel
theorem boxF_eq (b : UInt8) : boxF b = boxB b := by
  have := boxF_all b.toNat b.toNat_lt
  rwa [UInt8.ofNat_toNat] at this
def subF (b : List UInt8) : List UInt8 := (List.range 16).map fun i => boxF (gB b ((i + 4 * (i % 4)) % 16))
theorem subF_eq (b : List UInt8) : subF b = subB b := by unfold subF subB; simp only [boxF_eq]
def roundR (ks b : List UInt8) (n : Nat) : List UInt8 := sumB (if n < 14 then mixB (subB b) else subB b) (rkeyAt ks n)
def roundF (ks b : List UInt8) (n : Nat) : List UInt8 := seqU (subF b) fun x => sumB (if n < 14 then mixB x else x) (rkeyAt ks n)
theorem roundF_eq (ks b : List UInt8) (n : Nat) : roundF ks b n = roundR ks b n := by unfold roundF roundR; rw [seqU_eq, subF_eq]
def sealF (ks : List UInt8) : List Nat → List UInt8 → List UInt8
  | [], b => b
  | n :: l, b => seqU (roundF ks b n) (sealF ks l)
theorem sealF_eq (ks b : List UInt8) : sealF ks [1, 2, 3, 4, 5, 6, 7, 8, 9, 10, 11, 12, 13, 14] (sealTo ks b 0) = sealTo ks b 14 := by
  simp only [sealF, seqU_eq, roundF_eq]; rfl

def encL : List UInt8 := [239, 103, 197, 4, 136, 224, 69, 71, 137, 182, 5, 211, 46, 216, 125, 114, 15, 117, 18, 80, 174, 69, 50, 100, 30, 120, 48, 187, 240, 238, 238, 40]
def leafL : List UInt8 := [1, 0] ++ List.replicate 510 0
def keysL : List UInt8 := [239, 103, 197, 4, 136, 224, 69, 71, 137, 182, 5, 211, 46, 216, 125, 114, 15, 117, 18, 80, 174, 69, 50, 100, 30, 120, 48, 187, 240, 238, 238, 40, 198, 79, 241, 136, 78, 175, 180, 207, 199, 25, 177, 28, 233, 193, 204, 110, 17, 13, 89, 207, 191, 72, 107, 171, 161, 48, 91, 16, 81, 222, 181, 56, 217, 154, 246, 89, 151, 53, 66, 150, 80, 44, 243, 138, 185, 237, 63, 228, 71, 88, 44, 166, 248, 16, 71, 13, 89, 32, 28, 29, 8, 254, 169, 37, 102, 73, 201, 105, 241, 124, 139, 255, 161, 80, 120, 117, 24, 189, 71, 145, 234, 34, 140, 39, 18, 50, 203, 42, 75, 18, 215, 55, 67, 236, 126, 18, 160, 186, 0, 115, 81, 198, 139, 140, 240, 150, 243, 249, 232, 43, 180, 104, 113, 211, 1, 98, 99, 225, 202, 72, 40, 243, 29, 127, 107, 31, 99, 109, 112, 65, 60, 12, 33, 135, 183, 128, 209, 17, 68, 121, 57, 58, 240, 17, 99, 83, 141, 224, 0, 178, 71, 168, 40, 65, 90, 215, 67, 94, 57, 186, 8, 83, 200, 22, 41, 212, 127, 150, 248, 197, 59, 239, 193, 255, 203, 254, 27, 69, 146, 91, 27, 247, 213, 243, 51, 182, 143, 36, 112, 232, 182, 158, 211, 29, 195, 71, 250, 201, 188, 209, 2, 12, 135, 62, 195, 243, 76, 192]
def sealedL : List UInt8 := [146, 104, 67, 96, 151, 163, 121, 24, 3, 208, 8, 207, 15, 14, 32, 209, 79, 74, 177, 63, 204, 93, 31, 149, 234, 193, 6, 234, 36, 237, 74, 148, 128, 25, 38, 183, 79, 175, 133, 5, 229, 31, 9, 52, 125, 171, 237, 11, 163, 175, 39, 222, 243, 145, 77, 69, 42, 158, 138, 149, 80, 112, 139, 176, 215, 30, 65, 111, 77, 192, 116, 17, 211, 234, 235, 160, 224, 18, 186, 165, 106, 9, 217, 8, 28, 243, 156, 82, 38, 8, 4, 198, 61, 187, 10, 20, 30, 11, 88, 92, 26, 164, 222, 73, 142, 212, 203, 236, 19, 67, 190, 171, 253, 108, 145, 243, 3, 138, 8, 147, 245, 193, 14, 155, 189, 149, 192, 101, 216, 230, 168, 213, 138, 80, 216, 169, 133, 214, 200, 132, 63, 64, 48, 89, 104, 91, 213, 47, 56, 208, 73, 146, 16, 226, 164, 223, 149, 205, 8, 151, 39, 235, 80, 234, 136, 193, 201, 37, 243, 251, 163, 229, 173, 238, 206, 55, 194, 175, 94, 241, 4, 224, 239, 140, 100, 27, 199, 166, 226, 171, 243, 86, 98, 65, 97, 192, 253, 102, 61, 29, 5, 22, 146, 183, 99, 224, 7, 99, 110, 43, 15, 235, 160, 74, 113, 152, 162, 106, 76, 191, 111, 161, 154, 189, 218, 102, 8, 188, 131, 66, 254, 113, 42, 60, 34, 163, 68, 36, 86, 40, 149, 59, 110, 42, 146, 30, 137, 169, 202, 240, 114, 15, 6, 225, 247, 186, 62, 59, 235, 104, 114, 76, 200, 13, 151, 151, 123, 55, 111, 95, 138, 234, 166, 174, 74, 30, 33, 57, 8, 101, 67, 68, 122, 207, 105, 91, 38, 199, 64, 7, 90, 55, 249, 161, 69, 34, 49, 102, 153, 124, 96, 159, 48, 156, 203, 19, 178, 188, 41, 66, 159, 7, 60, 90, 75, 241, 106, 200, 218, 243, 212, 227, 129, 100, 248, 199, 31, 189, 98, 185, 54, 24, 247, 207, 147, 250, 48, 26, 233, 148, 208, 195, 186, 233, 200, 173, 33, 224, 81, 178, 148, 0, 163, 36, 186, 65, 15, 207, 168, 152, 15, 225, 247, 146, 51, 54, 8, 210, 128, 199, 128, 121, 69, 1, 40, 230, 102, 28, 33, 130, 97, 228, 222, 247, 127, 73, 87, 46, 183, 214, 176, 174, 134, 142, 229, 8, 167, 34, 165, 123, 189, 168, 34, 50, 153, 196, 173, 160, 159, 244, 182, 232, 213, 237, 79, 65, 96, 79, 112, 200, 198, 154, 58, 53, 81, 76, 27, 22, 67, 136, 22, 100, 92, 30, 238, 14, 106, 187, 112, 132, 15, 239, 62, 13, 38, 122, 236, 111, 216, 198, 236, 158, 111, 152, 56, 221, 137, 98, 219, 178, 109, 117, 26, 69, 92, 181, 112, 123, 18, 156, 248, 211, 59, 28, 13, 143, 78, 37, 67, 45, 55, 72, 160, 204, 152, 181, 224, 155, 208, 172, 181, 48, 167, 97, 31, 70, 157, 139, 193, 142, 254, 186, 36, 71, 161, 185, 40, 166, 47, 247, 239, 227]
def turnedL : List UInt8 := [146, 104, 67, 96, 151, 163, 121, 24, 3, 209, 8, 207, 15, 14, 32, 209, 79, 74, 177, 63, 204, 93, 31, 149, 234, 193, 6, 234, 36, 237, 74, 148, 128, 25, 38, 183, 79, 175, 133, 5, 229, 31, 9, 52, 125, 171, 237, 11, 163, 175, 39, 222, 243, 145, 77, 69, 42, 158, 138, 149, 80, 112, 139, 176, 215, 30, 65, 111, 77, 192, 116, 17, 211, 234, 235, 160, 224, 18, 186, 165, 106, 9, 217, 8, 28, 243, 156, 82, 38, 8, 4, 198, 61, 187, 10, 20, 30, 11, 88, 92, 26, 164, 222, 73, 142, 212, 203, 236, 19, 67, 190, 171, 253, 108, 145, 243, 3, 138, 8, 147, 245, 193, 14, 155, 189, 149, 192, 101, 216, 230, 168, 213, 138, 80, 216, 169, 133, 214, 200, 132, 63, 64, 48, 89, 104, 91, 213, 47, 56, 208, 73, 146, 16, 226, 164, 223, 149, 205, 8, 151, 39, 235, 80, 234, 136, 193, 201, 37, 243, 251, 163, 229, 173, 238, 206, 55, 194, 175, 94, 241, 4, 224, 239, 140, 100, 27, 199, 166, 226, 171, 243, 86, 98, 65, 97, 192, 253, 102, 61, 29, 5, 22, 146, 183, 99, 224, 7, 99, 110, 43, 15, 235, 160, 74, 113, 152, 162, 106, 76, 191, 111, 161, 154, 189, 218, 102, 8, 188, 131, 66, 254, 113, 42, 60, 34, 163, 68, 36, 86, 40, 149, 59, 110, 42, 146, 30, 137, 169, 202, 240, 114, 15, 6, 225, 247, 186, 62, 59, 235, 104, 114, 76, 200, 13, 151, 151, 123, 55, 111, 95, 138, 234, 166, 174, 74, 30, 33, 57, 8, 101, 67, 68, 122, 207, 105, 91, 38, 199, 64, 7, 90, 55, 249, 161, 69, 34, 49, 102, 153, 124, 96, 159, 48, 156, 203, 19, 178, 188, 41, 66, 159, 7, 60, 90, 75, 241, 106, 200, 218, 243, 212, 227, 129, 100, 248, 199, 31, 189, 98, 185, 54, 24, 247, 207, 147, 250, 48, 26, 233, 148, 208, 195, 186, 233, 200, 173, 33, 224, 81, 178, 148, 0, 163, 36, 186, 65, 15, 207, 168, 152, 15, 225, 247, 146, 51, 54, 8, 210, 128, 199, 128, 121, 69, 1, 40, 230, 102, 28, 33, 130, 97, 228, 222, 247, 127, 73, 87, 46, 183, 214, 176, 174, 134, 142, 229, 8, 167, 34, 165, 123, 189, 168, 34, 50, 153, 196, 173, 160, 159, 244, 182, 232, 213, 237, 79, 65, 96, 79, 112, 200, 198, 154, 58, 53, 81, 76, 27, 22, 67, 136, 22, 100, 92, 30, 238, 14, 106, 187, 112, 132, 15, 239, 62, 13, 38, 122, 236, 111, 216, 198, 236, 158, 111, 152, 56, 221, 137, 98, 219, 178, 109, 117, 26, 69, 92, 181, 112, 123, 18, 156, 248, 211, 59, 28, 13, 143, 78, 37, 67, 45, 55, 72, 160, 204, 152, 181, 224, 155, 208, 172, 181, 48, 167, 97, 31, 70, 157, 139, 193, 142, 254, 186, 36, 71, 161, 185, 40, 166, 47, 247, 239, 227]
def sum1L : List UInt8 := [225, 33, 179, 191, 124, 11, 201, 28, 232, 236, 21, 147, 222, 187, 244, 90, 250, 226, 111, 119, 146, 202, 33, 244, 204, 10, 29, 19, 131, 14, 253, 206]
def sum2L : List UInt8 := [49, 249, 0, 14, 251, 93, 111, 65, 146, 146, 99, 205, 14, 254, 235, 23, 22, 242, 74, 205, 37, 37, 255, 69, 43, 129, 80, 146, 188, 122, 212, 182]
theorem enc_key : macN [109, 97, 115, 116, 101, 114] [101, 110, 99] = encL := by
  unfold macN
  rw [← hashF_eq, ← hashF_eq]
  decide +kernel
def wordsF (k : List UInt8) : Nat → List UInt8 → Nat → List UInt8
  | 0, l, _ => l
  | n + 1, l, i => seqU (nextW k l i) fun w => wordsF k n (l ++ w) (i + 1)
theorem wordsF_eq (k : List UInt8) : ∀ n i, wordsF k n (wordsB k i) i = wordsB k (i + n)
  | 0, _ => rfl
  | n + 1, i => by
    unfold wordsF
    rw [seqU_eq]
    show wordsF k n (wordsB k (i + 1)) (i + 1) = _
    rw [wordsF_eq k n (i + 1), show i + 1 + n = i + (n + 1) by omega]
theorem keys_lit : rkeysB encL = keysL := by
  have h := wordsF_eq encL 60 0
  rw [show rkeysB encL = wordsB encL (0 + 60) from rfl, ← h]
  decide +kernel
def blockF (n : List UInt8) (i : Nat) : List UInt8 := sealF keysL [1, 2, 3, 4, 5, 6, 7, 8, 9, 10, 11, 12, 13, 14] (sealTo keysL (n ++ putB i 4) 0)
theorem blockF_eq (n : List UInt8) (i : Nat) : blockF n i = blockB encL n i := by
  unfold blockF blockB aesB; rw [sealF_eq, keys_lit]
def streamF (n : List UInt8) : Nat → List UInt8
  | 0 => []
  | i + 1 => streamF n i ++ blockF n i
theorem streamF_eq (n : List UInt8) : ∀ i, streamF n i = streamTo encL n i
  | 0 => rfl
  | i + 1 => by unfold streamF streamTo; rw [streamF_eq n i, blockF_eq]
theorem sealed_lit : cryptB encL (nonceB 1 2) leafL = sealedL := by
  unfold cryptB
  rw [← streamF_eq]
  decide +kernel
theorem sum1_lit : hashN sealedL = sum1L := by rw [← hashF_eq]; decide +kernel
theorem sum2_lit : hashN turnedL = sum2L := by rw [← hashF_eq]; decide +kernel
theorem sums_differ : sum2L ≠ sum1L := by decide +kernel
theorem turned_lit : sealedL.set 9 (gB sealedL 9 ^^^ 1) = turnedL := by decide +kernel
theorem leaf_turned : hashN ((cryptB encL (nonceB 1 2) leafL).set 9 (gB (cryptB encL (nonceB 1 2) leafL) 9 ^^^ 1)) ≠ hashN (cryptB encL (nonceB 1 2) leafL) := by
  rw [sealed_lit, turned_lit, sum1_lit, sum2_lit]; exact sums_differ

end Go.Proofs.YtkbnkdokcmpcgaaGreatDoor
namespace Go.Proofs.YtkbnkdokcmpcgaaGreatDoor
open Go.RowKit

theorem nodeB_get {n : Nd} (hf : formB n = true) (hs : sizeN n ≤ 512) (hk : n.keys.length ≤ 255) (hw : ∀ p ∈ n.kids, p.Wf) : getE (nodeB n) = 0 ∧ getN (nodeB n) = n := by
  have h := told_of_bytes n (List.replicate (512 - sizeN n) 0) hf hk hw
  have hl : (nodeB n).length = 512 := nodeB_length hf hw hs
  have hok : getOk (nodeB n) = true := (getOk_iff _ hl).2 ⟨by rw [show toldN (nodeB n) = n from h.1]; exact checkE_split.2 ⟨hf, hs⟩, by rw [show toldN (nodeB n) = n from h.1]; rfl⟩
  have hg := get_ok hl hok
  exact ⟨hg.1, by rw [hg.2]; exact h.1⟩
theorem RdPost.get {w w' : World} {ks : List UInt8} {d : Dv} {p : Pt} {e : Ending} (h : RdPost w ks d p e w') (h1 : d.down = false) (h2 : hashN (d.cur p.addr) = p.sum) : GetPost (openB ks d p) w e w' := by
  unfold RdPost at h; rwa [if_neg (by rw [h1]; simp), if_pos h2] at h
theorem RdPost.sum {w w' : World} {ks : List UInt8} {d : Dv} {p : Pt} {e : Ending} (h : RdPost w ks d p e w') (h1 : d.down = false) (h2 : hashN (d.cur p.addr) ≠ p.sum) : e = .returned (.tuple #[.agg zeroArr, .int .i64 5]) ∧ Below w.heap.size w w' := by
  unfold RdPost at h; rwa [if_neg (by rw [h1]; simp), if_neg h2] at h

set_option maxRecDepth 100000 in
set_option maxHeartbeats 2000000 in
theorem poRead_nil (p : Pt) (w : World) : Calls Tryz.prog 22 #[.pointer none, .agg p.arr] w fun e w' => e = .returned (.tuple #[.agg zeroArr, .int .i64 1]) ∧ Below w.heap.size w w' := by
  have HN := Lib.hid (al2_1 w (.cells p.arr 43) (.cells zeroArr 25))
  have HB := Lib.hid (show Below w.heap.size w ((w.alloc (.cells p.arr 43)).alloc (.cells zeroArr 25)) from ((Below.refl _ w).alloc (Nat.le_refl _) _).alloc (by simp) _)
  go_enter Tryz.func22, Tryz.ntmps22
  go_wp2_with (refine store_nd rfl (.tmp 4) (.tmp 12) rfl rfl (arr := zeroArr) rfl HN.out rfl rfl (zero_is w).one ?_; intro we hge hfe hse; have HGe := Lib.hid hge; have HFe := Lib.hid hfe; clear hge hfe hse)
  refine bodyPost_ret (ret_nd rfl rfl HGe.out rfl) rfl ?_
  exact ⟨rfl, HB.out.trans (HFe.out.below HB.out.size (fun k hk => by omega))⟩

def leafN : Nd := ⟨true, [], [], []⟩
def leafArr : Array Value := #[.bool true, .slice none 0 0, .slice none 0 0, .slice none 0 0]
theorem leaf_is (w : World) : NdIs w leafArr leafN := ⟨_, _, _, rfl, Sl.nil _ _, Sl.nil _ _, ⟨Sl.nil _ _, by simp [leafN]⟩⟩
theorem leaf_fits : leafN.Fits := ⟨by decide, by decide, by decide, by simp [leafN], by simp [leafN]⟩
theorem leaf_form : formB leafN = true := by decide
theorem leaf_size : sizeN leafN ≤ 512 := by decide
theorem leaf_bytes : nodeB leafN = leafL := by decide +kernel
theorem MK_enc : MK.take 32 = encL := by unfold MK; rw [keysOf_take]; exact enc_key
theorem step_up {d : Dv} (h : d.left = -1) : d.step.down = d.down ∧ d.step.left = -1 := by unfold Dv.step; simp [h]
set_option maxRecDepth 100000 in
set_option maxHeartbeats 8000000 in
theorem alive13 (w : World) (hT : Tz w) : Calls Tryz.prog 15 #[] w fun e w' => e = .returned (.bool true) ∧ Below w.heap.size w w' := by
  have HTz := Lib.hid hT
  clear hT
  go_enter Tryz.func15, Tryz.ntmps15
  go_wp2_with fail
  refine (made_ok 16 w (by decide) (by decide)).mono ?_
  rintro e w1 ⟨P, D, S, W, lo, F, rfl, hp1, hd1, hF, hPF, hb1⟩
  obtain ⟨ks, hks⟩ : ∃ ks, ks = MK := ⟨_, rfl⟩
  rw [← hks] at hp1 ⊢
  have HKs := Lib.hid hks
  have HKl := Lib.hid (show ks.length = 64 by rw [hks]; exact MK_length)
  have HP1 := Lib.hid hp1
  have HD1 := Lib.hid hd1
  have HF := Lib.hid hF
  have HPF := Lib.hid hPF
  have HB1 := Lib.hid hb1
  have HN1 := Lib.hid (heap_alloc_new w1 (.cells ((zB 64).map Bv).toArray 35))
  clear hks hp1 hd1 hF hPF hb1
  go_wp2_with (refine wpList_store_row rfl _ (.tmp 3) (.tmp 20) rfl w1.heap.size rfl (ks.map Bv) rfl _ _ HN1.out (by rw [List.length_map, HKl.out]; rfl) (Bv_oneCell _) (by rw [info_keys, List.length_map, HKl.out]) ?_; intro w2 hg hf hs; have HGw2 := Lib.hid hg; have HBw2 := Lib.hid (show Below w1.heap.size w1 w2 from ((Below.refl _ w1).alloc (Nat.le_refl _) _).trans (hf.below (by simp) (fun j hj => by omega))); clear hg hf hs)
  have HP2 := Lib.hid (HP1.out.below HBw2.out)
  have HD2 := Lib.hid (HD1.out.below HBw2.out)
  have HB2 := Lib.hid (HB1.out.trans (HBw2.out.mono HB1.out.size))
  clear HP1 HD1 HB1 HGw2 HBw2 HN1
  refine (poBegin_ok P D S W 16 0 1 ks noneT w2 HP2.out (by decide) (by decide)).mono ?_
  rintro e w3 ⟨rfl, hp3, hf3⟩
  have HP3 := Lib.hid hp3
  have HD3 := Lib.hid (HD2.out.fr hf3 (fun k hk e => (HPF.out k (Or.inl e)).2 hk))
  have HB3 := Lib.hid (HB2.out.trans (hf3.below HB2.out.size (fun k hk => (HPF.out k (Or.inl hk)).1)))
  clear hp3 hf3 HP2 HD2 HB2
  go_wp2_with fail
  have hput := poWrite_ok P D S W 1 lo ks noneT F (Dv.new 16) leafArr leafN w3 HP3.out HD3.out (fun k hk => (HPF.out k hk).2) (leaf_is w3) (HTz.out.below HB3.out) (by decide) leaf_fits leaf_form leaf_size 2 (by decide) rfl (step_up rfl).1 (by decide)
  refine hput.mono ?_
  clear hput
  rintro e w4 ⟨F0, rfl, hp4, hd4, hF4, hf4⟩
  obtain ⟨c, hc⟩ : ∃ c, c = cryptB (ks.take 32) (nonceB 1 2) (nodeB leafN) := ⟨_, rfl⟩
  obtain ⟨p, hp⟩ : ∃ p, p = sealP ks 1 2 (nodeB leafN) := ⟨_, rfl⟩
  have HPv := Lib.hid (show p.addr = 2 ∧ p.birth = 1 ∧ p.sum = hashN c by rw [hp, hc]; exact ⟨rfl, rfl, rfl⟩)
  have HPw := Lib.hid (show p.Wf by rw [hp]; exact sealP_wf _ _ _ _ (by decide) (by decide))
  rw [← hp]
  rw [← hc] at hd4
  obtain ⟨F', hds, hFs, -⟩ := hd4.small
  have HLF := Lib.hid (show ∀ k, F' k → k < w4.heap.size from fun k hk => (hFs k hk).2)
  have HCv := Lib.hid hc
  have HP4 := Lib.hid hp4
  have HD4 := Lib.hid hds
  have HF4 := Lib.hid (show ∀ k, F' k → w.heap.size ≤ k from fun k hk => (hF4 k (hFs k hk).1).elim (HF.out k) (fun h => Nat.le_trans HB3.out.size h))
  have HB4 := Lib.hid (HB3.out.trans (hf4.below HB3.out.size (by
    rintro k (h | h | h)
    · exact HF.out k h
    · exact (HPF.out k (Or.inr (Or.inl h))).1
    · exact (HPF.out k (Or.inr (Or.inr h))).1)))
  have HPF4 := Lib.hid (show ∀ k, PlF P S W k → ¬ F' k from fun k hk hF' => (hF4 k (hFs k hF').1).elim (HPF.out k hk).2 (fun h => by have := HP3.out.lt k hk; omega))
  have HN4 := Lib.hid (heap_alloc_new w4 (.cells Pt.zero.arr 43))
  clear hp hc hp4 hd4 hds hFs hF4 hf4 HP3 HD3 HB3
  go_wp2_with (first | (refine store_ptr rfl (.tmp 5) (.tmp 33) rfl rfl rfl HN4.out Pt.zero_wf.size HPw.out ?_; intro w5 hg hf hs; have HG5 := Lib.hid hg; have HBw5 := Lib.hid (show Below w4.heap.size w4 w5 from ((Below.refl _ w4).alloc (Nat.le_refl _) _).trans (hf.below (by simp) (fun j hj => by omega))); clear hg hf hs) | (refine load_ptr rfl (.tmp 5) rfl rfl (At.of_row (show w5.heap[w4.heap.size]? = some (.cells p.cells.toArray 43 (0, 0)) from HG5.out)) HPw.out ?_))
  obtain ⟨d1, hd1⟩ : ∃ d, d = (Dv.new 16).step.wrote 2 c := ⟨_, rfl⟩
  rw [← hd1] at HD4
  have hs1 : d1.size = 16 := by rw [hd1]; rfl
  have HPP := Lib.hid (show PlAt w4 P D S W d1.size ks (updT noneT 2 true) 1 by rw [hs1]; exact HP4.out)
  have H1 := Lib.hid (show d1.size = 16 ∧ d1.down = false ∧ d1.left = -1 ∧ d1.waits.length = 1 ∧ d1.cur 2 = c by
    refine ⟨hs1, ?_, ?_, ?_, ?_⟩
    · rw [hd1]; exact (step_up (d := Dv.new 16) rfl).1
    · rw [hd1]; exact (step_up (d := Dv.new 16) rfl).2
    · rw [hd1]; rfl
    · rw [hd1, Dv.cur_wrote, if_pos rfl])
  have HB5 := Lib.hid (HB4.out.trans (HBw5.out.mono HB4.out.size))
  have HP5 := Lib.hid (HPP.out.below HBw5.out)
  have HD5 := Lib.hid (HD4.out.below HBw5.out)
  have hpe : ptrE p d1.size = 0 := by
    rw [H1.out.1]
    refine ptrE_ok ?_
    unfold ptrOk
    rw [if_neg (by rw [HPv.out.1]; decide), HPv.out.1, HPv.out.2.1]; decide
  have hrd := poRead_any P D S W 1 lo ks (updT noneT 2 true) F' d1 p w5 HP5.out HD5.out HPw.out (by rw [HPv.out.1]; decide) hpe (by rw [H1.out.2.2.2.1]; decide)
  have hcur : hashN (d1.cur p.addr) = p.sum := by rw [HPv.out.1, H1.out.2.2.2.2, HPv.out.2.2]
  have hop : openB ks d1 p = nodeB leafN := by
    unfold openB
    rw [HPv.out.1, HPv.out.2.1, H1.out.2.2.2.2, HCv.out, cryptB_twice _ _ _ (by rw [List.length_take, HKl.out]; rfl) (nonceB_length _ _)]
  have HPe := Lib.hid hpe
  clear hd1 hs1 HPP hpe HP4 HD4 HB4 HN4
  refine hrd.mono ?_
  clear hrd
  rintro e w6 hpost
  obtain ⟨arr, rfl, hnd, hb6⟩ := hpost.get H1.out.2.1 hcur
  rw [hop, (nodeB_get leaf_form leaf_size (by decide) (by simp [leafN])).2] at hnd
  rw [hop, (nodeB_get leaf_form leaf_size (by decide) (by simp [leafN])).1]
  obtain ⟨ak, ck, av, cv, ap, cp, rfl, -, -, -⟩ := hnd.get
  have HB6 := Lib.hid (HB5.out.trans (hb6.mono HB5.out.size))
  have HP6 := Lib.hid (HP5.out.below hb6)
  have HD6 := Lib.hid (HD5.out.below hb6)
  have HG6 := Lib.hid ((hb6.block _ (lt_of_block HG5.out)).trans HG5.out)
  have HN6 := Lib.hid (heap_alloc_new w6 (.cells zeroArr 25))
  have HOne := Lib.hid hnd.one
  clear hnd hb6 hcur hop HB5 HP5 HD5 HG5 HBw5 hpost
  go_wp2_with (first | (refine store_nd rfl (.tmp 7) (.tmp 39) rfl rfl rfl HN6.out rfl rfl HOne.out ?_; intro w7 hg hf hs; have HG7 := Lib.hid hg; have HBw7 := Lib.hid (show Below w6.heap.size w6 w7 from ((Below.refl _ w6).alloc (Nat.le_refl _) _).trans (hf.below (by simp) (fun j hj => by omega))); clear hg hf hs) | (refine load_ptr rfl (.tmp 5) rfl rfl (At.of_row (show w5.heap[w4.heap.size]? = some (.cells p.cells.toArray 43 (0, 0)) from HG5.out)) HPw.out ?_))
  have HB7 := Lib.hid (HB6.out.trans (HBw7.out.mono HB6.out.size))
  have HP7 := Lib.hid (HP6.out.below HBw7.out)
  have HD7 := Lib.hid (HD6.out.below HBw7.out)
  have HGP7 := Lib.hid ((HBw7.out.block _ (lt_of_block HG6.out)).trans HG6.out)
  clear HB6 HP6 HD6 HG6 HN6 HBw7
  have hrd := dvRead_ok D 2 lo F' d1 w7 HD7.out (by rw [H1.out.1]; decide) H1.out.2.1 (by rw [H1.out.2.2.2.1]; decide)
  refine hrd.mono ?_
  clear hrd
  rintro e w8 ⟨rfl, hr8, hb8⟩
  rw [H1.out.2.2.2.2] at hr8
  have HB8 := Lib.hid (HB7.out.trans (hb8.mono HB7.out.size))
  have HP8 := Lib.hid (HP7.out.below hb8)
  have HD8 := Lib.hid (HD7.out.below hb8)
  have HG8 := Lib.hid ((hb8.block _ (lt_of_block HGP7.out)).trans HGP7.out)
  have HN8 := Lib.hid ((hb8.block _ (lt_of_block HG7.out)).trans HG7.out)
  have HR8 := Lib.hid hr8
  have HLt := Lib.hid (show w4.heap.size < w7.heap.size ∧ w6.heap.size < w7.heap.size from ⟨lt_of_block HGP7.out, lt_of_block HG7.out⟩)
  have a0 : w8.cell? ⟨w4.heap.size, 0, none⟩ = some (.int .u32 2) := by
    rw [cell_of_row _ _ 0 _ _ _ HG8.out]; show some (Value.int .u32 (p.addr : Int)) = _; rw [HPv.out.1]; rfl
  have a1 : w8.cell? ⟨w4.heap.size, 1, none⟩ = some (.int .u64 1) := by
    rw [cell_of_row _ _ 1 _ _ _ HG8.out]; show some (Value.int .u64 (p.birth : Int)) = _; rw [HPv.out.2.1]; rfl
  have a2 : w8.cell? ⟨w6.heap.size, 0, none⟩ = some (.bool true) := (cell_of_row _ _ 0 _ _ _ HN8.out).trans rfl
  have hcl : c.length = 512 := by rw [HCv.out, cryptB_length _ _ _ (by rw [List.length_take, HKl.out]; rfl) (nonceB_length _ _)]; exact nodeB_length leaf_form (by simp [leafN]) leaf_size
  obtain ⟨x, hx⟩ : ∃ x, x = gB c 9 := ⟨_, rfl⟩
  have a3 : w8.cell? ⟨w7.heap.size, 9, none⟩ = some (.int .u8 (x.toNat : Int)) := by
    rw [cell_of_row _ _ 9 _ _ _ hr8, List.getElem?_toArray, List.getElem?_map, gB_get c 9 (by omega), ← hx]; rfl
  have f3 : w8.frozen? ⟨w7.heap.size, 9, none⟩ = false := by simp [World.frozen?, hr8]
  obtain ⟨y, hy⟩ : ∃ y, y = x ^^^ 1 := ⟨_, rfl⟩
  have HV := Lib.hid (show bits .xor .u8 (x.toNat : Int) 1 = (y.toNat : Int) by have := bx x 1; rw [← hy] at this; exact this)
  have HXY := Lib.hid (show y = gB c 9 ^^^ 1 by rw [hy, hx])
  have HCl := Lib.hid hcl
  have HGW := Lib.hid HB7.out.size
  have HF7 := Lib.hid (show ∀ k, F' k → k < w7.heap.size from fun k hk => by have := HLF.out k hk; have := HLt.out; omega)
  have HL7 := Lib.hid HP7.out.lt
  clear hr8 hb8 HB7 HP7 HD7 HGP7 HG7 hx hy hcl
  go_wp2_with fail
  rw [HV.out]
  obtain ⟨g8, hg8⟩ : ∃ g, g = w7.heap.size := ⟨_, rfl⟩
  have hr9 := heap_setCell_same w8 g8 9 _ _ (.int .u8 (y.toNat : Int)) (by rw [hg8]; exact HR8.out)
  obtain ⟨w9, hw9⟩ : ∃ w9, w9 = w8.setCell ⟨g8, 9, none⟩ (.int .u8 (y.toNat : Int)) := ⟨_, rfl⟩
  have hf9 : Fr (fun k => k = g8) w8 w9 := by rw [hw9]; exact (Fr.refl (fun k => k = g8) w8).set g8 9 rfl _
  rw [← hw9] at hr9
  obtain ⟨c2, hc2⟩ : ∃ c2, c2 = c.set 9 y := ⟨_, rfl⟩
  have hrow9 : w9.heap[g8]? = some (.cells (c2.map Bv).toArray 156 (0, 0)) := by
    rw [hr9, hc2, List.map_set, List.setIfInBounds_toArray]; rfl
  have hl2 : c2.length = 512 := by rw [hc2, List.length_set]; exact HCl.out
  have hs9 : Sl w9 1 (.slice (some ⟨g8, 0, none⟩) 512 512) 512 (c2.map Bv) := by
    refine ⟨by simp [hl2], some ⟨g8, 0, none⟩, 512, rfl, Nat.le_refl _, (fun h => by cases h), ?_⟩
    intro i u hi
    refine ⟨g8, 0, rfl, ?_⟩
    rw [Nat.zero_add]
    exact (cell_of_row w9 _ _ _ _ _ hrow9).trans (by simpa using hi)
  have hg8w : w.heap.size ≤ g8 := by rw [hg8]; exact HGW.out
  have hnf : ∀ k, F' k → k ≠ g8 := fun k hk e => by have := HF7.out k hk; omega
  have hnp : ∀ k, PlF P S W k → k ≠ g8 := fun k hk e => by have := HL7.out k hk; omega
  have HC2 := Lib.hid (show c2 = c.set 9 (gB c 9 ^^^ 1) by rw [hc2, HXY.out])
  have HP9 := Lib.hid (HP8.out.fr hf9 hnp)
  have HD9 := Lib.hid (HD8.out.fr hf9 hnf)
  have HB9 := Lib.hid (HB8.out.trans (hf9.below HB8.out.size (fun k e => by omega)))
  have HG9 := Lib.hid ((hf9.block _ (lt_of_block HG8.out) (by have := HLt.out; omega)).trans HG8.out)
  have hwr := dvWrite_ok D 2 lo F' d1 c2 (.slice (some ⟨g8, 0, none⟩) 512 512) w9 HD9.out (by rw [H1.out.1]; decide) hl2 hs9 (fun q m c' e hF => by
    injection e with e1 e2 e3
    injection e1 with e4
    rw [← e4] at hF
    exact hnf _ hF rfl) H1.out.2.1 (by rw [(step_up H1.out.2.2.1).1]; exact H1.out.2.1) (by rw [H1.out.2.2.2.1]; decide)
  rw [← hg8, ← hw9]
  clear hr9 hw9 hf9 hrow9 hs9 hg8 hc2 a0 a1 a2 a3 f3 HR8 HP8 HD8 HB8 HG8 HN8 HV HXY
  refine hwr.mono ?_
  clear hwr
  rintro e w10 ⟨F2, rfl, hd10, hf10, hF10⟩
  obtain ⟨d2, hd2⟩ : ∃ d, d = d1.step.wrote 2 c2 := ⟨_, rfl⟩
  rw [← hd2] at hd10
  have H2 := Lib.hid (show d2.size = 16 ∧ d2.down = false ∧ d2.waits.length = 2 ∧ d2.cur 2 = c2 by
    refine ⟨?_, ?_, ?_, ?_⟩
    · rw [hd2]; exact H1.out.1
    · rw [hd2]; exact (step_up H1.out.2.2.1).1.trans H1.out.2.1
    · rw [hd2]; show (d1.waits ++ [_]).length = 2; rw [List.length_append, H1.out.2.2.2.1]; rfl
    · rw [hd2, Dv.cur_wrote, if_pos rfl])
  have HD10 := Lib.hid hd10
  have HP10 := Lib.hid (show PlAt w10 P D S W d2.size ks (updT noneT 2 true) 1 by
    rw [H2.out.1, ← H1.out.1]; exact HP9.out.fr hf10 (fun k hk => HPF4.out k hk))
  have HB10 := Lib.hid (HB9.out.trans (hf10.below HB9.out.size (fun k hk => HF4.out k hk)))
  have HG10 := Lib.hid ((hf10.block _ (lt_of_block HG9.out) (fun h => by have := HLF.out _ h; omega)).trans HG9.out)
  clear hd10 hf10 hF10 hd2 HD9 HP9 HB9 HG9
  go_wp2_with (refine load_ptr rfl (.tmp 5) rfl rfl (At.of_row (show w10.heap[w4.heap.size]? = some (.cells p.cells.toArray 43 (0, 0)) from HG10.out)) HPw.out ?_)
  have hrd := poRead_any P D S W 1 lo ks (updT noneT 2 true) F2 d2 p w10 HP10.out HD10.out HPw.out (by rw [HPv.out.1]; decide) (by rw [H2.out.1, ← H1.out.1]; exact HPe.out) (by rw [H2.out.2.2.1]; decide)
  have hno : hashN (d2.cur p.addr) ≠ p.sum := by
    rw [HPv.out.1, H2.out.2.2.2, HPv.out.2.2, HC2.out, HCv.out, HKs.out, MK_enc, leaf_bytes]
    exact leaf_turned
  refine hrd.mono ?_
  clear hrd
  rintro e w11 hpost
  obtain ⟨rfl, hb11⟩ := hpost.sum H2.out.2.1 hno
  have HB11 := Lib.hid (HB10.out.trans (hb11.mono HB10.out.size))
  have HP11 := Lib.hid (HP10.out.below hb11)
  have HG11 := Lib.hid ((hb11.block _ (lt_of_block HG10.out)).trans HG10.out)
  have HN11 := Lib.hid (heap_alloc_new w11 (.cells zeroArr 25))
  clear hb11 hno HB10 HP10 HG10 HD10 hpost
  go_wp2_with (first | (refine store_nd rfl (.tmp 11) (.tmp 84) rfl rfl (arr := zeroArr) rfl HN11.out rfl rfl (zero_is w).one ?_; intro w12 hg hf hs; have HB12 := Lib.hid (show Below w11.heap.size w11 w12 from ((Below.refl _ w11).alloc (Nat.le_refl _) _).trans (hf.below (by simp) (fun j hj => by omega))); have HG12 := Lib.hid ((HB12.out.block _ (lt_of_block HG11.out)).trans HG11.out); clear hg hf hs) | (refine load_ptr rfl (.tmp 5) rfl rfl (At.of_row (show w12.heap[w4.heap.size]? = some (.cells p.cells.toArray 43 (0, 0)) from HG12.out)) HPw.out ?_))
  have HP12 := Lib.hid (HP11.out.below HB12.out)
  have HBB := Lib.hid (HB11.out.trans (HB12.out.mono HB11.out.size))
  clear HP11 HB11 HB12 HG11 HN11
  refine (poRead_nil p w12).mono ?_
  rintro e w13 ⟨rfl, hb13⟩
  have HP13 := Lib.hid (HP12.out.below hb13)
  have HB13 := Lib.hid (HBB.out.trans (hb13.mono HBB.out.size))
  have HN13 := Lib.hid (heap_alloc_new w13 (.cells zeroArr 25))
  clear hb13 HP12 HBB HG12
  go_wp2_with (refine store_nd rfl (.tmp 14) (.tmp 90) rfl rfl (arr := zeroArr) rfl HN13.out rfl rfl (zero_is w).one ?_; intro w14 hg hf hs; have HB14 := Lib.hid (show Below w13.heap.size w13 w14 from ((Below.refl _ w13).alloc (Nat.le_refl _) _).trans (hf.below (by simp) (fun j hj => by omega))); clear hg hf hs)
  have hlf := poLeft_any P D S W d2.size 1 ks (updT noneT 2 true) w14 (HP13.out.below HB14.out)
  rw [H2.out.1, show ((16 : Nat) : Int) - 2 - (cntT (updT noneT 2 true) 16 : Int) = 13 by decide] at hlf
  have HB15 := Lib.hid (HB13.out.trans (HB14.out.mono HB13.out.size))
  clear HP13 HB13 HB14 HN13
  refine hlf.mono ?_
  clear hlf
  rintro e w15 ⟨rfl, n15, rfl⟩
  go_wp2
  go_ret
  exact ⟨rfl, belowDrewN HB15.out _⟩

end Go.Proofs.YtkbnkdokcmpcgaaGreatDoor
