/- Plain laws: what is laid is told; what is told, and well, was laid. -/
import Derived.Test.YtdmgmpagnmmehaaDoorTellB
import Derived.Test.YtdmgmpagnmmehaaDoorNodeGet
namespace Go.Proofs.YtdmgmpagnmmehaaDoor
open Go.RowKit

theorem putB_succ (x n : Nat) : putB x (n + 1) = putB (x / 256) n ++ [UInt8.ofNat x] := by
  apply List.ext_getElem?
  intro j
  simp only [putB, List.getElem?_map, List.getElem?_append, List.length_map, List.length_range]
  by_cases h : j < n
  · simp only [h, if_true, List.getElem?_range, show j < n + 1 by omega, Option.map_some]
    congr 2
    rw [show n + 1 - 1 - j = (n - 1 - j) + 1 by omega, Nat.pow_succ, Nat.mul_comm, Nat.div_div_eq_div_mul]
  · by_cases h2 : j = n
    · subst h2; simp
    · simp [h, show ¬ j < n + 1 by omega, show j - n ≠ 0 by omega]
theorem putB_getB : ∀ (n : Nat) (l : List UInt8), l.length = n → putB (getB l) n = l
  | 0, l, h => by
    have : l = [] := List.eq_nil_of_length_eq_zero h
    subst this; rfl
  | n + 1, l, h => by
    have hne : l ≠ [] := by intro e; subst e; simp at h
    have e := List.dropLast_concat_getLast hne
    have hl : l.dropLast.length = n := by rw [List.length_dropLast, h]; rfl
    have ih := putB_getB n l.dropLast hl
    have hg : getB l = getB l.dropLast * 256 + (l.getLast hne).toNat := by
      conv => lhs; rw [← e]
      rw [getB_append]
      simp [getB]
    have hc := (l.getLast hne).toNat_lt
    rw [putB_succ, hg, show (getB l.dropLast * 256 + (l.getLast hne).toNat) / 256 = getB l.dropLast by omega, ih]
    conv => rhs; rw [← e]
    congr 2
    apply UInt8.toNat_inj.1
    rw [UInt8.toNat_ofNat']
    have e3 : (2 : Nat) ^ 8 = 256 := rfl
    rw [e3]; omega

theorem strOf_strB (s : ByteArray) (r : List UInt8) (h : s.size ≤ 255) : strOf (strB s ++ r) = (s, 0, r) := by
  have hs : s.data.toList.length = s.size := by rw [Array.length_toList]; rfl
  unfold strB strOf
  simp only [List.cons_append]
  have hc : (UInt8.ofNat s.size).toNat = s.size := by rw [UInt8.toNat_ofNat']; exact Nat.mod_eq_of_lt (by omega)
  rw [if_neg (by rw [hc, List.length_append, hs]; omega), hc]
  rw [List.take_append_of_le_length (by omega), List.drop_append_of_le_length (by omega), List.take_of_length_le (by omega), List.drop_of_length_le (by omega)]
  simp
theorem strOf_ok (ys : List UInt8) (h : ((strOf ys).2.1 == 0) = true) : ys = strB (strOf ys).1 ++ (strOf ys).2.2 := by
  unfold strOf at h ⊢
  split
  · simp at h
  · rename_i c xs
    split
    · rename_i hc
      simp [hc] at h
    · rename_i hc
      have hl : (xs.take c.toNat).length = c.toNat := by rw [List.length_take]; omega
      simp only [strB, ByteArray.size, List.size_toArray, hl, List.cons_append, List.cons.injEq]
      refine ⟨?_, by simp⟩
      apply UInt8.toNat_inj.1
      rw [UInt8.toNat_ofNat', Nat.mod_eq_of_lt c.toNat_lt]
theorem ptrOf_ptrB (p : Pt) (r : List UInt8) (h : p.Wf) : ptrOf (ptrB p ++ r) = (p, 0, r) := by
  have h1 := ptrB_length p h
  have e4 : (putB p.addr 4).length = 4 := putB_length _ _
  have e8 : (putB p.birth 8).length = 8 := putB_length _ _
  have e32 := h.sum
  have ha := h.addr
  have hb := h.birth
  unfold ptrOf
  rw [if_neg (by rw [List.length_append, h1]; omega)]
  have t1 : (ptrB p ++ r).take 4 = putB p.addr 4 := by
    unfold ptrB; rw [List.append_assoc, List.append_assoc, List.take_append_of_le_length (by omega), List.take_of_length_le (by omega)]
  have t2 : (ptrB p ++ r).drop 4 = putB p.birth 8 ++ (p.sum ++ r) := by
    unfold ptrB; rw [List.append_assoc, List.append_assoc, List.drop_append_of_le_length (by omega), List.drop_of_length_le (by omega)]; rfl
  have t3 : (ptrB p ++ r).drop 12 = p.sum ++ r := by
    rw [show 12 = 4 + 8 from rfl, ← List.drop_drop, t2, List.drop_append_of_le_length (by omega), List.drop_of_length_le (by omega)]; rfl
  have t4 : (ptrB p ++ r).drop 44 = r := by
    rw [show 44 = 12 + 32 from rfl, ← List.drop_drop, t3, List.drop_append_of_le_length (by omega), List.drop_of_length_le (by omega)]; rfl
  rw [t1, t2, t3, t4, List.take_append_of_le_length (by omega), List.take_of_length_le (by omega), List.take_append_of_le_length (by omega), List.take_of_length_le (by omega), getB_putB, getB_putB, Nat.mod_eq_of_lt (by simpa using ha), Nat.mod_eq_of_lt (by simpa using hb)]
theorem ptrOf_ok (ys : List UInt8) (h : ((ptrOf ys).2.1 == 0) = true) : ys = ptrB (ptrOf ys).1 ++ (ptrOf ys).2.2 := by
  unfold ptrOf at h ⊢
  split
  · rename_i hc
    simp [hc] at h
  · rename_i hc
    have l4 : (ys.take 4).length = 4 := by rw [List.length_take]; omega
    have l8 : ((ys.drop 4).take 8).length = 8 := by rw [List.length_take, List.length_drop]; omega
    simp only [ptrB]
    rw [putB_getB 4 _ l4, putB_getB 8 _ l8]
    have e1 : (ys.drop 4) = (ys.drop 4).take 8 ++ ys.drop 12 := by
      conv => lhs; rw [← List.take_append_drop 8 (ys.drop 4)]
      rw [List.drop_drop]
    have e2 : (ys.drop 12) = (ys.drop 12).take 32 ++ ys.drop 44 := by
      conv => lhs; rw [← List.take_append_drop 32 (ys.drop 12)]
      rw [List.drop_drop]
    conv => lhs; rw [← List.take_append_drop 4 ys, e1, e2]
    simp only [List.append_assoc]

theorem kvTo_more (leaf : Bool) (ks vs ks' vs' : List ByteArray) (ps : List Pt) (k : Nat) (hk : k ≤ ks.length) (hv : leaf = true → k ≤ vs.length) : kvTo ⟨leaf, ks ++ ks', vs ++ vs', ps⟩ k = kvTo ⟨leaf, ks, vs, ps⟩ k := by
  unfold kvTo
  apply congrArg List.flatten
  apply List.map_congr_left
  intro i hi
  have hi' : i < k := by simpa using hi
  unfold kvAt
  simp only [List.getD_eq_getElem?_getD]
  rw [List.getElem?_append_left (by omega)]
  cases leaf with
  | false => rfl
  | true => rw [List.getElem?_append_left (by have := hv rfl; omega)]

/-- What was told well was laid. -/
theorem tellKV_laid (leaf : Bool) (zs : List UInt8) (ok0 : Bool) : ∀ k, (tellKV leaf k ⟨[], [], zs, ok0⟩).ok = true → ok0 = true ∧ zs = kvTo ⟨leaf, (tellKV leaf k ⟨[], [], zs, ok0⟩).keys, (tellKV leaf k ⟨[], [], zs, ok0⟩).vals, []⟩ k ++ (tellKV leaf k ⟨[], [], zs, ok0⟩).rest
  | 0, h => ⟨h, rfl⟩
  | k + 1, h => by
    have hk := tellKV_keys leaf ⟨[], [], zs, ok0⟩ k
    have hv : leaf = true → (tellKV leaf k ⟨[], [], zs, ok0⟩).vals.length = k := fun e => by subst e; rw [tellKV_vals]; simp
    have hvn : leaf = false → (tellKV leaf k ⟨[], [], zs, ok0⟩).vals = [] := fun e => by subst e; rw [tellKV_novals]
    have ih := tellKV_laid leaf zs ok0 k
    unfold tellKV at h ⊢
    obtain ⟨S, hS⟩ : ∃ S, S = tellKV leaf k ⟨[], [], zs, ok0⟩ := ⟨_, rfl⟩
    rw [← hS] at h hk hv hvn ih ⊢
    simp only [List.length_nil, Nat.zero_add] at hk
    cases leaf with
    | true =>
      unfold stepKV at h ⊢
      simp only [if_true, Bool.and_eq_true] at h ⊢
      obtain ⟨⟨h1, h2⟩, h3⟩ := h
      obtain ⟨g1, g2⟩ := ih h1
      refine ⟨g1, ?_⟩
      have e1 := strOf_ok S.rest h2
      have e2 := strOf_ok _ h3
      rw [kvTo_succ, kvTo_more true S.keys S.vals _ _ [] k (by omega) (fun _ => by have := hv rfl; omega)]
      have ekv : kvAt ⟨true, S.keys ++ [(strOf S.rest).1], S.vals ++ [(strOf (strOf S.rest).2.2).1], []⟩ k = strB (strOf S.rest).1 ++ strB (strOf (strOf S.rest).2.2).1 := by
        unfold kvAt
        simp only [List.getD_eq_getElem?_getD, if_true]
        rw [List.getElem?_append_right (by omega), List.getElem?_append_right (by have := hv rfl; omega), hk, hv rfl]
        simp
      rw [ekv, List.append_assoc, List.append_assoc, ← e2, ← e1]
      exact g2
    | false =>
      unfold stepKV at h ⊢
      simp only [Bool.false_eq_true, if_false, Bool.and_eq_true] at h ⊢
      obtain ⟨h1, h2⟩ := h
      obtain ⟨g1, g2⟩ := ih h1
      refine ⟨g1, ?_⟩
      have e1 := strOf_ok S.rest h2
      have em := kvTo_more false S.keys S.vals [(strOf S.rest).1] [] [] k (by omega) (fun e => by cases e)
      rw [List.append_nil] at em
      rw [kvTo_succ, em]
      have ekv : kvAt ⟨false, S.keys ++ [(strOf S.rest).1], S.vals, []⟩ k = strB (strOf S.rest).1 := by
        unfold kvAt
        simp only [List.getD_eq_getElem?_getD, Bool.false_eq_true, if_false, List.append_nil]
        rw [List.getElem?_append_right (by omega), hk]
        simp
      rw [ekv, List.append_assoc, ← e1]
      exact g2
theorem tellP_laid (zs : List UInt8) (ok0 : Bool) : ∀ k, (tellP k ⟨[], zs, ok0⟩).ok = true → ok0 = true ∧ zs = (tellP k ⟨[], zs, ok0⟩).kids.flatMap ptrB ++ (tellP k ⟨[], zs, ok0⟩).rest
  | 0, h => ⟨h, rfl⟩
  | k + 1, h => by
    have ih := tellP_laid zs ok0 k
    unfold tellP at h ⊢
    obtain ⟨S, hS⟩ : ∃ S, S = tellP k ⟨[], zs, ok0⟩ := ⟨_, rfl⟩
    rw [← hS] at h ih ⊢
    unfold stepP at h ⊢
    simp only [Bool.and_eq_true] at h ⊢
    obtain ⟨h1, h2⟩ := h
    obtain ⟨g1, g2⟩ := ih h1
    refine ⟨g1, ?_⟩
    rw [List.flatMap_append, List.append_assoc]
    conv => lhs; rw [g2]
    congr 1
    simpa using ptrOf_ok S.rest h2

/-- What is laid is told. -/
def kvFrom (n : Nd) (k : Nat) : List UInt8 := ((List.range n.keys.length).drop k).flatMap (kvAt n)
theorem kvFrom_zero (n : Nd) : kvFrom n 0 = kvTo n n.keys.length := rfl
theorem kvFrom_step (n : Nd) (k : Nat) (h : k < n.keys.length) : kvFrom n k = kvAt n k ++ kvFrom n (k + 1) := by
  unfold kvFrom
  rw [List.drop_eq_getElem_cons (by simpa using h)]
  simp
theorem kvFrom_end (n : Nd) : kvFrom n n.keys.length = [] := by unfold kvFrom; rw [List.drop_of_length_le (by simp)]; rfl
theorem tellKV_told (n : Nd) (tail : List UInt8) (hk : ∀ s ∈ n.keys, s.size ≤ 255) (hv : ∀ s ∈ n.vals, s.size ≤ 255) (hl : n.leaf = true → n.vals.length = n.keys.length) :
    ∀ k, k ≤ n.keys.length → tellKV n.leaf k ⟨[], [], kvFrom n 0 ++ tail, true⟩ = ⟨n.keys.take k, if n.leaf then n.vals.take k else [], kvFrom n k ++ tail, true⟩
  | 0, _ => by cases n.leaf <;> rfl
  | k + 1, h => by
    have ih := tellKV_told n tail hk hv hl k (by omega)
    unfold tellKV
    rw [ih, kvFrom_step n k (by omega)]
    have s1 := hk _ (List.getElem_mem (show k < n.keys.length by omega))
    cases hlf : n.leaf with
    | true =>
      have hvl := hl hlf
      have s2 := hv _ (List.getElem_mem (show k < n.vals.length by omega))
      have ekv : kvAt n k = strB (n.keys[k]'(by omega)) ++ strB (n.vals[k]'(by omega)) := by
        unfold kvAt
        rw [hlf, if_pos rfl, List.getD_eq_getElem?_getD, List.getD_eq_getElem?_getD, List.getElem?_eq_getElem (by omega), List.getElem?_eq_getElem (by omega)]
        rfl
      unfold stepKV
      simp only [if_true]
      rw [ekv, List.append_assoc, List.append_assoc, strOf_strB _ _ s1]
      simp only
      rw [strOf_strB _ _ s2]
      simp only [List.take_succ_eq_append_getElem (show k < n.keys.length by omega), List.take_succ_eq_append_getElem (show k < n.vals.length by omega)]
      rfl
    | false =>
      have ekv : kvAt n k = strB (n.keys[k]'(by omega)) := by
        unfold kvAt
        rw [hlf, List.getD_eq_getElem?_getD, List.getElem?_eq_getElem (by omega)]
        simp
      unfold stepKV
      simp only [Bool.false_eq_true, if_false]
      rw [ekv, List.append_assoc, strOf_strB _ _ s1]
      simp only [List.take_succ_eq_append_getElem (show k < n.keys.length by omega)]
      rfl
theorem tellP_told (ps : List Pt) (tail : List UInt8) (hw : ∀ p ∈ ps, p.Wf) : ∀ k, k ≤ ps.length → tellP k ⟨[], ps.flatMap ptrB ++ tail, true⟩ = ⟨ps.take k, (ps.drop k).flatMap ptrB ++ tail, true⟩
  | 0, _ => rfl
  | k + 1, h => by
    have ih := tellP_told ps tail hw k (by omega)
    have h1 := hw _ (List.getElem_mem (show k < ps.length by omega))
    unfold tellP
    rw [ih, List.drop_eq_getElem_cons (show k < ps.length by omega)]
    unfold stepP
    simp only [List.flatMap_cons, List.append_assoc]
    rw [ptrOf_ptrB _ _ h1]
    simp only [List.take_succ_eq_append_getElem (show k < ps.length by omega)]
    rfl

end Go.Proofs.YtdmgmpagnmmehaaDoor

namespace Go.Proofs.YtdmgmpagnmmehaaDoor
open Go.RowKit

theorem numOf_one (c : UInt8) (ys : List UInt8) : numOf 1 (c :: ys) = (c.toNat, 0, ys) := by
  unfold numOf
  rw [if_neg (by omega), if_neg (by simp; omega)]
  simp [getB]
theorem tellP_wf (s : Tp) (h : ∀ p ∈ s.kids, p.Wf) : ∀ k, ∀ p ∈ (tellP k s).kids, p.Wf
  | 0 => h
  | k + 1 => by
    have ih := tellP_wf s h k
    unfold tellP stepP
    intro p hp
    rcases List.mem_append.1 hp with g | g
    · exact ih p g
    · rw [List.mem_singleton] at g; subst g; exact ptrOf_wf _
theorem toldN_wf (xs : List UInt8) : ∀ p ∈ (toldN xs).kids, p.Wf := by
  unfold toldN tell2
  simp only
  split
  · simp
  · exact tellP_wf _ (by simp) _

theorem putB_one (c : UInt8) : putB c.toNat 1 = [c] := by
  have := putB_getB 1 [c] rfl
  simpa [getB] using this

/-- What was told well was laid, whole. -/
theorem told_laid (c0 c1 : UInt8) (zs : List UInt8) (h : (tell2 (c0 :: c1 :: zs)).ok = true) : c0 :: c1 :: zs = bytesN (toldN (c0 :: c1 :: zs)) ++ (tell2 (c0 :: c1 :: zs)).rest := by
  have hk : kind (c0 :: c1 :: zs) = c0.toNat := by unfold kind; rw [numOf_one]
  have hc : count (c0 :: c1 :: zs) = c1.toNat := by unfold count; rw [numOf_one, numOf_one]
  have ht1 : tell1 (c0 :: c1 :: zs) = tellKV (c0.toNat == 1) c1.toNat ⟨[], [], zs, c0.toNat == 1 || c0.toNat == 2⟩ := by unfold tell1; rw [hk, hc, numOf_one, numOf_one]
  obtain ⟨S, hS⟩ : ∃ S, S = tell1 (c0 :: c1 :: zs) := ⟨_, rfl⟩
  have hlaid := tellKV_laid (c0.toNat == 1) zs (c0.toNat == 1 || c0.toNat == 2) c1.toNat
  have hkl := tellKV_keys (c0.toNat == 1) ⟨[], [], zs, c0.toNat == 1 || c0.toNat == 2⟩ c1.toNat
  rw [← ht1, ← hS] at hlaid hkl
  simp only [List.length_nil, Nat.zero_add] at hkl
  cases hL : (c0.toNat == 1) with
  | true =>
    have e2 : tell2 (c0 :: c1 :: zs) = ⟨[], S.rest, S.ok⟩ := by unfold tell2; rw [hk, hL, if_pos rfl, hS]
    have e3 : toldN (c0 :: c1 :: zs) = ⟨true, S.keys, S.vals, []⟩ := by unfold toldN; rw [hk, hL, e2, hS]
    rw [e2] at h ⊢
    rw [e3]
    rw [hL] at hlaid
    obtain ⟨-, g⟩ := hlaid h
    have h1 : c0.toNat = 1 := by simpa using hL
    unfold bytesN headB kidsTo
    simp only [if_true, hkl, List.length_nil, List.take_nil, List.flatMap_nil, List.append_nil]
    rw [show putB 1 1 = [c0] by have := putB_one c0; rwa [h1] at this, putB_one]
    simp only [List.cons_append, List.nil_append, List.append_assoc]
    rw [← g]
  | false =>
    have e2 : tell2 (c0 :: c1 :: zs) = tellP (c1.toNat + 1) ⟨[], S.rest, S.ok⟩ := by unfold tell2; rw [hk, hL, hc, hS]; rfl
    have e3 : toldN (c0 :: c1 :: zs) = ⟨false, S.keys, S.vals, (tell2 (c0 :: c1 :: zs)).kids⟩ := by unfold toldN; rw [hk, hL, hS]
    have hp := tellP_laid S.rest S.ok (c1.toNat + 1)
    rw [← e2] at hp
    obtain ⟨g1, g2⟩ := hp h
    rw [hL] at hlaid
    obtain ⟨g3, g4⟩ := hlaid g1
    have h2 : c0.toNat = 2 := by simpa using g3
    rw [e3]
    unfold bytesN headB kidsTo
    simp only [Bool.false_eq_true, if_false, hkl]
    rw [show putB 2 1 = [c0] by have := putB_one c0; rwa [h2] at this, putB_one, List.take_length]
    have ekv : kvTo ⟨false, S.keys, S.vals, (tell2 (c0 :: c1 :: zs)).kids⟩ c1.toNat = kvTo ⟨false, S.keys, S.vals, []⟩ c1.toNat := rfl
    rw [ekv]
    simp only [List.cons_append, List.nil_append, List.append_assoc]
    rw [← g2, ← g4]

theorem formB_leaf' {n : Nd} (h : formB n = true) (hl : n.leaf = true) : n.kids = [] := by
  unfold formB at h
  rw [hl] at h
  simp only [if_true, Bool.and_eq_true, decide_eq_true_iff] at h
  exact List.eq_nil_of_length_eq_zero h.2.1.2
theorem formB_inner' {n : Nd} (h : formB n = true) (hl : n.leaf = false) : n.kids.length = n.keys.length + 1 ∧ n.vals = [] := by
  unfold formB at h
  rw [hl] at h
  simp only [Bool.false_eq_true, if_false, Bool.and_eq_true, decide_eq_true_iff] at h
  exact ⟨h.2.1.2, List.eq_nil_of_length_eq_zero h.2.1.1.1⟩

/-- What is laid is told, whole. -/
theorem told_of_bytes (n : Nd) (tail : List UInt8) (hf : formB n = true) (hk : n.keys.length ≤ 255) (hw : ∀ p ∈ n.kids, p.Wf) :
    toldN (bytesN n ++ tail) = n ∧ (tell2 (bytesN n ++ tail)).ok = true ∧ (tell2 (bytesN n ++ tail)).rest = tail := by
  have hok := formB_ok hf
  have hks : ∀ s ∈ n.keys, s.size ≤ 255 := fun s hs => by have := (hok.keyS s hs).2; omega
  have hvs : ∀ s ∈ n.vals, s.size ≤ 255 := fun s hs => by have := hok.valS s hs; omega
  have ebytes : bytesN n ++ tail = UInt8.ofNat (if n.leaf then 1 else 2) :: UInt8.ofNat n.keys.length :: (kvFrom n 0 ++ (n.kids.flatMap ptrB ++ tail)) := by
    unfold bytesN headB kidsTo
    rw [List.take_length, kvFrom_zero]
    simp [putB, List.range_succ]
  have hb : (UInt8.ofNat n.keys.length).toNat = n.keys.length := by rw [UInt8.toNat_ofNat']; exact Nat.mod_eq_of_lt (by omega)
  have hkind : kind (bytesN n ++ tail) = if n.leaf then 1 else 2 := by
    rw [ebytes]; unfold kind; rw [numOf_one]
    cases n.leaf <;> rfl
  have hcount : count (bytesN n ++ tail) = n.keys.length := by
    rw [ebytes]; unfold count; rw [numOf_one, numOf_one]; exact hb
  have hleaf : (kind (bytesN n ++ tail) == 1) = n.leaf := by rw [hkind]; cases n.leaf <;> rfl
  have hok0 : (kind (bytesN n ++ tail) == 1 || kind (bytesN n ++ tail) == 2) = true := by rw [hkind]; cases n.leaf <;> rfl
  have ht1 : tell1 (bytesN n ++ tail) = ⟨n.keys, if n.leaf then n.vals else [], n.kids.flatMap ptrB ++ tail, true⟩ := by
    have h0 : (numOf 1 (numOf 1 (bytesN n ++ tail)).2.2).2.2 = kvFrom n 0 ++ (n.kids.flatMap ptrB ++ tail) := by rw [ebytes, numOf_one, numOf_one]
    have h1 := tellKV_told n (n.kids.flatMap ptrB ++ tail) hks hvs hok.vals n.keys.length (Nat.le_refl _)
    unfold tell1
    rw [hok0, hleaf, hcount, h0, h1, kvFrom_end, List.take_length, List.nil_append]
    cases hl : n.leaf with
    | true => rw [if_pos rfl, if_pos rfl, ← hok.vals hl, List.take_length]
    | false => rfl
  cases hl : n.leaf with
  | true =>
    have hkid := formB_leaf' hf hl
    rw [hl] at ht1 hleaf
    have e2 : tell2 (bytesN n ++ tail) = ⟨[], tail, true⟩ := by
      unfold tell2; rw [hleaf, if_pos rfl, ht1, hkid]; rfl
    refine ⟨?_, by rw [e2], by rw [e2]⟩
    unfold toldN
    rw [hleaf, e2, ht1]
    obtain ⟨lf, ks, vs, ps⟩ := n
    simp only at hl hkid ⊢
    rw [hl, hkid]; rfl
  | false =>
    have hkid := formB_inner' hf hl
    rw [hl] at ht1 hleaf
    have e2 : tell2 (bytesN n ++ tail) = ⟨n.kids, tail, true⟩ := by
      have h1 := tellP_told n.kids tail hw n.kids.length (Nat.le_refl _)
      unfold tell2
      rw [hleaf, hcount, ht1, ← hkid.1]
      simp only [Bool.false_eq_true, if_false]
      rw [h1, List.take_length, List.drop_length]; rfl
    refine ⟨?_, by rw [e2], by rw [e2]⟩
    unfold toldN
    rw [hleaf, e2, ht1]
    have hv := hkid.2
    obtain ⟨lf, ks, vs, ps⟩ := n
    simp only at hl hv ⊢
    rw [hl, hv]; rfl

theorem endE_iff (ys : List UInt8) : (endE ys == 0) = true ↔ ys = List.replicate ys.length 0 := by
  constructor
  · intro h
    have h0 : ∀ y ∈ ys, y = 0 := by
      unfold endE at h
      split at h
      · rename_i ha; simpa using ha
      · simp at h
    exact List.eq_replicate_iff.2 ⟨rfl, h0⟩
  · intro h
    rw [endE_zero (fun y hy => by rw [h] at hy; exact (List.mem_replicate.1 hy).2)]; rfl

theorem checkE_split {n : Nd} : checkE n = 0 ↔ formB n = true ∧ sizeN n ≤ 512 := by
  unfold checkE
  cases formB n with
  | false => simp
  | true =>
    simp only [if_true, true_and]
    split
    · rename_i h; simp; omega
    · rename_i h; simp; omega

/-- Bytes are a node's just if they are its bytes. -/
theorem getOk_iff (xs : List UInt8) (hl : xs.length = 512) : getOk xs = true ↔ (checkE (toldN xs) = 0 ∧ bytesN (toldN xs) ++ List.replicate (512 - sizeN (toldN xs)) 0 = xs) := by
  constructor
  · intro h
    unfold getOk at h
    simp only [Bool.and_eq_true] at h
    obtain ⟨⟨h1, h2⟩, h3⟩ := h
    have hc : checkE (toldN xs) = 0 := by simpa using h3
    obtain ⟨c0, c1, zs, rfl⟩ : ∃ c0 c1 zs, xs = c0 :: c1 :: zs := by
      match xs, hl with
      | c0 :: c1 :: zs, _ => exact ⟨c0, c1, zs, rfl⟩
    have hlaid := told_laid c0 c1 zs h1
    have hlen := bytesN_length (checkE_split.1 hc).1 (toldN_wf (c0 :: c1 :: zs))
    have hr := (endE_iff _).1 h2
    refine ⟨hc, ?_⟩
    have e : (tell2 (c0 :: c1 :: zs)).rest.length = 512 - sizeN (toldN (c0 :: c1 :: zs)) := by
      have := congrArg List.length hlaid
      rw [List.length_append, hlen, hl] at this
      omega
    rw [← e, ← hr]
    exact hlaid.symm
  · rintro ⟨hc, hx⟩
    obtain ⟨hf, hs⟩ := checkE_split.1 hc
    have hk : (toldN xs).keys.length ≤ 255 := by
      have h1 := tell1_len xs
      have h2 := count_le xs
      unfold toldN; simp only; omega
    have h := told_of_bytes (toldN xs) (List.replicate (512 - sizeN (toldN xs)) 0) hf hk (toldN_wf xs)
    rw [hx] at h
    unfold getOk
    rw [h.2.1, h.2.2, (endE_iff _).2 (by simp), hc]
    rfl

end Go.Proofs.YtdmgmpagnmmehaaDoor
