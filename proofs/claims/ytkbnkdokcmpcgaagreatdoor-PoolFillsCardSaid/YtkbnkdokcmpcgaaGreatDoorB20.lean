/- Walk: node.Get. Walk: node.Get, of what is no leaf; of any bytes. Walks: pool.Read. -/
import Derived.Test.YtkbnkdokcmpcgaaGreatDoorB18
import Derived.Test.YtkbnkdokcmpcgaaGreatDoorB19
namespace Go.Proofs.YtkbnkdokcmpcgaaGreatDoor
open Go.RowKit

theorem strOf_size (xs : List UInt8) : (strOf xs).1.size ≤ 255 := by
  unfold strOf
  split
  · decide
  · split
    · show (⟨#[]⟩ : ByteArray).size ≤ 255
      decide
    · rename_i c xs h
      have := c.toNat_lt
      simp only [ByteArray.size, List.size_toArray, List.length_take]
      omega
theorem tellKV_sizes (leaf : Bool) (s : Tk) (h1 : ∀ x ∈ s.keys, x.size ≤ 255) (h2 : ∀ x ∈ s.vals, x.size ≤ 255) : ∀ k, (∀ x ∈ (tellKV leaf k s).keys, x.size ≤ 255) ∧ (∀ x ∈ (tellKV leaf k s).vals, x.size ≤ 255)
  | 0 => ⟨h1, h2⟩
  | k + 1 => by
    obtain ⟨g1, g2⟩ := tellKV_sizes leaf s h1 h2 k
    unfold tellKV stepKV
    cases leaf
    · simp only [Bool.false_eq_true, if_false]
      refine ⟨fun x hx => ?_, g2⟩
      rcases List.mem_append.1 hx with h | h
      · exact g1 x h
      · rw [List.mem_singleton] at h; subst h; exact strOf_size _
    · simp only [if_true]
      refine ⟨fun x hx => ?_, fun x hx => ?_⟩
      · rcases List.mem_append.1 hx with h | h
        · exact g1 x h
        · rw [List.mem_singleton] at h; subst h; exact strOf_size _
      · rcases List.mem_append.1 hx with h | h
        · exact g2 x h
        · rw [List.mem_singleton] at h; subst h; exact strOf_size _
theorem tell1_len (xs : List UInt8) : (tell1 xs).keys.length = count xs := by
  unfold tell1; rw [tellKV_keys]; simp
theorem tell1_vlen (xs : List UInt8) : (tell1 xs).vals.length ≤ 255 := by
  have := count_le xs
  unfold tell1
  cases hk : (kind xs == 1) with
  | true => rw [tellKV_vals]; simp; omega
  | false => rw [tellKV_novals]; simp
theorem tell2_klen (xs : List UInt8) : (tell2 xs).kids.length ≤ 256 := by
  have := count_le xs
  unfold tell2
  split
  · simp
  · rw [tellP_kids]; simp; omega
theorem toldN_fits (xs : List UInt8) : (toldN xs).Fits := by
  have h1 := tell1_len xs
  have h2 := tell1_vlen xs
  have h3 := tell2_klen xs
  have h4 := count_le xs
  have h5 := tellKV_sizes (kind xs == 1) ⟨[], [], (numOf 1 (numOf 1 xs).2.2).2.2, kind xs == 1 || kind xs == 2⟩ (by simp) (by simp) (count xs)
  refine ⟨by unfold toldN; simp only; omega, by unfold toldN; simp only; omega, by unfold toldN; simp only; omega, fun s hs => ?_, fun s hs => ?_⟩
  · have := h5.1 s hs; omega
  · have := h5.2 s hs; omega

theorem read_own' (v : Value) (xs : List UInt8) (n : Nat) (w : World) (h : Sl w 1 v n (xs.map Bv)) (hr : n ≤ 140737488351232) :
    Calls Tryz.prog 117 #[v] w fun e w' => ∃ b ob, w.heap.size ≤ b ∧ (∀ k, ob = some k → w.heap.size ≤ k ∧ k ≠ b) ∧ e = .returned (.pointer (some ⟨b, 0, none⟩)) ∧ RdO w' b ob xs ∧ Below w.heap.size w w' := by
  have hn : xs.length = n := by simpa using h.1
  have HH := Lib.hid h
  have HN := Lib.hid hn
  clear h hn
  go_enter Tryz.func117, Tryz.ntmps117
  go_wp2_with fail
  refine (clone_any v xs n w HH.out hr).mono ?_
  rintro e w1 ⟨aa, cc, rfl, hown, hb⟩
  have HO := Lib.hid hown
  have HB := Lib.hid hb
  have hs := hb.size
  clear hown hb
  go_wp2
  go_ret
  have hn := HN.out
  subst hn
  refine ⟨w1.heap.size, _, hs, fun k hk => ⟨(HO.out.lt k hk).1, by have := (HO.out.lt k hk).2; omega⟩, rfl, ⟨_, heap_alloc_new _ _, ?_, rfl⟩, HB.out.alloc hs _⟩
  exact (Sl.own HO.out).below ((Below.refl _ _).alloc (Nat.le_refl _) _)

theorem endE_cases (xs : List UInt8) : endE xs = 0 ∨ endE xs = 4 := by
  unfold endE
  split
  · exact Or.inl rfl
  · exact Or.inr rfl
def getE (xs : List UInt8) : Int := if xs.length = 512 then (if getOk xs then 0 else 4) else 2
def getN (xs : List UInt8) : Nd := if xs.length = 512 then (if getOk xs then toldN xs else Nd.zero) else Nd.zero
theorem get_ok {xs : List UInt8} (hl : xs.length = 512) (h : getOk xs = true) : getE xs = 0 ∧ getN xs = toldN xs := by
  unfold getE getN; rw [if_pos hl, if_pos hl, if_pos h, if_pos h]; exact ⟨rfl, rfl⟩
theorem get_no {xs : List UInt8} (hl : xs.length = 512) (h : getOk xs = false) : getE xs = 4 ∧ getN xs = Nd.zero := by
  unfold getE getN; rw [if_pos hl, if_pos hl, if_neg (by rw [h]; simp), if_neg (by rw [h]; simp)]; exact ⟨rfl, rfl⟩
theorem get_len {xs : List UInt8} (hl : ¬ xs.length = 512) : getE xs = 2 ∧ getN xs = Nd.zero := by
  unfold getE getN; rw [if_neg hl, if_neg hl]; exact ⟨rfl, rfl⟩
def GetPost (xs : List UInt8) (w : World) (e : Ending) (w' : World) : Prop := ∃ arr, e = .returned (.tuple #[.agg arr, .int .i64 (getE xs)]) ∧ NdIs w' arr (getN xs) ∧ Below w.heap.size w w'

set_option maxRecDepth 100000 in
set_option maxHeartbeats 2000000 in
theorem nodeGet_short (v : Value) (xs : List UInt8) (w : World) (h : Sl w 1 v xs.length (xs.map Bv)) (hl : ¬ xs.length = 512) :
    Calls Tryz.prog 70 #[v] w (GetPost xs w) := by
  obtain ⟨a, cap, rfl, _⟩ := h.len
  have HQ := Lib.hid (get_len hl)
  have HG := Lib.hid (heap_alloc_new w (.cells zeroArr 25))
  have HB := Lib.hid (show Below w.heap.size w (w.alloc (.cells zeroArr 25)) from (Below.refl _ w).alloc (Nat.le_refl _) _)
  have e1 : ((xs.length : Int) == 512) = false := by have := beq_nat xs.length 512; rw [decide_eq_false hl] at this; exact this
  have e2 : ((xs.length : Int) != 512) = true := by unfold bne; rw [e1]; rfl
  clear h hl
  go_enter Tryz.func70, Tryz.ntmps70
  go_wp2_with (refine store_nd rfl (.tmp 2) (.tmp 20) rfl rfl (arr := zeroArr) rfl HG.out rfl rfl (zero_is w).one ?_)
  intro w2 hg2 hf2 hs2
  have HG2 := Lib.hid hg2
  have HB2 := Lib.hid (HB.out.trans (hf2.below HB.out.size (fun k hk => by omega)))
  clear hg2 hf2 hs2
  go_wp2
  refine bodyPost_ret (ret_nd rfl rfl HG2.out rfl) rfl ?_
  exact ⟨zeroArr, by rw [HQ.out.1]; rfl, by rw [HQ.out.2]; exact zero_is _, HB2.out⟩

theorem P1_size {p : Pt} (h : p.Wf) : ∀ v ∈ [p.arr], v.size = 34 := by
  intro v hv
  rw [List.mem_singleton] at hv
  subst hv
  exact h.size

set_option maxRecDepth 100000 in
set_option maxHeartbeats 8000000 in
theorem nodeGet_leaf (v : Value) (xs : List UInt8) (w : World) (h : Sl w 1 v 512 (xs.map Bv)) (hkind : kind xs = 1) :
    Calls Tryz.prog 70 #[v] w (GetPost xs w) := by
  have hl : xs.length = 512 := by simpa using h.1
  obtain ⟨a, cap, rfl, _⟩ := h.len
  have HL := Lib.hid hl
  have hbw : Below w.heap.size w (w.alloc (.cells zeroArr 25)) := (Below.refl _ w).alloc (Nat.le_refl _) _
  have HH := Lib.hid (h.below hbw)
  have HG := Lib.hid (heap_alloc_new w (.cells zeroArr 25))
  have hk1 : (numOf 1 xs).1 = 1 := hkind
  obtain ⟨ys, hys⟩ : ∃ ys, ys = (numOf 1 xs).2.2 := ⟨_, rfl⟩
  obtain ⟨zs, hzs⟩ : ∃ zs, zs = (numOf 1 ys).2.2 := ⟨_, rfl⟩
  obtain ⟨c, hc⟩ : ∃ c, c = (numOf 1 ys).1 := ⟨_, rfl⟩
  obtain ⟨E1, hE1⟩ : ∃ E1, E1 = (numOf 1 xs).2.1 := ⟨_, rfl⟩
  obtain ⟨E2, hE2⟩ : ∃ E2, E2 = (numOf 1 ys).2.1 := ⟨_, rfl⟩
  have hyl : ys.length ≤ 512 := by rw [hys, ← hl]; exact numOf_le 1 xs
  have hzl : zs.length ≤ 512 := by have := numOf_le 1 ys; rw [← hzs] at this; omega
  have hc255 : c ≤ 255 := by rw [hc]; exact kind_le ys
  have HN1 := Lib.hid (fun b ob w h => rNumO_any b ob 1 xs w h (by omega))
  have HN2 := Lib.hid (fun b ob w h => rNumO_any b ob 1 ys w h (by omega))
  rw [hk1, ← hE1, ← hys] at HN1
  rw [← hc, ← hE2, ← hzs] at HN2
  rw [hys] at hzs hc
  obtain ⟨T, hT⟩ : ∃ T : Nat → Tk, T = fun k => tellKV true k (⟨[], [], zs, true⟩ : Tk) := ⟨_, rfl⟩
  have hT1 : tell1 xs = T c := by
    unfold tell1
    rw [hT, ← hzs, hc, show (kind xs == 1) = true by simpa using hkind]
    rfl
  have hTold : toldN xs = ⟨true, (T c).keys, (T c).vals, (tell2 xs).kids⟩ := by
    unfold toldN; rw [hT1, show (kind xs == 1) = true by simpa using hkind]
  have hcc : count xs = c := hc.symm
  have HT1 := Lib.hid (show tell1 xs = T c ∧ toldN xs = ⟨true, (T c).keys, (T c).vals, (tell2 xs).kids⟩ ∧ count xs = c ∧ (kind xs == 1) = true from ⟨hT1, hTold, hcc, by simpa using hkind⟩)
  have HT0 := Lib.hid (show T 0 = (⟨[], [], zs, true⟩ : Tk) by rw [hT]; rfl)
  have HTS := Lib.hid (show ∀ k, T (k + 1) = stepKV true (T k) by intro k; rw [hT]; rfl)
  have HTr := Lib.hid (show ∀ k, (T k).rest.length ≤ 512 ∧ (T k).keys.length = k ∧ (T k).vals.length = k by
    intro k
    rw [hT]
    refine ⟨Nat.le_trans (tellKV_rest _ _ k) hzl, by rw [tellKV_keys]; simp, by rw [tellKV_vals]; simp⟩)
  clear h hT hT1 hTold hcc hkind hk1 hys hzs hc hE1 hE2 
  go_enter Tryz.func70, Tryz.ntmps70
  go_wp2_with fail
  refine (read_own' _ xs 512 _ HH.out (by omega)).mono ?_
  rintro e w1 ⟨rb, ob, hrb, hob, rfl, hrd, hb1⟩
  rw [World.size_alloc] at hrb hb1
  simp only [World.size_alloc] at hob
  have hrbl := hrd.rd.lt
  have hobl := hrd.lt (by intro e; rw [e] at hl; simp at hl)
  have HR1 := Lib.hid ((hb1.block w.heap.size (by omega)).trans HG.out)
  have HB1 := Lib.hid (hbw.trans (hb1.mono (by omega)))
  have HRd := Lib.hid hrd
  have HOb := Lib.hid hob
  have HObl := Lib.hid hobl
  clear hrd hb1 hbw hob hobl
  go_wp2_with fail
  refine (HN1.out rb ob _ HRd.out).mono ?_
  rintro e w2 ⟨rfl, hr2, hf2⟩
  have HR2 := Lib.hid ((hf2.block w.heap.size (lt_of_block HR1.out) (by omega)).trans HR1.out)
  have HB2 := Lib.hid (HB1.out.trans (hf2.below HB1.out.size (fun k hk => by omega)))
  have HRd2 := Lib.hid hr2
  have hs2 := hf2.size
  clear hr2 hf2
  go_wp2_with fail
  refine (HN2.out rb ob _ HRd2.out).mono ?_
  rintro e w3 ⟨rfl, hr3, hf3⟩
  have hs3 := hf3.size
  have hR3 := (hf3.block w.heap.size (lt_of_block HR2.out) (by omega)).trans HR2.out
  have hB3 := HB2.out.trans (hf3.below HB2.out.size (fun k hk => by omega))
  have HPl := Lib.hid (show Places w (w3.heap.size + 1) w3.heap.size rb w.heap.size ob from ⟨by omega, by omega, by omega, fun k hk => by
    have := HOb.out k hk
    have := HObl.out k hk
    omega, by omega, by omega, by omega, by omega, by omega, by omega⟩)
  have HG0 := Lib.hid (show GRel (fun w ys => RdO w rb ob ys) w (w3.alloc (.cells #[.bool true, .slice none 0 0, .slice none 0 0, .slice none 0 0] 25)) (w3.heap.size + 1) w3.heap.size w.heap.size true [] [] [] (.slice none 0 0) (.slice none 0 0) (.slice none 0 0) zs from
    ⟨⟨heap_alloc_new _ _, ⟨rfl, Or.inl ⟨rfl, rfl⟩⟩, ⟨rfl, Or.inl ⟨rfl, rfl⟩⟩, ⟨rfl, Or.inl ⟨rfl, rfl⟩⟩, fun j hj => (by cases hj), fun j hj => (by cases hj), fun j hj => (by cases hj), fun p hp => (by cases hp)⟩, hr3.below ((Below.refl _ w3).alloc (Nat.le_refl _) _), (((Below.refl _ w3).alloc (Nat.le_refl _) _).block w.heap.size (lt_of_block hR3)).trans hR3, hB3.alloc hB3.size _, by simp⟩)
  clear hr3 hf3 hR3 hB3
  go_wp2_with fail
  obtain ⟨N, hN⟩ : ∃ N, N = w3.heap.size := ⟨_, rfl⟩
  obtain ⟨B0, hB0⟩ : ∃ B0, B0 = w3.heap.size + 1 := ⟨_, rfl⟩
  rw [← hB0, ← hN] at HPl HG0
  rw [← hN]
  clear hB0 hN
  go_loopw [44, 10, 11, 12, 13, 14] (fun i ok _ _ _ _ wr => ∃ k : Nat, k ≤ c ∧ i = .int .i64 k ∧ ok = .bool (T k).ok ∧ ∃ vk vv, GRel (fun w ys => RdO w rb ob ys) w wr B0 N w.heap.size true (T k).keys (T k).vals [] vk vv (.slice none 0 0) (T k).rest) (fun i _ _ _ _ _ _ => c - (intOf i).toNat)
  case atStart => exact ⟨0, Nat.zero_le _, rfl, by rw [HT0.out], _, _, by rw [HT0.out]; exact HG0.out⟩
  case round =>
    obtain ⟨k, hk, rfl, rfl, vk, vv, hG⟩ := hrel
    have htr := HTr.out k
    rcases Nat.lt_or_ge k c with hlt | hge
    · obtain ⟨S, hS⟩ : ∃ S, S = T k := ⟨_, rfl⟩
      have hT1 := HTS.out k
      rw [← hS] at hG htr hT1 ⊢
      obtain ⟨ks, vs, yk, ok⟩ := S
      simp only at hG htr ⊢
      obtain ⟨ak, ck, rfl⟩ := own_shape hG.1.2.1
      obtain ⟨av, cv, rfl⟩ := own_shape hG.1.2.2.1
      obtain ⟨htr1, htr2, htr3⟩ := htr
      have hkl : ks.length ≤ 255 := by omega
      have hvl : vs.length ≤ 255 := by omega
      clear htr2 htr3
      obtain ⟨q, hq⟩ : ∃ q, q = strOf yk := ⟨_, rfl⟩
      have hstr := rStrO_any rb ob yk wr hG.2.1 (by omega)
      have hql := strOf_le yk
      rw [← hq] at hstr hql
      obtain ⟨q2, hq2⟩ : ∃ q2, q2 = strOf q.2.2 := ⟨_, rfl⟩
      have hstr2 := fun w h => rStrO_any rb ob q.2.2 w h (by omega)
      rw [← hq2] at hstr2
      have hT2 : T (k + 1) = ⟨ks ++ [q.1], vs ++ [q2.1], q2.2.2, (ok && (q.2.1 == 0)) && (q2.2.1 == 0)⟩ := by rw [hT1, hq2, hq]; rfl
      obtain ⟨a1, e1, y1⟩ := q
      obtain ⟨a2, e2, y2⟩ := q2
      simp only at hstr hstr2 hT2 hql
      have HT2 := Lib.hid hT2
      have HStr := Lib.hid hstr
      have HStr2 := Lib.hid hstr2
      have HGk := Lib.hid hG
      clear hG hT1 hT2 hstr hstr2 hS hq hq2
      cases ok <;> cases ho1 : (e1 == 0) <;> (
        go_wp2_with fail
        refine HStr.out.mono ?_
        rintro e w4 ⟨rfl, hr4, hf4⟩
        have hG4 := HGk.out.read HPl.out hf4 hr4
        have c1 := hG4.cells.2.1
        have hNl := hG4.cells.2.2.2.2
        have HO4 := Lib.hid (own_alloc hG4.1.2.1 (.cells #[.string a1] 9))
        have HSl := Lib.hid (one_lit w4 a1)
        have hbase : B0 ≤ (w4.alloc (.cells #[.string a1] 9)).heap.size := by have := hG4.2.2.2.2; simp; omega
        have HBase := Lib.hid hbase
        have HG4 := Lib.hid hG4
        clear hG4 hr4 hf4 hbase
        go_wp2_with (at_builtin; refine append_strs rfl (.tmp 52) (.tmp 54) rfl HO4.out HSl.out rfl rfl (by omega) HBase.out ?_)
        intro aa cc w5 hown hf h3
        have hkept := HG4.out.kept HPl.out HG4.out.own.1 rfl hf
        have c1 := (cell_of_row _ _ 1 _ _ _ hkept).trans rfl
        have f1 := free_row (i := 1) hkept
        have hG5 := HG4.out.key HPl.out (isRdr_rd rb ob) rfl (by rw [List.map_append]; first | exact hown | (simpa using hown)) hf (by rw [World.size_alloc]; exact h3)
        have c0 := (cell_of_row _ _ 0 _ _ _ hkept).trans rfl
        have HG5 := Lib.hid hG5
        have HKept := Lib.hid hkept
        clear hown hf h3 hkept hG5
        go_wp2_with fail
        refine (HStr2.out _ HG5.out.2.1).mono ?_
        rintro e w6 ⟨rfl, hr6, hf6⟩
        have hG6 := HG5.out.read HPl.out hf6 hr6
        have d2 := hG6.cells.2.2.1
        have hNl6 := hG6.cells.2.2.2.2
        have HO6 := Lib.hid (own_alloc hG6.1.2.2.1 (.cells #[.string a2] 9))
        have HSl6 := Lib.hid (one_lit w6 a2)
        have hbase : B0 ≤ (w6.alloc (.cells #[.string a2] 9)).heap.size := by have := hG6.2.2.2.2; simp; omega
        have HBase6 := Lib.hid hbase
        have HG6 := Lib.hid hG6
        clear hG6 hr6 hf6 hbase c1 c0 f1
        go_wp2_with (at_builtin; refine append_strs rfl (.tmp 70) (.tmp 72) rfl HO6.out HSl6.out rfl rfl (by omega) HBase6.out ?_)
        intro aa6 cc6 w7 hown hf h3
        have hkept := HG6.out.kept HPl.out HG6.out.own.2.1 rfl hf
        have d2 := (cell_of_row _ _ 2 _ _ _ hkept).trans rfl
        have g2 := free_row (i := 2) hkept
        have hG7 := HG6.out.val HPl.out (isRdr_rd rb ob) rfl (by rw [List.map_append]; first | exact hown | (simpa using hown)) hf (by rw [World.size_alloc]; exact h3)
        have HG7 := Lib.hid hG7
        clear hown hf h3 hkept hG7
        go_wp2
        go_roundw
        case rel =>
          refine ⟨k + 1, by omega, by go_num, by rw [HT2.out]; simp [ho1], _, _, by rw [HT2.out]; exact HG7.out⟩
        case measure => simp [intOf]; omega)
    · obtain rfl : k = c := by omega
      obtain ⟨S, hS⟩ : ∃ S, S = T k := ⟨_, rfl⟩
      have ht1 := HT1.out
      rw [← hS] at hG htr ht1 ⊢
      have hRest : S.rest = (tell2 xs).rest := by unfold tell2; rw [ht1.2.2.2, if_pos rfl, ht1.1]
      have hOk : S.ok = (tell2 xs).ok := by unfold tell2; rw [ht1.2.2.2, if_pos rfl, ht1.1]
      have hkid : (tell2 xs).kids = [] := by unfold tell2; rw [ht1.2.2.2, if_pos rfl]
      have hTold := ht1.2.1
      rw [hkid] at hTold
      have HTold := Lib.hid hTold
      have HRest := Lib.hid hRest
      have hrl := htr.1
      have c0 := hG.cells.1
      have hNl := hG.cells.2.2.2.2
      have HGr := Lib.hid hG
      have m1 : (0 : Int) < (k : Int) + 1 := by omega
      obtain ⟨OK, hOK⟩ : ∃ OK, OK = S.ok := ⟨_, rfl⟩
      have HOk := Lib.hid (show OK = (tell2 xs).ok by rw [hOK]; exact hOk)
      rw [← hOK]
      clear hG hRest hOk hkid hTold ht1 htr hOK
      go_wp2_with fail
      obtain ⟨wo, hwo⟩ : ∃ wo : World, wo = wr := ⟨_, rfl⟩
      rw [← hwo] at HGr c0 hNl ⊢
      clear hwo
      go_loopw [84, 15, 16, 10] (fun i _ _ ok wr => i = .int .i64 0 ∧ ok = .bool OK ∧ wr = wo) (fun _ _ _ _ _ => 0)
      case atStart => exact ⟨rfl, rfl, rfl⟩
      case round =>
        obtain ⟨rfl, rfl, rfl⟩ := hrel
        cases hok : OK with
        | false =>
          rw [hok] at HOk
          have HQ := Lib.hid (get_no HL.out (show getOk xs = false by unfold getOk; rw [← HOk.out]; rfl))
          clear hok
          go_wp2_with (refine store_nd rfl (.tmp 2) (.tmp 117) rfl rfl (arr := zeroArr) rfl HGr.out.2.2.1 rfl rfl (zero_is w).one ?_)
          intro w9 hg9 hf9 hs9
          have HG9 := Lib.hid hg9
          have HB9 := Lib.hid (HGr.out.2.2.2.1.trans (hf9.below HGr.out.2.2.2.1.size (fun k hk => by have := HPl.out.wr; omega)))
          clear hg9 hf9 hs9
          go_wp2
          refine bodyPost_ret (ret_nd rfl rfl HG9.out rfl) rfl ?_
          exact ⟨zeroArr, by rw [HQ.out.1]; rfl, by rw [HQ.out.2]; exact zero_is _, HB9.out⟩
        | true =>
          rw [hok] at HOk
          clear hok
          go_wp2_with fail
          refine (rEnd_any rb S.rest _ HGr.out.2.1.rd (by omega)).mono ?_
          rintro e w7 ⟨rfl, -, hb7⟩
          have HG7 := Lib.hid (HGr.out.below HPl.out (isRdr_rd rb ob) hb7)
          clear hb7
          by_cases hE : endE S.rest = 0
          case neg =>
            have HQ := Lib.hid (get_no HL.out (show getOk xs = false by
              unfold getOk
              rw [← HRest.out, show (endE S.rest == 0) = false by simpa using hE]; simp))
            have hE4 : endE S.rest = 4 := by rcases endE_cases S.rest with h | h; (· exact absurd h hE); (· exact h)
            rw [hE4]
            clear hE hE4
            go_wp2_with (refine store_nd rfl (.tmp 2) (.tmp 117) rfl rfl (arr := zeroArr) rfl HG7.out.2.2.1 rfl rfl (zero_is w).one ?_)
            intro w9 hg9 hf9 hs9
            have HG9 := Lib.hid hg9
            have HB9 := Lib.hid (HG7.out.2.2.2.1.trans (hf9.below HG7.out.2.2.2.1.size (fun k hk => by have := HPl.out.wr; omega)))
            clear hg9 hf9 hs9
            go_wp2
            refine bodyPost_ret (ret_nd rfl rfl HG9.out rfl) rfl ?_
            exact ⟨zeroArr, by rw [HQ.out.1]; rfl, by rw [HQ.out.2]; exact zero_is _, HB9.out⟩
          case pos =>
            rw [hE]
            have HE := Lib.hid hE
            have HT7 := Lib.hid (At_nd HG7.out.1.1)
            clear hE
            go_wp2_with (refine gload_nd rfl (.tmp 9) rfl rfl HT7.out rfl ?_)
            refine (check_any _ (toldN xs) _ (by rw [HTold.out]; exact HG7.out.1.is) (toldN_fits xs)).mono ?_
            rintro e w8 ⟨rfl, hb8⟩
            have HG8 := Lib.hid (HG7.out.below HPl.out (isRdr_rd rb ob) hb8)
            clear hb8
            by_cases hC : checkE (toldN xs) = 0
            case neg =>
              have HQ := Lib.hid (get_no HL.out (show getOk xs = false by
                unfold getOk
                rw [show (checkE (toldN xs) == 0) = false by simpa using hC]; simp))
              have hbe : (checkE (toldN xs) != 0) = true := by simpa using hC
              clear hC
              go_wp2_with (refine store_nd rfl (.tmp 2) (.tmp 117) rfl rfl (arr := zeroArr) rfl HG8.out.2.2.1 rfl rfl (zero_is w).one ?_)
              intro w9 hg9 hf9 hs9
              have HG9 := Lib.hid hg9
              have HB9 := Lib.hid (HG8.out.2.2.2.1.trans (hf9.below HG8.out.2.2.2.1.size (fun k hk => by have := HPl.out.wr; omega)))
              clear hg9 hf9 hs9
              go_wp2
              refine bodyPost_ret (ret_nd rfl rfl HG9.out rfl) rfl ?_
              exact ⟨zeroArr, by rw [HQ.out.1]; rfl, by rw [HQ.out.2]; exact zero_is _, HB9.out⟩
            case pos =>
              have HQ := Lib.hid (get_ok HL.out (show getOk xs = true by
                unfold getOk
                rw [← HRest.out, ← HOk.out, HE.out, hC]; rfl))
              rw [hC]
              clear hC
              have HT8 := Lib.hid (At_nd HG8.out.1.1)
              have HN8 := Lib.hid HG8.out.1.is
              go_wp2_with (first | (refine load_nd rfl (.tmp 9) rfl rfl HT8.out rfl ?_) | (refine store_nd rfl (.tmp 2) (.tmp 118) rfl rfl rfl HG8.out.2.2.1 rfl rfl HN8.out.one ?_))
              intro w9 hg9 hf9 hs9
              have HG9 := Lib.hid hg9
              have HN9 := Lib.hid ((HG8.out.1.fr hf9 HPl.out.nr (fun k h1 _ e => by have := HPl.out.pr; omega)).is)
              have HB9 := Lib.hid (HG8.out.2.2.2.1.trans (hf9.below HG8.out.2.2.2.1.size (fun k hk => by have := HPl.out.wr; omega)))
              clear hg9 hf9 hs9
              go_wp2
              refine bodyPost_ret (ret_nd rfl rfl HG9.out rfl) rfl ?_
              exact ⟨_, by rw [HQ.out.1]; rfl, by rw [HQ.out.2, HTold.out]; exact HN9.out, HB9.out⟩

end Go.Proofs.YtkbnkdokcmpcgaaGreatDoor
namespace Go.Proofs.YtkbnkdokcmpcgaaGreatDoor
open Go.RowKit

set_option maxRecDepth 100000 in
set_option maxHeartbeats 8000000 in
theorem nodeGet_inner (v : Value) (xs : List UInt8) (w : World) (h : Sl w 1 v 512 (xs.map Bv)) (hkind : ¬ kind xs = 1) :
    Calls Tryz.prog 70 #[v] w (GetPost xs w) := by
  have hl : xs.length = 512 := by simpa using h.1
  obtain ⟨a, cap, rfl, _⟩ := h.len
  have HL := Lib.hid hl
  have hbw : Below w.heap.size w (w.alloc (.cells zeroArr 25)) := (Below.refl _ w).alloc (Nat.le_refl _) _
  have HH := Lib.hid (h.below hbw)
  have HG := Lib.hid (heap_alloc_new w (.cells zeroArr 25))
  obtain ⟨q0, hq0⟩ : ∃ q0, q0 = (numOf 1 xs).1 := ⟨_, rfl⟩
  have e1 : ((q0 : Int) == 1) = false := by have := beq_nat q0 1; rw [decide_eq_false (by rw [hq0]; exact hkind)] at this; exact this
  obtain ⟨ok0, hok0⟩ : ∃ ok0, ok0 = decide (q0 = 2) := ⟨_, rfl⟩
  have e2 : ((q0 : Int) == 2) = ok0 := by have := beq_nat q0 2; rw [← hok0] at this; exact this
  have hk1 : (numOf 1 xs).1 = q0 := hq0.symm
  obtain ⟨ys, hys⟩ : ∃ ys, ys = (numOf 1 xs).2.2 := ⟨_, rfl⟩
  obtain ⟨zs, hzs⟩ : ∃ zs, zs = (numOf 1 ys).2.2 := ⟨_, rfl⟩
  obtain ⟨c, hc⟩ : ∃ c, c = (numOf 1 ys).1 := ⟨_, rfl⟩
  obtain ⟨E1, hE1⟩ : ∃ E1, E1 = (numOf 1 xs).2.1 := ⟨_, rfl⟩
  obtain ⟨E2, hE2⟩ : ∃ E2, E2 = (numOf 1 ys).2.1 := ⟨_, rfl⟩
  have hyl : ys.length ≤ 512 := by rw [hys, ← hl]; exact numOf_le 1 xs
  have hzl : zs.length ≤ 512 := by have := numOf_le 1 ys; rw [← hzs] at this; omega
  have hc255 : c ≤ 255 := by rw [hc]; exact kind_le ys
  have HN1 := Lib.hid (fun b ob w h => rNumO_any b ob 1 xs w h (by omega))
  have HN2 := Lib.hid (fun b ob w h => rNumO_any b ob 1 ys w h (by omega))
  rw [hk1, ← hE1, ← hys] at HN1
  rw [← hc, ← hE2, ← hzs] at HN2
  rw [hys] at hzs hc
  obtain ⟨T, hT⟩ : ∃ T : Nat → Tk, T = fun k => tellKV false k (⟨[], [], zs, ok0⟩ : Tk) := ⟨_, rfl⟩
  have hT1 : tell1 xs = T c := by
    unfold tell1
    rw [hT, ← hzs, hc, show (kind xs == 1) = false by simpa using hkind, show (kind xs == 2) = ok0 by rw [hok0, hq0]; rfl]
    rfl
  have hTold : toldN xs = ⟨false, (T c).keys, (T c).vals, (tell2 xs).kids⟩ := by
    unfold toldN; rw [hT1, show (kind xs == 1) = false by simpa using hkind]
  have hcc : count xs = c := hc.symm
  have HT1 := Lib.hid (show tell1 xs = T c ∧ toldN xs = ⟨false, (T c).keys, (T c).vals, (tell2 xs).kids⟩ ∧ count xs = c ∧ (kind xs == 1) = false from ⟨hT1, hTold, hcc, by simpa using hkind⟩)
  have HT0 := Lib.hid (show T 0 = (⟨[], [], zs, ok0⟩ : Tk) by rw [hT]; rfl)
  have HTS := Lib.hid (show ∀ k, T (k + 1) = stepKV false (T k) by intro k; rw [hT]; rfl)
  have HTr := Lib.hid (show ∀ k, (T k).rest.length ≤ 512 ∧ (T k).keys.length = k ∧ (T k).vals = [] by
    intro k
    rw [hT]
    refine ⟨Nat.le_trans (tellKV_rest _ _ k) hzl, by rw [tellKV_keys]; simp, tellKV_novals _ k⟩)
  clear h hT hT1 hTold hcc hkind hk1 hys hzs hc hE1 hE2 hq0 hok0
  go_enter Tryz.func70, Tryz.ntmps70
  go_wp2_with fail
  refine (read_own' _ xs 512 _ HH.out (by omega)).mono ?_
  rintro e w1 ⟨rb, ob, hrb, hob, rfl, hrd, hb1⟩
  rw [World.size_alloc] at hrb hb1
  simp only [World.size_alloc] at hob
  have hrbl := hrd.rd.lt
  have hobl := hrd.lt (by intro e; rw [e] at hl; simp at hl)
  have HR1 := Lib.hid ((hb1.block w.heap.size (by omega)).trans HG.out)
  have HB1 := Lib.hid (hbw.trans (hb1.mono (by omega)))
  have HRd := Lib.hid hrd
  have HOb := Lib.hid hob
  have HObl := Lib.hid hobl
  clear hrd hb1 hbw hob hobl
  go_wp2_with fail
  refine (HN1.out rb ob _ HRd.out).mono ?_
  rintro e w2 ⟨rfl, hr2, hf2⟩
  have HR2 := Lib.hid ((hf2.block w.heap.size (lt_of_block HR1.out) (by omega)).trans HR1.out)
  have HB2 := Lib.hid (HB1.out.trans (hf2.below HB1.out.size (fun k hk => by omega)))
  have HRd2 := Lib.hid hr2
  have hs2 := hf2.size
  clear hr2 hf2
  go_wp2_with fail
  refine (HN2.out rb ob _ HRd2.out).mono ?_
  rintro e w3 ⟨rfl, hr3, hf3⟩
  have hs3 := hf3.size
  have hR3 := (hf3.block w.heap.size (lt_of_block HR2.out) (by omega)).trans HR2.out
  have hB3 := HB2.out.trans (hf3.below HB2.out.size (fun k hk => by omega))
  have HPl := Lib.hid (show Places w (w3.heap.size + 1) w3.heap.size rb w.heap.size ob from ⟨by omega, by omega, by omega, fun k hk => by
    have := HOb.out k hk
    have := HObl.out k hk
    omega, by omega, by omega, by omega, by omega, by omega, by omega⟩)
  have HG0 := Lib.hid (show GRel (fun w ys => RdO w rb ob ys) w (w3.alloc (.cells #[.bool false, .slice none 0 0, .slice none 0 0, .slice none 0 0] 25)) (w3.heap.size + 1) w3.heap.size w.heap.size false [] [] [] (.slice none 0 0) (.slice none 0 0) (.slice none 0 0) zs from
    ⟨⟨heap_alloc_new _ _, ⟨rfl, Or.inl ⟨rfl, rfl⟩⟩, ⟨rfl, Or.inl ⟨rfl, rfl⟩⟩, ⟨rfl, Or.inl ⟨rfl, rfl⟩⟩, fun j hj => (by cases hj), fun j hj => (by cases hj), fun j hj => (by cases hj), fun p hp => (by cases hp)⟩, hr3.below ((Below.refl _ w3).alloc (Nat.le_refl _) _), (((Below.refl _ w3).alloc (Nat.le_refl _) _).block w.heap.size (lt_of_block hR3)).trans hR3, hB3.alloc hB3.size _, by simp⟩)
  clear hr3 hf3 hR3 hB3
  go_wp2_with fail
  obtain ⟨N, hN⟩ : ∃ N, N = w3.heap.size := ⟨_, rfl⟩
  obtain ⟨B0, hB0⟩ : ∃ B0, B0 = w3.heap.size + 1 := ⟨_, rfl⟩
  rw [← hB0, ← hN] at HPl HG0
  rw [← hN]
  clear hB0 hN
  go_loopw [44, 10, 11, 12, 13, 14] (fun i ok _ _ _ _ wr => ∃ k : Nat, k ≤ c ∧ i = .int .i64 k ∧ ok = .bool (T k).ok ∧ ∃ vk vv, GRel (fun w ys => RdO w rb ob ys) w wr B0 N w.heap.size false (T k).keys (T k).vals [] vk vv (.slice none 0 0) (T k).rest) (fun i _ _ _ _ _ _ => c - (intOf i).toNat)
  case atStart => exact ⟨0, Nat.zero_le _, rfl, by rw [HT0.out], _, _, by rw [HT0.out]; exact HG0.out⟩
  case round =>
    obtain ⟨k, hk, rfl, rfl, vk, vv, hG⟩ := hrel
    have htr := HTr.out k
    rcases Nat.lt_or_ge k c with hlt | hge
    · obtain ⟨S, hS⟩ : ∃ S, S = T k := ⟨_, rfl⟩
      have hT1 := HTS.out k
      rw [← hS] at hG htr hT1 ⊢
      obtain ⟨ks, vs, yk, ok⟩ := S
      simp only at hG htr ⊢
      obtain ⟨ak, ck, rfl⟩ := own_shape hG.1.2.1
      obtain ⟨av, cv, rfl⟩ := own_shape hG.1.2.2.1
      obtain ⟨htr1, htr2, htr3⟩ := htr
      have hkl : ks.length ≤ 255 := by omega
      clear htr2 htr3
      obtain ⟨q, hq⟩ : ∃ q, q = strOf yk := ⟨_, rfl⟩
      have hstr := rStrO_any rb ob yk wr hG.2.1 (by omega)
      have hql := strOf_le yk
      rw [← hq] at hstr hql
      have hT2 : T (k + 1) = ⟨ks ++ [q.1], vs, q.2.2, ok && (q.2.1 == 0)⟩ := by rw [hT1, hq]; rfl
      obtain ⟨a1, e1, y1⟩ := q
      simp only at hstr hT2 hql
      have HT2 := Lib.hid hT2
      have HStr := Lib.hid hstr
      have HGk := Lib.hid hG
      clear hG hT1 hT2 hstr hS hq
      cases ok <;> (
        go_wp2_with fail
        refine HStr.out.mono ?_
        rintro e w4 ⟨rfl, hr4, hf4⟩
        have hG4 := HGk.out.read HPl.out hf4 hr4
        have c1 := hG4.cells.2.1
        have hNl := hG4.cells.2.2.2.2
        have HO4 := Lib.hid (own_alloc hG4.1.2.1 (.cells #[.string a1] 9))
        have HSl := Lib.hid (one_lit w4 a1)
        have hbase : B0 ≤ (w4.alloc (.cells #[.string a1] 9)).heap.size := by have := hG4.2.2.2.2; simp; omega
        have HBase := Lib.hid hbase
        have HG4 := Lib.hid hG4
        clear hG4 hr4 hf4 hbase
        go_wp2_with (at_builtin; refine append_strs rfl (.tmp 52) (.tmp 54) rfl HO4.out HSl.out rfl rfl (by omega) HBase.out ?_)
        intro aa cc w5 hown hf h3
        have hkept := HG4.out.kept HPl.out HG4.out.own.1 rfl hf
        have c1 := (cell_of_row _ _ 1 _ _ _ hkept).trans rfl
        have f1 := free_row (i := 1) hkept
        have hG5 := HG4.out.key HPl.out (isRdr_rd rb ob) rfl (by rw [List.map_append]; first | exact hown | (simpa using hown)) hf (by rw [World.size_alloc]; exact h3)
        have c0 := (cell_of_row _ _ 0 _ _ _ hkept).trans rfl
        have HG5 := Lib.hid hG5
        clear hown hf h3 hkept hG5
        go_wp2
        go_roundw
        case rel =>
          refine ⟨k + 1, by omega, by go_num, by rw [HT2.out]; simp, _, _, by rw [HT2.out]; exact HG5.out⟩
        case measure => simp [intOf]; omega)
    · obtain rfl : k = c := by omega
      obtain ⟨S, hS⟩ : ∃ S, S = T k := ⟨_, rfl⟩
      have ht1 := HT1.out
      rw [← hS] at hG htr ht1 ⊢
      obtain ⟨U, hU⟩ : ∃ U : Nat → Tp, U = fun j => tellP j ⟨[], S.rest, S.ok⟩ := ⟨_, rfl⟩
      have h2 : tell2 xs = U (k + 1) := by unfold tell2; rw [ht1.2.2.2, ht1.1, ht1.2.2.1, hU]; simp
      have hTold := ht1.2.1
      rw [h2] at hTold
      have HTold0 := Lib.hid hTold
      have HU2 := Lib.hid h2
      have HU0 := Lib.hid (show U 0 = ⟨[], S.rest, S.ok⟩ by rw [hU]; rfl)
      have HUS := Lib.hid (show ∀ j, U (j + 1) = stepP (U j) by intro j; rw [hU]; rfl)
      have hrl0 := htr.1
      have HUr := Lib.hid (show ∀ j, (U j).rest.length ≤ 512 ∧ (U j).kids.length = j by
        intro j
        rw [hU]
        exact ⟨Nat.le_trans (tellP_rest _ j) hrl0, by rw [tellP_kids]; simp⟩)
      have HGr0 := Lib.hid hG
      obtain ⟨OK0, hOK0⟩ : ∃ OK, OK = S.ok := ⟨_, rfl⟩
      rw [← hOK0] at HU0 ⊢
      clear hG hU h2 hTold ht1 htr hOK0
      go_wp2_with fail
      obtain ⟨wo, hwo⟩ : ∃ wo : World, wo = wr := ⟨_, rfl⟩
      rw [← hwo] at HGr0 ⊢
      clear hwo
      go_loopw [84, 10, 15, 16] (fun i ok _ _ wr => ∃ j : Nat, j ≤ k + 1 ∧ i = .int .i64 j ∧ ok = .bool (U j).ok ∧ ∃ vp, GRel (fun w ys => RdO w rb ob ys) w wr B0 N w.heap.size false S.keys S.vals (U j).kids vk vv vp (U j).rest) (fun i _ _ _ _ => k + 1 - (intOf i).toNat)
      case atStart => exact ⟨0, Nat.zero_le _, rfl, by rw [HU0.out], _, by rw [HU0.out]; exact HGr0.out⟩
      case round =>
        obtain ⟨j, hj, rfl, rfl, vp, hG⟩ := hrel
        have hur := HUr.out j
        rcases Nat.lt_or_ge j (k + 1) with hlt | hge
        · obtain ⟨V, hV⟩ : ∃ V, V = U j := ⟨_, rfl⟩
          have hU1 := HUS.out j
          rw [← hV] at hG hur hU1 ⊢
          obtain ⟨ps, yj, ok⟩ := V
          simp only at hG hur ⊢
          obtain ⟨ap, cp, rfl⟩ := own_shape hG.1.2.2.2.1
          obtain ⟨hur1, hur2⟩ := hur
          have hpl : ps.length ≤ 256 := by omega
          clear hur2
          obtain ⟨q, hq⟩ : ∃ q, q = ptrOf yj := ⟨_, rfl⟩
          have hwf := ptrOf_wf yj
          have hget := ptrGet_any rb ob yj wr hG.2.1 (fun k hk => by have := HPl.out.pob k hk; have := hG.2.2.2.2; omega) (by omega)
          rw [← hq] at hget hwf
          have hU2 : U (j + 1) = ⟨ps ++ [q.1], q.2.2, ok && (q.2.1 == 0)⟩ := by rw [hU1, hq]; rfl
          obtain ⟨p, e1, y1⟩ := q
          simp only at hget hU2 hwf
          have HW := Lib.hid hwf
          have HU3 := Lib.hid hU2
          have HGet := Lib.hid hget
          have c0 := hG.cells.1
          have hNl := hG.cells.2.2.2.2
          have HGk := Lib.hid hG
          obtain ⟨ip, zp, hip, hzp, hsp, hzsp⟩ := info_ptr3
          have HInf := Lib.hid (And.intro hip (And.intro hzp (And.intro hsp hzsp)))
          have m1 : (j : Int) < (k : Int) + 1 := by omega
          clear hip hzp hsp hzsp
          clear hG hU1 hU2 hget hV hq hwf
          cases ok <;> (
            go_wp2_with fail
            refine HGet.out.mono ?_
            rintro e w4 ⟨rfl, hr4, hf4⟩
            have hG4 := HGk.out.read HPl.out hf4 hr4
            have HG4 := Lib.hid hG4
            clear hG4 hr4 hf4 c0 hNl
            go_wp2_with (refine store_ptr rfl (.tmp 15) (.tmp 91) rfl rfl rfl (heap_alloc_new _ _) rfl HW.out ?_)
            intro w5 hb5 hf5 hs5
            have hbel5 : Below w4.heap.size w4 w5 := ((Below.refl _ w4).alloc (Nat.le_refl _) _).trans (hf5.below (by simp) (fun k hk => by omega))
            have hG5 := HG4.out.below HPl.out (isRdr_rd rb ob) hbel5
            have c3 := hG5.cells.2.2.2.1
            have hNl := hG5.cells.2.2.2.2
            have HAT := Lib.hid (show At w5 w4.heap.size 0 p.cells from At.of_row hb5)
            have HG5 := Lib.hid hG5
            clear hb5 hf5 hs5 hbel5 hG5
            have HO5 := Lib.hid (own_alloc HG5.out.1.2.2.2.1 (.cells p.arr 43))
            have HSl := Lib.hid (show Sl (w5.alloc (.cells p.arr 43)) 34 (.slice (some ⟨w5.heap.size, 0, none⟩) 1 1) 1 p.cells from Sl_row (heap_alloc_new _ _) p.arr_toList (by rw [HW.out.len]))
            have hbase : B0 ≤ (w5.alloc (.cells p.arr 43)).heap.size := by have := HG5.out.2.2.2.2; simp; omega
            have HBase := Lib.hid hbase
            clear hbase
            go_wp2_with (first
              | (refine load_ptr rfl (.tmp 15) rfl rfl HAT.out HW.out ?_)
              | (refine build_many rfl 23 43 1 _ rfl [p.arr] ?_ rfl Tryz.underlying23 ip zp 34 HInf.out.1 HInf.out.2.1 HInf.out.2.2.1 HInf.out.2.2.2 (P1_size HW.out) (by decide) (by decide) (by decide) ?_)
              | (at_builtin; refine append_ptrs rfl (.tmp 94) (.tmp 96) rfl HO5.out HW.out HSl.out rfl rfl (by omega) HBase.out ?_))
            intro aa cc w6 hown hf h3
            have hkept := HG5.out.kept HPl.out HG5.out.own.2.2 rfl hf
            have c3 := (cell_of_row _ _ 3 _ _ _ hkept).trans rfl
            have f3 := free_row (i := 3) hkept
            have hG6 := HG5.out.kid HW.out HPl.out (isRdr_rd rb ob) rfl (by first | exact hown | (simpa using hown)) hf (by rw [World.size_alloc]; exact h3)
            have HG6 := Lib.hid hG6
            clear hown hf h3 hkept hG6
            go_wp2
            go_roundw
            case rel =>
              refine ⟨j + 1, by omega, by go_num, by rw [HU3.out]; simp, _, by rw [HU3.out]; exact HG6.out⟩
            case measure => simp [intOf]; omega)
        · obtain rfl : j = k + 1 := by omega
          obtain ⟨V, hV⟩ : ∃ V, V = U (k + 1) := ⟨_, rfl⟩
          have ht := HTold0.out
          have h2 := HU2.out
          rw [← hV] at hG hur ht h2 ⊢
          have HTold := Lib.hid ht
          have HRest := Lib.hid (show V.rest = (tell2 xs).rest by rw [h2])
          obtain ⟨OK, hOK⟩ : ∃ OK, OK = V.ok := ⟨_, rfl⟩
          have HOk := Lib.hid (show OK = (tell2 xs).ok by rw [hOK, h2])
          rw [← hOK]
          have hrl := hur.1
          have HGr := Lib.hid hG
          have m1 : ¬ ((k : Int) + 1 < (k : Int) + 1) := by omega
          clear hG ht h2 hV hOK hur
          cases hok : OK with
          | false =>
            rw [hok] at HOk
            have HQ := Lib.hid (get_no HL.out (show getOk xs = false by unfold getOk; rw [← HOk.out]; rfl))
            clear hok
            go_wp2_with (refine store_nd rfl (.tmp 2) (.tmp 117) rfl rfl (arr := zeroArr) rfl HGr.out.2.2.1 rfl rfl (zero_is w).one ?_)
            intro w9 hg9 hf9 hs9
            have HG9 := Lib.hid hg9
            have HB9 := Lib.hid (HGr.out.2.2.2.1.trans (hf9.below HGr.out.2.2.2.1.size (fun k hk => by have := HPl.out.wr; omega)))
            clear hg9 hf9 hs9
            go_wp2
            refine bodyPost_ret (ret_nd rfl rfl HG9.out rfl) rfl ?_
            exact ⟨zeroArr, by rw [HQ.out.1]; rfl, by rw [HQ.out.2]; exact zero_is _, HB9.out⟩
          | true =>
            rw [hok] at HOk
            clear hok
            go_wp2_with fail
            refine (rEnd_any rb V.rest _ HGr.out.2.1.rd (by omega)).mono ?_
            rintro e w7 ⟨rfl, -, hb7⟩
            have HG7 := Lib.hid (HGr.out.below HPl.out (isRdr_rd rb ob) hb7)
            clear hb7
            by_cases hE : endE V.rest = 0
            case neg =>
              have HQ := Lib.hid (get_no HL.out (show getOk xs = false by
                unfold getOk
                rw [← HRest.out, show (endE V.rest == 0) = false by simpa using hE]; simp))
              have hE4 : endE V.rest = 4 := by rcases endE_cases V.rest with h | h; (· exact absurd h hE); (· exact h)
              rw [hE4]
              clear hE hE4
              go_wp2_with (refine store_nd rfl (.tmp 2) (.tmp 117) rfl rfl (arr := zeroArr) rfl HG7.out.2.2.1 rfl rfl (zero_is w).one ?_)
              intro w9 hg9 hf9 hs9
              have HG9 := Lib.hid hg9
              have HB9 := Lib.hid (HG7.out.2.2.2.1.trans (hf9.below HG7.out.2.2.2.1.size (fun k hk => by have := HPl.out.wr; omega)))
              clear hg9 hf9 hs9
              go_wp2
              refine bodyPost_ret (ret_nd rfl rfl HG9.out rfl) rfl ?_
              exact ⟨zeroArr, by rw [HQ.out.1]; rfl, by rw [HQ.out.2]; exact zero_is _, HB9.out⟩
            case pos =>
              rw [hE]
              have HE := Lib.hid hE
              have HT7 := Lib.hid (At_nd HG7.out.1.1)
              clear hE
              go_wp2_with (refine gload_nd rfl (.tmp 9) rfl rfl HT7.out rfl ?_)
              refine (check_any _ (toldN xs) _ (by rw [HTold.out]; exact HG7.out.1.is) (toldN_fits xs)).mono ?_
              rintro e w8 ⟨rfl, hb8⟩
              have HG8 := Lib.hid (HG7.out.below HPl.out (isRdr_rd rb ob) hb8)
              clear hb8
              by_cases hC : checkE (toldN xs) = 0
              case neg =>
                have HQ := Lib.hid (get_no HL.out (show getOk xs = false by
                  unfold getOk
                  rw [show (checkE (toldN xs) == 0) = false by simpa using hC]; simp))
                have hbe : (checkE (toldN xs) != 0) = true := by simpa using hC
                clear hC
                go_wp2_with (refine store_nd rfl (.tmp 2) (.tmp 117) rfl rfl (arr := zeroArr) rfl HG8.out.2.2.1 rfl rfl (zero_is w).one ?_)
                intro w9 hg9 hf9 hs9
                have HG9 := Lib.hid hg9
                have HB9 := Lib.hid (HG8.out.2.2.2.1.trans (hf9.below HG8.out.2.2.2.1.size (fun k hk => by have := HPl.out.wr; omega)))
                clear hg9 hf9 hs9
                go_wp2
                refine bodyPost_ret (ret_nd rfl rfl HG9.out rfl) rfl ?_
                exact ⟨zeroArr, by rw [HQ.out.1]; rfl, by rw [HQ.out.2]; exact zero_is _, HB9.out⟩
              case pos =>
                have HQ := Lib.hid (get_ok HL.out (show getOk xs = true by
                  unfold getOk
                  rw [← HRest.out, ← HOk.out, HE.out, hC]; rfl))
                rw [hC]
                clear hC
                have HT8 := Lib.hid (At_nd HG8.out.1.1)
                have HN8 := Lib.hid HG8.out.1.is
                go_wp2_with (first | (refine load_nd rfl (.tmp 9) rfl rfl HT8.out rfl ?_) | (refine store_nd rfl (.tmp 2) (.tmp 118) rfl rfl rfl HG8.out.2.2.1 rfl rfl HN8.out.one ?_))
                intro w9 hg9 hf9 hs9
                have HG9 := Lib.hid hg9
                have HN9 := Lib.hid ((HG8.out.1.fr hf9 HPl.out.nr (fun k h1 _ e => by have := HPl.out.pr; omega)).is)
                have HB9 := Lib.hid (HG8.out.2.2.2.1.trans (hf9.below HG8.out.2.2.2.1.size (fun k hk => by have := HPl.out.wr; omega)))
                clear hg9 hf9 hs9
                go_wp2
                refine bodyPost_ret (ret_nd rfl rfl HG9.out rfl) rfl ?_
                exact ⟨_, by rw [HQ.out.1]; rfl, by rw [HQ.out.2, HTold.out]; exact HN9.out, HB9.out⟩

theorem nodeGet_any (v : Value) (xs : List UInt8) (w : World) (h : Sl w 1 v xs.length (xs.map Bv)) : Calls Tryz.prog 70 #[v] w (GetPost xs w) := by
  by_cases hl : xs.length = 512
  · rw [hl] at h
    by_cases hk : kind xs = 1
    · exact nodeGet_leaf v xs w h hk
    · exact nodeGet_inner v xs w h hk
  · exact nodeGet_short v xs w h hl

end Go.Proofs.YtkbnkdokcmpcgaaGreatDoor
namespace Go.Proofs.YtkbnkdokcmpcgaaGreatDoor
open Go.RowKit

set_option maxRecDepth 100000 in
set_option maxHeartbeats 4000000 in
/-- A pointer to none. -/
theorem poRead_null (P D S W birth lo : Nat) (ks : List UInt8) (t : Nat → Bool) (Fd : Nat → Prop) (d : Dv) (p : Pt) (w : World) (h : PlAt w P D S W d.size ks t birth) (hd : DvIn w lo D Fd d) (hp : p.Wf) (h0 : p.addr = 0) :
    Calls Tryz.prog 22 #[.pointer (some ⟨P, 0, none⟩), .agg p.arr] w fun e w' => e = .returned (.tuple #[.agg zeroArr, .int .i64 2]) ∧ Below w.heap.size w w' := by
  have h0 : decide (p.addr = 0) = true := by simp [h0]
  have HPw := Lib.hid hp
  have HA := Lib.hid (al2_0 w (.cells p.arr 43) (.cells zeroArr 25))
  have HN := Lib.hid (al2_1 w (.cells p.arr 43) (.cells zeroArr 25))
  have HB := Lib.hid (show Below w.heap.size w ((w.alloc (.cells p.arr 43)).alloc (.cells zeroArr 25)) from ((Below.refl _ w).alloc (Nat.le_refl _) _).alloc (by simp) _)
  have HH := Lib.hid (h.below HB.out)
  have HD := Lib.hid (hd.below HB.out)
  have HPl := Lib.hid (h.lt P (Or.inl rfl))
  clear h hd hp
  go_enter Tryz.func22, Tryz.ntmps22
  go_wp2_with fail
  generalize hW : World.alloc _ _ = W1
  have HA1 := Lib.hid (show W1.heap[w.heap.size]? = some (.cells p.arr 43 (0, 0)) by rw [← hW]; exact HA.out)
  have HN1 := Lib.hid (show W1.heap[w.heap.size + 1]? = some (.cells zeroArr 25 (0, 0)) by rw [← hW]; exact HN.out)
  have HB1 := Lib.hid (show Below w.heap.size w W1 by rw [← hW]; exact HB.out)
  have HH1 := Lib.hid (show PlAt W1 P D S W d.size ks t birth by rw [← hW]; exact HH.out)
  have HD1 := Lib.hid (show DvIn W1 lo D Fd d by rw [← hW]; exact HD.out)
  clear hW HA HN HB HH HD
  have c0 := HH1.out.cells.1
  have u0 := fun (u : Wd W1.heap.size W1) => u.cell' c0
  have HPat := Lib.hid (fun w' (hw : ∃ u : Wd W1.heap.size W1, w' = u.to) => (by obtain ⟨u, rfl⟩ := hw; exact u.at (At.of_row HA1.out) : At w' w.heap.size 0 p.cells))
  have hD0 : W1.cell? ⟨D, 0, none⟩ = some (.int .i64 (d.size : Int)) := by
    obtain ⟨L, T, wv, h1, _⟩ := HD1.out
    exact h1.cells.1
  have HSz := Lib.hid (fun (u : Wd W1.heap.size W1) => Calls.wd_same u (dvSize_any D d.size u.to (u.cell' hD0)))
  have hle : d.size ≤ 4096 := HH1.out.sp.2.2.1
  have HNull := Lib.hid (fun (u : Wd W1.heap.size W1) => (Calls.wd u (Nat.le_refl _) (ptrNull_any p u.to) : Calls Tryz.prog 53 #[.agg p.cells.toArray] u.to fun e w'' => e = .returned (.bool (decide (p.addr = 0))) ∧ ∃ u' : Wd W1.heap.size W1, w'' = u'.to))
  have HChk := Lib.hid (fun (u : Wd W1.heap.size W1) => (Calls.wd u (Nat.le_refl _) (ptrCheck_any p (d.size : Int) u.to HPw.out (by omega)) : Calls Tryz.prog 68 #[.agg p.cells.toArray, .int .i64 (d.size : Int)] u.to fun e w'' => e = .returned (.int .i64 (ptrE p d.size)) ∧ ∃ u' : Wd W1.heap.size W1, w'' = u'.to))
  clear c0 hD0 hle
  rw [h0] at HNull
  refine wp_region_wd W1.heap.size (by kernel_rfl) (by kernel_rfl) ?_
  repeat (first
    | (refine wpQuiet_load_at rfl 43 (.tmp 3) rfl w.heap.size 0 rfl _ _ HPat.out Tryz.underlying43 rfl (by rw [info_ptr, HPw.out.len]) ?_; simp only [Act.put, List.setIfInBounds_toArray, List.set_cons_succ, List.set_cons_zero])
    | go_big_quiet_step (first | with_reducible exact HSz.out _ | with_reducible exact HNull.out _ | with_reducible exact HChk.out _))
  refine wpQuiet_nil ?_
  rintro w3 ⟨⟨_, hb3⟩, rfl⟩
  rename_i w3
  have HB3 := Lib.hid (HB1.out.trans (hb3.mono HB1.out.size))
  have HA3 := Lib.hid ((hb3.block _ (lt_of_block HA1.out)).trans HA1.out)
  have HN3 := Lib.hid ((hb3.block _ (lt_of_block HN1.out)).trans HN1.out)
  have HH3 := Lib.hid (HH1.out.below hb3)
  have HD3 := Lib.hid (HD1.out.below hb3)
  clear hb3 u0 HSz HNull HChk HPat HA1 HN1 HH1 HD1
  go_wp2_with (refine store_nd rfl (.tmp 4) (.tmp 26) rfl rfl (arr := zeroArr) rfl HN3.out rfl rfl (zero_is w).one ?_; intro we hge hfe hse; have HGe := Lib.hid hge; have HFe := Lib.hid hfe; clear hge hfe hse)
  refine bodyPost_ret (ret_nd rfl rfl HGe.out rfl) rfl ?_
  exact ⟨rfl, HB3.out.trans (HFe.out.below HB3.out.size (fun k hk => by omega))⟩

set_option maxRecDepth 100000 in
set_option maxHeartbeats 4000000 in
/-- A pointer that may not be. -/
theorem poRead_form (P D S W birth lo : Nat) (ks : List UInt8) (t : Nat → Bool) (Fd : Nat → Prop) (d : Dv) (p : Pt) (w : World) (h : PlAt w P D S W d.size ks t birth) (hd : DvIn w lo D Fd d) (hp : p.Wf) (h0 : p.addr ≠ 0) (h1 : ptrE p d.size ≠ 0) :
    Calls Tryz.prog 22 #[.pointer (some ⟨P, 0, none⟩), .agg p.arr] w fun e w' => e = .returned (.tuple #[.agg zeroArr, .int .i64 2]) ∧ Below w.heap.size w w' := by
  have h0 : decide (p.addr = 0) = false := by simp [h0]
  have hb1 : (ptrE p d.size != 0) = true := by simpa using h1
  have HPw := Lib.hid hp
  have HA := Lib.hid (al2_0 w (.cells p.arr 43) (.cells zeroArr 25))
  have HN := Lib.hid (al2_1 w (.cells p.arr 43) (.cells zeroArr 25))
  have HB := Lib.hid (show Below w.heap.size w ((w.alloc (.cells p.arr 43)).alloc (.cells zeroArr 25)) from ((Below.refl _ w).alloc (Nat.le_refl _) _).alloc (by simp) _)
  have HH := Lib.hid (h.below HB.out)
  have HD := Lib.hid (hd.below HB.out)
  have HPl := Lib.hid (h.lt P (Or.inl rfl))
  clear h hd hp
  go_enter Tryz.func22, Tryz.ntmps22
  go_wp2_with fail
  generalize hW : World.alloc _ _ = W1
  have HA1 := Lib.hid (show W1.heap[w.heap.size]? = some (.cells p.arr 43 (0, 0)) by rw [← hW]; exact HA.out)
  have HN1 := Lib.hid (show W1.heap[w.heap.size + 1]? = some (.cells zeroArr 25 (0, 0)) by rw [← hW]; exact HN.out)
  have HB1 := Lib.hid (show Below w.heap.size w W1 by rw [← hW]; exact HB.out)
  have HH1 := Lib.hid (show PlAt W1 P D S W d.size ks t birth by rw [← hW]; exact HH.out)
  have HD1 := Lib.hid (show DvIn W1 lo D Fd d by rw [← hW]; exact HD.out)
  clear hW HA HN HB HH HD
  have c0 := HH1.out.cells.1
  have u0 := fun (u : Wd W1.heap.size W1) => u.cell' c0
  have HPat := Lib.hid (fun w' (hw : ∃ u : Wd W1.heap.size W1, w' = u.to) => (by obtain ⟨u, rfl⟩ := hw; exact u.at (At.of_row HA1.out) : At w' w.heap.size 0 p.cells))
  have hD0 : W1.cell? ⟨D, 0, none⟩ = some (.int .i64 (d.size : Int)) := by
    obtain ⟨L, T, wv, h1, _⟩ := HD1.out
    exact h1.cells.1
  have HSz := Lib.hid (fun (u : Wd W1.heap.size W1) => Calls.wd_same u (dvSize_any D d.size u.to (u.cell' hD0)))
  have hle : d.size ≤ 4096 := HH1.out.sp.2.2.1
  have HNull := Lib.hid (fun (u : Wd W1.heap.size W1) => (Calls.wd u (Nat.le_refl _) (ptrNull_any p u.to) : Calls Tryz.prog 53 #[.agg p.cells.toArray] u.to fun e w'' => e = .returned (.bool (decide (p.addr = 0))) ∧ ∃ u' : Wd W1.heap.size W1, w'' = u'.to))
  have HChk := Lib.hid (fun (u : Wd W1.heap.size W1) => (Calls.wd u (Nat.le_refl _) (ptrCheck_any p (d.size : Int) u.to HPw.out (by omega)) : Calls Tryz.prog 68 #[.agg p.cells.toArray, .int .i64 (d.size : Int)] u.to fun e w'' => e = .returned (.int .i64 (ptrE p d.size)) ∧ ∃ u' : Wd W1.heap.size W1, w'' = u'.to))
  clear c0 hD0 hle
  rw [h0] at HNull
  refine wp_region_wd W1.heap.size (by kernel_rfl) (by kernel_rfl) ?_
  repeat (first
    | (refine wpQuiet_load_at rfl 43 (.tmp 3) rfl w.heap.size 0 rfl _ _ HPat.out Tryz.underlying43 rfl (by rw [info_ptr, HPw.out.len]) ?_; simp only [Act.put, List.setIfInBounds_toArray, List.set_cons_succ, List.set_cons_zero])
    | go_big_quiet_step (first | with_reducible exact HSz.out _ | with_reducible exact HNull.out _ | with_reducible exact HChk.out _))
  refine wpQuiet_nil ?_
  rintro w3 ⟨⟨_, hb3⟩, rfl⟩
  rename_i w3
  have HB3 := Lib.hid (HB1.out.trans (hb3.mono HB1.out.size))
  have HA3 := Lib.hid ((hb3.block _ (lt_of_block HA1.out)).trans HA1.out)
  have HN3 := Lib.hid ((hb3.block _ (lt_of_block HN1.out)).trans HN1.out)
  have HH3 := Lib.hid (HH1.out.below hb3)
  have HD3 := Lib.hid (HD1.out.below hb3)
  clear hb3 u0 HSz HNull HChk HPat HA1 HN1 HH1 HD1
  go_wp2_with (refine store_nd rfl (.tmp 4) (.tmp 26) rfl rfl (arr := zeroArr) rfl HN3.out rfl rfl (zero_is w).one ?_; intro we hge hfe hse; have HGe := Lib.hid hge; have HFe := Lib.hid hfe; clear hge hfe hse)
  refine bodyPost_ret (ret_nd rfl rfl HGe.out rfl) rfl ?_
  exact ⟨rfl, HB3.out.trans (HFe.out.below HB3.out.size (fun k hk => by omega))⟩

end Go.Proofs.YtkbnkdokcmpcgaaGreatDoor
