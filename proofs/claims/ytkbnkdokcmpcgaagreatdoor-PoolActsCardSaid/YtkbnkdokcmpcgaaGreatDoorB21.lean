/- Walk: node.Get, of what is no leaf; of any bytes. Walks: pool.Read. Walk: pool.Read, of a pointer that may be. Walk: banyanlaw13.made: a pool, its device, its keys. -/
import Derived.Test.YtkbnkdokcmpcgaaGreatDoorB19
import Derived.Test.YtkbnkdokcmpcgaaGreatDoorB20
import Derived.Lib.SmallJoins
namespace Go.Proofs.YtkbnkdokcmpcgaaGreatDoor
open Go.RowKit

set_option maxRecDepth 100000 in
set_option maxHeartbeats 8000000 in
theorem nodeGet_inner (v : Value) (xs : List UInt8) (w : World) (h : Sl w 1 v 512 (xs.map Bv)) (hkind : ¬ kind xs = 1) :
    Calls Tryz.prog 70 #[v] w (GetPostF xs w) := by
  have hl : xs.length = 512 := by simpa using h.1
  obtain ⟨a, cap, rfl, _⟩ := h.len
  have HL := Lib.hid hl
  have hbw : Below w.heap.size w (w.alloc (.cells zeroArr 25)) := (Below.refl _ w).alloc (Nat.le_refl _) _
  have HH := Lib.hid (h.below hbw)
  have HG := Lib.hid (heap_alloc_new w (.cells zeroArr 25))
  obtain ⟨q0, hq0⟩ : ∃ q0, q0 = (numOf 1 xs).1 := ⟨_, rfl⟩
  have e1 : ((q0 : Int) == 1) = false := by have := beq_nat q0 1; rw [decide_eq_false (by rw [hq0]; exact hkind)] at this; exact this
  obtain ⟨ok0, hok0⟩ : ∃ ok0, ok0 = decide (q0 = 2) := ⟨_, rfl⟩
  have e2 : ((q0 : Int) == 2) = ok0 := by have := beq_nat q0 2; rw [← hok0] at this; exact this
  have hk1 : (numOf 1 xs).1 = q0 := hq0.symm
  obtain ⟨ys, hys⟩ : ∃ ys, ys = (numOf 1 xs).2.2 := ⟨_, rfl⟩
  obtain ⟨zs, hzs⟩ : ∃ zs, zs = (numOf 1 ys).2.2 := ⟨_, rfl⟩
  obtain ⟨c, hc⟩ : ∃ c, c = (numOf 1 ys).1 := ⟨_, rfl⟩
  obtain ⟨E1, hE1⟩ : ∃ E1, E1 = (numOf 1 xs).2.1 := ⟨_, rfl⟩
  obtain ⟨E2, hE2⟩ : ∃ E2, E2 = (numOf 1 ys).2.1 := ⟨_, rfl⟩
  have hyl : ys.length ≤ 512 := by rw [hys, ← hl]; exact numOf_le 1 xs
  have hzl : zs.length ≤ 512 := by have := numOf_le 1 ys; rw [← hzs] at this; omega
  have hc255 : c ≤ 255 := by rw [hc]; exact kind_le ys
  have HN1 := Lib.hid (fun b ob w h => rNumO_any b ob 1 xs w h (by omega))
  have HN2 := Lib.hid (fun b ob w h => rNumO_any b ob 1 ys w h (by omega))
  rw [hk1, ← hE1, ← hys] at HN1
  rw [← hc, ← hE2, ← hzs] at HN2
  rw [hys] at hzs hc
  obtain ⟨T, hT⟩ : ∃ T : Nat → Tk, T = fun k => tellKV false k (⟨[], [], zs, ok0⟩ : Tk) := ⟨_, rfl⟩
  have hT1 : tell1 xs = T c := by
    unfold tell1
    rw [hT, ← hzs, hc, show (kind xs == 1) = false by simpa using hkind, show (kind xs == 2) = ok0 by rw [hok0, hq0]; rfl]
    rfl
  have hTold : toldN xs = ⟨false, (T c).keys, (T c).vals, (tell2 xs).kids⟩ := by
    unfold toldN; rw [hT1, show (kind xs == 1) = false by simpa using hkind]
  have hcc : count xs = c := hc.symm
  have HT1 := Lib.hid (show tell1 xs = T c ∧ toldN xs = ⟨false, (T c).keys, (T c).vals, (tell2 xs).kids⟩ ∧ count xs = c ∧ (kind xs == 1) = false from ⟨hT1, hTold, hcc, by simpa using hkind⟩)
  have HT0 := Lib.hid (show T 0 = (⟨[], [], zs, ok0⟩ : Tk) by rw [hT]; rfl)
  have HTS := Lib.hid (show ∀ k, T (k + 1) = stepKV false (T k) by intro k; rw [hT]; rfl)
  have HTr := Lib.hid (show ∀ k, (T k).rest.length ≤ 512 ∧ (T k).keys.length = k ∧ (T k).vals = [] by
    intro k
    rw [hT]
    refine ⟨Nat.le_trans (tellKV_rest _ _ k) hzl, by rw [tellKV_keys]; simp, tellKV_novals _ k⟩)
  clear h hT hT1 hTold hcc hkind hk1 hys hzs hc hE1 hE2 hq0 hok0
  go_enter Tryz.func70, Tryz.ntmps70
  go_wp2_with fail
  refine (read_own' _ xs 512 _ HH.out (by omega)).mono ?_
  rintro e w1 ⟨rb, ob, hrb, hob, rfl, hrd, hb1⟩
  rw [World.size_alloc] at hrb hb1
  simp only [World.size_alloc] at hob
  have hrbl := hrd.rd.lt
  have hobl := hrd.lt (by intro e; rw [e] at hl; simp at hl)
  have HR1 := Lib.hid ((hb1.block w.heap.size (by omega)).trans HG.out)
  have HB1 := Lib.hid (hbw.trans (hb1.mono (by omega)))
  have HRd := Lib.hid hrd
  have HOb := Lib.hid hob
  have HObl := Lib.hid hobl
  clear hrd hb1 hbw hob hobl
  go_wp2_with fail
  refine (HN1.out rb ob _ HRd.out).mono ?_
  rintro e w2 ⟨rfl, hr2, hf2⟩
  have HR2 := Lib.hid ((hf2.block w.heap.size (lt_of_block HR1.out) (by omega)).trans HR1.out)
  have HB2 := Lib.hid (HB1.out.trans (hf2.below HB1.out.size (fun k hk => by omega)))
  have HRd2 := Lib.hid hr2
  have hs2 := hf2.size
  clear hr2 hf2
  go_wp2_with fail
  refine (HN2.out rb ob _ HRd2.out).mono ?_
  rintro e w3 ⟨rfl, hr3, hf3⟩
  have hs3 := hf3.size
  have hR3 := (hf3.block w.heap.size (lt_of_block HR2.out) (by omega)).trans HR2.out
  have hB3 := HB2.out.trans (hf3.below HB2.out.size (fun k hk => by omega))
  have HPl := Lib.hid (show Places w (w3.heap.size + 1) w3.heap.size rb w.heap.size ob from ⟨by omega, by omega, by omega, fun k hk => by
    have := HOb.out k hk
    have := HObl.out k hk
    omega, by omega, by omega, by omega, by omega, by omega, by omega⟩)
  have HG0 := Lib.hid (show GRel (fun w ys => RdO w rb ob ys) w (w3.alloc (.cells #[.bool false, .slice none 0 0, .slice none 0 0, .slice none 0 0] 25)) (w3.heap.size + 1) w3.heap.size w.heap.size false [] [] [] (.slice none 0 0) (.slice none 0 0) (.slice none 0 0) zs from
    ⟨⟨heap_alloc_new _ _, ⟨rfl, Or.inl ⟨rfl, rfl⟩⟩, ⟨rfl, Or.inl ⟨rfl, rfl⟩⟩, ⟨rfl, Or.inl ⟨rfl, rfl⟩⟩, fun j hj => (by cases hj), fun j hj => (by cases hj), fun j hj => (by cases hj), fun p hp => (by cases hp)⟩, hr3.below ((Below.refl _ w3).alloc (Nat.le_refl _) _), (((Below.refl _ w3).alloc (Nat.le_refl _) _).block w.heap.size (lt_of_block hR3)).trans hR3, hB3.alloc hB3.size _, by simp⟩)
  clear hr3 hf3 hR3 hB3
  go_wp2_with fail
  obtain ⟨N, hN⟩ : ∃ N, N = w3.heap.size := ⟨_, rfl⟩
  obtain ⟨B0, hB0⟩ : ∃ B0, B0 = w3.heap.size + 1 := ⟨_, rfl⟩
  rw [← hB0, ← hN] at HPl HG0
  rw [← hN]
  clear hB0 hN
  go_loopw [44, 10, 11, 12, 13, 14] (fun i ok _ _ _ _ wr => ∃ k : Nat, k ≤ c ∧ i = .int .i64 k ∧ ok = .bool (T k).ok ∧ ∃ vk vv, GRel (fun w ys => RdO w rb ob ys) w wr B0 N w.heap.size false (T k).keys (T k).vals [] vk vv (.slice none 0 0) (T k).rest) (fun i _ _ _ _ _ _ => c - (intOf i).toNat)
  case atStart => exact ⟨0, Nat.zero_le _, rfl, by rw [HT0.out], _, _, by rw [HT0.out]; exact HG0.out⟩
  case round =>
    obtain ⟨k, hk, rfl, rfl, vk, vv, hG⟩ := hrel
    have htr := HTr.out k
    rcases Nat.lt_or_ge k c with hlt | hge
    · obtain ⟨S, hS⟩ : ∃ S, S = T k := ⟨_, rfl⟩
      have hT1 := HTS.out k
      rw [← hS] at hG htr hT1 ⊢
      obtain ⟨ks, vs, yk, ok⟩ := S
      simp only at hG htr ⊢
      obtain ⟨ak, ck, rfl⟩ := own_shape hG.1.2.1
      obtain ⟨av, cv, rfl⟩ := own_shape hG.1.2.2.1
      obtain ⟨htr1, htr2, htr3⟩ := htr
      have hkl : ks.length ≤ 255 := by omega
      clear htr2 htr3
      obtain ⟨q, hq⟩ : ∃ q, q = strOf yk := ⟨_, rfl⟩
      have hstr := rStrO_any rb ob yk wr hG.2.1 (by omega)
      have hql := strOf_le yk
      rw [← hq] at hstr hql
      have hT2 : T (k + 1) = ⟨ks ++ [q.1], vs, q.2.2, ok && (q.2.1 == 0)⟩ := by rw [hT1, hq]; rfl
      obtain ⟨a1, e1, y1⟩ := q
      simp only at hstr hT2 hql
      have HT2 := Lib.hid hT2
      have HStr := Lib.hid hstr
      have HGk := Lib.hid hG
      clear hG hT1 hT2 hstr hS hq
      cases ok <;> (
        go_wp2_with fail
        refine HStr.out.mono ?_
        rintro e w4 ⟨rfl, hr4, hf4⟩
        have hG4 := HGk.out.read HPl.out hf4 hr4
        have c1 := hG4.cells.2.1
        have hNl := hG4.cells.2.2.2.2
        have HO4 := Lib.hid (own_alloc hG4.1.2.1 (.cells #[.string a1] 9))
        have HSl := Lib.hid (one_lit w4 a1)
        have hbase : B0 ≤ (w4.alloc (.cells #[.string a1] 9)).heap.size := by have := hG4.2.2.2.2; simp; omega
        have HBase := Lib.hid hbase
        have HG4 := Lib.hid hG4
        clear hG4 hr4 hf4 hbase
        go_wp2_with (at_builtin; refine append_strs rfl (.tmp 52) (.tmp 54) rfl HO4.out HSl.out rfl rfl (by omega) HBase.out ?_)
        intro aa cc w5 hown hf h3
        have hkept := HG4.out.kept HPl.out HG4.out.own.1 rfl hf
        have c1 := (cell_of_row _ _ 1 _ _ _ hkept).trans rfl
        have f1 := free_row (i := 1) hkept
        have hG5 := HG4.out.key HPl.out (isRdr_rd rb ob) rfl (by rw [List.map_append]; first | exact hown | (simpa using hown)) hf (by rw [World.size_alloc]; exact h3)
        have c0 := (cell_of_row _ _ 0 _ _ _ hkept).trans rfl
        have HG5 := Lib.hid hG5
        clear hown hf h3 hkept hG5
        go_wp2
        go_roundw
        case rel =>
          refine ⟨k + 1, by omega, by go_num, by rw [HT2.out]; simp, _, _, by rw [HT2.out]; exact HG5.out⟩
        case measure => simp [intOf]; omega)
    · obtain rfl : k = c := by omega
      obtain ⟨S, hS⟩ : ∃ S, S = T k := ⟨_, rfl⟩
      have ht1 := HT1.out
      rw [← hS] at hG htr ht1 ⊢
      obtain ⟨U, hU⟩ : ∃ U : Nat → Tp, U = fun j => tellP j ⟨[], S.rest, S.ok⟩ := ⟨_, rfl⟩
      have h2 : tell2 xs = U (k + 1) := by unfold tell2; rw [ht1.2.2.2, ht1.1, ht1.2.2.1, hU]; simp
      have hTold := ht1.2.1
      rw [h2] at hTold
      have HTold0 := Lib.hid hTold
      have HU2 := Lib.hid h2
      have HU0 := Lib.hid (show U 0 = ⟨[], S.rest, S.ok⟩ by rw [hU]; rfl)
      have HUS := Lib.hid (show ∀ j, U (j + 1) = stepP (U j) by intro j; rw [hU]; rfl)
      have hrl0 := htr.1
      have HUr := Lib.hid (show ∀ j, (U j).rest.length ≤ 512 ∧ (U j).kids.length = j by
        intro j
        rw [hU]
        exact ⟨Nat.le_trans (tellP_rest _ j) hrl0, by rw [tellP_kids]; simp⟩)
      have HGr0 := Lib.hid hG
      obtain ⟨OK0, hOK0⟩ : ∃ OK, OK = S.ok := ⟨_, rfl⟩
      rw [← hOK0] at HU0 ⊢
      clear hG hU h2 hTold ht1 htr hOK0
      go_wp2_with fail
      obtain ⟨wo, hwo⟩ : ∃ wo : World, wo = wr := ⟨_, rfl⟩
      rw [← hwo] at HGr0 ⊢
      clear hwo
      go_loopw [84, 10, 15, 16] (fun i ok _ _ wr => ∃ j : Nat, j ≤ k + 1 ∧ i = .int .i64 j ∧ ok = .bool (U j).ok ∧ ∃ vp, GRel (fun w ys => RdO w rb ob ys) w wr B0 N w.heap.size false S.keys S.vals (U j).kids vk vv vp (U j).rest) (fun i _ _ _ _ => k + 1 - (intOf i).toNat)
      case atStart => exact ⟨0, Nat.zero_le _, rfl, by rw [HU0.out], _, by rw [HU0.out]; exact HGr0.out⟩
      case round =>
        obtain ⟨j, hj, rfl, rfl, vp, hG⟩ := hrel
        have hur := HUr.out j
        rcases Nat.lt_or_ge j (k + 1) with hlt | hge
        · obtain ⟨V, hV⟩ : ∃ V, V = U j := ⟨_, rfl⟩
          have hU1 := HUS.out j
          rw [← hV] at hG hur hU1 ⊢
          obtain ⟨ps, yj, ok⟩ := V
          simp only at hG hur ⊢
          obtain ⟨ap, cp, rfl⟩ := own_shape hG.1.2.2.2.1
          obtain ⟨hur1, hur2⟩ := hur
          have hpl : ps.length ≤ 256 := by omega
          clear hur2
          obtain ⟨q, hq⟩ : ∃ q, q = ptrOf yj := ⟨_, rfl⟩
          have hwf := ptrOf_wf yj
          have hget := ptrGet_any rb ob yj wr hG.2.1 (fun k hk => by have := HPl.out.pob k hk; have := hG.2.2.2.2; omega) (by omega)
          rw [← hq] at hget hwf
          have hU2 : U (j + 1) = ⟨ps ++ [q.1], q.2.2, ok && (q.2.1 == 0)⟩ := by rw [hU1, hq]; rfl
          obtain ⟨p, e1, y1⟩ := q
          simp only at hget hU2 hwf
          have HW := Lib.hid hwf
          have HU3 := Lib.hid hU2
          have HGet := Lib.hid hget
          have c0 := hG.cells.1
          have hNl := hG.cells.2.2.2.2
          have HGk := Lib.hid hG
          obtain ⟨ip, zp, hip, hzp, hsp, hzsp⟩ := info_ptr3
          have HInf := Lib.hid (And.intro hip (And.intro hzp (And.intro hsp hzsp)))
          have m1 : (j : Int) < (k : Int) + 1 := by omega
          clear hip hzp hsp hzsp
          clear hG hU1 hU2 hget hV hq hwf
          cases ok <;> (
            go_wp2_with fail
            refine HGet.out.mono ?_
            rintro e w4 ⟨rfl, hr4, hf4⟩
            have hG4 := HGk.out.read HPl.out hf4 hr4
            have HG4 := Lib.hid hG4
            clear hG4 hr4 hf4 c0 hNl
            go_wp2_with (refine store_ptr rfl (.tmp 15) (.tmp 91) rfl rfl rfl (heap_alloc_new _ _) rfl HW.out ?_)
            intro w5 hb5 hf5 hs5
            have hbel5 : Below w4.heap.size w4 w5 := ((Below.refl _ w4).alloc (Nat.le_refl _) _).trans (hf5.below (by simp) (fun k hk => by omega))
            have hG5 := HG4.out.below HPl.out (isRdr_rd rb ob) hbel5
            have c3 := hG5.cells.2.2.2.1
            have hNl := hG5.cells.2.2.2.2
            have HAT := Lib.hid (show At w5 w4.heap.size 0 p.cells from At.of_row hb5)
            have HG5 := Lib.hid hG5
            clear hb5 hf5 hs5 hbel5 hG5
            have HO5 := Lib.hid (own_alloc HG5.out.1.2.2.2.1 (.cells p.arr 43))
            have HSl := Lib.hid (show Sl (w5.alloc (.cells p.arr 43)) 34 (.slice (some ⟨w5.heap.size, 0, none⟩) 1 1) 1 p.cells from Sl_row (heap_alloc_new _ _) p.arr_toList (by rw [HW.out.len]))
            have hbase : B0 ≤ (w5.alloc (.cells p.arr 43)).heap.size := by have := HG5.out.2.2.2.2; simp; omega
            have HBase := Lib.hid hbase
            clear hbase
            go_wp2_with (first
              | (refine load_ptr rfl (.tmp 15) rfl rfl HAT.out HW.out ?_)
              | (refine build_many rfl 23 43 1 _ rfl [p.arr] ?_ rfl Tryz.underlying23 ip zp 34 HInf.out.1 HInf.out.2.1 HInf.out.2.2.1 HInf.out.2.2.2 (P1_size HW.out) (by decide) (by decide) (by decide) ?_)
              | (at_builtin; refine append_ptrs rfl (.tmp 94) (.tmp 96) rfl HO5.out HW.out HSl.out rfl rfl (by omega) HBase.out ?_))
            intro aa cc w6 hown hf h3
            have hkept := HG5.out.kept HPl.out HG5.out.own.2.2 rfl hf
            have c3 := (cell_of_row _ _ 3 _ _ _ hkept).trans rfl
            have f3 := free_row (i := 3) hkept
            have hG6 := HG5.out.kid HW.out HPl.out (isRdr_rd rb ob) rfl (by first | exact hown | (simpa using hown)) hf (by rw [World.size_alloc]; exact h3)
            have HG6 := Lib.hid hG6
            clear hown hf h3 hkept hG6
            go_wp2
            go_roundw
            case rel =>
              refine ⟨j + 1, by omega, by go_num, by rw [HU3.out]; simp, _, by rw [HU3.out]; exact HG6.out⟩
            case measure => simp [intOf]; omega)
        · obtain rfl : j = k + 1 := by omega
          obtain ⟨V, hV⟩ : ∃ V, V = U (k + 1) := ⟨_, rfl⟩
          have ht := HTold0.out
          have h2 := HU2.out
          rw [← hV] at hG hur ht h2 ⊢
          have HTold := Lib.hid ht
          have HRest := Lib.hid (show V.rest = (tell2 xs).rest by rw [h2])
          obtain ⟨OK, hOK⟩ : ∃ OK, OK = V.ok := ⟨_, rfl⟩
          have HOk := Lib.hid (show OK = (tell2 xs).ok by rw [hOK, h2])
          rw [← hOK]
          have hrl := hur.1
          have HGr := Lib.hid hG
          have m1 : ¬ ((k : Int) + 1 < (k : Int) + 1) := by omega
          clear hG ht h2 hV hOK hur
          cases hok : OK with
          | false =>
            rw [hok] at HOk
            have HQ := Lib.hid (get_no HL.out (show getOk xs = false by unfold getOk; rw [← HOk.out]; rfl))
            clear hok
            go_wp2_with (refine store_nd rfl (.tmp 2) (.tmp 117) rfl rfl (arr := zeroArr) rfl HGr.out.2.2.1 rfl rfl (zero_is w).one ?_)
            intro w9 hg9 hf9 hs9
            have HG9 := Lib.hid hg9
            have HB9 := Lib.hid (HGr.out.2.2.2.1.trans (hf9.below HGr.out.2.2.2.1.size (fun k hk => by have := HPl.out.wr; omega)))
            clear hg9 hf9 hs9
            go_wp2
            refine bodyPost_ret (ret_nd rfl rfl HG9.out rfl) rfl ?_
            exact ⟨zeroArr, by rw [HQ.out.1]; rfl, by rw [HQ.out.2]; exact zero_is _, HB9.out, zero_fr _⟩
          | true =>
            rw [hok] at HOk
            clear hok
            go_wp2_with fail
            refine (rEnd_any rb V.rest _ HGr.out.2.1.rd (by omega)).mono ?_
            rintro e w7 ⟨rfl, -, hb7⟩
            have HG7 := Lib.hid (HGr.out.below HPl.out (isRdr_rd rb ob) hb7)
            clear hb7
            by_cases hE : endE V.rest = 0
            case neg =>
              have HQ := Lib.hid (get_no HL.out (show getOk xs = false by
                unfold getOk
                rw [← HRest.out, show (endE V.rest == 0) = false by simpa using hE]; simp))
              have hE4 : endE V.rest = 4 := by rcases endE_cases V.rest with h | h; (· exact absurd h hE); (· exact h)
              rw [hE4]
              clear hE hE4
              go_wp2_with (refine store_nd rfl (.tmp 2) (.tmp 117) rfl rfl (arr := zeroArr) rfl HG7.out.2.2.1 rfl rfl (zero_is w).one ?_)
              intro w9 hg9 hf9 hs9
              have HG9 := Lib.hid hg9
              have HB9 := Lib.hid (HG7.out.2.2.2.1.trans (hf9.below HG7.out.2.2.2.1.size (fun k hk => by have := HPl.out.wr; omega)))
              clear hg9 hf9 hs9
              go_wp2
              refine bodyPost_ret (ret_nd rfl rfl HG9.out rfl) rfl ?_
              exact ⟨zeroArr, by rw [HQ.out.1]; rfl, by rw [HQ.out.2]; exact zero_is _, HB9.out, zero_fr _⟩
            case pos =>
              rw [hE]
              have HE := Lib.hid hE
              have HT7 := Lib.hid (At_nd HG7.out.1.1)
              clear hE
              go_wp2_with (refine gload_nd rfl (.tmp 9) rfl rfl HT7.out rfl ?_)
              refine (check_any _ (toldN xs) _ (by rw [HTold.out]; exact HG7.out.1.is) (toldN_fits xs)).mono ?_
              rintro e w8 ⟨rfl, hb8⟩
              have HG8 := Lib.hid (HG7.out.below HPl.out (isRdr_rd rb ob) hb8)
              clear hb8
              by_cases hC : checkE (toldN xs) = 0
              case neg =>
                have HQ := Lib.hid (get_no HL.out (show getOk xs = false by
                  unfold getOk
                  rw [show (checkE (toldN xs) == 0) = false by simpa using hC]; simp))
                have hbe : (checkE (toldN xs) != 0) = true := by simpa using hC
                clear hC
                go_wp2_with (refine store_nd rfl (.tmp 2) (.tmp 117) rfl rfl (arr := zeroArr) rfl HG8.out.2.2.1 rfl rfl (zero_is w).one ?_)
                intro w9 hg9 hf9 hs9
                have HG9 := Lib.hid hg9
                have HB9 := Lib.hid (HG8.out.2.2.2.1.trans (hf9.below HG8.out.2.2.2.1.size (fun k hk => by have := HPl.out.wr; omega)))
                clear hg9 hf9 hs9
                go_wp2
                refine bodyPost_ret (ret_nd rfl rfl HG9.out rfl) rfl ?_
                exact ⟨zeroArr, by rw [HQ.out.1]; rfl, by rw [HQ.out.2]; exact zero_is _, HB9.out, zero_fr _⟩
              case pos =>
                have HQ := Lib.hid (get_ok HL.out (show getOk xs = true by
                  unfold getOk
                  rw [← HRest.out, ← HOk.out, HE.out, hC]; rfl))
                rw [hC]
                clear hC
                have HT8 := Lib.hid (At_nd HG8.out.1.1)
                have HN8 := Lib.hid HG8.out.1.is
                go_wp2_with (first | (refine load_nd rfl (.tmp 9) rfl rfl HT8.out rfl ?_) | (refine store_nd rfl (.tmp 2) (.tmp 118) rfl rfl rfl HG8.out.2.2.1 rfl rfl HN8.out.one ?_))
                intro w9 hg9 hf9 hs9
                have HG9 := Lib.hid hg9
                have HN9 := Lib.hid ((HG8.out.1.fr hf9 HPl.out.nr (fun k h1 _ e => by have := HPl.out.pr; omega)).is)
                have HB9 := Lib.hid (HG8.out.2.2.2.1.trans (hf9.below HG8.out.2.2.2.1.size (fun k hk => by have := HPl.out.wr; omega)))
                clear hg9 hf9 hs9
                go_wp2
                refine bodyPost_ret (ret_nd rfl rfl HG9.out rfl) rfl ?_
                exact ⟨_, by rw [HQ.out.1]; rfl, by rw [HQ.out.2, HTold.out]; exact HN9.out, HB9.out, HG8.out.frs HPl.out⟩

theorem nodeGetF_any (v : Value) (xs : List UInt8) (w : World) (h : Sl w 1 v xs.length (xs.map Bv)) : Calls Tryz.prog 70 #[v] w (GetPostF xs w) := by
  by_cases hl : xs.length = 512
  · rw [hl] at h
    by_cases hk : kind xs = 1
    · exact nodeGet_leaf v xs w h hk
    · exact nodeGet_inner v xs w h hk
  · exact nodeGet_short v xs w h hl
end Go.Proofs.YtkbnkdokcmpcgaaGreatDoor
namespace Go.Proofs.YtkbnkdokcmpcgaaGreatDoor
open Go.RowKit

set_option maxRecDepth 100000 in
set_option maxHeartbeats 4000000 in
theorem poRead_null (P D S W birth lo : Nat) (ks : List UInt8) (t : Nat → Bool) (Fd : Nat → Prop) (d : Dv) (p : Pt) (w : World) (h : PlAt w P D S W d.size ks t birth) (hd : DvIn w lo D Fd d) (hp : p.Wf) (h0 : p.addr = 0) :
    Calls Tryz.prog 22 #[.pointer (some ⟨P, 0, none⟩), .agg p.arr] w fun e w' => e = .returned (.tuple #[.agg zeroArr, .int .i64 2]) ∧ Below w.heap.size w w' := by
  have h0 : decide (p.addr = 0) = true := by simp [h0]
  have HPw := Lib.hid hp
  have HA := Lib.hid (al2_0 w (.cells p.arr 43) (.cells zeroArr 25))
  have HN := Lib.hid (al2_1 w (.cells p.arr 43) (.cells zeroArr 25))
  have HB := Lib.hid (show Below w.heap.size w ((w.alloc (.cells p.arr 43)).alloc (.cells zeroArr 25)) from ((Below.refl _ w).alloc (Nat.le_refl _) _).alloc (by simp) _)
  have HH := Lib.hid (h.below HB.out)
  have HD := Lib.hid (hd.below HB.out)
  have HPl := Lib.hid (h.lt P (Or.inl rfl))
  clear h hd hp
  go_enter Tryz.func22, Tryz.ntmps22
  go_wp2_with fail
  generalize hW : World.alloc _ _ = W1
  have HA1 := Lib.hid (show W1.heap[w.heap.size]? = some (.cells p.arr 43 (0, 0)) by rw [← hW]; exact HA.out)
  have HN1 := Lib.hid (show W1.heap[w.heap.size + 1]? = some (.cells zeroArr 25 (0, 0)) by rw [← hW]; exact HN.out)
  have HB1 := Lib.hid (show Below w.heap.size w W1 by rw [← hW]; exact HB.out)
  have HH1 := Lib.hid (show PlAt W1 P D S W d.size ks t birth by rw [← hW]; exact HH.out)
  have HD1 := Lib.hid (show DvIn W1 lo D Fd d by rw [← hW]; exact HD.out)
  clear hW HA HN HB HH HD
  have c0 := HH1.out.cells.1
  have u0 := fun (u : Wd W1.heap.size W1) => u.cell' c0
  have HPat := Lib.hid (fun w' (hw : ∃ u : Wd W1.heap.size W1, w' = u.to) => (by obtain ⟨u, rfl⟩ := hw; exact u.at (At.of_row HA1.out) : At w' w.heap.size 0 p.cells))
  have hD0 : W1.cell? ⟨D, 0, none⟩ = some (.int .i64 (d.size : Int)) := by
    obtain ⟨L, T, wv, h1, _⟩ := HD1.out
    exact h1.cells.1
  have HSz := Lib.hid (fun (u : Wd W1.heap.size W1) => Calls.wd_same u (dvSize_any D d.size u.to (u.cell' hD0)))
  have hle : d.size ≤ 4096 := HH1.out.sp.2.2.1
  have HNull := Lib.hid (fun (u : Wd W1.heap.size W1) => (Calls.wd u (Nat.le_refl _) (ptrNull_any p u.to) : Calls Tryz.prog 53 #[.agg p.cells.toArray] u.to fun e w'' => e = .returned (.bool (decide (p.addr = 0))) ∧ ∃ u' : Wd W1.heap.size W1, w'' = u'.to))
  have HChk := Lib.hid (fun (u : Wd W1.heap.size W1) => (Calls.wd u (Nat.le_refl _) (ptrCheck_any p (d.size : Int) u.to HPw.out (by omega)) : Calls Tryz.prog 68 #[.agg p.cells.toArray, .int .i64 (d.size : Int)] u.to fun e w'' => e = .returned (.int .i64 (ptrE p d.size)) ∧ ∃ u' : Wd W1.heap.size W1, w'' = u'.to))
  clear c0 hD0 hle
  rw [h0] at HNull
  refine wp_region_wd W1.heap.size (by kernel_rfl) (by kernel_rfl) ?_
  repeat (first
    | (refine wpQuiet_load_at rfl 43 (.tmp 3) rfl w.heap.size 0 rfl _ _ HPat.out Tryz.underlying43 rfl (by rw [info_ptr, HPw.out.len]) ?_; simp only [Act.put, sA, sB, sC])
    | go_big_quiet_step (first | with_reducible exact HSz.out _ | with_reducible exact HNull.out _ | with_reducible exact HChk.out _))
  refine wpQuiet_nil ?_
  rintro w3 ⟨⟨_, hb3⟩, rfl⟩
  rename_i w3
  have HB3 := Lib.hid (HB1.out.trans (hb3.mono HB1.out.size))
  have HA3 := Lib.hid ((hb3.block _ (lt_of_block HA1.out)).trans HA1.out)
  have HN3 := Lib.hid ((hb3.block _ (lt_of_block HN1.out)).trans HN1.out)
  have HH3 := Lib.hid (HH1.out.below hb3)
  have HD3 := Lib.hid (HD1.out.below hb3)
  clear hb3 u0 HSz HNull HChk HPat HA1 HN1 HH1 HD1
  go_wp2_with (refine store_nd rfl (.tmp 4) (.tmp 26) rfl rfl (arr := zeroArr) rfl HN3.out rfl rfl (zero_is w).one ?_; intro we hge hfe hse; have HGe := Lib.hid hge; have HFe := Lib.hid hfe; clear hge hfe hse)
  refine bodyPost_ret (ret_nd rfl rfl HGe.out rfl) rfl ?_
  exact ⟨rfl, HB3.out.trans (HFe.out.below HB3.out.size (fun k hk => by omega))⟩

set_option maxRecDepth 100000 in
set_option maxHeartbeats 4000000 in
theorem poRead_form (P D S W birth lo : Nat) (ks : List UInt8) (t : Nat → Bool) (Fd : Nat → Prop) (d : Dv) (p : Pt) (w : World) (h : PlAt w P D S W d.size ks t birth) (hd : DvIn w lo D Fd d) (hp : p.Wf) (h0 : p.addr ≠ 0) (h1 : ptrE p d.size ≠ 0) :
    Calls Tryz.prog 22 #[.pointer (some ⟨P, 0, none⟩), .agg p.arr] w fun e w' => e = .returned (.tuple #[.agg zeroArr, .int .i64 2]) ∧ Below w.heap.size w w' := by
  have h0 : decide (p.addr = 0) = false := by simp [h0]
  have hb1 : (ptrE p d.size != 0) = true := by simpa using h1
  have HPw := Lib.hid hp
  have HA := Lib.hid (al2_0 w (.cells p.arr 43) (.cells zeroArr 25))
  have HN := Lib.hid (al2_1 w (.cells p.arr 43) (.cells zeroArr 25))
  have HB := Lib.hid (show Below w.heap.size w ((w.alloc (.cells p.arr 43)).alloc (.cells zeroArr 25)) from ((Below.refl _ w).alloc (Nat.le_refl _) _).alloc (by simp) _)
  have HH := Lib.hid (h.below HB.out)
  have HD := Lib.hid (hd.below HB.out)
  have HPl := Lib.hid (h.lt P (Or.inl rfl))
  clear h hd hp
  go_enter Tryz.func22, Tryz.ntmps22
  go_wp2_with fail
  generalize hW : World.alloc _ _ = W1
  have HA1 := Lib.hid (show W1.heap[w.heap.size]? = some (.cells p.arr 43 (0, 0)) by rw [← hW]; exact HA.out)
  have HN1 := Lib.hid (show W1.heap[w.heap.size + 1]? = some (.cells zeroArr 25 (0, 0)) by rw [← hW]; exact HN.out)
  have HB1 := Lib.hid (show Below w.heap.size w W1 by rw [← hW]; exact HB.out)
  have HH1 := Lib.hid (show PlAt W1 P D S W d.size ks t birth by rw [← hW]; exact HH.out)
  have HD1 := Lib.hid (show DvIn W1 lo D Fd d by rw [← hW]; exact HD.out)
  clear hW HA HN HB HH HD
  have c0 := HH1.out.cells.1
  have u0 := fun (u : Wd W1.heap.size W1) => u.cell' c0
  have HPat := Lib.hid (fun w' (hw : ∃ u : Wd W1.heap.size W1, w' = u.to) => (by obtain ⟨u, rfl⟩ := hw; exact u.at (At.of_row HA1.out) : At w' w.heap.size 0 p.cells))
  have hD0 : W1.cell? ⟨D, 0, none⟩ = some (.int .i64 (d.size : Int)) := by
    obtain ⟨L, T, wv, h1, _⟩ := HD1.out
    exact h1.cells.1
  have HSz := Lib.hid (fun (u : Wd W1.heap.size W1) => Calls.wd_same u (dvSize_any D d.size u.to (u.cell' hD0)))
  have hle : d.size ≤ 4096 := HH1.out.sp.2.2.1
  have HNull := Lib.hid (fun (u : Wd W1.heap.size W1) => (Calls.wd u (Nat.le_refl _) (ptrNull_any p u.to) : Calls Tryz.prog 53 #[.agg p.cells.toArray] u.to fun e w'' => e = .returned (.bool (decide (p.addr = 0))) ∧ ∃ u' : Wd W1.heap.size W1, w'' = u'.to))
  have HChk := Lib.hid (fun (u : Wd W1.heap.size W1) => (Calls.wd u (Nat.le_refl _) (ptrCheck_any p (d.size : Int) u.to HPw.out (by omega)) : Calls Tryz.prog 68 #[.agg p.cells.toArray, .int .i64 (d.size : Int)] u.to fun e w'' => e = .returned (.int .i64 (ptrE p d.size)) ∧ ∃ u' : Wd W1.heap.size W1, w'' = u'.to))
  clear c0 hD0 hle
  rw [h0] at HNull
  refine wp_region_wd W1.heap.size (by kernel_rfl) (by kernel_rfl) ?_
  repeat (first
    | (refine wpQuiet_load_at rfl 43 (.tmp 3) rfl w.heap.size 0 rfl _ _ HPat.out Tryz.underlying43 rfl (by rw [info_ptr, HPw.out.len]) ?_; simp only [Act.put, sA, sB, sC])
    | go_big_quiet_step (first | with_reducible exact HSz.out _ | with_reducible exact HNull.out _ | with_reducible exact HChk.out _))
  refine wpQuiet_nil ?_
  rintro w3 ⟨⟨_, hb3⟩, rfl⟩
  rename_i w3
  have HB3 := Lib.hid (HB1.out.trans (hb3.mono HB1.out.size))
  have HA3 := Lib.hid ((hb3.block _ (lt_of_block HA1.out)).trans HA1.out)
  have HN3 := Lib.hid ((hb3.block _ (lt_of_block HN1.out)).trans HN1.out)
  have HH3 := Lib.hid (HH1.out.below hb3)
  have HD3 := Lib.hid (HD1.out.below hb3)
  clear hb3 u0 HSz HNull HChk HPat HA1 HN1 HH1 HD1
  go_wp2_with (refine store_nd rfl (.tmp 4) (.tmp 26) rfl rfl (arr := zeroArr) rfl HN3.out rfl rfl (zero_is w).one ?_; intro we hge hfe hse; have HGe := Lib.hid hge; have HFe := Lib.hid hfe; clear hge hfe hse)
  refine bodyPost_ret (ret_nd rfl rfl HGe.out rfl) rfl ?_
  exact ⟨rfl, HB3.out.trans (HFe.out.below HB3.out.size (fun k hk => by omega))⟩

end Go.Proofs.YtkbnkdokcmpcgaaGreatDoor
namespace Go.Proofs.YtkbnkdokcmpcgaaGreatDoor
open Go.RowKit

theorem ptrE_lt {p : Pt} {n : Nat} (h0 : p.addr ≠ 0) (h : ptrE p n = 0) : p.addr < n := by
  unfold ptrE at h
  split at h
  · rename_i h1
    unfold ptrOk at h1
    simp [h0] at h1
    omega
  · cases h
theorem Sl.keep {w w' : World} {g n size : Nat} {v : Value} {xs : List Value} {cs : Array Value} {t : TypeId} (h : Sl w size v n xs) (hg : w.heap[g]? = some (.cells cs t (0, 0))) (hne : ∀ u ∈ xs, u ∉ cs.toList) (hf : Fr (fun k => k = g) w w') : Sl w' size v n xs := by
  obtain ⟨hl, a, cap, rfl, h2, h3, h4⟩ := h
  refine ⟨hl, a, cap, rfl, h2, h3, fun i u hu => ?_⟩
  obtain ⟨b, o, rfl, hc⟩ := h4 i u hu
  refine ⟨b, o, rfl, hf.cell hc ?_⟩
  intro e
  dsimp only at e
  subst e
  rw [cell_of_row w b (o + i) _ _ _ hg] at hc
  exact hne u (List.mem_of_getElem? hu) (by rw [← Array.getElem?_toList] at hc; exact List.mem_of_getElem? hc)
theorem NdIs.keep {w w' : World} {g : Nat} {arr : Array Value} {n : Nd} {t : TypeId} (h : NdIs w arr n) (hg : w.heap[g]? = some (.cells zeroArr t (0, 0))) (hf : Fr (fun k => k = g) w w') : NdIs w' arr n := by
  obtain ⟨vk, vv, vp, h0, h1, h2, h3⟩ := h
  refine ⟨vk, vv, vp, h0, Sl.keep h1 hg ?_ hf, Sl.keep h2 hg ?_ hf, Sl.keep h3.sl hg ?_ hf, h3.wf⟩
  · intro u hu hc
    obtain ⟨s, _, rfl⟩ := List.mem_map.1 hu
    simp [zeroArr] at hc
  · intro u hu hc
    obtain ⟨s, _, rfl⟩ := List.mem_map.1 hu
    simp [zeroArr] at hc
  · intro u hu hc
    obtain ⟨l, hl, hu⟩ := List.mem_flatten.1 hu
    obtain ⟨q, _, rfl⟩ := List.mem_map.1 hl
    unfold Pt.cells at hu
    rcases List.mem_cons.1 hu with rfl | hu
    · simp [zeroArr] at hc
    rcases List.mem_cons.1 hu with rfl | hu
    · simp [zeroArr] at hc
    obtain ⟨s, _, rfl⟩ := List.mem_map.1 hu
    simp [zeroArr, Bv] at hc
def openB (ks : List UInt8) (d : Dv) (p : Pt) : List UInt8 := cryptB (ks.take 32) (nonceB p.birth p.addr) (d.cur p.addr)
def RdPost (w : World) (ks : List UInt8) (d : Dv) (p : Pt) (e : Ending) (w' : World) : Prop :=
  if d.down = true then e = .returned (.tuple #[.agg zeroArr, .int .i64 7]) ∧ Below w.heap.size w w'
  else if hashN (d.cur p.addr) = p.sum then GetPost (openB ks d p) w e w'
  else e = .returned (.tuple #[.agg zeroArr, .int .i64 5]) ∧ Below w.heap.size w w'
def RdPostF (w : World) (ks : List UInt8) (d : Dv) (p : Pt) (e : Ending) (w' : World) : Prop :=
  if d.down = true then e = .returned (.tuple #[.agg zeroArr, .int .i64 7]) ∧ Below w.heap.size w w'
  else if hashN (d.cur p.addr) = p.sum then GetPostF (openB ks d p) w e w'
  else e = .returned (.tuple #[.agg zeroArr, .int .i64 5]) ∧ Below w.heap.size w w'
theorem RdPostF.down {w w' : World} {ks : List UInt8} {d : Dv} {p : Pt} (h : d.down = true) (hb : Below w.heap.size w w') : RdPostF w ks d p (.returned (.tuple #[.agg zeroArr, .int .i64 7])) w' := by
  unfold RdPostF; rw [if_pos h]; exact ⟨rfl, hb⟩
theorem RdPostF.no {w w' : World} {ks : List UInt8} {d : Dv} {p : Pt} (h : d.down = false) (h2 : hashN (d.cur p.addr) ≠ p.sum) (hb : Below w.heap.size w w') : RdPostF w ks d p (.returned (.tuple #[.agg zeroArr, .int .i64 5])) w' := by
  unfold RdPostF; rw [if_neg (by rw [h]; simp), if_neg h2]; exact ⟨rfl, hb⟩
theorem RdPostF.yes {w w' : World} {ks : List UInt8} {d : Dv} {p : Pt} {arr : Array Value} (h : d.down = false) (h2 : hashN (d.cur p.addr) = p.sum) (hn : NdIs w' arr (getN (openB ks d p))) (hb : Below w.heap.size w w') (hr : NdFr w.heap.size arr) :
    RdPostF w ks d p (.returned (.tuple #[.agg arr, .int .i64 (getE (openB ks d p))])) w' := by
  unfold RdPostF; rw [if_neg (by rw [h]; simp), if_pos h2]; exact ⟨arr, rfl, hn, hb, hr⟩

set_option maxRecDepth 100000 in
set_option maxHeartbeats 4000000 in
theorem poReadF_any (P D S W birth lo : Nat) (ks : List UInt8) (t : Nat → Bool) (Fd : Nat → Prop) (d : Dv) (p : Pt) (w : World) (h : PlAt w P D S W d.size ks t birth) (hd : DvIn w lo D Fd d) (hp : p.Wf) (h0 : p.addr ≠ 0) (h1 : ptrE p d.size = 0) (hn : d.waits.length ≤ 1000000) :
    Calls Tryz.prog 22 #[.pointer (some ⟨P, 0, none⟩), .agg p.arr] w fun e w' => RdPostF w ks d p e w' := by
  have HAl := Lib.hid (ptrE_lt h0 h1)
  have HWn := Lib.hid hn
  have h0 : decide (p.addr = 0) = false := by simp [h0]
  clear hn
  have HPw := Lib.hid hp
  have HA := Lib.hid (al2_0 w (.cells p.arr 43) (.cells zeroArr 25))
  have HN := Lib.hid (al2_1 w (.cells p.arr 43) (.cells zeroArr 25))
  have HB := Lib.hid (show Below w.heap.size w ((w.alloc (.cells p.arr 43)).alloc (.cells zeroArr 25)) from ((Below.refl _ w).alloc (Nat.le_refl _) _).alloc (by simp) _)
  have HH := Lib.hid (h.below HB.out)
  have HD := Lib.hid (hd.below HB.out)
  have HPl := Lib.hid (h.lt P (Or.inl rfl))
  clear h hd hp
  go_enter Tryz.func22, Tryz.ntmps22
  go_wp2_with fail
  generalize hW : World.alloc _ _ = W1
  have HA1 := Lib.hid (show W1.heap[w.heap.size]? = some (.cells p.arr 43 (0, 0)) by rw [← hW]; exact HA.out)
  have HN1 := Lib.hid (show W1.heap[w.heap.size + 1]? = some (.cells zeroArr 25 (0, 0)) by rw [← hW]; exact HN.out)
  have HB1 := Lib.hid (show Below w.heap.size w W1 by rw [← hW]; exact HB.out)
  have HH1 := Lib.hid (show PlAt W1 P D S W d.size ks t birth by rw [← hW]; exact HH.out)
  have HD1 := Lib.hid (show DvIn W1 lo D Fd d by rw [← hW]; exact HD.out)
  clear hW HA HN HB HH HD
  have c0 := HH1.out.cells.1
  have u0 := fun (u : Wd W1.heap.size W1) => u.cell' c0
  have HPat := Lib.hid (fun w' (hw : ∃ u : Wd W1.heap.size W1, w' = u.to) => (by obtain ⟨u, rfl⟩ := hw; exact u.at (At.of_row HA1.out) : At w' w.heap.size 0 p.cells))
  have hD0 : W1.cell? ⟨D, 0, none⟩ = some (.int .i64 (d.size : Int)) := by
    obtain ⟨L, T, wv, h1, _⟩ := HD1.out
    exact h1.cells.1
  have HSz := Lib.hid (fun (u : Wd W1.heap.size W1) => Calls.wd_same u (dvSize_any D d.size u.to (u.cell' hD0)))
  have hle : d.size ≤ 4096 := HH1.out.sp.2.2.1
  have HNull := Lib.hid (fun (u : Wd W1.heap.size W1) => (Calls.wd u (Nat.le_refl _) (ptrNull_any p u.to) : Calls Tryz.prog 53 #[.agg p.cells.toArray] u.to fun e w'' => e = .returned (.bool (decide (p.addr = 0))) ∧ ∃ u' : Wd W1.heap.size W1, w'' = u'.to))
  have HChk := Lib.hid (fun (u : Wd W1.heap.size W1) => (Calls.wd u (Nat.le_refl _) (ptrCheck_any p (d.size : Int) u.to HPw.out (by omega)) : Calls Tryz.prog 68 #[.agg p.cells.toArray, .int .i64 (d.size : Int)] u.to fun e w'' => e = .returned (.int .i64 (ptrE p d.size)) ∧ ∃ u' : Wd W1.heap.size W1, w'' = u'.to))
  clear c0 hD0 hle
  rw [h0] at HNull
  rw [h1] at HChk
  refine wp_region_wd W1.heap.size (by kernel_rfl) (by kernel_rfl) ?_
  repeat (first
    | (refine wpQuiet_load_at rfl 43 (.tmp 3) rfl w.heap.size 0 rfl _ _ HPat.out Tryz.underlying43 rfl (by rw [info_ptr, HPw.out.len]) ?_; simp only [Act.put, sA, sB, sC])
    | go_big_quiet_step (first | with_reducible exact HSz.out _ | with_reducible exact HNull.out _ | with_reducible exact HChk.out _))
  refine wpQuiet_nil ?_
  rintro w3 ⟨⟨_, hb3⟩, rfl⟩
  rename_i w3
  have HB3 := Lib.hid (HB1.out.trans (hb3.mono HB1.out.size))
  have HA3 := Lib.hid ((hb3.block _ (lt_of_block HA1.out)).trans HA1.out)
  have HN3 := Lib.hid ((hb3.block _ (lt_of_block HN1.out)).trans HN1.out)
  have HH3 := Lib.hid (HH1.out.below hb3)
  have HD3 := Lib.hid (HD1.out.below hb3)
  clear hb3 u0 HSz HNull HChk HPat HA1 HN1 HH1 HD1
  have cP0 := HH3.out.cells.1
  have cB0 : w3.cell? ⟨w.heap.size, 0, none⟩ = some (.int .u32 (p.addr : Int)) := by simpa using (At.of_row HA3.out : At w3 w.heap.size 0 p.cells) 0 _ rfl
  cases hdn : d.down with
  | true =>
    have HDn := Lib.hid hdn
    have HRd := Lib.hid (dvRead_down D p.addr lo Fd d w3.drew (HD3.out.fr ((Fr.refl (fun _ => False) w3).drew) (fun _ _ => id)) HAl.out hdn)
    clear hdn
    go_wp2_with fail
    refine wp_region_class_one 6 (C := fun w' => w' = w3.drew) (by kernel_rfl) (by kernel_rfl) rfl rfl ?_
    simp only [List.take_succ_cons, List.take_zero, List.drop_succ_cons, List.drop_zero]
    repeat (go_big_quiet_step (fail))
    refine wpQuiet_nil ?_
    refine ⟨rfl, ?_⟩
    rintro _ rfl KK hKK
    have HKK := Lib.hid hKK
    clear hKK
    unfold Oper.wp execOp
    go_simp
    refine HRd.out.mono ?_
    rintro e w4 ⟨rfl, rfl⟩
    refine HKK.out _ _ ?_
    clear HKK
    repeat (go_big_quiet_step (fail))
    refine wpQuiet_nil ?_
    rintro _ ⟨nq, rfl⟩
    obtain ⟨wq, hwq⟩ : ∃ wq, wq = w3.drew.drewN nq := ⟨_, rfl⟩
    rw [← hwq]
    have HBq := Lib.hid (show Below w.heap.size w wq by rw [hwq]; exact belowDrewN HB3.out.drew _)
    have HNq := Lib.hid (show wq.heap[w.heap.size + 1]? = some (.cells zeroArr 25 (0, 0)) by rw [hwq]; exact HN3.out)
    clear hwq
    go_wp2_with (refine store_nd rfl (.tmp 4) (.tmp 39) rfl rfl (arr := zeroArr) rfl HNq.out rfl rfl (zero_is w).one ?_; intro we hge hfe hse; have HGe := Lib.hid hge; have HFe := Lib.hid hfe; clear hge hfe hse)
    refine bodyPost_ret (ret_nd rfl rfl HGe.out rfl) rfl ?_
    exact RdPostF.down HDn.out (HBq.out.trans (HFe.out.below HBq.out.size (fun k hk => by omega)))
  | false =>
    have HDn := Lib.hid hdn
    have HRd := Lib.hid (dvRead_ok D p.addr lo Fd d w3.drew (HD3.out.fr ((Fr.refl (fun _ => False) w3).drew) (fun _ _ => id)) HAl.out hdn HWn.out)
    clear hdn
    go_wp2_with fail
    refine wp_region_class_one 6 (C := fun w' => w' = w3.drew) (by kernel_rfl) (by kernel_rfl) rfl rfl ?_
    simp only [List.take_succ_cons, List.take_zero, List.drop_succ_cons, List.drop_zero]
    repeat (go_big_quiet_step (fail))
    refine wpQuiet_nil ?_
    refine ⟨rfl, ?_⟩
    rintro _ rfl KK hKK
    have HKK := Lib.hid hKK
    clear hKK
    unfold Oper.wp execOp
    go_simp
    refine HRd.out.mono ?_
    rintro e w4 ⟨rfl, hr4, hb4⟩
    have hb3q : Below w3.heap.size w3 w4 := (Below.refl _ w3).drew.trans hb4
    refine HKK.out _ _ ?_
    clear HKK
    repeat (go_big_quiet_step (fail))
    refine wpQuiet_nil ?_
    rintro _ ⟨nq, rfl⟩
    obtain ⟨wq, hwq⟩ : ∃ wq, wq = w4.drewN nq := ⟨_, rfl⟩
    obtain ⟨g4, hg4⟩ : ∃ g, g = w3.heap.size := ⟨_, rfl⟩
    rw [show w3.drew.heap.size = w3.heap.size from rfl] at hr4
    have hb4q : Below w3.heap.size w3 wq := by rw [hwq]; exact belowDrewN hb3q _
    have HBq := Lib.hid (HB3.out.trans (hb4q.mono HB3.out.size))
    have HNq := Lib.hid ((hb4q.block _ (lt_of_block HN3.out)).trans HN3.out)
    have HAq := Lib.hid ((hb4q.block _ (lt_of_block HA3.out)).trans HA3.out)
    have HHq := Lib.hid (HH3.out.below hb4q)
    have HCq := Lib.hid (show Sl wq 1 (.slice (some ⟨g4, 0, none⟩) 512 512) 512 ((d.cur p.addr).map Bv) from by
      have hcl : ((d.cur p.addr).map Bv).length = 512 := by
        obtain ⟨L, T, wv, h1, _⟩ := HD3.out
        rw [List.length_map, h1.wf.cur]
      refine ⟨by rw [hcl], some ⟨g4, 0, none⟩, 512, rfl, Nat.le_refl _, (fun h => by cases h), ?_⟩
      intro i u hi
      have hil : i < 512 := by rw [← hcl]; exact (List.getElem?_eq_some_iff.1 hi).1
      refine ⟨g4, 0, rfl, ?_⟩
      rw [hwq, hg4, Nat.zero_add]
      exact (cell_of_row w4 _ _ _ _ _ hr4).trans (by simpa using hi))
    rw [show w3.drew.heap.size = w3.heap.size from rfl, ← hwq, ← hg4]
    clear hr4 hg4 hb4 hb3q hb4q hwq HH3 HD3 HA3 HN3 HB3 cP0 cB0 HRd
    obtain ⟨cs, hcs⟩ : ∃ cs, cs = d.cur p.addr := ⟨_, rfl⟩
    rw [← hcs] at HCq
    have HCs := Lib.hid hcs
    have HCl := Lib.hid (show cs.length = 512 by have := HCq.out.1; simpa using this)
    have hKat := HHq.out.cells.2.1
    have HKl := Lib.hid HHq.out.ks
    have HKat := Lib.hid (fun w' (hw : w' = wq.drew) => (by rw [hw]; exact hKat : At w' P 1 (ks.map Bv)))
    have HPat := Lib.hid (fun w' (hw : w' = wq.drew) => (by rw [hw]; exact At.of_row HAq.out : At w' w.heap.size 0 p.cells))
    clear hcs hKat
    by_cases hsum : hashN cs = p.sum
    · have HSm := Lib.hid hsum
      have HOp := Lib.hid (open_yes ks cs p (.slice (some ⟨g4, 0, none⟩) 512 512) wq.drew HKl.out HPw.out HCl.out (HCq.out.below (Below.refl _ wq).drew) hsum)
      clear hsum
      go_wp2_with fail
      refine wp_region_class_one 6 (C := fun w' => w' = wq.drew) (by kernel_rfl) (by kernel_rfl) rfl rfl ?_
      simp only [List.take_succ_cons, List.take_zero, List.drop_succ_cons, List.drop_zero]
      repeat (first | (refine wpQuiet_load_at rfl 35 (.tmp 44) rfl P 1 rfl _ _ HKat.out Tryz.underlying35 rfl (by rw [info_keys, List.length_map, HKl.out]) ?_; simp only [Act.put, sA, sB, sC]) | (refine wpQuiet_load_at rfl 43 (.tmp 3) rfl w.heap.size 0 rfl _ _ HPat.out Tryz.underlying43 rfl (by rw [info_ptr, HPw.out.len]) ?_; simp only [Act.put, sA, sB, sC]) | go_big_quiet_step (fail))
      refine wpQuiet_nil ?_
      refine ⟨rfl, ?_⟩
      rintro _ rfl KK hKK
      have HKK := Lib.hid hKK
      clear hKK
      unfold Oper.wp execOp
      go_simp
      refine HOp.out.mono ?_
      rintro e w5 ⟨aa, cc, rfl, hs5, hb5⟩
      have hb5q : Below wq.heap.size wq w5 := (Below.refl _ wq).drew.trans hb5
      refine HKK.out _ _ ?_
      clear HKK
      repeat (go_big_quiet_step (fail))
      refine wpQuiet_nil ?_
      rintro _ ⟨nq, rfl⟩
      obtain ⟨wr, hwr⟩ : ∃ wr, wr = w5.drewN nq := ⟨_, rfl⟩
      have hb5r : Below wq.heap.size wq wr := by rw [hwr]; exact belowDrewN hb5q _
      have HBr := Lib.hid (HBq.out.trans (hb5r.mono HBq.out.size))
      have HNr := Lib.hid ((hb5r.block _ (lt_of_block HNq.out)).trans HNq.out)
      have hob : openB ks d p = cryptB (ks.take 32) (nonceB p.birth p.addr) cs := by unfold openB; rw [HCs.out]
      have hol : (openB ks d p).length = 512 := by rw [hob, cryptB_length _ _ _ (by rw [List.length_take, HKl.out]; rfl) (nonceB_length _ _), HCl.out]
      rw [← hob] at hs5
      have hsr : Sl wr 1 (.slice aa 512 cc) (openB ks d p).length ((openB ks d p).map Bv) := by rw [hol, hwr]; exact hs5.below (belowDrewN (Below.refl _ _) _)
      have HGet := Lib.hid (nodeGetF_any (.slice aa 512 cc) (openB ks d p) wr hsr)
      rw [← hwr]
      clear hs5 hb5 hb5q hb5r hwr hob hol hsr HOp HKat HPat
      go_wp2_with fail
      refine HGet.out.mono ?_
      rintro e w6 ⟨arr, rfl, hnd, hb6, hfr⟩
      have HNd := Lib.hid hnd
      have HFr := Lib.hid (fun v hv k hk => Nat.le_trans HBr.out.size (hfr v hv k hk) : NdFr w.heap.size arr)
      have HB6 := Lib.hid (HBr.out.trans (hb6.mono HBr.out.size))
      have HN6 := Lib.hid ((hb6.block _ (lt_of_block HNr.out)).trans HNr.out)
      have hsz : arr.size = 4 := by obtain ⟨_, _, _, h, _⟩ := hnd; rw [h]; rfl
      have HSz := Lib.hid hsz
      clear hnd hb6 hsz HGet hfr
      go_wp2_with (refine store_nd rfl (.tmp 4) (.tmp 57) rfl rfl (arr := arr) rfl HN6.out rfl HSz.out HNd.out.one ?_; intro we hge hfe hse; have HGe := Lib.hid hge; have HFe := Lib.hid hfe; clear hge hfe hse)
      refine bodyPost_ret (ret_nd rfl rfl HGe.out HSz.out) rfl ?_
      have hlt := lt_of_block HN6.out
      refine RdPostF.yes HDn.out (by rw [← HCs.out]; exact HSm.out) ?_ (HB6.out.trans (HFe.out.below HB6.out.size (fun k hk => by omega))) HFr.out
      exact HNd.out.keep HN6.out HFe.out
    · have HSm := Lib.hid hsum
      have HOp := Lib.hid (open_no ks cs p (.slice (some ⟨g4, 0, none⟩) 512 512) wq.drew HPw.out HCl.out (HCq.out.below (Below.refl _ wq).drew) hsum)
      clear hsum
      go_wp2_with fail
      refine wp_region_class_one 6 (C := fun w' => w' = wq.drew) (by kernel_rfl) (by kernel_rfl) rfl rfl ?_
      simp only [List.take_succ_cons, List.take_zero, List.drop_succ_cons, List.drop_zero]
      repeat (first | (refine wpQuiet_load_at rfl 35 (.tmp 44) rfl P 1 rfl _ _ HKat.out Tryz.underlying35 rfl (by rw [info_keys, List.length_map, HKl.out]) ?_; simp only [Act.put, sA, sB, sC]) | (refine wpQuiet_load_at rfl 43 (.tmp 3) rfl w.heap.size 0 rfl _ _ HPat.out Tryz.underlying43 rfl (by rw [info_ptr, HPw.out.len]) ?_; simp only [Act.put, sA, sB, sC]) | go_big_quiet_step (fail))
      refine wpQuiet_nil ?_
      refine ⟨rfl, ?_⟩
      rintro _ rfl KK hKK
      have HKK := Lib.hid hKK
      clear hKK
      unfold Oper.wp execOp
      go_simp
      refine HOp.out.mono ?_
      rintro e w5 ⟨rfl, hb5⟩
      have hb5q : Below wq.heap.size wq w5 := (Below.refl _ wq).drew.trans hb5
      refine HKK.out _ _ ?_
      clear HKK
      repeat (go_big_quiet_step (fail))
      refine wpQuiet_nil ?_
      rintro _ ⟨nq, rfl⟩
      obtain ⟨wr, hwr⟩ : ∃ wr, wr = w5.drewN nq := ⟨_, rfl⟩
      have hb5r : Below wq.heap.size wq wr := by rw [hwr]; exact belowDrewN hb5q _
      have HBr := Lib.hid (HBq.out.trans (hb5r.mono HBq.out.size))
      have HNr := Lib.hid ((hb5r.block _ (lt_of_block HNq.out)).trans HNq.out)
      rw [← hwr]
      clear hb5 hb5q hb5r hwr HOp HKat HPat
      go_wp2_with (refine store_nd rfl (.tmp 4) (.tmp 53) rfl rfl (arr := zeroArr) rfl HNr.out rfl rfl (zero_is w).one ?_; intro we hge hfe hse; have HGe := Lib.hid hge; have HFe := Lib.hid hfe; clear hge hfe hse)
      refine bodyPost_ret (ret_nd rfl rfl HGe.out rfl) rfl ?_
      exact RdPostF.no HDn.out (by rw [← HCs.out]; exact HSm.out) (HBr.out.trans (HFe.out.below HBr.out.size (fun k hk => by omega)))

theorem poRead_any (P D S W birth lo : Nat) (ks : List UInt8) (t : Nat → Bool) (Fd : Nat → Prop) (d : Dv) (p : Pt) (w : World) (h : PlAt w P D S W d.size ks t birth) (hd : DvIn w lo D Fd d) (hp : p.Wf) (h0 : p.addr ≠ 0) (h1 : ptrE p d.size = 0) (hn : d.waits.length ≤ 1000000) :
    Calls Tryz.prog 22 #[.pointer (some ⟨P, 0, none⟩), .agg p.arr] w fun e w' => RdPost w ks d p e w' := by
  refine (poReadF_any P D S W birth lo ks t Fd d p w h hd hp h0 h1 hn).mono fun e w' he => ?_
  unfold RdPostF at he
  unfold RdPost
  split
  · rw [if_pos ‹_›] at he; exact he
  · rw [if_neg ‹_›] at he
    split
    · rw [if_pos ‹_›] at he; obtain ⟨arr, a, b, c, _⟩ := he; exact ⟨arr, a, b, c⟩
    · rw [if_neg ‹_›] at he; exact he

end Go.Proofs.YtkbnkdokcmpcgaaGreatDoor
namespace Go.Proofs.YtkbnkdokcmpcgaaGreatDoor
open Go.RowKit

theorem Sl_litk (w : World) (cs : Array Value) (xs : List UInt8) (fr : Nat × Nat) (n : Nat) {g : Nat} (hn : n = xs.length) (hg : g = w.heap.size) (hcs : cs.toList = xs.map Bv) : Sl (w.alloc (.cells cs 5 fr)) 1 (.slice (some ⟨g, 0, none⟩) n n) n (xs.map Bv) := by
  subst hg
  refine ⟨by simp [hn], some ⟨w.heap.size, 0, none⟩, n, rfl, Nat.le_refl _, fun h => (by cases h), fun i u hu => ⟨w.heap.size, 0, rfl, ?_⟩⟩
  rw [Nat.zero_add, cell_of_row _ w.heap.size i cs _ _ (heap_alloc_new _ _), ← hu, ← hcs, Array.getElem?_toList]
section
variable {P : Program} {md : Region.Mode} {C : World → Prop} {Q : Exit → Act → World → Prop}
theorem wp_region_anyC {id : Nat} {a : Act} {w : World} {l : List Oper} (C : World → Prop) (hm : P.follows .mixedOrders = true)
    (h : wpAnyC P .any l.toArray C Q l.length (Array.replicate l.length false) a { w with drawn := w.drawn + 1 }) : (Code.region id l.toArray true).wp P Q a w :=
  wp_region_any hm (by simpa using wpAny_of_C h)
theorem wpAnyCL_take {l : List Oper} {i : Nat} {oi : Oper} {v : Value} {fuel : Nat} {listed : Array Bool} {a : Act} {w : World} (hi : l[i]? = some oi)
    (hB : (Region.noSelect l.toArray && Region.free md l.toArray listed i && (Region.ready md l.toArray listed).contains i) = true)
    (hQ : ∀ c a w, Q (.panic c) (a.put oi.dst v) w → Q (.panic c) a w) (hy : YieldsC P l.toArray C oi v a)
    (h : wpAnyC P md l.toArray C Q fuel (listed.setIfInBounds i true) (a.put oi.dst v) w) : wpAnyC P md l.toArray C Q (fuel + 1) listed a w := by
  simp only [Bool.and_eq_true] at hB
  exact wpAnyC_take (by simpa using hi) hB.1.1 hB.1.2 hB.2 hQ hy h
theorem wpAnyCL_forced {l : List Oper} {fuel : Nat} {listed : Array Bool} {a : Act} {w : World} (i : Nat) {o : Oper} (hw0 : C w) (hr : Region.ready md l.toArray listed = [i]) (ho : l[i]? = some o) (hw : Region.wanted o (yielded l.toArray a.tmps) = true)
    (h : ∀ K' : Act → World → Prop, (∀ a w, wpAnyC P md l.toArray C Q fuel (listed.setIfInBounds i true) a w → K' a w) → Oper.wp P o a w K' Q) : wpAnyC P md l.toArray C Q (fuel + 1) listed a w :=
  wpAnyC_forced i hw0 hr (by simpa using ho) hw h
end

theorem ret_ttct {P : Program} {fn : Func} {u0 u p v : Tmp} {ty : TypeId} (h : fn.results = #[.tmp u0, .tmp u, .cell p ty, .tmp v]) {tmps : Array Value} {w : World} {g : Nat} {cs : List Value} {d : TypeDesc} (hp : tmps.getD p undef = .pointer (some ⟨g, 0, none⟩))
    (hc : At w g 0 cs) (hu : P.underlying ty = some d) (hd : (match d with | .struct _ | .array _ _ => true | _ => false) = true) (hi : (P.info? ty).map (·.size) = some cs.length) :
    (results fn tmps).run P w = .ok (.tuple #[tmps.getD u0 undef, tmps.getD u undef, .agg cs.toArray, tmps.getD v undef]) w := by
  have hl := run_loadVar_at w g 0 ty cs d hc hu hd hi
  simp only [Array.getD_eq_getD_getElem?] at hp
  simp only [results, h]
  simp [Result.andThen, hp, asAddr, hl]

def masterB : List UInt8 := [109, 97, 115, 116, 101, 114]
def MK : List UInt8 := keysOf masterB
theorem MK_length : MK.length = 64 := keysOf_length _
theorem conv_master (w : World) (g : Nat) (hg : g = w.heap.size) :
    (convert 26 26 (.slice (some ⟨g, 0, none⟩) 6 6)).run Tryz.prog (w.alloc (.cells #[.int .u8 109, .int .u8 97, .int .u8 115, .int .u8 116, .int .u8 101, .int .u8 114] 5)) = .ok (.slice (some ⟨g, 0, none⟩) 6 6) (w.alloc (.cells #[.int .u8 109, .int .u8 97, .int .u8 115, .int .u8 116, .int .u8 101, .int .u8 114] 5 (6, 7))) :=
  Go.Joins.run_convert_bytes_const_at (P := Tryz.prog) w 26 5 #[.int .u8 109, .int .u8 97, .int .u8 115, .int .u8 116, .int .u8 101, .int .u8 114] 6 6 g hg Tryz.underlying26 Tryz.underlying5

set_option maxRecDepth 100000 in
set_option maxHeartbeats 4000000 in
theorem made_ok (size : Nat) (w : World) (h1 : 16 ≤ size) (h2 : size ≤ 4096) :
    Calls Tryz.prog 17 #[.int .i64 (size : Int)] w fun e w' => ∃ P D S W lo F, e = .returned (.tuple #[.pointer (some ⟨P, 0, none⟩), .pointer (some ⟨D, 0, none⟩), .agg (MK.map Bv).toArray, .bool true]) ∧
      PlAt w' P D S W size MK noneT 0 ∧ DvIn w' lo D F (Dv.new size) ∧ (∀ k, F k → w.heap.size ≤ k) ∧ (∀ k, PlF P S W k → w.heap.size ≤ k ∧ ¬ F k) ∧ Below w.heap.size w w' := by
  have HZ := Lib.hid (heap_alloc_new w (.cells ((zB 64).map Bv).toArray 35))
  have HB := Lib.hid (show Below w.heap.size w (w.alloc (.cells ((zB 64).map Bv).toArray 35)) from (Below.refl _ w).alloc (Nat.le_refl _) _)
  have H12 := Lib.hid (show 16 ≤ size ∧ size ≤ 4096 from ⟨h1, h2⟩)
  clear h1 h2
  go_enter Tryz.func17, Tryz.ntmps17
  go_wp2_with fail
  generalize hW : World.alloc _ _ = W1
  have HZ1 := Lib.hid (show W1.heap[w.heap.size]? = some (.cells ((zB 64).map Bv).toArray 35 (0, 0)) by rw [← hW]; exact HZ.out)
  have HB1 := Lib.hid (show Below w.heap.size w W1 by rw [← hW]; exact HB.out)
  clear hW HZ HB
  refine (dvNew_ok size W1 H12.out.1 H12.out.2).mono ?_
  rintro e w2 ⟨D, F, rfl, hd2, hF2, hb2⟩
  obtain ⟨Fs, hds, hFs, hFD⟩ := hd2.small
  have HF2 := Lib.hid (show ∀ k, Fs k → w.heap.size < k ∧ k < w2.heap.size from fun k hk => ⟨Nat.lt_of_lt_of_le (lt_of_block HZ1.out) (hF2 k (hFs k hk).1), (hFs k hk).2⟩)
  have HFD := Lib.hid hFD
  have HZ2 := Lib.hid ((hb2.block _ (lt_of_block HZ1.out)).trans HZ1.out)
  have HB2 := Lib.hid (HB1.out.trans (hb2.mono HB1.out.size))
  have HD2 := Lib.hid hds
  clear hd2 hF2 hb2 hds hFs hFD HZ1 HB1
  have q1 := conv_master w2 w2.heap.size rfl
  obtain ⟨w3, hw3⟩ : ∃ w3, w3 = w2.alloc (.cells #[.int .u8 109, .int .u8 97, .int .u8 115, .int .u8 116, .int .u8 101, .int .u8 114] 5 (6, 7)) := ⟨_, rfl⟩
  have hb3 : Below w2.heap.size w2 w3 := by rw [hw3]; exact (Below.refl _ w2).alloc (Nat.le_refl _) _
  have hs3 : Sl w3 1 (.slice (some ⟨w2.heap.size, 0, none⟩) 6 6) masterB.length (masterB.map Bv) := by rw [hw3]; exact Sl_litk _ _ _ _ 6 rfl rfl rfl
  rw [← hw3] at q1
  have HDe := Lib.hid (derive_any _ masterB w3 hs3 (by decide))
  have HB3 := Lib.hid (HB2.out.trans (hb3.mono HB2.out.size))
  have HZ3 := Lib.hid ((hb3.block _ (lt_of_block HZ2.out)).trans HZ2.out)
  have HD3 := Lib.hid (HD2.out.below hb3)
  have HS3 := Lib.hid hb3.size
  clear hw3 hb3 hs3 HZ2 HB2 HD2
  go_wp2_with fail
  refine HDe.out.mono ?_
  rintro e w4 ⟨rfl, hb4⟩
  have HML := Lib.hid MK_length
  obtain ⟨ks, hks⟩ : ∃ ks, ks = MK := ⟨_, rfl⟩
  rw [show keysOf masterB = ks from hks.symm]
  have HKs := Lib.hid hks
  have HKl := Lib.hid (show ks.length = 64 by rw [hks]; exact MK_length)
  have HB4 := Lib.hid (HB3.out.trans (hb4.mono HB3.out.size))
  have HZ4 := Lib.hid ((hb4.block _ (lt_of_block HZ3.out)).trans HZ3.out)
  have HD4 := Lib.hid (HD3.out.below hb4)
  have HNe := Lib.hid (show w.heap.size < w4.heap.size from Nat.lt_of_lt_of_le (lt_of_block HZ3.out) hb4.size)
  have HS4 := Lib.hid (Nat.le_trans HS3.out hb4.size)
  have HN4 := Lib.hid (heap_alloc_new w4 (.cells ((zB 64).map Bv).toArray 35))
  clear hb4 HZ3 HB3 HD3 HDe hks q1
  go_wp2_with (first | (refine wpList_store_row rfl _ (.tmp 8) (.tmp 18) rfl w4.heap.size rfl (ks.map Bv) rfl _ _ HN4.out (by rw [List.length_map, HKl.out]; rfl) (Bv_oneCell _) (by rw [info_keys, List.length_map, HKl.out]) ?_; intro w5 hg5 hf5 hs5; have HG5 := Lib.hid hg5; have HF5 := Lib.hid (show Below w4.heap.size w4 w5 from ((Below.refl _ w4).alloc (Nat.le_refl _) _).trans (hf5.below (by simp) (fun j hj => by omega))); clear hg5 hf5 hs5) | (refine wpList_load_at rfl _ (.tmp 8) rfl w4.heap.size 0 rfl (ks.map Bv) _ (At.of_row HG5.out) Tryz.underlying35 rfl (by rw [info_keys, List.length_map, HKl.out]) ?_))
  have HD5 := Lib.hid (HD4.out.below HF5.out)
  have hD0 : w5.cell? ⟨D, 0, none⟩ = some (.int .i64 (size : Int)) := by
    obtain ⟨L, T, wv, h1, _⟩ := HD5.out
    exact h1.cells.1
  refine (poNew_ok D size ks w5 hD0 H12.out.1 H12.out.2 HKl.out).mono ?_
  rintro e w6 ⟨P, S, W, rfl, hp6, hge6, hb6⟩
  have HP6 := Lib.hid hp6
  have HGe6 := Lib.hid (show ∀ k, PlF P S W k → w.heap.size < k ∧ ¬ Fs k from fun k hk => by
    have h5 := HNe.out
    have h1 := hge6 k hk
    have h2 := HF5.out.size
    have h3 := HS4.out
    have h4 := HB4.out.size
    exact ⟨by omega, fun hF => by have := (HF2.out k hF).2; omega⟩)
  have HD6 := Lib.hid (HD5.out.below hb6)
  have HG6 := Lib.hid ((hb6.block _ (lt_of_block HG5.out)).trans HG5.out)
  have HB6 := Lib.hid ((HB4.out.trans (HF5.out.mono HB4.out.size)).trans (hb6.mono (Nat.le_trans HB4.out.size HF5.out.size)))
  have HZ6 := Lib.hid ((hb6.block _ (Nat.lt_of_lt_of_le (lt_of_block HZ4.out) HF5.out.size)).trans ((HF5.out.block _ (lt_of_block HZ4.out)).trans HZ4.out))
  have HAt6 := Lib.hid (show At w6 w4.heap.size 0 (ks.map Bv) from At.of_row HG6.out)
  clear hp6 hge6 hb6 hD0 HD5 HG5 HZ4 HB4 HF5 HD4
  go_wp2_with fail
  refine wp_region_anyC (fun u => At u w4.heap.size 0 (ks.map Bv)) (by kernel_rfl) ?_
  obtain ⟨wd, hwd⟩ : ∃ wd, wd = { w6 with drawn := w6.drawn + 1 } := ⟨_, rfl⟩
  have HFd := Lib.hid (show Fr (fun _ => False) w6 wd by rw [hwd]; exact ⟨rfl, rfl, rfl, Nat.le_refl _, fun _ _ _ => rfl⟩)
  have HAd := Lib.hid (show At wd w4.heap.size 0 (ks.map Bv) by rw [hwd]; exact HAt6.out)
  have HZd := Lib.hid (show wd.heap[w.heap.size]? = some (.cells ((zB 64).map Bv).toArray 35 (0, 0)) by rw [hwd]; exact HZ6.out)
  rw [← hwd]
  clear hwd
  refine wpAnyCL_take (i := 0) (v := .pointer (some ⟨P, 0, none⟩)) rfl (by kernel_rfl) (fun _ _ _ h => h) (.inl ⟨by rfl, fun w' _ => by go_simp⟩) ?_
  simp only [Act.put, sA, sB, sC]
  refine wpAnyCL_take (i := 1) (v := .pointer (some ⟨D, 0, none⟩)) rfl (by kernel_rfl) (fun _ _ _ h => h) (.inl ⟨by rfl, fun w' _ => by go_simp⟩) ?_
  simp only [Act.put, sA, sB, sC]
  refine wpAnyCL_take (i := 2) (v := .agg (ks.map Bv).toArray) rfl (by kernel_rfl) (fun _ _ _ h => h) (yields_load (by rfl) 35 (.tmp 8) (by rfl) w4.heap.size 0 (by rfl) (ks.map Bv) _ (fun _ h => h) Tryz.underlying35 rfl (by rw [info_keys, List.length_map, HKl.out])) ?_
  simp only [Act.put, sA, sB, sC]
  refine wpAnyCL_take (i := 3) (v := .pointer (some ⟨P, 0, none⟩)) rfl (by kernel_rfl) (fun _ _ _ h => h) (.inl ⟨by rfl, fun w' _ => by go_simp⟩) ?_
  simp only [Act.put, sA, sB, sC]
  refine wpAnyCL_take (i := 4) (v := .bool true) rfl (by kernel_rfl) (fun _ _ _ h => h) (.inl ⟨by rfl, fun w' _ => by go_simp⟩) ?_
  simp only [Act.put, sA, sB, sC]
  refine wpAnyCL_take (i := 5) (v := .bool true) rfl (by kernel_rfl) (fun _ _ _ h => h) (.inl ⟨by rfl, fun w' _ => by go_simp⟩) ?_
  simp only [Act.put, sA, sB, sC]
  refine wpAnyCL_take (i := 6) (v := .int .i64 0) rfl (by kernel_rfl) (fun _ _ _ h => h) (.inl ⟨by rfl, fun w' _ => by go_simp⟩) ?_
  simp only [Act.put, sA, sB, sC]
  refine wpAnyCL_take (i := 7) (v := .bool true) rfl (by kernel_rfl) (fun _ _ _ h => h) (.inl ⟨by rfl, fun w' _ => by go_simp⟩) ?_
  simp only [Act.put, sA, sB, sC]
  refine wpAnyCL_take (i := 8) (v := .bool true) rfl (by kernel_rfl) (fun _ _ _ h => h) (.inl ⟨by rfl, fun w' _ => by go_simp⟩) ?_
  simp only [Act.put, sA, sB, sC]
  refine wpAnyCL_take (i := 9) (v := .bool true) rfl (by kernel_rfl) (fun _ _ _ h => h) (.inl ⟨by rfl, fun w' _ => by go_simp⟩) ?_
  simp only [Act.put, sA, sB, sC]
  refine wpAnyCL_take (i := 10) (v := .int .i64 0) rfl (by kernel_rfl) (fun _ _ _ h => h) (.inl ⟨by rfl, fun w' _ => by go_simp⟩) ?_
  simp only [Act.put, sA, sB, sC]
  refine wpAnyCL_take (i := 11) (v := .bool true) rfl (by kernel_rfl) (fun _ _ _ h => h) (.inl ⟨by rfl, fun w' _ => by go_simp⟩) ?_
  simp only [Act.put, sA, sB, sC]
  refine wpAnyCL_take (i := 12) (v := .bool true) rfl (by kernel_rfl) (fun _ _ _ h => h) (.inl ⟨by rfl, fun w' _ => by go_simp⟩) ?_
  simp only [Act.put, sA, sB, sC]
  refine wpAnyCL_take (i := 13) (v := .pointer (some ⟨P, 0, none⟩)) rfl (by kernel_rfl) (fun _ _ _ h => h) (.inl ⟨by rfl, fun w' _ => by go_simp⟩) ?_
  simp only [Act.put, sA, sB, sC]
  refine wpAnyCL_take (i := 14) (v := .pointer (some ⟨D, 0, none⟩)) rfl (by kernel_rfl) (fun _ _ _ h => h) (.inl ⟨by rfl, fun w' _ => by go_simp⟩) ?_
  simp only [Act.put, sA, sB, sC]
  refine wpAnyCL_forced 15 HAd.out (by kernel_rfl) rfl (by rfl) (fun K hK => ?_)
  refine wp_store_row _ (.tmp 4) (.tmp 27) rfl w.heap.size rfl (ks.map Bv) rfl _ _ HZd.out (by rw [List.length_map, HKl.out]; rfl) (Bv_oneCell _) (by rw [info_keys, List.length_map, HKl.out]) ?_
  intro w7 hg7 hf7 hs7
  have HG7 := Lib.hid hg7
  have HF7 := Lib.hid hf7
  have hne : w4.heap.size ≠ w.heap.size := by have := lt_of_block HZ6.out; have := HS4.out; have := HNe.out; omega
  have HA7 := Lib.hid (show At w7 w4.heap.size 0 (ks.map Bv) from fun i u hi => hf7.cell (HAd.out i u hi) hne)
  refine hK _ _ ?_
  clear hK hg7 hf7 hs7 hne
  try simp only [Act.put]
  refine wpAnyCL_take (i := 16) (v := .bool true) rfl (by kernel_rfl) (fun _ _ _ h => h) (.inl ⟨by rfl, fun w' _ => by go_simp⟩) ?_
  simp only [Act.put, sA, sB, sC]
  refine wpAnyC_done (by kernel_rfl) HA7.out ?_
  go_wp2
  have hfw : Fr (fun k => k = w.heap.size) w6 w7 := (HFd.out.mono (fun _ _ h => h.elim)).trans HF7.out
  refine bodyPost_ret (ret_ttct rfl rfl (At.of_row HG7.out) Tryz.underlying35 rfl (by rw [info_keys, List.length_map, HKl.out])) rfl ⟨P, D, S, W, W1.heap.size, Fs, by rw [HKs.out]; rfl, ?_, ?_, ?_, ?_, ?_⟩
  · rw [← HKs.out]
    exact HP6.out.fr hfw (fun k hk e => by have := (HGe6.out k hk).1; omega)
  · exact HD6.out.fr hfw (fun k hk e => by have := (HF2.out k hk).1; omega)
  · exact fun k hk => Nat.le_of_lt (HF2.out k hk).1
  · exact fun k hk => ⟨Nat.le_of_lt (HGe6.out k hk).1, (HGe6.out k hk).2⟩
  · exact HB6.out.trans (hfw.below HB6.out.size (fun j hj => by omega))

end Go.Proofs.YtkbnkdokcmpcgaaGreatDoor
