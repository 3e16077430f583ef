/- Walk: the reference's bytes of a node. -/
import Derived.Test.YtdhlcofjpkbgaaaDoorRefPtr
namespace Go.Proofs.YtdhlcofjpkbgaaaDoor
open Go.RowKit

/-- Bytes that the call lays, in a row of its own. -/
def RowRel (w0 : World) (xs : List UInt8) (v : Value) (wr : World) : Prop := ∃ aa cc, v = .slice aa xs.length cc ∧ wr.ownsRow w0.heap.size 5 1 v xs.length (xs.map Bv) ∧ Below w0.heap.size w0 wr
theorem RowRel.below {w0 wr : World} {xs : List UInt8} {v : Value} (h : RowRel w0 xs v wr) : Below w0.heap.size w0 wr := by obtain ⟨_, _, _, _, hB⟩ := h; exact hB
theorem RowRel.own {w0 wr : World} {xs : List UInt8} {v : Value} (h : RowRel w0 xs v wr) : wr.ownsRow w0.heap.size 5 1 v xs.length (xs.map Bv) := by obtain ⟨_, _, _, ho, _⟩ := h; exact ho
theorem RowRel.step {w0 W w1 : World} {xs : List UInt8} {v : Value} (h : RowRel w0 xs v W) (hb : Below W.heap.size W w1) : RowRel w0 xs v w1 := by
  obtain ⟨aa, cc, e, ho, hB⟩ := h
  exact ⟨aa, cc, e, ho.fr (Fr.of_below (S := fun _ => False) hb) (fun _ _ => id), hB.trans (hb.mono hB.size)⟩
theorem RowRel.grow {w0 w1 w2 : World} {xs ys : List UInt8} {v : Value} {aa : Option Addr} {cc m : Nat} (h : RowRel w0 xs v w1) (ho : w2.ownsRow w0.heap.size 5 1 (.slice aa (xs.length + m) cc) (xs.length + m) ((xs ++ ys).map Bv)) (hm : m = ys.length)
    (hf : Fr (fun k => v.ownBlock = some k) w1 w2) : RowRel w0 (xs ++ ys) (.slice aa (xs.length + m) cc) w2 := by
  obtain ⟨_, _, _, ho1, hB⟩ := h
  subst hm
  refine ⟨aa, cc, by rw [List.length_append], by rw [List.length_append]; exact ho, hB.trans (hf.below hB.size (fun k hk => (ho1.lt k hk).1))⟩

theorem headB_leaf {n : Nd} (hl : n.leaf = true) (hk : n.keys.length ≤ 255) : ([.int .u8 1, .int .u8 (n.keys.length : Int)] : List Value) = (headB n).map Bv := by
  unfold headB
  rw [hl]
  simp [putB, List.range_succ, Bv, UInt8.toNat_ofNat', Nat.mod_eq_of_lt (show n.keys.length < 256 by omega)]
theorem headB_inner {n : Nd} (hl : n.leaf = false) (hk : n.keys.length ≤ 255) : ([.int .u8 2, .int .u8 (n.keys.length : Int)] : List Value) = (headB n).map Bv := by
  unfold headB
  rw [hl]
  simp [putB, List.range_succ, Bv, UInt8.toNat_ofNat', Nat.mod_eq_of_lt (show n.keys.length < 256 by omega)]

theorem kvTo_bound {n : Nd} (h : formB n = true) (hk : n.keys.length ≤ 255) (k : Nat) (hkk : k ≤ n.keys.length) : (headB n ++ kvTo n k).length ≤ 40000 := by
  have hf := formB_ok h
  rw [List.length_append, headB_length]
  cases hl : n.leaf with
  | true =>
    have hv := hf.vals hl
    rw [kvTo_length_leaf n hl k hkk (by omega)]
    have s1 := strsN_le 32 (n.keys.take k) (fun s hs => (hf.keyS s (List.mem_of_mem_take hs)).2)
    have s2 := strsN_le 96 (n.vals.take k) (fun s hs => hf.valS s (List.mem_of_mem_take hs))
    have t1 : (n.keys.take k).length = k := by rw [List.length_take]; omega
    have t2 : (n.vals.take k).length = k := by rw [List.length_take]; omega
    rw [t1] at s1
    rw [t2] at s2
    omega
  | false =>
    rw [kvTo_length_inner n hl k hkk]
    have s1 := strsN_le 32 (n.keys.take k) (fun s hs => (hf.keyS s (List.mem_of_mem_take hs)).2)
    have t1 : (n.keys.take k).length = k := by rw [List.length_take]; omega
    rw [t1] at s1
    omega

theorem formB_leafkids {n : Nd} (h : formB n = true) (hl : n.leaf = true) : n.kids = [] := by
  unfold formB at h
  rw [hl] at h
  simp only [if_true, Bool.and_eq_true, decide_eq_true_iff] at h
  exact List.eq_nil_of_length_eq_zero h.2.1.2

def BytesPost (n : Nd) (w : World) (e : Ending) (w' : World) : Prop :=
  ∃ aa cc, e = .returned (.slice aa (bytesN n).length cc) ∧ w'.ownsRow w.heap.size 5 1 (.slice aa (bytesN n).length cc) (bytesN n).length ((bytesN n).map Bv) ∧ Below w.heap.size w w'

set_option maxRecDepth 100000 in
set_option maxHeartbeats 4000000 in
theorem refBytes_leaf (arr : Array Value) (n : Nd) (w : World) (h : NdIs w arr n) (hfb : formB n = true) (hk2 : n.keys.length ≤ 255) (hl : n.leaf = true) :
    Calls Tryd.prog 92 #[.agg arr] w (BytesPost n w) := by
  have hok := formB_ok hfb
  obtain ⟨ak, ck, av, cv, ap, cp, rfl, hk, hv, hp⟩ := h.get
  have hvl := hok.vals hl
  rw [hl, hvl]
  rw [hvl] at hv
  have hb0 : Below w.heap.size w (w.alloc (.cells #[.bool true, .slice ak n.keys.length ck, .slice av n.keys.length cv, .slice ap n.kids.length cp] 64)) := (Below.refl _ w).alloc (Nat.le_refl _) _
  have hT := At_nd (heap_alloc_new w (.cells #[.bool true, .slice ak n.keys.length ck, .slice av n.keys.length cv, .slice ap n.kids.length cp] 64))
  obtain ⟨w0, hw0⟩ : ∃ w0, w0 = w.alloc (.cells #[.bool true, .slice ak n.keys.length ck, .slice av n.keys.length cv, .slice ap n.kids.length cp] 64) := ⟨_, rfl⟩
  have hs0 : w0.heap.size = w.heap.size + 1 := by rw [hw0]; simp
  rw [← hw0] at hb0 hT
  have HS0 := Lib.hid hs0
  have HW0 := Lib.hid hw0
  have HB := Lib.hid hb0
  have HT := Lib.hid hT
  have HK := Lib.hid (hk.below hb0)
  have HV := Lib.hid (hv.below hb0)
  have HOK := Lib.hid hok
  have HKID := Lib.hid (formB_leafkids hfb hl)
  have HBD := Lib.hid (kvTo_bound hfb hk2)
  have HVL := Lib.hid hvl
  have HL := Lib.hid hl
  have hown := World.ownsRow_lit (e := 5) (size := 1) (base := w0.heap.size) w0 #[.int .u8 1, .int .u8 (n.keys.length : Int)] 2 (Nat.le_refl _) (by decide) rfl
  rw [show (#[.int .u8 1, .int .u8 (n.keys.length : Int)] : Array Value).toList = (headB n).map Bv from headB_leaf hl hk2] at hown
  have hrow0 : RowRel w0 (headB n ++ kvTo n 0) (.slice (some ⟨w.heap.size + 1, 0, none⟩) 2 2) (w0.alloc (.cells #[.int .u8 1, .int .u8 (n.keys.length : Int)] 5)) := by
    rw [← hs0]
    rw [show kvTo n 0 = [] from rfl, List.append_nil]
    exact ⟨_, _, by rw [headB_length], by rw [headB_length]; exact hown, (Below.refl _ _).alloc (Nat.le_refl _) _⟩
  have HR0 := Lib.hid hrow0
  have c0 := hT 0 _ rfl
  have c1 := hT 1 _ rfl
  rw [Nat.zero_add] at c0 c1
  clear h hk hv hp hb0 hT hs0 hfb hok hown hrow0 hw0 hvl hl
  go_enter Tryd.func92, Tryd.ntmps92
  have hbl : w.heap.size < w0.heap.size := by have := HS0.out; omega
  go_wp2_with fail
  rw [← HW0.out]
  clear c0 c1
  go_loopw [20, 3, 4] (fun i v _ wr => ∃ k : Nat, k ≤ n.keys.length ∧ i = .int .i64 k ∧ RowRel w0 (headB n ++ kvTo n k) v wr) (fun i _ _ _ => n.keys.length - (intOf i).toNat)
  case atStart => exact ⟨0, Nat.zero_le _, rfl, HR0.out⟩
  case round =>
    obtain ⟨k, hk, rfl, hrow⟩ := hrel
    rcases Nat.lt_or_ge k n.keys.length with hlt | hge
    · have hxl := HBD.out k hk
      have hx' : headB n ++ kvTo n (k + 1) = headB n ++ kvTo n k ++ kvAt n k := by rw [kvTo_succ, List.append_assoc]
      obtain ⟨xs, hxs⟩ : ∃ xs, xs = headB n ++ kvTo n k := ⟨_, rfl⟩
      rw [← hxs] at hrow hxl hx'
      obtain ⟨a', c', e', hel⟩ := HK.out.open
      simp only [Value.slice.injEq, true_and] at e'
      obtain ⟨rfl, rfl⟩ := e'
      obtain ⟨b, o, rfl, hc⟩ := hel k hlt
      obtain ⟨a', c', e', hel2⟩ := HV.out.open
      simp only [Value.slice.injEq] at e'
      obtain ⟨rfl, -, rfl⟩ := e'
      obtain ⟨b2, o2, rfl, hc2⟩ := hel2 k (by have := HVL.out; omega)
      obtain ⟨s, hs⟩ : ∃ s, s = n.keys[k]'hlt := ⟨_, rfl⟩
      obtain ⟨t, ht⟩ : ∃ t, t = n.vals[k]'(by have := HVL.out; omega) := ⟨_, rfl⟩
      have hss : s.size ≤ 32 := by rw [hs]; exact (HOK.out.keyS _ (List.getElem_mem _)).2
      have hts : t.size ≤ 96 := by rw [ht]; exact HOK.out.valS _ (List.getElem_mem _)
      have hkv : kvAt n k = strB s ++ strB t := by
        unfold kvAt
        rw [HL.out, if_pos rfl, hs, ht, List.getD_eq_getElem?_getD, List.getD_eq_getElem?_getD, List.getElem?_eq_getElem hlt, List.getElem?_eq_getElem (by have := HVL.out; omega)]
        rfl
      rw [hkv] at hx'
      have HX := Lib.hid hx'
      rw [← hs] at hc
      rw [← ht] at hc2
      obtain ⟨aa, cc, rfl, hown, hbr⟩ := hrow
      have hrow : RowRel w0 xs (.slice aa xs.length cc) wr := ⟨aa, cc, rfl, hown, hbr⟩
      have HRow := Lib.hid hrow
      have c1 := (hbr.cell (p := ⟨w.heap.size, 1, none⟩) hbl).trans (by simpa using HT.out 1 _ rfl : w0.cell? ⟨w.heap.size, 1, none⟩ = some (.slice (some ⟨b, o, none⟩) n.keys.length ck))
      have c2 := (hbr.cell (p := ⟨b, o + k, none⟩) (World.block_lt_of_cell? w0 _ hc)).trans hc
      have HC2 := Lib.hid hc2
      have HBr := Lib.hid hbr
      clear hxs hx' hkv hs ht hown hbr hrow hel hel2 hc hc2
      go_wp2_with fail
      refine (refStr_any s _ (by omega)).mono ?_
      rintro e w1 ⟨v1, rfl, hs1, hb1⟩
      have hrow1 := HRow.out.step hb1
      have ho1 := hrow1.own
      have hB1 := hrow1.below
      have HO1 := Lib.hid ho1
      have HRow1 := Lib.hid (HRow.out.step hb1)
      have hsz1 := hB1.size
      have HS1 := Lib.hid hs1
      have HB1 := Lib.hid hB1
      clear ho1 hs1 hb1 hB1 c1 c2 hrow1
      go_wp2_with (at_builtin; refine append_u8 rfl (.tmp 23) (.tmp 29) rfl HO1.out HS1.out rfl rfl (by rw [strB_length]; omega) hsz1 ?_)
      intro aa2 cc2 w2 hown2 hf2 h3
      have hrow2 := HRow1.out.grow (aa := aa2) (cc := cc2) (ys := strB s) (m := (strB s).length) (by rw [List.map_append]; exact hown2) rfl hf2
      have HRow2 := Lib.hid hrow2
      have hB2 := hrow2.below
      have c1 := (hB2.cell (p := ⟨w.heap.size, 2, none⟩) hbl).trans (by simpa using HT.out 2 _ rfl : w0.cell? ⟨w.heap.size, 2, none⟩ = some (.slice (some ⟨b2, o2, none⟩) n.keys.length cv))
      have c2 := (hB2.cell (p := ⟨b2, o2 + k, none⟩) (World.block_lt_of_cell? w0 _ HC2.out)).trans HC2.out
      clear hown2 hf2 h3 hB2 hsz1 hrow2
      go_wp2_with fail
      refine (refStr_any t _ (by omega)).mono ?_
      rintro e w3 ⟨v3, rfl, hs3, hb3⟩
      have hrow3 := HRow2.out.step hb3
      have HRow3 := Lib.hid hrow3
      have ho3 := hrow3.own
      have hB3 := hrow3.below
      rw [List.length_append] at ho3
      have HO3 := Lib.hid ho3
      have hsz3 := hB3.size
      have HS3 := Lib.hid hs3
      clear ho3 hs3 hb3 hB3 c1 c2 hrow3
      go_wp2_with (at_builtin; refine append_u8 rfl (.tmp 31) (.tmp 37) rfl HO3.out HS3.out rfl rfl (by rw [strB_length, strB_length]; omega) hsz3 ?_)
      intro aa4 cc4 w4 hown4 hf4 h5
      have hrow4 := HRow3.out.grow (aa := aa4) (cc := cc4) (ys := strB t) (m := (strB t).length) (by rw [List.length_append, List.map_append]; first | exact hown4 | (rw [List.map_append]; exact hown4) | (simpa using hown4)) rfl hf4
      rw [List.length_append, List.append_assoc, ← HX.out] at hrow4
      have HRow4 := Lib.hid hrow4
      clear hown4 hf4 h5 hrow4 hsz3
      go_wp2
      go_roundw
      case rel => exact ⟨k + 1, by omega, by go_num, HRow4.out⟩
      case measure => simp [intOf]; omega
    · obtain rfl : k = n.keys.length := by omega
      have hkid : n.kids = [] := HKID.out
      have e : bytesN n = headB n ++ kvTo n n.keys.length := by unfold bytesN kidsTo; rw [hkid]; simp
      rw [← e] at hrow
      obtain ⟨aa, cc, rfl, hown, hbr⟩ := hrow
      have HO := Lib.hid (hown.base (show w.heap.size ≤ w0.heap.size by omega))
      have HBr := Lib.hid (HB.out.trans (hbr.mono HB.out.size))
      clear e hown hbr hkid
      go_wp2
      go_ret
      exact ⟨aa, cc, rfl, HO.out, HBr.out⟩

end Go.Proofs.YtdhlcofjpkbgaaaDoor

namespace Go.Proofs.YtdhlcofjpkbgaaaDoor
open Go.RowKit

theorem formB_innerkids {n : Nd} (h : formB n = true) (hl : n.leaf = false) : n.kids.length = n.keys.length + 1 := by
  unfold formB at h
  rw [hl] at h
  simp only [Bool.false_eq_true, if_false, Bool.and_eq_true, decide_eq_true_iff] at h
  exact h.2.1.2

set_option maxRecDepth 100000 in
set_option maxHeartbeats 4000000 in
theorem refBytes_inner (arr : Array Value) (n : Nd) (w : World) (h : NdIs w arr n) (hfb : formB n = true) (hk2 : n.keys.length ≤ 255) (hl : n.leaf = false) :
    Calls Tryd.prog 92 #[.agg arr] w (BytesPost n w) := by
  have hok := formB_ok hfb
  have hkk := formB_innerkids hfb hl
  obtain ⟨ak, ck, av, cv, ap, cp, rfl, hk, hv, hp⟩ := h.get
  rw [hl]
  have hb0 : Below w.heap.size w (w.alloc (.cells #[.bool false, .slice ak n.keys.length ck, .slice av n.vals.length cv, .slice ap n.kids.length cp] 64)) := (Below.refl _ w).alloc (Nat.le_refl _) _
  have hT := At_nd (heap_alloc_new w (.cells #[.bool false, .slice ak n.keys.length ck, .slice av n.vals.length cv, .slice ap n.kids.length cp] 64))
  obtain ⟨w0, hw0⟩ : ∃ w0, w0 = w.alloc (.cells #[.bool false, .slice ak n.keys.length ck, .slice av n.vals.length cv, .slice ap n.kids.length cp] 64) := ⟨_, rfl⟩
  have hs0 : w0.heap.size = w.heap.size + 1 := by rw [hw0]; simp
  rw [← hw0] at hb0 hT
  have HS0 := Lib.hid hs0
  have HW0 := Lib.hid hw0
  have HB := Lib.hid hb0
  have HT := Lib.hid hT
  have HK := Lib.hid (hk.below hb0)
  have HP := Lib.hid (hp.below hb0)
  have HOK := Lib.hid hok
  have HBD := Lib.hid (kvTo_bound hfb hk2)
  have HL := Lib.hid hl
  have HKK := Lib.hid hkk
  have hkb : n.kids.length ≤ 256 := by omega
  have hown := World.ownsRow_lit (e := 5) (size := 1) (base := w0.heap.size) w0 #[.int .u8 2, .int .u8 (n.keys.length : Int)] 2 (Nat.le_refl _) (by decide) rfl
  rw [show (#[.int .u8 2, .int .u8 (n.keys.length : Int)] : Array Value).toList = (headB n).map Bv from headB_inner hl hk2] at hown
  have hrow0 : RowRel w0 (headB n ++ kvTo n 0) (.slice (some ⟨w.heap.size + 1, 0, none⟩) 2 2) (w0.alloc (.cells #[.int .u8 2, .int .u8 (n.keys.length : Int)] 5)) := by
    rw [← hs0]
    rw [show kvTo n 0 = [] from rfl, List.append_nil]
    exact ⟨_, _, by rw [headB_length], by rw [headB_length]; exact hown, (Below.refl _ _).alloc (Nat.le_refl _) _⟩
  have HR0 := Lib.hid hrow0
  clear h hk hv hp hb0 hT hs0 hfb hok hown hrow0 hw0 hl hkk
  go_enter Tryd.func92, Tryd.ntmps92
  have hbl : w.heap.size < w0.heap.size := by have := HS0.out; omega
  go_wp2_with fail
  rw [← HW0.out]
  go_loopw [49, 5, 7] (fun i v _ wr => ∃ k : Nat, k ≤ n.keys.length ∧ i = .int .i64 k ∧ RowRel w0 (headB n ++ kvTo n k) v wr) (fun i _ _ _ => n.keys.length - (intOf i).toNat)
  case atStart => exact ⟨0, Nat.zero_le _, rfl, HR0.out⟩
  case round =>
    obtain ⟨k, hk, rfl, hrow⟩ := hrel
    rcases Nat.lt_or_ge k n.keys.length with hlt | hge
    · have hxl := HBD.out k hk
      have hx' : headB n ++ kvTo n (k + 1) = headB n ++ kvTo n k ++ kvAt n k := by rw [kvTo_succ, List.append_assoc]
      obtain ⟨xs, hxs⟩ : ∃ xs, xs = headB n ++ kvTo n k := ⟨_, rfl⟩
      rw [← hxs] at hrow hxl hx'
      obtain ⟨a', c', e', hel⟩ := HK.out.open
      simp only [Value.slice.injEq, true_and] at e'
      obtain ⟨rfl, rfl⟩ := e'
      obtain ⟨b, o, rfl, hc⟩ := hel k hlt
      obtain ⟨s, hs⟩ : ∃ s, s = n.keys[k]'hlt := ⟨_, rfl⟩
      have hss : s.size ≤ 32 := by rw [hs]; exact (HOK.out.keyS _ (List.getElem_mem _)).2
      have hkv : kvAt n k = strB s := by
        unfold kvAt
        rw [HL.out, hs, List.getD_eq_getElem?_getD, List.getElem?_eq_getElem hlt]
        simp
      rw [hkv] at hx'
      have HX := Lib.hid hx'
      rw [← hs] at hc
      obtain ⟨aa, cc, rfl, hown, hbr⟩ := hrow
      have hrow : RowRel w0 xs (.slice aa xs.length cc) wr := ⟨aa, cc, rfl, hown, hbr⟩
      have HRow := Lib.hid hrow
      have c2 := (hbr.cell (p := ⟨b, o + k, none⟩) (World.block_lt_of_cell? w0 _ hc)).trans hc
      clear hxs hx' hkv hs hown hbr hrow hel hc
      go_wp2_with fail
      refine (refStr_any s _ (by omega)).mono ?_
      rintro e w1 ⟨v1, rfl, hs1, hb1⟩
      have hrow1 := HRow.out.step hb1
      have ho1 := hrow1.own
      have hB1 := hrow1.below
      have HO1 := Lib.hid ho1
      have HRow1 := Lib.hid (HRow.out.step hb1)
      have hsz1 := hB1.size
      have HS1 := Lib.hid hs1
      clear ho1 hs1 hb1 hB1 c2 hrow1
      go_wp2_with (at_builtin; refine append_u8 rfl (.tmp 53) (.tmp 55) rfl HO1.out HS1.out rfl rfl (by rw [strB_length]; omega) hsz1 ?_)
      intro aa2 cc2 w2 hown2 hf2 h3
      have hrow2 := HRow1.out.grow (aa := aa2) (cc := cc2) (ys := strB s) (m := (strB s).length) (by rw [List.map_append]; exact hown2) rfl hf2
      rw [← HX.out] at hrow2
      have HRow2 := Lib.hid hrow2
      clear hown2 hf2 h3 hsz1 hrow2
      go_wp2
      go_roundw
      case rel => exact ⟨k + 1, by omega, by go_num, HRow2.out⟩
      case measure => simp [intOf]; omega
    · obtain rfl : k = n.keys.length := by omega
      have hH := HBD.out n.keys.length (Nat.le_refl _)
      obtain ⟨hd, hhd⟩ : ∃ hd, hd = headB n ++ kvTo n n.keys.length := ⟨_, rfl⟩
      rw [← hhd] at hrow hH
      have hlast : bytesN n = hd ++ kidsTo n n.kids.length := by unfold bytesN; rw [hhd]
      have HLast := Lib.hid hlast
      have hbr := hrow.below
      have HRw := Lib.hid hrow
      have c3 := (hbr.cell (p := ⟨w.heap.size, 3, none⟩) hbl).trans (by simpa using HT.out 3 _ rfl : w0.cell? ⟨w.heap.size, 3, none⟩ = some (.slice ap n.kids.length cp))
      clear hhd hrow hbr hlast
      go_wp2_with fail
      clear c3
      obtain ⟨wo, hwo⟩ : ∃ wo : World, wo = wr := ⟨_, rfl⟩
      rw [← hwo] at HRw ⊢
      clear hwo
      go_loopw [61, 5, 9] (fun i v _ wr => ∃ k : Nat, k ≤ n.kids.length ∧ i = .int .i64 k ∧ RowRel w0 (hd ++ kidsTo n k) v wr) (fun i _ _ _ => n.kids.length - (intOf i).toNat)
      case atStart => exact ⟨0, Nat.zero_le _, rfl, by rw [show kidsTo n 0 = [] by simp [kidsTo], List.append_nil]; exact HRw.out⟩
      case round =>
        obtain ⟨k, hk, rfl, hrow⟩ := hrel
        rcases Nat.lt_or_ge k n.kids.length with hlt | hge
        · have hxl : (hd ++ kidsTo n k).length ≤ 60000 := by
            rw [List.length_append, kidsTo_length n HP.out.wf k hk]; omega
          have hx' : hd ++ kidsTo n (k + 1) = hd ++ kidsTo n k ++ ptrB (n.kids[k]'hlt) := by rw [kidsTo_succ n k hlt, List.append_assoc]
          obtain ⟨xs, hxs⟩ : ∃ xs, xs = hd ++ kidsTo n k := ⟨_, rfl⟩
          rw [← hxs] at hrow hxl hx'
          obtain ⟨a', c', e', hel⟩ := HP.out.open
          simp only [Value.slice.injEq, true_and] at e'
          obtain ⟨rfl, rfl⟩ := e'
          obtain ⟨b, o, rfl, hat⟩ := hel k hlt
          have hW : (n.kids[k]'hlt).Wf := HP.out.wf _ (List.getElem_mem hlt)
          obtain ⟨p, hp⟩ : ∃ p, p = n.kids[k]'hlt := ⟨_, rfl⟩
          rw [← hp] at hat hx' hW
          have HX := Lib.hid hx'
          have HWf := Lib.hid hW
          obtain ⟨aa, cc, rfl, hown, hbr⟩ := hrow
          have hrow : RowRel w0 xs (.slice aa xs.length cc) wr := ⟨aa, cc, rfl, hown, hbr⟩
          have HRow := Lib.hid hrow
          have HAT := Lib.hid (hat.fr (Fr.of_below (S := fun _ => False) hbr) id)
          have hpl := ptrB_length p hW
          have HPL := Lib.hid hpl
          clear hxs hx' hp hW hown hbr hrow hel hat hpl
          go_wp2_with (first | (refine load_ptr rfl (.tmp 63) rfl rfl HAT.out HWf.out ?_) | (refine store_ptr rfl (.tmp 9) (.tmp 64) rfl rfl rfl (heap_alloc_new _ _) rfl HWf.out ?_))
          intro w2 hb2 hf2 hs2
          have hbel2 : Below wr.heap.size wr w2 := ((Below.refl _ wr).alloc (Nat.le_refl _) _).trans (hf2.below (by simp) (fun k hk => by omega))
          have HAT2 := Lib.hid (show At w2 wr.heap.size 0 p.cells from At.of_row hb2)
          have HRow2 := Lib.hid (HRow.out.step hbel2)
          clear hbel2 hb2 hf2 hs2
          go_wp2_with (refine load_ptr rfl (.tmp 9) rfl rfl HAT2.out HWf.out ?_)
          refine (refPtrBytes_any p _ HWf.out).mono ?_
          rintro e w3 ⟨a3, c3, rfl, ho3, hb3⟩
          have hrow3 := HRow2.out.step hb3
          have HO3 := Lib.hid hrow3.own
          have HRow3 := Lib.hid hrow3
          have hsz3 := hrow3.below.size
          have HS3 := Lib.hid (Sl.own ho3)
          clear ho3 hb3 hrow3
          go_wp2_with (at_builtin; refine append_u8 rfl (.tmp 65) (.tmp 67) rfl HO3.out HS3.out rfl rfl (by omega) hsz3 ?_)
          intro aa4 cc4 w4 hown4 hf4 h5
          have hrow4 := HRow3.out.grow (aa := aa4) (cc := cc4) (ys := ptrB p) (m := 44) (by rw [List.map_append]; exact hown4) HPL.out.symm hf4
          rw [← HX.out] at hrow4
          have HRow4 := Lib.hid hrow4
          clear hown4 hf4 h5 hrow4 hsz3
          go_wp2
          go_roundw
          case rel => exact ⟨k + 1, by omega, by go_num, HRow4.out⟩
          case measure => simp [intOf]; omega
        · obtain rfl : k = n.kids.length := by omega
          rw [← HLast.out] at hrow
          obtain ⟨aa, cc, rfl, hown, hbr⟩ := hrow
          have HO := Lib.hid (hown.base (show w.heap.size ≤ w0.heap.size by omega))
          have HBr := Lib.hid (HB.out.trans (hbr.mono HB.out.size))
          clear hown hbr
          go_wp2
          go_ret
          exact ⟨aa, cc, rfl, HO.out, HBr.out⟩

theorem refBytes_any (arr : Array Value) (n : Nd) (w : World) (h : NdIs w arr n) (hfb : formB n = true) (hk2 : n.keys.length ≤ 255) :
    Calls Tryd.prog 92 #[.agg arr] w (BytesPost n w) := by
  cases hl : n.leaf with
  | true => exact refBytes_leaf arr n w h hfb hk2 hl
  | false => exact refBytes_inner arr n w h hfb hk2 hl

end Go.Proofs.YtdhlcofjpkbgaaaDoor
