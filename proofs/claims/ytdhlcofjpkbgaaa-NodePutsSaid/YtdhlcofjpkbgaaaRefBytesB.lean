/- Walk: the reference's bytes of a node that is no leaf; of any node. -/
import Derived.Test.YtdhlcofjpkbgaaaRefBytes
namespace Go.Proofs.Ytdhlcofjpkbgaaa
open Go.RowKit

theorem formB_innerkids {n : Nd} (h : formB n = true) (hl : n.leaf = false) : n.kids.length = n.keys.length + 1 := by
  unfold formB at h
  rw [hl] at h
  simp only [Bool.false_eq_true, if_false, Bool.and_eq_true, decide_eq_true_iff] at h
  exact h.2.1.2

set_option maxRecDepth 100000 in
set_option maxHeartbeats 4000000 in
theorem refBytes_inner (arr : Array Value) (n : Nd) (w : World) (h : NdIs w arr n) (hfb : formB n = true) (hk2 : n.keys.length ≤ 200) (hl : n.leaf = false) :
    Calls Try.prog 50 #[.agg arr] w (BytesPost n w) := by
  have hok := formB_ok hfb
  have hkk := formB_innerkids hfb hl
  obtain ⟨ak, ck, av, cv, ap, cp, rfl, hk, hv, hp⟩ := h.get
  rw [hl]
  have hb0 : Below w.heap.size w (w.alloc (.cells #[.bool false, .slice ak n.keys.length ck, .slice av n.vals.length cv, .slice ap n.kids.length cp] 55)) := (Below.refl _ w).alloc (Nat.le_refl _) _
  have hT := At_nd (heap_alloc_new w (.cells #[.bool false, .slice ak n.keys.length ck, .slice av n.vals.length cv, .slice ap n.kids.length cp] 55))
  obtain ⟨w0, hw0⟩ : ∃ w0, w0 = w.alloc (.cells #[.bool false, .slice ak n.keys.length ck, .slice av n.vals.length cv, .slice ap n.kids.length cp] 55) := ⟨_, rfl⟩
  have hs0 : w0.heap.size = w.heap.size + 1 := by rw [hw0]; simp
  rw [← hw0] at hb0 hT
  have HS0 := Lib.hid hs0
  have HW0 := Lib.hid hw0
  have HB := Lib.hid hb0
  have HT := Lib.hid hT
  have HK := Lib.hid (hk.below hb0)
  have HP := Lib.hid (hp.below hb0)
  have HOK := Lib.hid hok
  have HBD := Lib.hid (kvTo_bound hfb hk2)
  have HL := Lib.hid hl
  have HKK := Lib.hid hkk
  have hkb : n.kids.length ≤ 201 := by omega
  have hown := World.ownsRow_lit (e := 5) (size := 1) (base := w0.heap.size) w0 #[.int .u8 2, .int .u8 (n.keys.length : Int)] 2 (Nat.le_refl _) (by decide) rfl
  rw [show (#[.int .u8 2, .int .u8 (n.keys.length : Int)] : Array Value).toList = (headB n).map Bv from headB_inner hl hk2] at hown
  have hrow0 : RowRel w0 (headB n ++ kvTo n 0) (.slice (some ⟨w.heap.size + 1, 0, none⟩) 2 2) (w0.alloc (.cells #[.int .u8 2, .int .u8 (n.keys.length : Int)] 5)) := by
    rw [← hs0]
    rw [show kvTo n 0 = [] from rfl, List.append_nil]
    exact ⟨_, _, by rw [headB_length], by rw [headB_length]; exact hown, (Below.refl _ _).alloc (Nat.le_refl _) _⟩
  have HR0 := Lib.hid hrow0
  clear h hk hv hp hb0 hT hs0 hfb hok hown hrow0 hw0 hl hkk
  go_enter Try.func50, Try.ntmps50
  have hbl : w.heap.size < w0.heap.size := by have := HS0.out; omega
  go_wp2_with fail
  rw [← HW0.out]
  go_loopw [49, 5, 7] (fun i v _ wr => ∃ k : Nat, k ≤ n.keys.length ∧ i = .int .i64 k ∧ RowRel w0 (headB n ++ kvTo n k) v wr) (fun i _ _ _ => n.keys.length - (intOf i).toNat)
  case atStart => exact ⟨0, Nat.zero_le _, rfl, HR0.out⟩
  case round =>
    obtain ⟨k, hk, rfl, hrow⟩ := hrel
    rcases Nat.lt_or_ge k n.keys.length with hlt | hge
    · have hxl := HBD.out k hk
      have hx' : headB n ++ kvTo n (k + 1) = headB n ++ kvTo n k ++ kvAt n k := by rw [kvTo_succ, List.append_assoc]
      obtain ⟨xs, hxs⟩ : ∃ xs, xs = headB n ++ kvTo n k := ⟨_, rfl⟩
      rw [← hxs] at hrow hxl hx'
      obtain ⟨a', c', e', hel⟩ := HK.out.open
      simp only [Value.slice.injEq, true_and] at e'
      obtain ⟨rfl, rfl⟩ := e'
      obtain ⟨b, o, rfl, hc⟩ := hel k hlt
      obtain ⟨s, hs⟩ : ∃ s, s = n.keys[k]'hlt := ⟨_, rfl⟩
      have hss : s.size ≤ 32 := by rw [hs]; exact (HOK.out.keyS _ (List.getElem_mem _)).2
      have hkv : kvAt n k = strB s := by
        unfold kvAt
        rw [HL.out, hs, List.getD_eq_getElem?_getD, List.getElem?_eq_getElem hlt]
        simp
      rw [hkv] at hx'
      have HX := Lib.hid hx'
      rw [← hs] at hc
      obtain ⟨aa, cc, rfl, hown, hbr⟩ := hrow
      have hrow : RowRel w0 xs (.slice aa xs.length cc) wr := ⟨aa, cc, rfl, hown, hbr⟩
      have HRow := Lib.hid hrow
      have c2 := (hbr.cell (p := ⟨b, o + k, none⟩) (World.block_lt_of_cell? w0 _ hc)).trans hc
      clear hxs hx' hkv hs hown hbr hrow hel hc
      go_wp2_with fail
      refine (refStr_any s _ (by omega)).mono ?_
      rintro e w1 ⟨v1, rfl, hs1, hb1⟩
      have hrow1 := HRow.out.step hb1
      have ho1 := hrow1.own
      have hB1 := hrow1.below
      have HO1 := Lib.hid ho1
      have HRow1 := Lib.hid (HRow.out.step hb1)
      have hsz1 := hB1.size
      have HS1 := Lib.hid hs1
      clear ho1 hs1 hb1 hB1 c2 hrow1
      go_wp2_with (at_builtin; refine append_u8 rfl (.tmp 53) (.tmp 55) rfl HO1.out HS1.out rfl rfl (by rw [strB_length]; omega) hsz1 ?_)
      intro aa2 cc2 w2 hown2 hf2 h3
      have hrow2 := HRow1.out.grow (aa := aa2) (cc := cc2) (ys := strB s) (m := (strB s).length) (by rw [List.map_append]; exact hown2) rfl hf2
      rw [← HX.out] at hrow2
      have HRow2 := Lib.hid hrow2
      clear hown2 hf2 h3 hsz1 hrow2
      go_wp2
      go_roundw
      case rel => exact ⟨k + 1, by omega, by go_num, HRow2.out⟩
      case measure => simp [intOf]; omega
    · obtain rfl : k = n.keys.length := by omega
      have hH := HBD.out n.keys.length (Nat.le_refl _)
      obtain ⟨hd, hhd⟩ : ∃ hd, hd = headB n ++ kvTo n n.keys.length := ⟨_, rfl⟩
      rw [← hhd] at hrow hH
      have hlast : bytesN n = hd ++ kidsTo n n.kids.length := by unfold bytesN; rw [hhd]
      have HLast := Lib.hid hlast
      have hbr := hrow.below
      have HRw := Lib.hid hrow
      have c3 := (hbr.cell (p := ⟨w.heap.size, 3, none⟩) hbl).trans (by simpa using HT.out 3 _ rfl : w0.cell? ⟨w.heap.size, 3, none⟩ = some (.slice ap n.kids.length cp))
      clear hhd hrow hbr hlast
      go_wp2_with fail
      clear c3
      obtain ⟨wo, hwo⟩ : ∃ wo : World, wo = wr := ⟨_, rfl⟩
      rw [← hwo] at HRw ⊢
      clear hwo
      go_loopw [61, 5, 9] (fun i v _ wr => ∃ k : Nat, k ≤ n.kids.length ∧ i = .int .i64 k ∧ RowRel w0 (hd ++ kidsTo n k) v wr) (fun i _ _ _ => n.kids.length - (intOf i).toNat)
      case atStart => exact ⟨0, Nat.zero_le _, rfl, by rw [show kidsTo n 0 = [] by simp [kidsTo], List.append_nil]; exact HRw.out⟩
      case round =>
        obtain ⟨k, hk, rfl, hrow⟩ := hrel
        rcases Nat.lt_or_ge k n.kids.length with hlt | hge
        · have hxl : (hd ++ kidsTo n k).length ≤ 50000 := by
            rw [List.length_append, kidsTo_length n HP.out.wf k hk]; omega
          have hx' : hd ++ kidsTo n (k + 1) = hd ++ kidsTo n k ++ ptrB (n.kids[k]'hlt) := by rw [kidsTo_succ n k hlt, List.append_assoc]
          obtain ⟨xs, hxs⟩ : ∃ xs, xs = hd ++ kidsTo n k := ⟨_, rfl⟩
          rw [← hxs] at hrow hxl hx'
          obtain ⟨a', c', e', hel⟩ := HP.out.open
          simp only [Value.slice.injEq, true_and] at e'
          obtain ⟨rfl, rfl⟩ := e'
          obtain ⟨b, o, rfl, hat⟩ := hel k hlt
          have hW : (n.kids[k]'hlt).Wf := HP.out.wf _ (List.getElem_mem hlt)
          obtain ⟨p, hp⟩ : ∃ p, p = n.kids[k]'hlt := ⟨_, rfl⟩
          rw [← hp] at hat hx' hW
          have HX := Lib.hid hx'
          have HWf := Lib.hid hW
          obtain ⟨aa, cc, rfl, hown, hbr⟩ := hrow
          have hrow : RowRel w0 xs (.slice aa xs.length cc) wr := ⟨aa, cc, rfl, hown, hbr⟩
          have HRow := Lib.hid hrow
          have HAT := Lib.hid (hat.fr (Fr.of_below (S := fun _ => False) hbr) id)
          have hpl := ptrB_length p hW
          have HPL := Lib.hid hpl
          clear hxs hx' hp hW hown hbr hrow hel hat hpl
          go_wp2_with (first | (refine load_ptr rfl (.tmp 63) rfl rfl HAT.out HWf.out ?_) | (refine store_ptr rfl (.tmp 9) (.tmp 64) rfl rfl rfl (heap_alloc_new _ _) rfl HWf.out ?_))
          intro w2 hb2 hf2 hs2
          have hbel2 : Below wr.heap.size wr w2 := ((Below.refl _ wr).alloc (Nat.le_refl _) _).trans (hf2.below (by simp) (fun k hk => by omega))
          have HAT2 := Lib.hid (show At w2 wr.heap.size 0 p.cells from At.of_row hb2)
          have HRow2 := Lib.hid (HRow.out.step hbel2)
          clear hbel2 hb2 hf2 hs2
          go_wp2_with (refine load_ptr rfl (.tmp 9) rfl rfl HAT2.out HWf.out ?_)
          refine (refPtrBytes_any p _ HWf.out).mono ?_
          rintro e w3 ⟨a3, c3, rfl, ho3, hb3⟩
          have hrow3 := HRow2.out.step hb3
          have HO3 := Lib.hid hrow3.own
          have HRow3 := Lib.hid hrow3
          have hsz3 := hrow3.below.size
          have HS3 := Lib.hid (Sl.own ho3)
          clear ho3 hb3 hrow3
          go_wp2_with (at_builtin; refine append_u8 rfl (.tmp 65) (.tmp 67) rfl HO3.out HS3.out rfl rfl (by omega) hsz3 ?_)
          intro aa4 cc4 w4 hown4 hf4 h5
          have hrow4 := HRow3.out.grow (aa := aa4) (cc := cc4) (ys := ptrB p) (m := 44) (by rw [List.map_append]; exact hown4) HPL.out.symm hf4
          rw [← HX.out] at hrow4
          have HRow4 := Lib.hid hrow4
          clear hown4 hf4 h5 hrow4 hsz3
          go_wp2
          go_roundw
          case rel => exact ⟨k + 1, by omega, by go_num, HRow4.out⟩
          case measure => simp [intOf]; omega
        · obtain rfl : k = n.kids.length := by omega
          rw [← HLast.out] at hrow
          obtain ⟨aa, cc, rfl, hown, hbr⟩ := hrow
          have HO := Lib.hid (hown.base (show w.heap.size ≤ w0.heap.size by omega))
          have HBr := Lib.hid (HB.out.trans (hbr.mono HB.out.size))
          clear hown hbr
          go_wp2
          go_ret
          exact ⟨aa, cc, rfl, HO.out, HBr.out⟩

theorem refBytes_any (arr : Array Value) (n : Nd) (w : World) (h : NdIs w arr n) (hfb : formB n = true) (hk2 : n.keys.length ≤ 200) :
    Calls Try.prog 50 #[.agg arr] w (BytesPost n w) := by
  cases hl : n.leaf with
  | true => exact refBytes_leaf arr n w h hfb hk2 hl
  | false => exact refBytes_inner arr n w h hfb hk2 hl

end Go.Proofs.Ytdhlcofjpkbgaaa
