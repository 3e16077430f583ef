/- Walk: banyanlaw09's NodeCuts. -/
import Derived.Test.YtdmgmpagnmmehaaDoorLaw09G
namespace Go.Proofs.YtdmgmpagnmmehaaDoor
open Go.RowKit

/-- The bytes of a node, and a byte behind them that is no nought. -/
theorem get_cut {n : Nd} {xs : List UInt8} (hf : formB n = true) (hk : n.keys.length ≤ 255) (hw : ∀ p ∈ n.kids, p.Wf) (tail : List UInt8) (hx : xs = bytesN n ++ tail) (hl : xs.length = 512) (ht : ∃ y ∈ tail, y ≠ 0) : getE xs = 4 := by
  have h := told_of_bytes n tail hf hk hw
  rw [← hx] at h
  refine (get_no hl ?_).1
  unfold getOk
  rw [h.2.2]
  obtain ⟨y, hy, hne⟩ := ht
  rw [endE_not (fun h => hne (h y hy))]
  simp

set_option maxRecDepth 100000 in
set_option maxHeartbeats 8000000 in
theorem nodeCuts_any (arr0 : Array Value) (n : Nd) (c t : Nat) (w : World) (h : NdIs w arr0 n) (hf : n.Fits) (hc : c < 65536) (ht : t < 256) :
    Calls Tryd.prog 3 #[.agg arr0, .int .u16 (c : Int), .int .u8 (t : Int)] w fun e w' => e = .returned (.bool true) ∧ Below w.heap.size w w' := by
  have hsz := h.size
  have hwf := h.wf
  have hb0 : Below w.heap.size w (w.alloc (.cells arr0 25)) := (Below.refl _ w).alloc (Nat.le_refl _) _
  have HN := Lib.hid (fun (w' : World) (hh : Below w.heap.size w w') => (h.below hh : NdIs w' arr0 n))
  have HB := Lib.hid hb0
  have HF := Lib.hid hf
  have HSZ := Lib.hid hsz
  have HWf := Lib.hid hwf
  have HT := Lib.hid (At_nd (heap_alloc_new w (.cells arr0 25)))
  clear h hf hsz hwf hb0
  go_enter Tryd.func3, Tryd.ntmps3
  go_wp2_with fail
  refine (alive09 _).mono ?_
  rintro e w1 ⟨rfl, hb1⟩
  have HT1 := Lib.hid (HT.out.fr (Fr.of_below (S := fun _ => False) hb1) id)
  have HB1 := Lib.hid (HB.out.trans (hb1.mono HB.out.size))
  clear hb1
  by_cases hC : checkE n = 0
  case neg =>
    have h46 : checkE n = 4 ∨ checkE n = 6 := by
      cases hf : formB n with
      | false => exact Or.inl (checkE_bad hf)
      | true =>
        by_cases h5 : 512 < sizeN n
        · exact Or.inr (checkE_full hf h5)
        · exact absurd (checkE_ok hf h5) hC
    have hput := fun w h => put_bad arr0 n w h HF.out hC
    clear hC
    rcases h46 with h4 | h4 <;> (
      rw [h4] at hput
      have HPut := Lib.hid hput
      clear h4 hput
      go_wp2_with (refine load_nd rfl (.tmp 3) rfl rfl HT1.out HSZ.out ?_)
      refine (HPut.out _ (HN.out _ HB1.out)).mono ?_
      rintro e w3 ⟨rfl, hb3⟩
      have HT3 := Lib.hid (HT1.out.fr (Fr.of_below (S := fun _ => False) hb3) id)
      have HB3 := Lib.hid (HB1.out.trans (hb3.mono HB1.out.size))
      clear hb3
      go_wp2_with (refine load_nd rfl (.tmp 3) rfl rfl HT3.out HSZ.out ?_)
      refine (great09_any _ n _ (HN.out _ HB3.out) HF.out).mono ?_
      rintro e w4 ⟨rfl, hb4⟩
      have HB4 := Lib.hid (HB3.out.trans (hb4.mono HB3.out.size))
      clear hb4
      cases hg : great9 n <;> (
        clear hg
        go_wp2
        go_ret
        exact ⟨rfl, HB4.out⟩))
  case pos =>
    obtain ⟨hfb, hs⟩ := checkE_split.1 hC
    have hput := fun w h => put_ok arr0 n w h HF.out hfb hs
    have hsiz := fun w h => size_any arr0 n w h HF.out
    rw [sizeV_ok hfb, sizeR_ok hfb] at hsiz
    have hlen := bytesN_length hfb HWf.out
    obtain ⟨K, hK⟩ : ∃ K, K = sizeN n := ⟨_, rfl⟩
    obtain ⟨ys, hys⟩ : ∃ ys, ys = bytesN n ++ List.replicate (512 - sizeN n) 0 := ⟨_, rfl⟩
    have hyl : ys.length = 512 := by rw [hys, List.length_append, List.length_replicate, hlen]; omega
    rw [← hys] at hput
    rw [← hK] at hsiz hs hlen
    rw [← hK] at hys
    have HPut := Lib.hid hput
    have HSiz := Lib.hid hsiz
    have HYL := Lib.hid hyl
    have HYS := Lib.hid hys
    have HLen := Lib.hid hlen
    have HFb := Lib.hid hfb
    clear hC hfb hput hsiz hlen hK hys hyl
    go_wp2_with (refine load_nd rfl (.tmp 3) rfl rfl HT1.out HSZ.out ?_)
    refine (HPut.out _ (HN.out _ HB1.out)).mono ?_
    rintro e w3 ⟨a3, c3, rfl, ho3, hb3⟩
    have HT3 := Lib.hid (HT1.out.fr (Fr.of_below (S := fun _ => False) hb3) id)
    have HB3 := Lib.hid (HB1.out.trans (hb3.mono HB1.out.size))
    have HX := Lib.hid (fun (w' : World) (hh : Below w3.heap.size w3 w') => ((Sl.own ho3).below hh : Sl w' 1 (.slice a3 512 c3) 512 (ys.map Bv)))
    clear ho3 hb3
    go_wp2_with (refine load_nd rfl (.tmp 3) rfl rfl HT3.out HSZ.out ?_)
    refine (great09_any _ n _ (HN.out _ HB3.out) HF.out).mono ?_
    rintro e w4 ⟨rfl, hb4⟩
    have HT4 := Lib.hid (HT3.out.fr (Fr.of_below (S := fun _ => False) hb4) id)
    have HB4 := Lib.hid (HB3.out.trans (hb4.mono HB3.out.size))
    have HD4 := Lib.hid hb4
    clear hb4
    cases hg : great9 n with
    | true =>
      clear hg
      go_wp2
      go_ret
      exact ⟨rfl, HB4.out⟩
    | false =>
      have hk200 : n.keys.length ≤ 255 := by
        unfold great9 at hg
        simp only [Bool.or_eq_false_iff, decide_eq_false_iff_not] at hg
        have := hg.1.2
        omega
      have HK200 := Lib.hid hk200
      clear hg hk200
      go_wp2_with (refine load_nd rfl (.tmp 3) rfl rfl HT4.out HSZ.out ?_)
      refine (HSiz.out _ (HN.out _ HB4.out)).mono ?_
      rintro e w5 ⟨rfl, hb5⟩
      have HB5 := Lib.hid (HB4.out.trans (hb5.mono HB4.out.size))
      have HD5 := Lib.hid (HD4.out.trans (hb5.mono HD4.out.size))
      obtain ⟨k1, hk1⟩ : ∃ k1, k1 = c % 512 := ⟨_, rfl⟩
      have hk2 : k1 < 512 := by rw [hk1]; exact Nat.mod_lt _ (by decide)
      have ek : (c : Int) % 512 = (k1 : Int) := by omega
      obtain ⟨A, C, q, hA⟩ := cut_u8_hi (HX.out _ HD5.out) (hi := k1) (by omega)
      have hlt : (ys.take k1).length = k1 := by rw [List.length_take, HYL.out]; omega
      have HA := Lib.hid hA
      have hg1 := fun w v h => nodeGet_any v (ys.take k1) w h
      have he1 := (get_len (xs := ys.take k1) (by omega)).1
      have HLT := Lib.hid hlt
      have HE1 := Lib.hid he1
      clear hb5 hA hg1 he1 hlt hk1
      go_wp2_with fail
      refine (nodeGet_any _ (ys.take k1) _ (by rw [HLT.out]; exact HA.out)).mono ?_
      rintro e w6 ⟨arr6, rfl, hn6, hb6⟩
      rw [HE1.out]
      have HSZ6 := Lib.hid hn6.size
      have HOne6 := Lib.hid hn6.one
      have HB6 := Lib.hid (HB5.out.trans (hb6.mono HB5.out.size))
      have HD6 := Lib.hid (HD5.out.trans (hb6.mono HD5.out.size))
      clear hn6 hb6 q ek
      go_wp2_with (refine store_nd rfl (.tmp 11) (.tmp 43) rfl rfl rfl (heap_alloc_new _ _) rfl HSZ6.out HOne6.out ?_)
      intro w7 hg7 hf7 hs7
      have hbel7 : Below w6.heap.size w6 w7 := ((Below.refl _ w6).alloc (Nat.le_refl _) _).trans (hf7.below (by simp) (fun k hk => by omega))
      have HB7 := Lib.hid (HB6.out.trans (hbel7.mono HB6.out.size))
      have HD7 := Lib.hid (HD6.out.trans (hbel7.mono HD6.out.size))
      have HOe := Lib.hid (own_empty w7)
      have HSe := Lib.hid (HX.out _ (HD7.out.trans (((Below.refl _ w7).alloc (Nat.le_refl _) (.cells #[] 5)).mono HD7.out.size)))
      clear hbel7 hg7 hf7 hs7
      go_wp2_with (at_builtin; refine append_u8 rfl (.tmp 46) (.tmp 47) rfl HOe.out HSe.out rfl rfl (by omega) (by simp) ?_)
      intro a8 c8 w8 hown hf h3
      have hb8 : Below w7.heap.size w7 w8 := ((Below.refl _ w7).alloc (Nat.le_refl _) _).trans (hf.below (by simp) (fun k hk => by simp [Value.ownBlock] at hk; omega))
      have hown8 : w8.ownsRow w7.heap.size 5 1 (.slice a8 512 c8) 512 (ys.map Bv) := by simpa using hown
      have HO8 := Lib.hid (own_alloc hown8 (.cells #[.int .u8 (t : Int)] 5))
      have hlit : Sl (w8.alloc (.cells #[.int .u8 (t : Int)] 5)) 1 (.slice (some ⟨w8.heap.size, 0, none⟩) 1 1) 1 ([UInt8.ofNat t].map Bv) := Sl_row (heap_alloc_new _ _) (by simp [Bv, UInt8.toNat_ofNat', Nat.mod_eq_of_lt ht]) rfl
      have HLit := Lib.hid hlit
      have HB8 := Lib.hid (HB7.out.trans (hb8.mono HB7.out.size))
      have HD8 := Lib.hid (HD7.out.trans (hb8.mono HD7.out.size))
      have hs78 := hb8.size
      have HBase := Lib.hid (show w7.heap.size ≤ (w8.alloc (.cells #[.int .u8 (t : Int)] 5)).heap.size by simp; omega)
      clear hown hf h3 hb8 hown8 hlit
      go_wp2_with (at_builtin; refine append_u8 rfl (.tmp 48) (.tmp 50) rfl HO8.out HLit.out rfl rfl (by omega) HBase.out ?_)
      intro a9 c9 w9 hown hf h3
      have hal8 : Below w.heap.size w (w8.alloc (.cells #[.int .u8 (t : Int)] 5)) := HB8.out.alloc HB8.out.size _
      have hdl8 : Below w3.heap.size w3 (w8.alloc (.cells #[.int .u8 (t : Int)] 5)) := HD8.out.alloc HD8.out.size _
      have hB9 : Below w.heap.size w w9 := hal8.trans (hf.below hal8.size (fun k hk => by have := (HO8.out.lt k hk).1; have := HB7.out.size; omega))
      have hD9 : Below w3.heap.size w3 w9 := hdl8.trans (hf.below hdl8.size (fun k hk => by have := (HO8.out.lt k hk).1; have := HD7.out.size; omega))
      have hl9 : (ys ++ [UInt8.ofNat t]).length = 513 := by rw [List.length_append, HYL.out]; rfl
      have HS9 := Lib.hid (show Sl w9 1 (.slice a9 513 c9) (ys ++ [UInt8.ofNat t]).length ((ys ++ [UInt8.ofNat t]).map Bv) by
        rw [hl9, List.map_append]
        first | exact Sl.own hown | (have := Sl.own hown; simpa using this))
      have HE9 := Lib.hid (get_len (xs := ys ++ [UInt8.ofNat t]) (by omega)).1
      have HB9 := Lib.hid hB9
      have HD9 := Lib.hid hD9
      clear hown hf h3 hal8 hdl8 hB9 hD9 hl9
      go_wp2_with fail
      refine (nodeGet_any _ (ys ++ [UInt8.ofNat t]) _ HS9.out).mono ?_
      rintro e w10 ⟨arr10, rfl, hn10, hb10⟩
      rw [HE9.out]
      have HSZ10 := Lib.hid hn10.size
      have HOne10 := Lib.hid hn10.one
      have HB10 := Lib.hid (HB9.out.trans (hb10.mono HB9.out.size))
      have HD10 := Lib.hid (HD9.out.trans (hb10.mono HD9.out.size))
      clear hn10 hb10
      go_wp2_with (refine store_nd rfl (.tmp 13) (.tmp 53) rfl rfl rfl (heap_alloc_new _ _) rfl HSZ10.out HOne10.out ?_)
      intro w11 hg11 hf11 hs11
      have hbel11 : Below w10.heap.size w10 w11 := ((Below.refl _ w10).alloc (Nat.le_refl _) _).trans (hf11.below (by simp) (fun k hk => by omega))
      have HB11 := Lib.hid (HB10.out.trans (hbel11.mono HB10.out.size))
      have HD11 := Lib.hid (HD10.out.trans (hbel11.mono HD10.out.size))
      clear hbel11 hg11 hf11 hs11
      by_cases hK5 : K = 512
      · have e5 : ((K : Int) == 512) = true := by have := beq_nat K 512; rw [decide_eq_true hK5] at this; exact this
        clear hK5
        go_wp2
        go_ret
        exact ⟨rfl, HB11.out⟩
      · have e5 : ((K : Int) == 512) = false := by have := beq_nat K 512; rw [decide_eq_false hK5] at this; exact this
        have hKl : K < 512 := by omega
        by_cases ht0 : t = 0
        · have e6 : ((t : Int) == 0) = true := by rw [beq_zero]; exact decide_eq_true ht0
          clear ht0
          go_wp2
          go_ret
          exact ⟨rfl, HB11.out⟩
        · have e6 : ((t : Int) == 0) = false := by rw [beq_zero]; exact decide_eq_false ht0
          have HOe11 := Lib.hid (own_empty w11)
          have HSe11 := Lib.hid (HX.out _ (HD11.out.trans (((Below.refl _ w11).alloc (Nat.le_refl _) (.cells #[] 5)).mono HD11.out.size)))
          obtain ⟨j, hj⟩ : ∃ j, j = c % (512 - K) := ⟨_, rfl⟩
          have hjl : j < 512 - K := by rw [hj]; exact Nat.mod_lt _ (by omega)
          have ej : (c : Int) % (512 - (K : Int)) = (j : Int) := by
            rw [hj, show (512 : Int) - (K : Int) = ((512 - K : Nat) : Int) by omega]
            omega
          have HT0 := Lib.hid ht0
          clear hK5 ht0 hj
          go_wp2_with (at_builtin; refine append_u8 rfl (.tmp 67) (.tmp 68) rfl HOe11.out HSe11.out rfl rfl (by omega) (by simp) ?_)
          intro a12 c12 w12 hown hf h3
          have hb12 : Below w11.heap.size w11 w12 := ((Below.refl _ w11).alloc (Nat.le_refl _) _).trans (hf.below (by simp) (fun k hk => by simp [Value.ownBlock] at hk; omega))
          have hown12 : w12.ownsRow w11.heap.size 5 1 (.slice a12 512 c12) 512 (ys.map Bv) := by simpa using hown
          obtain ⟨g, rfl⟩ : ∃ g, a12 = some ⟨g, 0, none⟩ := by
            rcases hown12.2 with ⟨h0, h1⟩ | ⟨g, cp, cu, h0, _⟩
            · simp only [Value.slice.injEq] at h0; omega
            · simp only [Value.slice.injEq] at h0; exact ⟨g, h0.1⟩
          have hlen12 : (ys.map Bv).length = 512 := by rw [List.length_map]; exact HYL.out
          obtain ⟨i0, hi0⟩ : ∃ i0, i0 = K + j := ⟨_, rfl⟩
          have hi5 : i0 < 512 := by omega
          have ei : (K : Int) + (j : Int) = (i0 : Int) := by omega
          have hc12 : w12.cell? ⟨g, i0, none⟩ = some (Bv (ys[i0]'(by rw [HYL.out]; exact hi5))) := by
            rw [hown12.cellAt i0 (by omega), List.getElem?_map, List.getElem?_eq_getElem (by rw [HYL.out]; exact hi5)]; rfl
          have hf12 := hown12.frozenAt i0
          have HB12 := Lib.hid (HB11.out.trans (hb12.mono HB11.out.size))
          have HO12 := Lib.hid hown12
          have HI := Lib.hid hi0
          have m7 : (i0 : Int) < 512 := by omega
          obtain ⟨bv, hbv⟩ : ∃ bv, bv = Bv (ys[i0]'(by rw [HYL.out]; exact hi5)) := ⟨_, rfl⟩
          rw [← hbv] at hc12
          clear hown hf h3 hb12 hown12 hlen12 hi0 hbv
          go_wp2_with fail
          have hset := (HO12.out.stored i0 (.int .u8 (t : Int))).1
          have hyl2 : (ys.set i0 (UInt8.ofNat t)).length = 512 := by rw [List.length_set, HYL.out]
          have hS13 : Sl (w12.setCell ⟨g, i0, none⟩ (.int .u8 (t : Int))) 1 (.slice (some ⟨g, 0, none⟩) 512 c12) (ys.set i0 (UInt8.ofNat t)).length ((ys.set i0 (UInt8.ofNat t)).map Bv) := by
            rw [hyl2, List.map_set, show Bv (UInt8.ofNat t) = .int .u8 (t : Int) by simp [Bv, UInt8.toNat_ofNat', Nat.mod_eq_of_lt ht]]
            exact Sl.own hset
          have hE13 : getE (ys.set i0 (UInt8.ofNat t)) = 4 := by
            refine get_cut HFb.out HK200.out HWf.out ((List.replicate (512 - K) 0).set j (UInt8.ofNat t)) ?_ hyl2 ⟨UInt8.ofNat t, ?_, ?_⟩
            · rw [HYS.out, HI.out, List.set_append_right _ _ (by rw [HLen.out]; omega), HLen.out]
              congr 2
              omega
            · exact List.mem_set (by rw [List.length_replicate]; exact hjl) _
            · intro e0
              have h9 := congrArg UInt8.toNat e0
              rw [UInt8.toNat_ofNat', Nat.mod_eq_of_lt ht] at h9
              exact HT0.out h9
          refine (nodeGet_any _ (ys.set i0 (UInt8.ofNat t)) _ hS13).mono ?_
          rintro e w14 ⟨arr14, rfl, hn14, hb14⟩
          rw [hE13]
          have HSZ14 := Lib.hid hn14.size
          have HOne14 := Lib.hid hn14.one
          have HB13 : Below w.heap.size w (w12.setCell ⟨g, i0, none⟩ (.int .u8 (t : Int))) := HB12.out.trans (((Fr.refl (fun k => k = g) w12).set g i0 rfl _).below HB12.out.size (fun k hk => by
            have := (HO12.out.lt g rfl).1
            have := HB11.out.size
            omega))
          have HB14 := Lib.hid (HB13.trans (hb14.mono HB13.size))
          clear hn14 hb14 hset hS13 hE13 HB13 hc12 hf12
          go_wp2_with (refine store_nd rfl (.tmp 16) (.tmp 83) rfl rfl rfl (heap_alloc_new _ _) rfl HSZ14.out HOne14.out ?_)
          intro w15 hg15 hf15 hs15
          have hbel15 : Below w14.heap.size w14 w15 := ((Below.refl _ w14).alloc (Nat.le_refl _) _).trans (hf15.below (by simp) (fun k hk => by omega))
          have HB15 := Lib.hid (HB14.out.trans (hbel15.mono HB14.out.size))
          clear hbel15 hg15 hf15 hs15
          go_wp2
          go_ret
          exact ⟨rfl, HB15.out⟩

end Go.Proofs.YtdmgmpagnmmehaaDoor
