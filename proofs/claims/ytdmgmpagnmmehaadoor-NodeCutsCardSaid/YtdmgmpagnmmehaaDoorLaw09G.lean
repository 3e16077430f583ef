/- Walk: banyanlaw09's NodeBack. -/
import Derived.Test.YtdmgmpagnmmehaaDoorNodeGetB
import Derived.Test.YtdmgmpagnmmehaaDoorTellD
import Derived.Test.YtdmgmpagnmmehaaDoorRefNode
import Derived.Test.YtdmgmpagnmmehaaDoorSameRef
namespace Go.Proofs.YtdmgmpagnmmehaaDoor
open Go.RowKit

theorem zero_fits : Nd.zero.Fits := ⟨by decide, by decide, by decide, by simp [Nd.zero], by simp [Nd.zero]⟩
theorem getN_fits3 (xs : List UInt8) : (getN xs).Fits := by
  unfold getN
  split
  · split
    · exact toldN_fits xs
    · exact zero_fits
  · exact zero_fits
theorem get_fail {xs : List UInt8} (h : ¬ getE xs = 0) : (getE xs = 2 ∨ getE xs = 4) ∧ getN xs = Nd.zero := by
  by_cases hl : xs.length = 512
  · cases hok : getOk xs with
    | true => exact absurd (get_ok hl hok).1 h
    | false => exact ⟨Or.inr (get_no hl hok).1, (get_no hl hok).2⟩
  · exact ⟨Or.inl (get_len hl).1, (get_len hl).2⟩
theorem get_good {xs : List UInt8} (h : getE xs = 0) : xs.length = 512 ∧ getN xs = toldN xs ∧ checkE (toldN xs) = 0 ∧ bytesN (toldN xs) ++ List.replicate (512 - sizeN (toldN xs)) 0 = xs := by
  by_cases hl : xs.length = 512
  · cases hok : getOk xs with
    | true => exact ⟨hl, (get_ok hl hok).2, (getOk_iff xs hl).1 hok⟩
    | false => rw [(get_no hl hok).1] at h; cases h
  · rw [(get_len hl).1] at h; cases h
/-- What is put is got. -/
theorem get_put {n : Nd} (hf : formB n = true) (hs : sizeN n ≤ 512) (hk : n.keys.length ≤ 255) (hw : ∀ p ∈ n.kids, p.Wf) : getE (bytesN n ++ List.replicate (512 - sizeN n) 0) = 0 ∧ getN (bytesN n ++ List.replicate (512 - sizeN n) 0) = n := by
  have h := told_of_bytes n (List.replicate (512 - sizeN n) 0) hf hk hw
  have hlen := bytesN_length hf hw
  have hl : (bytesN n ++ List.replicate (512 - sizeN n) 0).length = 512 := by rw [List.length_append, List.length_replicate, hlen]; omega
  have hok : getOk (bytesN n ++ List.replicate (512 - sizeN n) 0) = true := (getOk_iff _ hl).2 ⟨by rw [h.1]; exact checkE_split.2 ⟨hf, hs⟩, by rw [h.1]⟩
  have hg := get_ok hl hok
  exact ⟨hg.1, by rw [hg.2, h.1]⟩

set_option maxRecDepth 100000 in
set_option maxHeartbeats 8000000 in
theorem nodeBack_any (arr0 : Array Value) (n : Nd) (v : Value) (bs : List UInt8) (w : World) (h : NdIs w arr0 n) (hf : n.Fits) (hb : Sl w 1 v bs.length (bs.map Bv)) (hr : bs.length ≤ 140737488351232) :
    Calls Tryd.prog 4 #[.agg arr0, v] w fun e w' => e = .returned (.bool true) ∧ Below w.heap.size w w' := by
  obtain ⟨a, cap, rfl, _⟩ := hb.len
  have hsz := h.size
  have hwf := h.wf
  have hb0 : Below w.heap.size w (w.alloc (.cells arr0 25)) := (Below.refl _ w).alloc (Nat.le_refl _) _
  have HS := Lib.hid (fun (w' : World) (hh : Below w.heap.size w w') => (hb.below hh : Sl w' 1 (.slice a bs.length cap) bs.length (bs.map Bv)))
  have HN := Lib.hid (fun (w' : World) (hh : Below w.heap.size w w') => (h.below hh : NdIs w' arr0 n))
  have HB := Lib.hid hb0
  have HF := Lib.hid hf
  have HSZ := Lib.hid hsz
  have HWf := Lib.hid hwf
  have HT := Lib.hid (At_nd (heap_alloc_new w (.cells arr0 25)))
  clear h hf hb hsz hwf hb0
  go_enter Tryd.func4, Tryd.ntmps4
  go_wp2_with fail
  refine (alive09 _).mono ?_
  rintro e w1 ⟨rfl, hb1⟩
  have HT1 := Lib.hid (HT.out.fr (Fr.of_below (S := fun _ => False) hb1) id)
  have HB1 := Lib.hid (HB.out.trans (hb1.mono HB.out.size))
  clear hb1
  go_wp2_with (refine load_nd rfl (.tmp 2) rfl rfl HT1.out HSZ.out ?_)
  refine (great09_any _ n _ (HN.out _ HB1.out) HF.out).mono ?_
  rintro e w2 ⟨rfl, hb2⟩
  have HT2 := Lib.hid (HT1.out.fr (Fr.of_below (S := fun _ => False) hb2) id)
  have HB2 := Lib.hid (HB1.out.trans (hb2.mono HB1.out.size))
  clear hb2
  cases hg : great9 n with
  | true =>
    clear hg
    go_wp2
    go_ret
    exact ⟨rfl, HB2.out⟩
  | false =>
    have hk200 : n.keys.length ≤ 255 := by
      unfold great9 at hg
      simp only [Bool.or_eq_false_iff, decide_eq_false_iff_not] at hg
      have := hg.1.2
      omega
    have HK200 := Lib.hid hk200
    clear hg hk200
    by_cases hl : 2000 < bs.length
    · have m1 : (2000 : Int) < (bs.length : Int) := by omega
      clear hl
      go_wp2
      go_ret
      exact ⟨rfl, HB2.out⟩
    · have m1 : ¬ (2000 : Int) < (bs.length : Int) := by omega
      clear hl
      by_cases hC : checkE n = 0
      case neg =>
        have h46 : checkE n = 4 ∨ checkE n = 6 := by
          cases hf : formB n with
          | false => exact Or.inl (checkE_bad hf)
          | true =>
            by_cases h5 : 512 < sizeN n
            · exact Or.inr (checkE_full hf h5)
            · exact absurd (checkE_ok hf h5) hC
        have hput := fun w h => put_bad arr0 n w h HF.out hC
        clear hC
        rcases h46 with h4 | h4 <;> (
          rw [h4] at hput
          have HPut := Lib.hid hput
          clear h4 hput
          go_wp2_with (refine load_nd rfl (.tmp 2) rfl rfl HT2.out HSZ.out ?_)
          refine (HPut.out _ (HN.out _ HB2.out)).mono ?_
          rintro e w3 ⟨rfl, hb3⟩
          have HBT := Lib.hid (HB2.out.trans (hb3.mono HB2.out.size))
          clear hb3
          go_wp2_with fail
          refine (nodeGet_any _ bs _ (HS.out _ HBT.out)).mono ?_
          rintro e w11 ⟨arr, rfl, hn11, hb11⟩
          have HSZ11 := Lib.hid hn11.size
          have HOne11 := Lib.hid hn11.one
          have HN11 := Lib.hid hn11
          have HB11 := Lib.hid (HBT.out.trans (hb11.mono HBT.out.size))
          clear hn11 hb11
          go_wp2_with (refine store_nd rfl (.tmp 13) (.tmp 78) rfl rfl rfl (heap_alloc_new _ _) rfl HSZ11.out HOne11.out ?_)
          intro w12 hg12 hf12 hs12
          have hbel12 : Below w11.heap.size w11 w12 := ((Below.refl _ w11).alloc (Nat.le_refl _) _).trans (hf12.below (by simp) (fun k hk => by omega))
          have HN12 := Lib.hid (HN11.out.below hbel12)
          have HB12 := Lib.hid (HB11.out.trans (hbel12.mono HB11.out.size))
          have HT12 := Lib.hid (At_nd hg12)
          clear hbel12 hg12 hf12 hs12
          by_cases hE : getE bs = 0
          case neg =>
            have h24 : (getE bs = 2 ∨ getE bs = 4) ∧ getN bs = Nd.zero := get_fail hE
            have HZ := Lib.hid h24.2
            clear hE
            rcases h24.1 with h | h <;> (
              rw [h]
              clear h h24
              go_wp2_with (refine load_nd rfl (.tmp 13) rfl rfl HT12.out HSZ11.out ?_)
              have hsame := nodeSame_any arr zeroArr (getN bs) Nd.zero w12 HN12.out (zero_is _) (getN_fits3 bs) zero_fits
              rw [HZ.out, sameN_refl] at hsame
              refine hsame.mono ?_
              rintro e w13 ⟨rfl, hb13⟩
              have HB13 := Lib.hid (HB12.out.trans (hb13.mono HB12.out.size))
              clear hb13 hsame
              go_wp2
              go_ret
              exact ⟨rfl, HB13.out⟩)
          case pos =>
            obtain ⟨hl512, hgN, hcE, hby⟩ := get_good hE
            rw [hE]
            have HN12' := Lib.hid (show NdIs w12 arr (toldN bs) by rw [← hgN]; exact HN12.out)
            have HSP := Lib.hid (checkE_split.1 hcE)
            have HBy := Lib.hid hby
            have hck := fun w h => check_any arr (toldN bs) w h (toldN_fits bs)
            rw [hcE] at hck
            have HCK := Lib.hid hck
            clear hE hl512 hgN hcE hby hck
            go_wp2_with (refine load_nd rfl (.tmp 13) rfl rfl HT12.out HSZ11.out ?_)
            refine (put_ok arr (toldN bs) _ HN12'.out (toldN_fits bs) HSP.out.1 HSP.out.2).mono ?_
            rintro e w13 ⟨aa, cc, rfl, ho13, hb13⟩
            have HS13 := Lib.hid (show Sl w13 1 (.slice aa 512 cc) 512 (bs.map Bv) by have := Sl.own ho13; rwa [HBy.out] at this)
            have HB13 := Lib.hid (HB12.out.trans (hb13.mono HB12.out.size))
            have HT13 := Lib.hid (HT12.out.fr (Fr.of_below (S := fun _ => False) hb13) id)
            have HN13 := Lib.hid (HN12'.out.below hb13)
            clear ho13 hb13
            go_wp2_with fail
            have hsm := same_any _ _ _ _ bs bs w13 HS13.out (HS.out _ HB13.out)
            rw [decide_eq_true (rfl : bs = bs)] at hsm
            refine hsm.mono ?_
            rintro e w14 ⟨rfl, rfl⟩
            clear hsm
            go_wp2_with (refine gload_nd rfl (.tmp 13) rfl rfl HT13.out HSZ11.out ?_)
            refine (HCK.out _ HN13.out).mono ?_
            rintro e w15 ⟨rfl, hb15⟩
            have HB15 := Lib.hid (HB13.out.trans (hb15.mono HB13.out.size))
            clear hb15
            go_wp2
            go_ret
            exact ⟨rfl, HB15.out⟩)
      case pos =>
        obtain ⟨hfb, hs⟩ := checkE_split.1 hC
        have hput := fun w h => put_ok arr0 n w h HF.out hfb hs
        have hgp := get_put hfb hs HK200.out HWf.out
        have hsiz := fun w h => size_any arr0 n w h HF.out
        rw [sizeV_ok hfb, sizeR_ok hfb] at hsiz
        have hlen := bytesN_length hfb HWf.out
        obtain ⟨K, hK⟩ : ∃ K, K = sizeN n := ⟨_, rfl⟩
        obtain ⟨ys, hys⟩ : ∃ ys, ys = bytesN n ++ List.replicate (512 - sizeN n) 0 := ⟨_, rfl⟩
        have hyl : ys.length = 512 := by rw [hys, List.length_append, List.length_replicate, hlen]; omega
        have hyd : ys.drop K = List.replicate (512 - K) 0 := by
          rw [hys, hK, ← hlen, List.drop_left]
        rw [← hys] at hput hgp
        rw [← hK] at hsiz hs
        have HPut := Lib.hid hput
        have HGP := Lib.hid hgp
        have HSiz := Lib.hid hsiz
        have HYD := Lib.hid hyd
        have HYL := Lib.hid hyl
        clear hC hfb hput hgp hsiz hlen hK hys hyl hyd
        go_wp2_with (refine load_nd rfl (.tmp 2) rfl rfl HT2.out HSZ.out ?_)
        refine (HPut.out _ (HN.out _ HB2.out)).mono ?_
        rintro e w3 ⟨a3, c3, rfl, ho3, hb3⟩
        have HT3 := Lib.hid (HT2.out.fr (Fr.of_below (S := fun _ => False) hb3) id)
        have HB3 := Lib.hid (HB2.out.trans (hb3.mono HB2.out.size))
        have HS3 := Lib.hid (Sl.own ho3)
        clear ho3 hb3
        go_wp2_with fail
        refine (nodeGet_any _ ys _ (by rw [HYL.out]; exact HS3.out)).mono ?_
        rintro e w4 ⟨arr4, rfl, hn4, hb4⟩
        rw [HGP.out.1]
        rw [HGP.out.2] at hn4
        have HSZ4 := Lib.hid hn4.size
        have HOne4 := Lib.hid hn4.one
        have HN4 := Lib.hid hn4
        have HT4 := Lib.hid (HT3.out.fr (Fr.of_below (S := fun _ => False) hb4) id)
        have HB4 := Lib.hid (HB3.out.trans (hb4.mono HB3.out.size))
        have HS4 := Lib.hid (HS3.out.below hb4)
        clear hn4 hb4
        go_wp2_with (refine store_nd rfl (.tmp 7) (.tmp 36) rfl rfl rfl (heap_alloc_new _ _) rfl HSZ4.out HOne4.out ?_)
        intro w5 hg5 hf5 hs5
        have hbel5 : Below w4.heap.size w4 w5 := ((Below.refl _ w4).alloc (Nat.le_refl _) _).trans (hf5.below (by simp) (fun k hk => by omega))
        have HN5 := Lib.hid (HN4.out.below hbel5)
        have HT5 := Lib.hid (HT4.out.fr (Fr.of_below (S := fun _ => False) hbel5) id)
        have HB5 := Lib.hid (HB4.out.trans (hbel5.mono HB4.out.size))
        have HS5 := Lib.hid (HS4.out.below hbel5)
        have HU5 := Lib.hid (At_nd hg5)
        clear hbel5 hg5 hf5 hs5
        go_wp2_with (refine load_nd rfl (.tmp 2) rfl rfl HT5.out HSZ.out ?_)
        refine (HSiz.out _ (HN.out _ HB5.out)).mono ?_
        rintro e w6 ⟨rfl, hb6⟩
        have HN6 := Lib.hid (HN5.out.below hb6)
        have HT6 := Lib.hid (HT5.out.fr (Fr.of_below (S := fun _ => False) hb6) id)
        have HU6 := Lib.hid (HU5.out.fr (Fr.of_below (S := fun _ => False) hb6) id)
        have HB6 := Lib.hid (HB5.out.trans (hb6.mono HB5.out.size))
        have HS6 := Lib.hid (HS5.out.below hb6)
        clear hb6
        go_wp2_with (first | (refine gload_nd rfl (.tmp 7) rfl rfl HU6.out HSZ4.out ?_) | (refine gload_nd rfl (.tmp 2) rfl rfl HT6.out HSZ.out ?_))
        have hsame := nodeSame_any arr4 arr0 n n w6 HN6.out (HN.out _ HB6.out) HF.out HF.out
        rw [sameN_refl] at hsame
        refine hsame.mono ?_
        rintro e w7 ⟨rfl, hb7⟩
        have HB7 := Lib.hid (HB6.out.trans (hb7.mono HB6.out.size))
        have hS7 := HS6.out.below hb7
        obtain ⟨A, C, q, hA⟩ := cut_u8_lo hS7 (lo := K) hs
        rw [HYD.out] at hA
        have HA := Lib.hid hA
        have m3 : ¬ (512 : Int) < (K : Int) := by omega
        clear hb7 hsame hA hS7
        go_wp2_with fail
        go_loop [68, 12] (fun i _ => ∃ k : Nat, k ≤ 512 - K ∧ i = .int .i64 k) (fun i _ => 512 - K - (intOf i).toNat)
        case atStart => exact ⟨0, Nat.zero_le _, rfl⟩
        case round =>
          obtain ⟨k, hk, rfl⟩ := hrel
          rcases Nat.lt_or_ge k (512 - K) with hlt | hge
          · obtain ⟨_, a', c', e', _, _, hel⟩ := HA.out
            simp only [Value.slice.injEq, true_and] at e'
            obtain ⟨rfl, rfl⟩ := e'
            obtain ⟨b, o, rfl, hc⟩ := hel k (Bv 0) (by simp [hlt])
            have hc' : w7.cell? ⟨b, o + k, none⟩ = some (.int .u8 0) := hc
            clear hel hc
            go_wp2
            go_round
            case rel => exact ⟨k + 1, by omega, by go_num⟩
            case measure => simp [intOf]; omega
          · obtain rfl : k = 512 - K := by omega
            have HBT := HB7
            clear q
            go_wp2_with fail
            refine (nodeGet_any _ bs _ (HS.out _ HBT.out)).mono ?_
            rintro e w11 ⟨arr, rfl, hn11, hb11⟩
            have HSZ11 := Lib.hid hn11.size
            have HOne11 := Lib.hid hn11.one
            have HN11 := Lib.hid hn11
            have HB11 := Lib.hid (HBT.out.trans (hb11.mono HBT.out.size))
            clear hn11 hb11
            go_wp2_with (refine store_nd rfl (.tmp 13) (.tmp 78) rfl rfl rfl (heap_alloc_new _ _) rfl HSZ11.out HOne11.out ?_)
            intro w12 hg12 hf12 hs12
            have hbel12 : Below w11.heap.size w11 w12 := ((Below.refl _ w11).alloc (Nat.le_refl _) _).trans (hf12.below (by simp) (fun k hk => by omega))
            have HN12 := Lib.hid (HN11.out.below hbel12)
            have HB12 := Lib.hid (HB11.out.trans (hbel12.mono HB11.out.size))
            have HT12 := Lib.hid (At_nd hg12)
            clear hbel12 hg12 hf12 hs12
            by_cases hE : getE bs = 0
            case neg =>
              have h24 : (getE bs = 2 ∨ getE bs = 4) ∧ getN bs = Nd.zero := get_fail hE
              have HZ := Lib.hid h24.2
              clear hE
              rcases h24.1 with h | h <;> (
                rw [h]
                clear h h24
                go_wp2_with (refine load_nd rfl (.tmp 13) rfl rfl HT12.out HSZ11.out ?_)
                have hsame := nodeSame_any arr zeroArr (getN bs) Nd.zero w12 HN12.out (zero_is _) (getN_fits3 bs) zero_fits
                rw [HZ.out, sameN_refl] at hsame
                refine hsame.mono ?_
                rintro e w13 ⟨rfl, hb13⟩
                have HB13 := Lib.hid (HB12.out.trans (hb13.mono HB12.out.size))
                clear hb13 hsame
                go_wp2
                go_ret
                exact ⟨rfl, HB13.out⟩)
            case pos =>
              obtain ⟨hl512, hgN, hcE, hby⟩ := get_good hE
              rw [hE]
              have HN12' := Lib.hid (show NdIs w12 arr (toldN bs) by rw [← hgN]; exact HN12.out)
              have HSP := Lib.hid (checkE_split.1 hcE)
              have HBy := Lib.hid hby
              have hck := fun w h => check_any arr (toldN bs) w h (toldN_fits bs)
              rw [hcE] at hck
              have HCK := Lib.hid hck
              clear hE hl512 hgN hcE hby hck
              go_wp2_with (refine load_nd rfl (.tmp 13) rfl rfl HT12.out HSZ11.out ?_)
              refine (put_ok arr (toldN bs) _ HN12'.out (toldN_fits bs) HSP.out.1 HSP.out.2).mono ?_
              rintro e w13 ⟨aa, cc, rfl, ho13, hb13⟩
              have HS13 := Lib.hid (show Sl w13 1 (.slice aa 512 cc) 512 (bs.map Bv) by have := Sl.own ho13; rwa [HBy.out] at this)
              have HB13 := Lib.hid (HB12.out.trans (hb13.mono HB12.out.size))
              have HT13 := Lib.hid (HT12.out.fr (Fr.of_below (S := fun _ => False) hb13) id)
              have HN13 := Lib.hid (HN12'.out.below hb13)
              clear ho13 hb13
              go_wp2_with fail
              have hsm := same_any _ _ _ _ bs bs w13 HS13.out (HS.out _ HB13.out)
              rw [decide_eq_true (rfl : bs = bs)] at hsm
              refine hsm.mono ?_
              rintro e w14 ⟨rfl, rfl⟩
              clear hsm
              go_wp2_with (refine gload_nd rfl (.tmp 13) rfl rfl HT13.out HSZ11.out ?_)
              refine (HCK.out _ HN13.out).mono ?_
              rintro e w15 ⟨rfl, hb15⟩
              have HB15 := Lib.hid (HB13.out.trans (hb15.mono HB13.out.size))
              clear hb15
              go_wp2
              go_ret
              exact ⟨rfl, HB15.out⟩

end Go.Proofs.YtdmgmpagnmmehaaDoor
