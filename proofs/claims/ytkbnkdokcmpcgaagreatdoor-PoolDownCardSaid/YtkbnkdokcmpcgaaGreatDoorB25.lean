/- Walk: banyanlaw13.PoolDown. How a slice of nodes that came in reads. Plain: what is taken, counted. A map's length. Walk: banyanlaw13.PoolFills. How a slice of uint32 that came in reads. A region that draws its order, with two chains of operations that write: any order of the two, by what stands behind x of the first and y of the second. Over any program. -/
import Derived.Test.YtkbnkdokcmpcgaaGreatDoorB6
import Derived.Test.YtkbnkdokcmpcgaaGreatDoorB11
import Derived.Test.YtkbnkdokcmpcgaaGreatDoorB23
import Derived.Test.YtkbnkdokcmpcgaaGreatDoorB24
namespace Go.Proofs.YtkbnkdokcmpcgaaGreatDoor
open Go.RowKit

/-- A slice of nodes. -/
def NdsIn (w : World) (v : Value) (ns : List Nd) : Prop :=
  ∃ a cap, v = .slice a ns.length cap ∧ ∀ i (hi : i < ns.length), ∃ b o arr, a = some ⟨b, o, none⟩ ∧ At w b (o + i * 4) arr.toList ∧ NdIs w arr ns[i] ∧ ns[i].Fits
theorem NdsIn.below {w w' : World} {v : Value} {ns : List Nd} (h : NdsIn w v ns) (hb : Below w.heap.size w w') : NdsIn w' v ns := by
  obtain ⟨a, cap, rfl, hel⟩ := h
  refine ⟨a, cap, rfl, fun i hi => ?_⟩
  obtain ⟨b, o, arr, rfl, h1, h2, h3⟩ := hel i hi
  exact ⟨b, o, arr, rfl, fun j u hj => (Fr.of_below (S := fun _ => False) hb).cell (h1 j u hj) id, h2.below hb, h3⟩

section
variable (B P D S W lo birth : Nat) (ks : List UInt8) (t : Nat → Bool) (d : Dv) (L : List (Nat × Obj)) (w : World)
theorem limit_ps (n : Int) (h : PS B w P D S W lo ks t birth d L) (hB : B ≤ w.heap.size) (hn : -9223372036854775808 ≤ n ∧ n ≤ 9223372036854775807) :
    Calls Tryz.prog 26 #[.pointer (some ⟨D, 0, none⟩), .int .i64 n] w fun e w' => e = .returned (.tuple #[]) ∧ PS B w' P D S W lo ks t birth (d.limit n) L ∧ Below B w w' := by
  obtain ⟨F, h1, h2, h3, h4, h5⟩ := h
  refine (dvLimit_any D lo F d n w h2 hn).mono ?_
  rintro e w' ⟨rfl, hdv, hfr⟩
  exact ⟨rfl, PS.after B P D S W lo birth ks t d L w hB h1 h3 h4 h5 rfl (h1.fr hfr (fun k hk => (h4 k hk).2)) hdv (fun k hk => Or.inl hk) (hfr.mono (fun k _ hk => Or.inl hk))⟩
theorem crash_ps (keep : Nat) (torn : Int) (h : PS B w P D S W lo ks t birth d L) (hB : B ≤ w.heap.size) (hk : keep < 18446744073709551616) (hn : d.waits.length ≤ 1000000) (ht : -9223372036854775808 ≤ torn ∧ torn ≤ 9223372036854775807) :
    Calls Tryz.prog 28 #[.pointer (some ⟨D, 0, none⟩), .int .u64 (keep : Int), .int .i64 torn] w fun e w' => e = .returned (.tuple #[]) ∧ PS B w' P D S W lo ks t birth (d.crashed keep torn) L ∧ Below B w w' := by
  obtain ⟨F, h1, h2, h3, h4, h5⟩ := h
  refine (dvCrash_any D lo keep torn F d w h2 hk hn ht).mono ?_
  rintro e w' ⟨F', rfl, hdv, hfr, hF⟩
  exact ⟨rfl, PS.after B P D S W lo birth ks t d L w hB h1 h3 h4 h5 rfl (h1.fr hfr (fun k hk => (h4 k hk).2)) hdv hF (hfr.mono (fun k _ hk => Or.inl hk))⟩
theorem left_ps (h : PS B w P D S W lo ks t birth d L) :
    Calls Tryz.prog 25 #[.pointer (some ⟨P, 0, none⟩)] w fun e w' => e = .returned (.int .i64 ((d.size : Int) - 2 - (cntT t d.size : Int))) ∧ Below w.heap.size w w' := by
  refine (poLeft_any P D S W d.size birth ks t w h.pl).mono ?_
  rintro e w' ⟨rfl, n, rfl⟩
  exact ⟨rfl, belowDrewN (Below.refl _ _) _⟩
end

/-- The lowest ones are taken. -/
def upT (m : Nat) : Nat → Bool := fun a => decide (2 ≤ a ∧ a < m + 2)
theorem upT_zero : upT 0 = noneT := by funext a; unfold upT noneT; simp
theorem upT_next (m : Nat) : updT (upT m) (m + 2) true = upT (m + 1) := by
  funext a
  unfold updT upT
  by_cases h : a = m + 2
  · subst h; simp
  · rw [if_neg h]; simp only [decide_eq_decide]; omega
theorem upT_low : ∀ m, m < 30 → lowT (upT m) 32 = some (m + 2) := by decide
theorem upT_cnt : ∀ m, m < 31 → cntT (upT m) 32 = m := by decide

/-- What stands behind some nodes. -/
def DnRel (B : Nat) (w2 : World) (P D S W lo : Nat) (ks : List UInt8) (L : List (Nat × Obj)) (k0 m : Nat) (wr : World) : Prop :=
  ∃ d, PS B wr P D S W lo ks (upT m) 1 d L ∧ Below B w2 wr ∧ d.size = 32 ∧ m ≤ k0 ∧ d.waits.length = m ∧ ((d.down = false ∧ d.left = (k0 : Int) - (m : Int)) ∨ (d.down = true ∧ m = k0))

set_option maxRecDepth 100000 in
set_option maxHeartbeats 8000000 in
theorem poolDown_any (v : Value) (ns : List Nd) (nb : Nat) (w : World) (h : NdsIn w v ns) (hb : nb < 256) (hT : Tz w) :
    Calls Tryz.prog 6 #[v, .int .u8 (nb : Int)] w fun e w' => e = .returned (.bool true) ∧ Below w.heap.size w w' := by
  obtain ⟨a1, c1, rfl, hel⟩ := h
  have HNs := Lib.hid (show NdsIn w (.slice a1 ns.length c1) ns from ⟨a1, c1, rfl, hel⟩)
  have HTw := Lib.hid hT
  clear hel hT
  go_enter Tryz.func6, Tryz.ntmps6
  go_wp2_with fail
  refine (alive13 _ HTw.out).mono ?_
  rintro e w2 ⟨rfl, hb2⟩
  have HB2 := Lib.hid hb2
  have HN2 := Lib.hid (HNs.out.below hb2)
  have HT2 := Lib.hid (HTw.out.below hb2)
  clear hb2 HNs HTw
  by_cases hl : (12 : Int) < (ns.length : Int)
  · go_wp2
    go_ret
    exact ⟨rfl, HB2.out⟩
  have hlen : ns.length ≤ 12 := by omega
  clear hl
  obtain ⟨k0, hk0⟩ : ∃ k0, k0 = nb % 6 := ⟨_, rfl⟩
  have hk6 : k0 ≤ 5 := by omega
  have HK0 := Lib.hid (show ((nb : Int) % 6) = (k0 : Int) by omega)
  clear hk0
  go_wp2_with fail
  refine (made_ps 32 w2 (by decide) (by decide)).mono ?_
  rintro e w3 ⟨P, D, S, W, lo, rfl, hps, hb3⟩
  obtain ⟨ks, hks⟩ : ∃ ks, ks = MK := ⟨_, rfl⟩
  rw [← hks] at hps ⊢
  have HKl := Lib.hid (show ks.length = 64 by rw [hks]; exact MK_length)
  have HP3 := Lib.hid (hps w2.heap.size (Nat.le_refl _))
  have HX3 := Lib.hid hb3
  clear hks hps hb3
  go_wp2_with (refine wpList_store_row rfl _ (.tmp 7) (.tmp 26) rfl w3.heap.size rfl (ks.map Bv) rfl _ _ (heap_alloc_new w3 (.cells ((zB 64).map Bv).toArray 35)) (by rw [List.length_map, HKl.out]; rfl) (Bv_oneCell _) (by rw [info_keys, List.length_map, HKl.out]) ?_; intro w4 hg hf hs; have HGw4 := Lib.hid hg; have HBww4 := Lib.hid (show Below w3.heap.size w3 w4 from ((Below.refl _ w3).alloc (Nat.le_refl _) _).trans (hf.below (by simp) (fun j hj => by omega))); clear hg hf hs)
  have HP4 := Lib.hid (HP3.out.add HBww4.out HGw4.out (Nat.le_refl _))
  have HX4 := Lib.hid (HX3.out.trans (HBww4.out.mono HX3.out.size))
  clear HP3 HX3 HGw4 HBww4
  refine (begin_ps w2.heap.size P D S W lo 0 ks noneT _ _ w4 1 HP4.out HX4.out.size (by decide) (by decide)).mono ?_
  rintro e w5 ⟨rfl, hp5, hx5⟩
  have HP5 := Lib.hid hp5
  have HX5 := Lib.hid (HX4.out.trans hx5)
  clear hp5 hx5 HP4 HX4
  go_wp2_with fail
  rw [HK0.out]
  refine (limit_ps w2.heap.size P D S W lo 1 ks noneT _ _ w5 (k0 : Int) HP5.out HX5.out.size (by omega)).mono ?_
  rintro e w6 ⟨rfl, hp6, hx6⟩
  obtain ⟨LL, hLL⟩ : ∃ LL, LL = [(w3.heap.size, Obj.cells (ks.map Bv).toArray 35 (0, 0))] := ⟨_, rfl⟩
  have HR6 := Lib.hid (show DnRel w2.heap.size w2 P D S W lo ks LL k0 0 w6 from ⟨_, by rw [upT_zero, hLL]; exact hp6, HX5.out.trans hx6, rfl, by omega, rfl, Or.inl ⟨rfl, by show max (k0 : Int) (-1) = _; omega⟩⟩)
  clear hp6 hx6 HP5 HX5 hLL HK0
  go_wp2_with fail
  go_loopw [43, 10, 12, 13, 14] (fun i u _ _ _ wr => ∃ k m : Nat, k ≤ ns.length ∧ m ≤ k ∧ i = .int .i64 k ∧ u = .int .i64 m ∧ DnRel w2.heap.size w2 P D S W lo ks LL k0 m wr) (fun i _ _ _ _ _ => ns.length - (intOf i).toNat)
  case atStart => exact ⟨0, 0, Nat.zero_le _, Nat.le_refl _, rfl, rfl, HR6.out⟩
  case round =>
    obtain ⟨k, m, hk, hmk, rfl, rfl, hr⟩ := hrel
    have HR := Lib.hid hr
    clear hr
    rcases Nat.lt_or_ge k ns.length with hlt | hge
    · obtain ⟨d, hps, hx, hsz, hmk0, hwl, hst⟩ := HR.out
      obtain ⟨a', c', e', hel⟩ := HN2.out.below hx
      simp only [Value.slice.injEq, true_and] at e'
      obtain ⟨rfl, rfl⟩ := e'
      obtain ⟨b, o, arr, rfl, hat, hnd, hfit⟩ := hel k hlt
      obtain ⟨n, hn⟩ : ∃ n, n = ns[k] := ⟨_, rfl⟩
      rw [← hn] at hnd hfit
      have HAt := Lib.hid hat
      have HNd := Lib.hid hnd
      have HFi := Lib.hid hfit
      have HSz := Lib.hid hnd.size
      have HOne := Lib.hid hnd.one
      have HP := Lib.hid hps
      have HX := Lib.hid hx
      have HSt := Lib.hid hst
      have HD := Lib.hid (show d.size = 32 ∧ m ≤ k0 ∧ d.waits.length = m from ⟨hsz, hmk0, hwl⟩)
      clear hel hat hnd hfit hn hps hx hst hsz hwl HR
      go_wp2_with (first | (refine load_nd rfl (.tmp 45) rfl rfl HAt.out HSz.out ?_) | (refine store_nd rfl (.tmp 12) (.tmp 46) rfl rfl (arr := arr) rfl (heap_alloc_new wr (.cells zeroArr 25)) rfl HSz.out HOne.out ?_; intro w7 hg hf hs; have HGw7 := Lib.hid hg; have HBww7 := Lib.hid (show Below wr.heap.size wr w7 from ((Below.refl _ wr).alloc (Nat.le_refl _) _).trans (hf.below (by simp) (fun j hj => by omega))); clear hg hf hs) | (refine load_nd rfl (.tmp 12) rfl rfl (At_nd HGw7.out) HSz.out ?_))
      have HP7 := Lib.hid (HP.out.below HBww7.out)
      have HX7 := Lib.hid (HX.out.trans (HBww7.out.mono HX.out.size))
      have HN7 := Lib.hid (HNd.out.below HBww7.out)
      have HA7 := Lib.hid HGw7.out
      clear HP HX HNd HAt HBww7 HGw7 HOne
      refine (heavy_any arr n w7 HN7.out HFi.out).mono ?_
      rintro e w8 ⟨rfl, hb8⟩
      have HP8 := Lib.hid (HP7.out.below hb8)
      have HX8 := Lib.hid (HX7.out.trans (hb8.mono HX7.out.size))
      have HN8 := Lib.hid (HN7.out.below hb8)
      have HA8 := Lib.hid ((hb8.block _ (lt_of_block HA7.out)).trans HA7.out)
      clear hb8 HP7 HX7 HN7 HA7
      cases hhv : heavy13 n with
      | true =>
        clear hhv
        go_wp2
        go_ret
        exact ⟨rfl, HB2.out.trans (HX8.out.mono HB2.out.size)⟩
      | false =>
        clear hhv
        go_wp2_with (refine load_nd rfl (.tmp 12) rfl rfl (At_nd HA8.out) HSz.out ?_)
        refine (check_any arr n w8 HN8.out HFi.out).mono ?_
        rintro e w9 ⟨rfl, hb9⟩
        have HP9 := Lib.hid (HP8.out.below hb9)
        have HX9 := Lib.hid (HX8.out.trans (hb9.mono HX8.out.size))
        have HN9 := Lib.hid (HN8.out.below hb9)
        have HA9 := Lib.hid ((hb9.block _ (lt_of_block HA8.out)).trans HA8.out)
        clear hb9 HP8 HX8 HN8 HA8
        by_cases hc : checkE n = 0
        · rw [hc]
          obtain ⟨hfo, hsi⟩ := checkE_split.1 hc
          have HFo := Lib.hid hfo
          have HSi := Lib.hid hsi
          clear hc hfo hsi
          go_wp2_with (refine load_nd rfl (.tmp 12) rfl rfl (At_nd HA9.out) HSz.out ?_)
          rcases Nat.lt_or_ge m k0 with hm | hm
          · have hdn : d.down = false ∧ d.left = (k0 : Int) - (m : Int) := by rcases HSt.out with h | h; (· exact h); (· omega)
            have hstp : d.step.down = false := by unfold Dv.step; rw [hdn.1, hdn.2]; simp; omega
            have hlft : d.step.left = (k0 : Int) - ((m + 1 : Nat) : Int) := by unfold Dv.step; dsimp only; rw [hdn.2, if_pos (by omega)]; omega
            refine (write_ps_ok w2.heap.size P D S W lo 1 ks (upT m) d _ w9 arr n HP9.out HX9.out.size HN9.out (HT2.out.below HX9.out) (by decide) HFi.out HFo.out HSi.out (m + 2) (by rw [HD.out.1]; exact upT_low m (by omega)) hdn.1 hstp (by rw [HD.out.2.2]; omega)).mono ?_
            rintro e w10 ⟨rfl, hp10, hx10⟩
            rw [upT_next] at hp10
            obtain ⟨p, hp⟩ : ∃ p, p = sealP ks 1 (m + 2) (nodeB n) := ⟨_, rfl⟩
            have HPw := Lib.hid (show p.Wf by rw [hp]; exact sealP_wf _ _ _ _ (by decide) (by omega))
            rw [← hp]
            have HP10 := Lib.hid hp10
            have HX10 := Lib.hid (HX9.out.trans hx10)
            have HS10 := Lib.hid (show d.step.down = false ∧ d.step.left = (k0 : Int) - ((m + 1 : Nat) : Int) from ⟨hstp, hlft⟩)
            clear hp hp10 hx10 hstp hlft hdn
            go_wp2_with (refine store_ptr rfl (.tmp 13) (.tmp 56) rfl rfl (p := p) rfl (heap_alloc_new w10 (.cells Pt.zero.arr 43)) Pt.zero_wf.size HPw.out ?_; intro w11 hg hf hs; have HGw11 := Lib.hid hg; have HBww11 := Lib.hid (show Below w10.heap.size w10 w11 from ((Below.refl _ w10).alloc (Nat.le_refl _) _).trans (hf.below (by simp) (fun j hj => by omega))); clear hg hf hs)
            go_roundw
            case rel =>
              refine ⟨k + 1, m + 1, by omega, by omega, by go_num, by go_num, _, HP10.out.below HBww11.out, HX10.out.trans (HBww11.out.mono HX10.out.size), HD.out.1, by omega, ?_, Or.inl ⟨HS10.out.1, HS10.out.2⟩⟩
              show (d.waits ++ [_]).length = _
              rw [List.length_append, HD.out.2.2]; rfl
            case measure => simp [intOf]; omega
          · have hmk : m = k0 := by omega
            have hno : d.down = true ∨ d.step.down = true := by
              rcases HSt.out with h | h
              · right; unfold Dv.step; rw [h.1, h.2, hmk]; simp
              · left; exact h.1
            have hmd : d.miss.down = true ∧ d.miss.waits = d.waits := by
              unfold Dv.miss
              rcases HSt.out with h | h
              · rw [h.1, if_neg (by simp)]; exact ⟨by unfold Dv.step; rw [h.1, h.2, hmk]; simp, rfl⟩
              · rw [h.1, if_pos rfl]; exact ⟨h.1, rfl⟩
            refine (write_ps_down w2.heap.size P D S W lo 1 ks (upT m) d _ w9 arr n HP9.out HX9.out.size HN9.out (HT2.out.below HX9.out) (by decide) HFi.out HFo.out HSi.out (m + 2) (by rw [HD.out.1]; exact upT_low m (by omega)) hno).mono ?_
            rintro e w10 ⟨rfl, hp10, hx10⟩
            have HP10 := Lib.hid hp10
            have HX10 := Lib.hid (HX9.out.trans hx10)
            have HMd := Lib.hid hmd
            clear hp10 hx10 hno hmd
            go_wp2_with (refine store_ptr rfl (.tmp 13) (.tmp 56) rfl rfl (p := Pt.zero) rfl (heap_alloc_new w10 (.cells Pt.zero.arr 43)) Pt.zero_wf.size Pt.zero_wf ?_; intro w11 hg hf hs; have HGw11 := Lib.hid hg; have HBww11 := Lib.hid (show Below w10.heap.size w10 w11 from ((Below.refl _ w10).alloc (Nat.le_refl _) _).trans (hf.below (by simp) (fun j hj => by omega))); clear hg hf hs)
            go_roundw
            case rel =>
              refine ⟨k + 1, m, by omega, by omega, by go_num, by rw [hmk], _, HP10.out.below HBww11.out, HX10.out.trans (HBww11.out.mono HX10.out.size), by rw [Dv.miss_size]; exact HD.out.1, HD.out.2.1, by rw [HMd.out.2]; exact HD.out.2.2, Or.inr ⟨HMd.out.1, hmk⟩⟩
            case measure => simp [intOf]; omega
        · have hcb : (checkE n != 0) = true := by simpa using hc
          go_wp2
          go_roundw
          case rel => exact ⟨k + 1, m, by omega, by omega, by go_num, rfl, d, HP9.out, HX9.out, HD.out.1, HD.out.2.1, HD.out.2.2, HSt.out⟩
          case measure => simp [intOf]; omega
    · obtain rfl : k = ns.length := by omega
      obtain ⟨d, hps, hx, hsz, hmk0, hwl, hst⟩ := HR.out
      have HP := Lib.hid hps
      have HX := Lib.hid hx
      have HD := Lib.hid (show d.size = 32 ∧ d.waits.length = m from ⟨hsz, hwl⟩)
      clear hps hx hsz hwl hst HR
      go_wp2_with fail
      have hlf := left_ps w2.heap.size P D S W lo 1 ks (upT m) d LL wr HP.out
      rw [HD.out.1, upT_cnt m (by omega), show ((32 : Nat) : Int) - 2 - (m : Int) = 30 - (m : Int) by omega] at hlf
      refine hlf.mono ?_
      clear hlf
      rintro e w7 ⟨rfl, hb7⟩
      have HP7 := Lib.hid (HP.out.below hb7)
      have HX7 := Lib.hid (HX.out.trans (hb7.mono HX.out.size))
      clear hb7 HP HX
      go_wp2_with fail
      refine (crash_ps w2.heap.size P D S W lo 1 ks (upT m) d LL w7 18446744073709551615 (-1) HP7.out HX7.out.size (by decide) (by rw [HD.out.2]; omega) (by decide)).mono ?_
      rintro e w8 ⟨rfl, hp8, hx8⟩
      have HP8 := Lib.hid hp8
      have HX8 := Lib.hid (HX7.out.trans hx8)
      clear hp8 hx8 HP7 HX7
      go_wp2_with fail
      refine (write_ps_ok w2.heap.size P D S W lo 1 ks (upT m) _ LL w8 leafArr leafN HP8.out HX8.out.size (leaf_is _) (HT2.out.below HX8.out) (by decide) leaf_fits leaf_form leaf_size (m + 2) (by rw [show (d.crashed 18446744073709551615 (-1)).size = 32 from HD.out.1]; exact upT_low m (by omega)) rfl (step_up (d := d.crashed 18446744073709551615 (-1)) rfl).1 (by show 0 ≤ 1000000; decide)).mono ?_
      rintro e w9 ⟨rfl, hp9, hx9⟩
      obtain ⟨p, hp⟩ : ∃ p, p = sealP ks 1 (m + 2) (nodeB leafN) := ⟨_, rfl⟩
      have HPw := Lib.hid (show p.Wf by rw [hp]; exact sealP_wf _ _ _ _ (by decide) (by omega))
      have HPa := Lib.hid (show p.addr = m + 2 by rw [hp]; rfl)
      rw [← hp]
      have HX9 := Lib.hid (HX8.out.trans hx9)
      clear hp hp9 hx9 HP8 HX8
      go_wp2_with (refine store_ptr rfl (.tmp 15) (.tmp 88) rfl rfl (p := p) rfl (heap_alloc_new w9 (.cells Pt.zero.arr 43)) Pt.zero_wf.size HPw.out ?_; intro w10 hg hf hs; have HGw10 := Lib.hid hg; have HBww10 := Lib.hid (show Below w9.heap.size w9 w10 from ((Below.refl _ w9).alloc (Nat.le_refl _) _).trans (hf.below (by simp) (fun j hj => by omega))); clear hg hf hs; have a0 : w10.cell? ⟨w9.heap.size, 0, none⟩ = some (.int .u32 (2 + (m : Int))) := (by rw [cell_of_row _ _ 0 _ _ _ HGw10.out]; show some (Value.int .u32 (p.addr : Int)) = _; rw [HPa.out]; congr 2; omega))
      go_ret
      exact ⟨rfl, HB2.out.trans ((HX9.out.trans (HBww10.out.mono HX9.out.size)).mono HB2.out.size)⟩

end Go.Proofs.YtkbnkdokcmpcgaaGreatDoor
namespace Go.Proofs.YtkbnkdokcmpcgaaGreatDoor
open Go.ChangeShapes Go.WideShapes Go.ChangeAt Go.RowKit Go.Deep

theorem bytes_node : Tryz.prog.bytesOf 25 = 80 := by kernel_rfl

section
variable {H : Type} {enc : TypeId × Value → H} {W : World} {fuel : Nat} {cs : List Value} {x : DataW H × List MemPlace}
theorem open_nodes (h : DataW.trod enc Tryz.prog W 0 (fun _ => true) true fuel 59 cs = some x) (hl : Light 59 x.1) :
    ∃ (v : Value) (l : List Nd), cs = [v] ∧ NdsIn W v l := by
  rcases open_slice Tryz.underlying59 h with ⟨rfl, _⟩ | ⟨a, len, cap, m, n, D, Pl, rfl, _, hlc, hm, hmm, hx, hel⟩
  · exact ⟨_, [], rfl, none, 0, rfl, fun i hi => by simp at hi⟩
  · simp only [if_true] at hmm
    subst hmm
    have hw : ∀ n ∈ ((len + (m - len)) * 80 :: (DataW.weightsAll Tryz.prog 25 ((List.range len).map D) ++ DataW.weightsAll Tryz.prog 25 ((List.range (m - len)).map fun j => D (len + j)))), n ≤ reachBytes := by
      intro n hn
      refine hl n ?_
      rw [hx]
      simpa [DataW.weights, Tryz.underlying59, bytes_node] using hn
    have hD : ∀ i, i < len → Light 25 (D i) := by
      intro i hi n hn
      refine hw n (List.mem_cons_of_mem _ (List.mem_append_left _ ?_))
      exact weightsAll_mem (List.mem_map.2 ⟨i, List.mem_range.2 hi, rfl⟩) hn
    have each : ∀ i, i < len → ∃ p : Nd × Array Value × Nat × Nat, a = ⟨p.2.2.1, p.2.2.2, none⟩ ∧ At W p.2.2.1 (p.2.2.2 + i * 4) p.2.1.toList ∧ NdIs W p.2.1 p.1 ∧ p.1.Fits := by
      intro i hi
      obtain ⟨cs', hc, ht⟩ := hel i (by omega)
      obtain ⟨nd, hnd, hft⟩ := open_node ht (hD i hi)
      have hsp := cells?_spot hel (by omega : 0 < m) (by rw [cells_node]; decide)
      obtain ⟨b, o, sp⟩ := a
      simp only at hsp
      subst hsp
      rw [cells_node, Addr.add_lit] at hc
      exact ⟨(nd, cs'.toArray, b, o), rfl, by simpa using cells?_at hc, hnd, hft⟩
    have : Inhabited (Nd × Array Value × Nat × Nat) := ⟨(Nd.zero, #[], 0, 0)⟩
    obtain ⟨f, hf⟩ := choose_lt each
    refine ⟨_, (List.range len).map (fun i => (f i).1), rfl, some a, _, by simp; rfl, fun i hi => ?_⟩
    have hi' : i < len := by simpa using hi
    obtain ⟨h1, h2, h3, h4⟩ := hf i hi'
    exact ⟨_, _, (f i).2.1, by rw [h1], h2, by simpa using h3, by simpa using h4⟩
end
end Go.Proofs.YtkbnkdokcmpcgaaGreatDoor
namespace Go.Proofs.YtkbnkdokcmpcgaaGreatDoor
open Go.RowKit

theorem len_um {ops : Array Oper} {rest : List Oper} {o : Oper} {a : Act} {w : World} {Q : Exit → Act → World → Prop} (hgd : o.guard = none) (x : Operand) (t : TypeId) (ho : o.op = .call { callee := .builtin .len, args := #[x], argTypes := #[t] })
    {b : Nat} {m : List (Nat × Value)} {k e : TypeId} (hu : Tryz.prog.underlying t = some (.map k e)) (hx : a.eval x = .map (some b)) (h : UM w b m) (hK : wpList Tryz.prog ops Q rest (a.put o.dst (.int .i64 (m.length : Int))) w) : wpList Tryz.prog ops Q (o :: rest) a w := by
  obtain ⟨es, clock, hb, hE, -⟩ := h
  have hl : es.size = m.length := by have := congrArg List.length hE; simpa using this
  have hg : (getObj b).run Tryz.prog w = .ok (.map es clock) w := by simp [getObj, Sem.run, hb]
  refine wpList_plain hgd fun K hKK => ?_
  unfold Oper.wp execOp
  simp only [ho]
  have hlen : (Builtin.len_ #[t] o.type #[.map (some b)]).run Tryz.prog w = .ok (.int .i64 (m.length : Int)) w := by
    unfold Builtin.len_
    simp [Sem.run_bind, run_underlying hu, hg, Result.andThen, hl, goInt]
  simp [resolve, invoke, builtin, hx, hlen, Result.andThen]
  exact hKK _ _ hK

/-- Taken ones lie among the sectors. -/
theorem cntT_full {t : Nat → Bool} {size : Nat} (hs : 2 ≤ size) (ht : TOk size t) (h : lowT t size = none) : cntT t size = size - 2 := by
  unfold lowT at h
  rw [List.find?_eq_none] at h
  unfold cntT
  have e : size = 2 + (size - 2) := by omega
  rw [e, List.range_add, List.filter_append, List.length_append]
  have h1 : (List.range 2).filter t = [] := by
    rw [List.filter_eq_nil_iff]
    intro a ha hc
    have := ht a hc
    have := List.mem_range.1 ha
    omega
  have h2 : ((List.range (size - 2)).map (2 + ·)).filter t = (List.range (size - 2)).map (2 + ·) := by
    rw [List.filter_eq_self]
    intro a ha
    obtain ⟨b, hb, rfl⟩ := List.mem_map.1 ha
    have := List.mem_range.1 hb
    have h3 := h (2 + b) (List.mem_range.2 (by omega))
    simpa using h3
  rw [h1, h2]; simp
theorem cntT_max {t : Nat → Bool} {size : Nat} (hs : 2 ≤ size) (ht : TOk size t) : cntT t size ≤ size - 2 := by
  unfold cntT
  have e : size = 2 + (size - 2) := by omega
  rw [e, List.range_add, List.filter_append, List.length_append]
  have h1 : (List.range 2).filter t = [] := by
    rw [List.filter_eq_nil_iff]
    intro a ha hc
    have := ht a hc
    have := List.mem_range.1 ha
    omega
  have h2 := List.length_filter_le t ((List.range (size - 2)).map (2 + ·))
  rw [List.length_map, List.length_range] at h2
  rw [h1, List.length_nil]
  omega
theorem cntT_free_lt {t : Nat → Bool} {size a : Nat} (ht : TOk size t) (h : lowT t size = some a) : cntT t size < size - 2 := by
  obtain ⟨h2, ha, hf⟩ := lowT_get h
  have h1 := cntT_mark t a hf size ha
  have h3 := cntT_max (by omega) (ht.mark h2 ha)
  omega
/-- As many keys as are taken. -/
theorem keys_count {t : Nat → Bool} {size : Nat} {l : List Nat} (hl : l.Nodup) (h : ∀ a, a ∈ l ↔ a < size ∧ t a = true) : l.length = cntT t size := by
  unfold cntT
  refine ((List.perm_ext_iff_of_nodup hl ((List.nodup_range).sublist List.filter_sublist)).2 fun a => ?_).length_eq
  rw [h a, List.mem_filter, List.mem_range]

end Go.Proofs.YtkbnkdokcmpcgaaGreatDoor
namespace Go.Proofs.YtkbnkdokcmpcgaaGreatDoor
open Go.RowKit

theorem update_is {ops : Array Oper} {rest : List Oper} {o : Oper} {a : Act} {w : World} {Q : Exit → Act → World → Prop} (hgd : o.guard = none) (m x v : Operand) (ho : o.op = .mapUpdate 55 m x v)
    {T n : Nat} {mt : List (Nat × Value)} {val : Value} {z : Int} (hm : a.eval m = .map (some T)) (hx : a.eval x = .int .u32 z) (hz : z = (n : Int)) (hv : a.eval v = val) (hu : UM w T mt)
    (hK : ∀ w', UM w' T (putU mt n val) → Fr (fun k => k = T) w w' → wpList Tryz.prog ops Q rest (a.put o.dst undef) w') : wpList Tryz.prog ops Q (o :: rest) a w := by
  subst hz
  refine wpList_plain hgd fun K hKK => ?_
  obtain ⟨w', hr, h1, h2, _⟩ := run_mapUpdate_um (P := Tryz.prog) (v := val) hu Tryz.underlying55 Tryz.underlying41 (n := n)
  unfold kU at hr
  unfold Oper.wp execOp
  simp only [ho, hm, hx, hv, Sem.run_bind, hr, Result.andThen_ok]
  exact hKK _ _ (hK w' h1 h2)
theorem keep_ps (B P D S W lo birth : Nat) (ks : List UInt8) (t : Nat → Bool) (d : Dv) (L : List (Nat × Obj)) (w : World) (n : Nat) (l : List Nat) (v : Value) (h : PS B w P D S W lo ks t birth d L) (hB : B ≤ w.heap.size) (hv : Sl w 1 v n (l.map U32)) (hl : ∀ a ∈ l, 2 ≤ a ∧ a < d.size) (hsz : d.size ≤ 4096) (hn : n ≤ 140737488351232)
    (hno : ∀ a m c, v = .slice (some a) m c → ¬ PlF P S W a.block) :
    Calls Tryz.prog 24 #[.pointer (some ⟨P, 0, none⟩), v] w fun e w' => e = .returned (.int .i64 0) ∧ PS B w' P D S W lo ks (ofL l) birth d L ∧ Below B w w' := by
  obtain ⟨F, h1, h2, h3, h4, h5⟩ := h
  refine (poKeep_any P D S W d.size birth n ks t l v w h1 hv (fun a ha => by have := hl a ha; omega) hn (fun a m c e hh => hno a m c e (Or.inr hh))).mono ?_
  rintro e w' ⟨hy, _⟩
  obtain ⟨rfl, hp, hf⟩ := hy hl
  have hSW : ∀ k, F k → ¬ (k = S ∨ k = W) := fun k hk => by rintro (e | e); exact (h4 k (Or.inr (Or.inl e))).2 hk; exact (h4 k (Or.inr (Or.inr e))).2 hk
  exact ⟨rfl, PS.after B P D S W lo birth ks t d L w hB h1 h3 h4 h5 rfl hp (h2.fr hf hSW) (fun k hk => Or.inl hk) (hf.mono (fun k _ hk => Or.inr hk))⟩

theorem Sl_one32 (w : World) (z : Int) (n : Nat) (h : z = (n : Int)) : Sl (w.alloc (.cells #[.int .u32 z] 41)) 1 (.slice (some ⟨w.heap.size, 0, none⟩) 1 1) 1 ([n].map U32) := by
  subst h
  refine ⟨rfl, some ⟨w.heap.size, 0, none⟩, 1, rfl, Nat.le_refl _, (fun h => by cases h), fun i u hu => ⟨w.heap.size, 0, rfl, ?_⟩⟩
  have hi : i < 1 := by simpa using (List.getElem?_eq_some_iff.1 hu).1
  obtain rfl : i = 0 := by omega
  rw [Nat.zero_add, cell_of_row _ _ 0 _ _ _ (heap_alloc_new w _)]
  exact hu
def tgt (u : Nat) : Nat := 2 + u % 18
theorem zero_bool (w : World) : (zeroValue 4).run Tryz.prog w = .ok (.bool false) w := by kernel_rfl
theorem lookup_is {ops : Array Oper} {rest : List Oper} {o : Oper} {a : Act} {w : World} {Q : Exit → Act → World → Prop} (hw : Region.wanted o (yielded ops a.tmps) = true) (m x : Operand) (ho : o.op = .lookup 55 m x false)
    {L n : Nat} {ml : List (Nat × Value)} (hm : a.eval m = .map (some L)) (hx : a.eval x = .int .u32 (n : Int)) (hu : UM w L ml) (hl : getU ml n = none)
    (hK : wpList Tryz.prog ops Q rest (a.put o.dst (.bool false)) w) : wpList Tryz.prog ops Q (o :: rest) a w := by
  refine BigFrame.wpList_want hw fun K hKK => ?_
  have hr := run_lookup_um (P := Tryz.prog) hu Tryz.underlying55 Tryz.underlying41 (zero_bool w) false (n := n)
  rw [if_neg (by decide), hl] at hr
  unfold kU at hr
  unfold Oper.wp execOp
  simp only [ho, hm, hx, Sem.run_bind, hr, Result.andThen_ok]
  exact hKK _ _ hK
/-- What stands aside is another thing now. -/
theorem PS.swap {B P D S W lo birth : Nat} {w w' : World} {ks : List UInt8} {t : Nat → Bool} {d : Dv} {g : Nat} {o o' : Obj} (h : PS B w P D S W lo ks t birth d [(g, o)]) (hf : Fr (fun k => k = g) w w') (hg : w'.heap[g]? = some o') : PS B w' P D S W lo ks t birth d [(g, o')] := by
  obtain ⟨F, h1, h2, h3, h4, h5⟩ := h
  obtain ⟨h6, h7, h8⟩ := h5 g o List.mem_cons_self
  refine ⟨F, h1.fr hf (fun k hk e => h8 (e ▸ hk)), h2.fr hf (fun k hk e => h7 (e ▸ hk)), fun k hk => ⟨(h3 k hk).1, Nat.lt_of_lt_of_le (h3 k hk).2 hf.size⟩, h4, fun b o2 hm => ?_⟩
  rw [List.mem_singleton] at hm
  injection hm with e1 e2
  subst e1 e2
  exact ⟨hg, h7, h8⟩
theorem PS.none {B P D S W lo birth : Nat} {w : World} {ks : List UInt8} {t : Nat → Bool} {d : Dv} {L : List (Nat × Obj)} (h : PS B w P D S W lo ks t birth d L) : PS B w P D S W lo ks t birth d [] := by
  obtain ⟨F, h1, h2, h3, h4, h5⟩ := h
  exact ⟨F, h1, h2, h3, h4, fun b o hm => by simp at hm⟩
theorem UM.obj {w : World} {b : Nat} {m : List (Nat × Value)} (h : UM w b m) : ∃ o, w.heap[b]? = some o := by
  obtain ⟨es, c, h1, _⟩ := h; exact ⟨_, h1⟩
/-- What stands behind some that were written. -/
def FiRel (B : Nat) (w2 : World) (P D S W lo : Nat) (ks : List UInt8) (g c0 k : Nat) (wr : World) : Prop :=
  ∃ d t m o, PS B wr P D S W lo ks t 1 d [(g, o)] ∧ UM wr g m ∧ Below B w2 wr ∧ d.size = 20 ∧ TOk 20 t ∧ (∀ a, 2 ≤ a → (getU m a).isSome = t a) ∧ d.down = false ∧ d.left = -1 ∧ d.waits.length ≤ k ∧ cntT t 20 = min 18 (c0 + k)
theorem tgt_in (u : Nat) : 2 ≤ tgt u ∧ tgt u < 20 := by unfold tgt; omega
theorem fi_keys {us : List Nat} {m : List (Nat × Value)} (hd : (m.map Prod.fst).Nodup) (h : ∀ a, getU m a = if a ∈ us.map tgt then some (.bool true) else none) : m.length = cntT (ofL (us.map tgt)) 20 := by
  have := keys_count (t := ofL (us.map tgt)) (size := 20) hd (fun a => by
    have hm : (getU m a).isSome = true ↔ a ∈ m.map Prod.fst := by
      constructor
      · intro hs
        obtain ⟨v, hv⟩ := Option.isSome_iff_exists.1 hs
        exact List.mem_map.2 ⟨_, mem_of_getU hv, rfl⟩
      · intro hm
        obtain ⟨p, hp, rfl⟩ := List.mem_map.1 hm
        rw [getU_mem hd hp]; rfl
    rw [← hm, h a]
    have hc : (ofL (us.map tgt) a = true) ↔ a ∈ us.map tgt := by unfold ofL; simp
    rw [hc]
    by_cases ha : a ∈ us.map tgt
    · rw [if_pos ha]
      obtain ⟨u, _, rfl⟩ := List.mem_map.1 ha
      simp [ha, (tgt_in u).2]
    · rw [if_neg ha]; simp [ha])
  rw [List.length_map] at this
  exact this

/-- What stands behind some of what is kept. -/
def FlRel (w5 : World) (g : Nat) (us : List Nat) (k : Nat) (vl : Value) (wr : World) : Prop :=
  ∃ m aa cc, vl = .slice aa k cc ∧ wr.ownsRow (g + 1) 41 1 vl k (((us.take k).map tgt).map U32) ∧ UM wr g m ∧ (∀ a, getU m a = if a ∈ (us.take k).map tgt then some (.bool true) else none) ∧ Below g w5 wr

set_option maxRecDepth 100000 in
set_option maxHeartbeats 8000000 in
theorem poolFills_any (v : Value) (us : List Nat) (nb : Nat) (w : World) (h : Sl w 1 v us.length (us.map U32)) (hu : ∀ u ∈ us, u < 4294967296) (hb : nb < 256) (hT : Tz w) :
    Calls Tryz.prog 5 #[v, .int .u8 (nb : Int)] w fun e w' => e = .returned (.bool true) ∧ Below w.heap.size w w' := by
  have hmm := @run_makeMap Tryz.prog
  obtain ⟨a1, c1, rfl, _⟩ := h.len
  have HSF := Lib.hid (fun (w' : World) (hh : Below w.heap.size w w') => (h.below hh : Sl w' 1 (.slice a1 us.length c1) us.length (us.map U32)))
  have HU := Lib.hid hu
  have HTw := Lib.hid hT
  clear h hT hu
  go_enter Tryz.func5, Tryz.ntmps5
  go_wp2_with fail
  refine (alive13 _ HTw.out).mono ?_
  rintro e w2 ⟨rfl, hb2⟩
  have HB2 := Lib.hid hb2
  have HT2 := Lib.hid (HTw.out.below hb2)
  clear hb2 HTw
  go_wp2_with fail
  refine (made_ps 20 w2 (by decide) (by decide)).mono ?_
  rintro e w3 ⟨P, D, S, W, lo, rfl, hps, hb3⟩
  obtain ⟨ks, hks⟩ : ∃ ks, ks = MK := ⟨_, rfl⟩
  rw [← hks] at hps ⊢
  have HKl := Lib.hid (show ks.length = 64 by rw [hks]; exact MK_length)
  have HP3 := Lib.hid (hps w2.heap.size (Nat.le_refl _))
  have HX3 := Lib.hid hb3
  clear hks hps hb3
  go_wp2_with (refine wpList_store_row rfl _ (.tmp 7) (.tmp 23) rfl w3.heap.size rfl (ks.map Bv) rfl _ _ (heap_alloc_new w3 (.cells ((zB 64).map Bv).toArray 35)) (by rw [List.length_map, HKl.out]; rfl) (Bv_oneCell _) (by rw [info_keys, List.length_map, HKl.out]) ?_; intro w4 hg hf hs; have HGw4 := Lib.hid hg; have HBww4 := Lib.hid (show Below w3.heap.size w3 w4 from ((Below.refl _ w3).alloc (Nat.le_refl _) _).trans (hf.below (by simp) (fun j hj => by omega))); clear hg hf hs)
  have HP4 := Lib.hid (HP3.out.add HBww4.out HGw4.out (Nat.le_refl _))
  have HX4 := Lib.hid (HX3.out.trans (HBww4.out.mono HX3.out.size))
  clear HP3 HX3 HGw4 HBww4
  refine (begin_ps w2.heap.size P D S W lo 0 ks noneT _ _ w4 1 HP4.out HX4.out.size (by decide) (by decide)).mono ?_
  rintro e w5 ⟨rfl, hp5, hx5⟩
  have HP5 := Lib.hid hp5
  have HX5 := Lib.hid (HX4.out.trans hx5)
  clear hp5 hx5 HP4 HX4
  by_cases hl : (100 : Int) < (us.length : Int)
  · go_wp2
    go_ret
    exact ⟨rfl, HB2.out.trans (HX5.out.mono HB2.out.size)⟩
  have hlen : us.length ≤ 100 := by omega
  clear hl
  go_wp2_with fail
  obtain ⟨g, hg⟩ : ∃ g, g = w5.heap.size := ⟨_, rfl⟩
  have HF0 := Lib.hid (show FlRel w5 g us 0 (.slice none 0 0) (w5.alloc (.map #[] 0)) from ⟨[], none, 0, rfl, World.ownsRow_nil _ _ _ _, by rw [hg]; exact UM.made w5, fun a => by simp [getU], by rw [hg]; exact (Below.refl _ w5).alloc (Nat.le_refl _) _⟩)
  rw [← hg]
  have HG := Lib.hid hg
  clear hg
  go_loopw [41, 10, 12] (fun i l _ wr => ∃ k : Nat, k ≤ us.length ∧ i = .int .i64 k ∧ FlRel w5 g us k l wr) (fun i _ _ _ => us.length - (intOf i).toNat)
  case atStart => exact ⟨0, Nat.zero_le _, rfl, HF0.out⟩
  case round =>
    clear HF0
    obtain ⟨k, hk, rfl, m, aa, cc, rfl, hown, hum, hget, hbel⟩ := hrel
    have HO := Lib.hid hown
    have HM := Lib.hid hum
    have HGt := Lib.hid hget
    have HBl := Lib.hid hbel
    clear hown hum hget hbel
    rcases Nat.lt_or_ge k us.length with hlt | hge
    · obtain ⟨_, a', c', e', _, _, hcv⟩ := HSF.out wr (HB2.out.trans ((HX5.out.trans ((by rw [← HG.out]; exact HBl.out : Below w5.heap.size w5 wr).mono HX5.out.size)).mono HB2.out.size))
      simp only [Value.slice.injEq, true_and] at e'
      obtain ⟨rfl, rfl⟩ := e'
      obtain ⟨vb, vo, rfl, gv⟩ := hcv k (U32 us[k]) (by rw [List.getElem?_map, List.getElem?_eq_getElem hlt]; rfl)
      obtain ⟨u, hu⟩ : ∃ u, u = us[k] := ⟨_, rfl⟩
      rw [← hu] at gv
      have hu4 : u < 4294967296 := by rw [hu]; exact HU.out _ (List.getElem_mem hlt)
      have HUk := Lib.hid hu
      unfold U32 at gv
      clear hcv hu
      have hz : (2 + (u : Int) % 18) = (tgt u : Int) := by unfold tgt; omega
      have hbr : g + 1 ≤ wr.heap.size := HM.out.lt
      go_wp2_with (first | (refine appendZ_u32 rfl (.tmp 45) (.tmp 49) rfl (HO.out.alloc _) (Sl_one32 wr _ (tgt u) hz) rfl rfl (by omega) (by simp; omega) ?_; intro aa2 cc2 w8 ho8 hf8 hor; have HO8 := Lib.hid ho8; have HF8 := Lib.hid hf8; have hne8 : ¬ (Value.slice aa k cc).ownBlock = some g := (fun e => by have := (HO.out.lt g e).1; omega); have HM8 := Lib.hid ((HM.out.of_block (Below.heap_alloc wr _ _ HM.out.lt)).fr hf8 hne8); clear ho8 hf8 hor) | (refine update_is rfl (.tmp 51) (.tmp 54) (.const (.bool true)) rfl rfl rfl hz rfl HM8.out ?_; intro w9 hu9 hf9; have HM9 := Lib.hid hu9; have HF9 := Lib.hid hf9; clear hu9 hf9))
      go_roundw
      case rel =>
        have hb8 : Below g wr w9 := (((Below.refl g wr).alloc (by omega) _).trans (HF8.out.below (by simp; omega) (fun j e => by have := (HO.out.lt j e).1; omega))).trans (HF9.out.below (by have := HF8.out.size; simp at this; omega) (fun j e => by omega))
        refine ⟨k + 1, by omega, by go_num, _, aa2, cc2, rfl, ?_, HM9.out, fun a => ?_, HBl.out.trans hb8⟩
        · rw [List.take_succ_eq_append_getElem hlt, List.map_append, List.map_singleton, ← HUk.out]
          exact HO8.out.fr HF9.out (fun j hj e => by have := (HO8.out.lt j hj).1; omega)
        · rw [getU_put, HGt.out a, List.take_succ_eq_append_getElem hlt, List.map_append, List.map_singleton, ← HUk.out]
          by_cases ha : a = tgt u
          · rw [if_pos ha, if_pos (by rw [ha]; exact List.mem_append_right _ List.mem_cons_self)]; rfl
          · rw [if_neg ha]
            congr 1
            rw [List.mem_append, List.mem_singleton, eq_iff_iff]
            exact ⟨Or.inl, fun h => h.resolve_right ha⟩
      case measure => simp [intOf]; omega
    · obtain rfl : k = us.length := by omega
      rw [List.take_length] at HO HGt
      have hl0 : w5.heap.size ≤ g := by rw [HG.out]; exact Nat.le_refl _
      obtain ⟨og, hog⟩ := HM.out.obj
      have HPr := Lib.hid (HP5.out.none.add (by rw [← HG.out]; exact HBl.out) hog hl0)
      have HXr := Lib.hid (HX5.out.trans ((by rw [← HG.out]; exact HBl.out : Below w5.heap.size w5 wr).mono HX5.out.size))
      have HLt := Lib.hid (fun j (hj : PlF P S W j) => HP5.out.pl.lt j hj)
      go_wp2_with fail
      refine (keep_ps w2.heap.size P D S W lo 1 ks noneT _ _ wr us.length (us.map tgt) (.slice aa us.length cc) HPr.out HXr.out.size (Sl.own HO.out) (fun a ha => by obtain ⟨u, _, rfl⟩ := List.mem_map.1 ha; unfold tgt; exact ⟨by omega, by show 2 + u % 18 < 20; omega⟩) (by decide) (by omega) (fun q mm cq e hp => by have h1 := (HO.out.lt q.block (by rw [e]; rfl)).1; have h2 := HLt.out _ hp; omega)).mono ?_
      rintro e w6 ⟨rfl, hp6, hx6⟩
      have HP6 := Lib.hid hp6
      have HX6 := Lib.hid (HXr.out.trans hx6)
      have HM6 := Lib.hid (HM.out.of_block ((hp6.row List.mem_cons_self).trans hog.symm))
      obtain ⟨c0, hc0⟩ : ∃ c0, c0 = m.length := ⟨_, rfl⟩
      have HC0 := Lib.hid (show cntT (ofL (us.map tgt)) 20 = c0 by rw [hc0]; exact (fi_keys HM.out.nodup HGt.out).symm)
      have hc18 : c0 ≤ 18 := by rw [← HC0.out]; exact cntT_max (by decide) (TOk.list fun a ha => by obtain ⟨u, _, rfl⟩ := List.mem_map.1 ha; exact tgt_in u)
      have HGo := Lib.hid (show ∀ a, (getU m a).isSome = ofL (us.map tgt) a from fun a => by
        rw [HGt.out a]; unfold ofL
        by_cases ha : a ∈ us.map tgt
        · rw [if_pos ha]; simp [ha]
        · rw [if_neg ha]; simp [ha])
      have HCm := Lib.hid (show m.length = c0 from hc0.symm)
      clear hp6 hx6 HO HM HGt HBl HPr HXr hog hl0 HP5 hc0
      go_wp2_with fail
      have hlf := left_ps w2.heap.size P D S W lo 1 ks (ofL (us.map tgt)) _ _ w6 HP6.out
      rw [show (Dv.new 20).size = 20 from rfl, HC0.out, show ((20 : Nat) : Int) - 2 - (c0 : Int) = 18 - (c0 : Int) by omega] at hlf
      refine hlf.mono ?_
      clear hlf
      rintro e w7 ⟨rfl, hb7⟩
      have HP7 := Lib.hid (HP6.out.below hb7)
      have HX7 := Lib.hid (HX6.out.trans (hb7.mono HX6.out.size))
      have HM7 := Lib.hid (HM6.out.of_block (hb7.block _ HM6.out.lt))
      clear hb7 HP6 HX6 HM6
      go_wp2_with (refine len_um rfl (.tmp 63) _ rfl Tryz.underlying55 rfl HM7.out ?_; rw [HCm.out])
      obtain ⟨N, hN⟩ : ∃ N, N = (18 - c0) + nb % 4 := ⟨_, rfl⟩
      have hNe : (18 - (c0 : Int)) + (nb : Int) % 4 = (N : Int) := by omega
      have hF1 := Lib.hid (show FiRel w2.heap.size w2 P D S W lo ks g c0 0 w7 from ⟨_, _, m, og, HP7.out, HM7.out, HX7.out, rfl, TOk.list fun a ha => by obtain ⟨u, _, rfl⟩ := List.mem_map.1 ha; exact tgt_in u, fun a _ => HGo.out a, rfl, rfl, Nat.zero_le _, by rw [HC0.out]; omega⟩)
      clear HP7 HX7 HM7 HGo HC0 HCm
      rw [hNe]
      have HN := Lib.hid (show N = (18 - c0) + nb % 4 from hN)
      have hN22 : N ≤ 22 := by omega
      clear hN hNe
      go_loopw [72, 14, 15, 16] (fun i _ _ _ wr => ∃ k : Nat, k ≤ N ∧ i = .int .i64 k ∧ FiRel w2.heap.size w2 P D S W lo ks g c0 k wr) (fun i _ _ _ _ => N - (intOf i).toNat)
      case atStart => exact ⟨0, Nat.zero_le _, rfl, hF1.out⟩
      case round =>
        obtain ⟨k, hk, rfl, hr⟩ := hrel
        have HR := Lib.hid hr
        clear hr
        rcases Nat.lt_or_ge k N with hlt | hge
        · obtain ⟨d, t, mm, o, hps, hum, hx, hsz, hto, hget, hdn, hlf, hwl, hct⟩ := HR.out
          have HP := Lib.hid hps
          have HX := Lib.hid hx
          have HM := Lib.hid hum
          have HTo := Lib.hid hto
          have HGet := Lib.hid hget
          have HD := Lib.hid (show d.size = 20 ∧ d.down = false ∧ d.left = -1 ∧ d.waits.length ≤ k ∧ cntT t 20 = min 18 (c0 + k) from ⟨hsz, hdn, hlf, hwl, hct⟩)
          clear hps hx hum hto hget hsz hdn hlf hwl hct HR
          go_wp2_with fail
          rcases Nat.lt_or_ge k (18 - c0) with hkl | hkl
          · obtain ⟨a, ha⟩ : ∃ a, lowT t 20 = some a := by
              cases hl : lowT t 20 with
              | some a => exact ⟨a, rfl⟩
              | none => have := cntT_full (by decide) HTo.out hl; have := HD.out.2.2.2.2; omega
            have hag := lowT_get ha
            have HA := Lib.hid hag
            refine (write_ps_ok w2.heap.size P D S W lo 1 ks t d _ _ leafArr leafN HP.out HX.out.size (leaf_is _) (HT2.out.below HX.out) (by decide) leaf_fits leaf_form leaf_size a (by rw [HD.out.1]; exact ha) HD.out.2.1 (by rw [(step_up HD.out.2.2.1).1]; exact HD.out.2.1) (by have := HD.out.2.2.2.1; omega)).mono ?_
            rintro e w8 ⟨rfl, hp8, hx8⟩
            obtain ⟨p, hp⟩ : ∃ p, p = sealP ks 1 a (nodeB leafN) := ⟨_, rfl⟩
            have HPw := Lib.hid (show p.Wf by rw [hp]; exact sealP_wf _ _ _ _ (by decide) (by have := hag.2.1; omega))
            have HPa := Lib.hid (show p.addr = a by rw [hp]; rfl)
            rw [← hp]
            have hki : ((k : Int) < 18 - (c0 : Int)) := by omega
            have HP8 := Lib.hid hp8
            have HX8 := Lib.hid (HX.out.trans hx8)
            have HM8 := Lib.hid (HM.out.of_block ((hp8.row List.mem_cons_self).trans (HP.out.row List.mem_cons_self).symm))
            have hgn : getU mm a = none := by
              have := HGet.out a hag.1
              rw [hag.2.2] at this
              cases hq : getU mm a with
              | none => rfl
              | some v => rw [hq] at this; cases this
            have HGn := Lib.hid hgn
            clear hp hp8 hx8 HP HX HM ha hag hgn
            go_wp2_with (first | (refine store_ptr rfl (.tmp 15) (.tmp 79) rfl rfl (p := p) rfl (heap_alloc_new w8 (.cells Pt.zero.arr 43)) Pt.zero_wf.size HPw.out ?_; intro w9 hg hf hs; have HGw9 := Lib.hid hg; have HBww9 := Lib.hid (show Below w8.heap.size w8 w9 from ((Below.refl _ w8).alloc (Nat.le_refl _) _).trans (hf.below (by simp) (fun j hj => by omega))); clear hg hf hs; have a0 : w9.cell? ⟨w8.heap.size, 0, none⟩ = some (.int .u32 (a : Int)) := (by rw [cell_of_row _ _ 0 _ _ _ HGw9.out]; show some (Value.int .u32 (p.addr : Int)) = _; rw [HPa.out]); have HM9 := Lib.hid (HM8.out.of_block (HBww9.out.block _ HM8.out.lt))) | (refine lookup_is rfl (.tmp 98) (.tmp 100) rfl rfl rfl HM9.out HGn.out ?_) | (refine update_is rfl (.tmp 103) (.tmp 105) (.const (.bool true)) rfl rfl rfl rfl rfl HM9.out ?_; intro w10 hu10 hf10; have HM10 := Lib.hid hu10; have HF10 := Lib.hid hf10; clear hu10 hf10))
            go_roundw
            case rel =>
              obtain ⟨o', ho'⟩ := HM10.out.obj
              have hb10 : Below w2.heap.size w2 w10 := (HX8.out.trans (HBww9.out.mono HX8.out.size)).trans (HF10.out.below (Nat.le_trans HX8.out.size HBww9.out.size) (fun j e => by rw [e, HG.out]; exact HX5.out.size))
              refine ⟨k + 1, by omega, by go_num, _, updT t a true, _, o', (HP8.out.below HBww9.out).swap HF10.out ho', HM10.out, hb10, HD.out.1, HTo.out.mark HA.out.1 HA.out.2.1, fun b hb => ?_, ?_, ?_, ?_, ?_⟩
              · rw [getU_put]
                unfold updT
                by_cases hba : b = a
                · rw [if_pos hba, if_pos hba]; rfl
                · rw [if_neg hba, if_neg hba]; exact HGet.out b hb
              · show (d.step).down = false; rw [(step_up HD.out.2.2.1).1]; exact HD.out.2.1
              · exact (step_up HD.out.2.2.1).2
              · show (d.waits ++ [_]).length ≤ k + 1
                rw [List.length_append]; have := HD.out.2.2.2.1; simp; omega
              · rw [cntT_mark t a HA.out.2.2 20 HA.out.2.1, HD.out.2.2.2.2]; omega
            case measure => simp [intOf]; omega
          · have hki : ¬ ((k : Int) < 18 - (c0 : Int)) := by omega
            have ha : lowT t 20 = none := by
              cases hl : lowT t 20 with
              | none => rfl
              | some a => have := cntT_free_lt HTo.out hl; have := HD.out.2.2.2.2; omega
            refine (write_ps_full w2.heap.size P D S W lo 1 ks t d _ _ leafArr leafN HP.out (leaf_is _) (HT2.out.below HX.out) (by decide) leaf_fits leaf_form leaf_size (by rw [HD.out.1]; exact ha)).mono ?_
            rintro e w8 ⟨rfl, hp8, hx8⟩
            have HP8 := Lib.hid hp8
            have HX8 := Lib.hid (HX.out.trans (hx8.mono HX.out.size))
            have HM8 := Lib.hid (HM.out.of_block (hx8.block _ HM.out.lt))
            clear hp8 hx8 HP HX HM ha
            go_wp2_with (first | (refine store_ptr rfl (.tmp 15) (.tmp 79) rfl rfl (p := Pt.zero) rfl (heap_alloc_new w8 (.cells Pt.zero.arr 43)) Pt.zero_wf.size Pt.zero_wf ?_; intro w9 hg hf hs; have HGw9 := Lib.hid hg; have HBww9 := Lib.hid (show Below w8.heap.size w8 w9 from ((Below.refl _ w8).alloc (Nat.le_refl _) _).trans (hf.below (by simp) (fun j hj => by omega))); clear hg hf hs; have a0 : w9.cell? ⟨w8.heap.size, 0, none⟩ = some (.int .u32 0) := (by rw [cell_of_row _ _ 0 _ _ _ HGw9.out]; rfl); have HM9 := Lib.hid (HM8.out.of_block (HBww9.out.block _ HM8.out.lt))) | (refine update_is rfl (.tmp 103) (.tmp 105) (.const (.bool true)) rfl (n := 0) rfl rfl rfl rfl HM9.out ?_; intro w10 hu10 hf10; have HM10 := Lib.hid hu10; have HF10 := Lib.hid hf10; clear hu10 hf10))
            go_roundw
            case rel =>
              obtain ⟨o', ho'⟩ := HM10.out.obj
              have hb10 : Below w2.heap.size w2 w10 := (HX8.out.trans (HBww9.out.mono HX8.out.size)).trans (HF10.out.below (Nat.le_trans HX8.out.size HBww9.out.size) (fun j e => by rw [e, HG.out]; exact HX5.out.size))
              refine ⟨k + 1, by omega, by go_num, _, t, _, o', (HP8.out.below HBww9.out).swap HF10.out ho', HM10.out, hb10, HD.out.1, HTo.out, fun b hb => ?_, HD.out.2.1, HD.out.2.2.1, ?_, ?_⟩
              · rw [getU_put, if_neg (by omega)]; exact HGet.out b hb
              · have := HD.out.2.2.2.1; omega
              · rw [HD.out.2.2.2.2]; omega
            case measure => simp [intOf]; omega
        · obtain rfl : k = N := by omega
          obtain ⟨d, t, mm, o, hps, hum, hx, hsz, hto, hget, hdn, hlf, hwl, hct⟩ := HR.out
          have HP := Lib.hid hps
          have HX := Lib.hid hx
          have hN2 := HN.out
          have HZ := Lib.hid (show cntT t 20 = 18 by rw [hct]; omega)
          clear hps hx hum hto hget hdn hlf hwl hct HR hN2
          have hlf := fun (w' : World) (hp : PS w2.heap.size w' P D S W lo ks t 1 d [(g, o)]) => left_ps w2.heap.size P D S W lo 1 ks t d _ w' hp
          rw [hsz, HZ.out] at hlf
          have HLf := Lib.hid hlf
          clear hlf hsz
          go_wp2_with fail
          refine (HLf.out _ HP.out).mono ?_
          rintro e w8 ⟨rfl, hb8⟩
          have HX8 := Lib.hid (HX.out.trans (hb8.mono HX.out.size))
          have HP8 := Lib.hid (HP.out.below hb8)
          clear hb8 HP HX
          go_wp2_with fail
          go_ret
          exact ⟨rfl, HB2.out.trans (HX8.out.mono HB2.out.size)⟩

end Go.Proofs.YtkbnkdokcmpcgaaGreatDoor
namespace Go.Proofs.YtkbnkdokcmpcgaaGreatDoor
open Go.ChangeShapes Go.WideShapes Go.ChangeAt Go.RowKit Go.Deep

theorem cells_u32o : Tryz.prog.cellsOf 41 = 1 := by kernel_rfl
theorem bytes_u32o : Tryz.prog.bytesOf 41 = 4 := by kernel_rfl
section
variable {H : Type} {enc : TypeId × Value → H} {W : World} {fuel : Nat} {cs : List Value} {x : DataW H × List MemPlace}
theorem open_u32s (h : DataW.trod enc Tryz.prog W 0 (fun _ => true) true fuel 54 cs = some x) (hl : Light 54 x.1) :
    ∃ (v : Value) (us : List Nat), cs = [v] ∧ Sl W 1 v us.length (us.map U32) ∧ us.length ≤ 140737488351232 ∧ ∀ u ∈ us, u < 4294967296 := by
  rcases open_ints Tryz.underlying54 Tryz.underlying41 cells_u32o h with ⟨rfl, _⟩ | ⟨a, len, cap, zs, rfl, _, hlc, hm, hz, hx, hcell, hwf⟩
  · exact ⟨_, [], rfl, Sl.nil W 1, by simp, by simp⟩
  · simp only [if_true] at hz
    have hreach : len ≤ 140737488351232 := by
      have := hl (((zs.take len).length + (zs.drop len).length) * 4) (by
        rw [hx]; simp [DataW.weights, Tryz.underlying54, bytes_u32o, lits])
      simp only [List.length_take, List.length_drop, reachBytes] at this
      omega
    refine ⟨_, (zs.take len).map Int.toNat, rfl, ?_, by simp; omega, fun u hu => ?_⟩
    · have hll : ((zs.take len).map Int.toNat).length = len := by simp; omega
      rw [hll]
      refine ⟨by simp [hz]; omega, some a, cap, rfl, hlc, fun h => (by cases h), fun i u hu => ?_⟩
      have hi : i < len := by have := (List.getElem?_eq_some_iff.1 hu).1; simp at this; omega
      have hzi : i < zs.length := by omega
      have hc := hcell i hzi
      have hsp : a.spot = none := by
        have h0 := hcell 0 (by omega)
        have e0 : a.add 0 = a := by simp [Addr.add]
        rw [e0] at h0
        unfold World.cell? at h0
        split at h0
        · split at h0
          · cases h0
          · rename_i hs; simpa using hs
        · cases h0
      obtain ⟨b, o, sp⟩ := a
      simp only at hsp
      subst hsp
      refine ⟨b, o, rfl, ?_⟩
      rw [Addr.add_lit] at hc
      rw [hc]
      have e : (((zs.take len).map Int.toNat).map U32)[i]? = some (U32 zs[i].toNat) := by simp [hi, hzi]
      rw [e] at hu
      rw [← hu]
      have hw := bounds_u32 (hwf zs[i] (List.getElem_mem hzi))
      congr 1
      simp only [List.getD, List.getElem?_eq_getElem hzi, Option.getD_some]
      rw [U32, Int.toNat_of_nonneg hw.1]
    · obtain ⟨z, hz, rfl⟩ := List.mem_map.1 hu
      have hw := bounds_u32 (hwf z (List.mem_of_mem_take hz))
      omega
end
end Go.Proofs.YtkbnkdokcmpcgaaGreatDoor
namespace Go.Proofs.YtkbnkdokcmpcgaaGreatDoor
open Go.RowKit

/-- Those listed behind x of one chain and y of the other. -/
def gridL (l : Array Bool) (IA IB : List Nat) (x y : Nat) : Array Bool := ((IA.take x) ++ (IB.take y)).foldl (fun s i => s.setIfInBounds i true) l
/-- All that can be ready is the next of each chain. -/
def gridB (md : Region.Mode) (ops : Array Oper) (l : Array Bool) (IA IB : List Nat) : Bool :=
  (List.range (IA.length + 1)).all fun x => (List.range (IB.length + 1)).all fun y =>
    (decide (IA.length ≤ x) && decide (IB.length ≤ y) || (Region.ready md ops (gridL l IA IB x y)).all (fun k => (decide (x < IA.length) && k == IA.getD x 0) || (decide (y < IB.length) && k == IB.getD y 0))) &&
    (decide (IA.length ≤ x) && decide (IB.length ≤ y) || !(Region.ready md ops (gridL l IA IB x y)).isEmpty) &&
    (decide (IA.length ≤ x) || decide ((gridL l IA IB x y).setIfInBounds (IA.getD x 0) true = gridL l IA IB (x + 1) y)) &&
    (decide (IB.length ≤ y) || decide ((gridL l IA IB x y).setIfInBounds (IB.getD y 0) true = gridL l IA IB x (y + 1)))

section
variable {P : Program} {md : Region.Mode} {ops : Array Oper} {C : World → Prop} {Q : Exit → Act → World → Prop}
theorem wpAnyC_grid {f : Nat} {listed : Array Bool} (IA IB : List Nat) (hB : gridB md ops listed IA IB = true) (Inv : Nat → Nat → Act → World → Prop) (hC : ∀ x y a w, Inv x y a w → C w)
    (sA : ∀ x y a w, x < IA.length → y ≤ IB.length → Inv x y a w → ∃ o, ops[IA.getD x 0]? = some o ∧ Region.wanted o (yielded ops a.tmps) = true ∧ ∀ K : Act → World → Prop, (∀ a w, Inv (x + 1) y a w → K a w) → Oper.wp P o a w K Q)
    (sB : ∀ x y a w, x ≤ IA.length → y < IB.length → Inv x y a w → ∃ o, ops[IB.getD y 0]? = some o ∧ Region.wanted o (yielded ops a.tmps) = true ∧ ∀ K : Act → World → Prop, (∀ a w, Inv x (y + 1) a w → K a w) → Oper.wp P o a w K Q)
    (hend : ∀ a w, Inv IA.length IB.length a w → wpAnyC P md ops C Q f (gridL listed IA IB IA.length IB.length) a w) :
    ∀ n x y, x ≤ IA.length → y ≤ IB.length → n = (IA.length - x) + (IB.length - y) → ∀ a w, Inv x y a w → wpAnyC P md ops C Q (f + n) (gridL listed IA IB x y) a w
  | 0, x, y, hx, hy, hn, a, w, hi => by
    obtain rfl : x = IA.length := by omega
    obtain rfl : y = IB.length := by omega
    exact hend a w hi
  | n + 1, x, y, hx, hy, hn, a, w, hi => by
    have hb := hB
    unfold gridB at hb
    have hb := List.all_eq_true.1 (List.all_eq_true.1 hb x (List.mem_range.2 (by omega))) y (List.mem_range.2 (by omega))
    simp only [Bool.and_eq_true] at hb
    obtain ⟨⟨⟨h1, h2⟩, h3⟩, h4⟩ := hb
    refine ⟨hC _ _ _ _ hi, fun h0 => ?_, fun k hk => ?_⟩
    · rw [h0] at h2
      simp at h2
      omega
    · have h1 : (Region.ready md ops (gridL listed IA IB x y)).all (fun k => (decide (x < IA.length) && k == IA.getD x 0) || (decide (y < IB.length) && k == IB.getD y 0)) = true := by
        simp only [Bool.or_eq_true, Bool.and_eq_true, decide_eq_true_eq] at h1
        exact h1.resolve_left (by omega)
      have h1 := List.all_eq_true.1 h1 k hk
      simp only [Bool.or_eq_true, Bool.and_eq_true, decide_eq_true_eq, beq_iff_eq] at h1
      rcases h1 with ⟨hl, rfl⟩ | ⟨hl, rfl⟩
      · obtain ⟨o, ho, hw, hs⟩ := sA x y a w hl hy hi
        have e : (gridL listed IA IB x y).setIfInBounds (IA.getD x 0) true = gridL listed IA IB (x + 1) y := by
          simp only [Bool.or_eq_true, decide_eq_true_eq] at h3
          exact h3.resolve_left (by omega)
        unfold wpOp
        simp only [ho]
        rw [if_pos hw]
        refine .inl (hs _ fun a' w' hi' => ?_)
        show wpAnyC P md ops C Q (f + n) ((gridL listed IA IB x y).setIfInBounds (IA.getD x 0) true) a' w'
        rw [e]
        exact wpAnyC_grid IA IB hB Inv hC sA sB hend n (x + 1) y hl hy (by omega) a' w' hi'
      · obtain ⟨o, ho, hw, hs⟩ := sB x y a w hx hl hi
        have e : (gridL listed IA IB x y).setIfInBounds (IB.getD y 0) true = gridL listed IA IB x (y + 1) := by
          simp only [Bool.or_eq_true, decide_eq_true_eq] at h4
          exact h4.resolve_left (by omega)
        unfold wpOp
        simp only [ho]
        rw [if_pos hw]
        refine .inl (hs _ fun a' w' hi' => ?_)
        show wpAnyC P md ops C Q (f + n) ((gridL listed IA IB x y).setIfInBounds (IB.getD y 0) true) a' w'
        rw [e]
        exact wpAnyC_grid IA IB hB Inv hC sA sB hend n x (y + 1) hx hl (by omega) a' w' hi'
end

end Go.Proofs.YtkbnkdokcmpcgaaGreatDoor
