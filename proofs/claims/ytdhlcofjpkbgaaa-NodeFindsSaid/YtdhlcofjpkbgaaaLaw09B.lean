/- Walk: banyanlaw09's NodeFinds. -/
import Derived.Test.YtdhlcofjpkbgaaaLaw09A
namespace Go.Proofs.Ytdhlcofjpkbgaaa
open Go.RowKit

set_option maxRecDepth 100000 in
set_option maxHeartbeats 4000000 in
theorem nodeFinds_any (arr : Array Value) (n : Nd) (key : ByteArray) (w : World) (h : NdIs w arr n) (hf : n.Fits) :
    Calls Try.prog 6 #[.agg arr, .string key] w fun e w' => e = .returned (.bool true) ∧ Below w.heap.size w w' := by
  have hn := fun (w' : World) (hb : Below w.heap.size w w') => (h.below hb : NdIs w' arr n)
  have hkb := fun (w' : World) (hb : Below w.heap.size w w') => (h.below hb : NdIs w' arr n).get
  obtain ⟨ak, ck, av, cv, ap, cp, rfl, hk, hv, hp⟩ := h.get
  have hb0 : Below w.heap.size w (w.alloc (.cells #[.bool n.leaf, .slice ak n.keys.length ck, .slice av n.vals.length cv, .slice ap n.kids.length cp] 55)) := (Below.refl _ w).alloc (Nat.le_refl _) _
  have HN := Lib.hid hn
  have HK := Lib.hid (fun (w' : World) (hb : Below w.heap.size w w') => (hk.below hb : StrsIn w' (.slice ak n.keys.length ck) n.keys))
  have HB := Lib.hid hb0
  have HF := Lib.hid hf
  have HT := Lib.hid (At_nd (heap_alloc_new w (.cells #[.bool n.leaf, .slice ak n.keys.length ck, .slice av n.vals.length cv, .slice ap n.kids.length cp] 55)))
  have b1 := hf.keys
  clear h hk hv hp hb0 hf hn hkb
  go_enter Try.func6, Try.ntmps6
  go_wp2_with fail
  refine (alive09 _).mono ?_
  rintro e w1 ⟨rfl, hb1⟩
  have HT1 := Lib.hid (HT.out.fr (Fr.of_below (S := fun _ => False) hb1) id)
  have HB1 := Lib.hid (HB.out.trans (hb1.mono HB.out.size))
  have HN1 := Lib.hid (HN.out _ HB1.out)
  clear hb1
  go_wp2_with (refine load_nd rfl (.tmp 2) rfl rfl HT1.out rfl ?_)
  refine (great09_any _ n _ HN1.out HF.out).mono ?_
  rintro e w2 ⟨rfl, hb2⟩
  have HT2 := Lib.hid (HT1.out.fr (Fr.of_below (S := fun _ => False) hb2) id)
  have HB2 := Lib.hid (HB1.out.trans (hb2.mono HB1.out.size))
  clear hb2
  cases hg : great9 n with
  | true =>
    clear hg
    go_wp2
    go_ret
    exact ⟨rfl, HB2.out⟩
  | false =>
    clear hg
    by_cases h5 : 500 < key.size
    · have b5 : (500 : Int) < (key.size : Int) := by omega
      clear h5
      go_wp2
      go_ret
      exact ⟨rfl, HB2.out⟩
    · have b5 : ¬ (500 : Int) < (key.size : Int) := by omega
      have c1 : w2.cell? ⟨w.heap.size, 1, none⟩ = some (.slice ak n.keys.length ck) := by simpa using HT2.out 1 _ rfl
      clear h5
      go_wp2_with fail
      clear c1
      go_loopw [22, 5] (fun i u wr => ∃ k : Nat, k ≤ n.keys.length ∧ i = .int .i64 k ∧ (∀ j (hj : j + 1 < n.keys.length), j + 1 < k → sLt (n.keys[j]'(by omega)) n.keys[j + 1] = true) ∧ Below w2.heap.size w2 wr) (fun i _ _ => n.keys.length - (intOf i).toNat)
      case atStart => exact ⟨0, Nat.zero_le _, rfl, fun j _ hj => by omega, Below.refl _ _⟩
      case round =>
        obtain ⟨k, hk, rfl, hz, hbr⟩ := hrel
        have HZ := Lib.hid hz
        have HTr := Lib.hid (HT2.out.fr (Fr.of_below (S := fun _ => False) hbr) id)
        have HBr := Lib.hid (HB2.out.trans (hbr.mono HB2.out.size))
        have HBR := Lib.hid hbr
        have HKr := Lib.hid (HK.out _ HBr.out)
        have c1 : wr.cell? ⟨w.heap.size, 1, none⟩ = some (.slice ak n.keys.length ck) := by simpa using HTr.out 1 _ rfl
        clear hz hbr
        rcases Nat.lt_or_ge k n.keys.length with hlt | hge
        · obtain ⟨a', c', e', hel⟩ := HKr.out.open
          simp only [Value.slice.injEq, true_and] at e'
          obtain ⟨rfl, rfl⟩ := e'
          cases k with
          | zero =>
            have hd : decide ((0 : Int) < 0) = false := by decide
            clear hel
            go_wp2_with fail
            go_quiet (fail)
            go_wp2
            go_roundw
            case rel => exact ⟨1, by omega, by go_num, fun j hj h1 => by omega, Below_drewN HBR.out _⟩
            case measure => simp [intOf]; omega
          | succ m =>
            obtain ⟨b, o, rfl, hc⟩ := hel (m + 1) hlt
            obtain ⟨b', o', e', hc'⟩ := hel m (by omega)
            simp only [Option.some.injEq, Addr.mk.injEq, and_true] at e'
            obtain ⟨rfl, rfl⟩ := e'
            obtain ⟨s, hs⟩ : ∃ s, s = n.keys[m + 1]'hlt := ⟨_, rfl⟩
            obtain ⟨s', hs'⟩ : ∃ s', s' = n.keys[m]'(by omega) := ⟨_, rfl⟩
            rw [← hs] at hc
            rw [← hs'] at hc'
            have HS := Lib.hid hs
            have HS' := Lib.hid hs'
            have ew : wrap64 (m : Int) = (m : Int) := by unfold wrap64; omega
            have hd : (0 : Int) < (m : Int) + 1 := by omega
            clear hel hs hs'
            cases hl : sLt s' s with
            | true =>
              have HL := Lib.hid hl
              have b3 : Op.bytesLess s'.toList s.toList = true := hl
              clear hl
              go_wp2_with fail
              go_quiet (fail)
              go_wp2
              go_roundw
              case rel =>
                refine ⟨m + 1 + 1, by omega, by go_num, fun j hj hjk => ?_, Below_drewN HBR.out _⟩
                rcases Nat.lt_or_ge (j + 1) (m + 1) with h | h
                · exact HZ.out j hj h
                · obtain rfl : j = m := by omega
                  rw [← HS.out, ← HS'.out]; exact HL.out
              case measure => simp [intOf]; omega
            | false =>
              have b3 : Op.bytesLess s'.toList s.toList = false := hl
              clear hl
              go_wp2_with fail
              go_quiet (fail)
              go_wp2
              go_ret
              exact ⟨rfl, Below_drewN HBr.out _⟩
        · obtain rfl : k = n.keys.length := by omega
          have HR := Lib.hid (rising_of_step (fun j hj => HZ.out j hj hj))
          have HNr := Lib.hid (HN.out _ HBr.out)
          clear c1
          go_wp2_with (refine load_nd rfl (.tmp 2) rfl rfl HTr.out rfl ?_)
          refine (find_any _ n key _ HNr.out HF.out HR.out).mono ?_
          rintro e w3 ⟨rfl, hb3⟩
          have HT3 := Lib.hid (HTr.out.fr (Fr.of_below (S := fun _ => False) hb3) id)
          have HB3 := Lib.hid (HBr.out.trans (hb3.mono HBr.out.size))
          have HN3 := Lib.hid (HN.out _ HB3.out)
          clear hb3
          go_wp2_with (refine load_nd rfl (.tmp 2) rfl rfl HT3.out rfl ?_)
          refine (refFind_any _ n key _ HN3.out HF.out).mono ?_
          rintro e w4 ⟨rfl, hb4⟩
          have HB4 := Lib.hid (HB3.out.trans (hb4.mono HB3.out.size))
          clear hb4
          go_wp2
          go_ret
          exact ⟨by simp, HB4.out⟩

end Go.Proofs.Ytdhlcofjpkbgaaa
