/- Walk: banyanlaw07's CodecLays, of acts that are looked at. -/
import Derived.Test.YtdhlcofjpkbgaaaLaw07C
namespace Go.Proofs.Ytdhlcofjpkbgaaa
open Go.RowKit

theorem layAll_succ (acs : List Ac) (k : Nat) (h : k < acs.length) : layAll (acs.take (k + 1)) = layB (layAll (acs.take k)) acs[k] := by
  unfold layAll
  rw [List.take_succ_eq_append_getElem h, List.foldl_append]; rfl

/-- The reference's bytes lie apart from the Writer. -/
def Apart (v : Value) (b : Nat) (row : Option Nat) : Prop := ∀ j, v.ownBlock = some j → j ≠ b ∧ row ≠ some j

/-- What holds between two rounds. -/
def LayRel (w : World) (acs : List Ac) (B : Nat) (k : Nat) (v : Value) (wr : World) : Prop :=
  ∃ row, wr.ownsRow B 5 1 v (layAll (acs.take k)).length ((layAll (acs.take k)).map Bv) ∧ Wr wr B B row (layAll (acs.take k)) ∧ Apart v B row ∧ Below w.heap.size w wr ∧ (layAll (acs.take k)).length ≤ k * 65536

set_option maxHeartbeats 4000000 in
theorem codecLays_any (v : Value) (acs : List Ac) (w : World) (h : ActsIn w v acs) (hr : acs.length ≤ 140737488351232) (hb : ∀ a ∈ acs, a.b.length ≤ 140737488351232 ∧ a.s.size ≤ 140737488351232 ∧ -9223372036854775808 ≤ a.size ∧ a.size ≤ 9223372036854775807)
    (hg : (decide (100 < (acs.length : Int)) || decide (9000 < wrap64 (cost acs))) = false) :
    Calls Try.prog 4 #[v] w fun e w' => e = .returned (.bool true) ∧ Below w.heap.size w w' := by
  have hg' := hg
  simp only [Bool.or_eq_false_iff, decide_eq_false_iff_not] at hg'
  have hcb := cost_bounds acs hb
  have hlen : acs.length ≤ 100 := by omega
  have hsmall : ∀ a ∈ acs, a.b.length ≤ 9000 := by
    intro a ha
    have := hcb.2.2 a ha
    have h2 := hg'.2
    rw [wrap64_of (cost acs) (by omega) (by omega)] at h2
    omega
  have HA := Lib.hid (fun (w' : World) (hbl : Below w.heap.size w w') => (h.below hbl : ActsIn w' v acs))
  obtain ⟨a, cap, rfl, hel⟩ := h
  have HE := Lib.hid hel
  have HSm := Lib.hid hsmall
  have HB := Lib.hid hb
  have HG := Lib.hid hg
  clear hel hb hg hg' hcb hsmall
  go_enter Try.func4, Try.ntmps4
  go_wp2_with fail
  refine (alive07 _).mono ?_
  rintro e w0 ⟨rfl, hb0⟩
  have HB0 := Lib.hid hb0
  have hs0 := hb0.size
  clear hb0
  go_wp2_with fail
  refine (great_any _ acs _ (HA.out _ HB0.out) hr HB.out).mono ?_
  rw [HG.out]
  rintro e w1 ⟨rfl, hb1⟩
  have hb1' := HB0.out.trans (hb1.mono hs0)
  have hs1 := hb1'.size
  have HB1 := Lib.hid hb1'
  clear hb1 hb1'
  go_wp2_with fail
  go_loopw [4, 15] (fun v i wr => ∃ k : Nat, k ≤ acs.length ∧ i = .int .i64 k ∧ LayRel w acs w1.heap.size k v wr) (fun _ i _ => acs.length - (intOf i).toNat)
  case atStart =>
    exact ⟨0, Nat.zero_le _, rfl, none, World.ownsRow_nil _ _ _ _, Wr.new _ _, fun j hj => by simp [Value.ownBlock] at hj, HB1.out.alloc hs1 _, by simp [layAll]⟩
  case round =>
    obtain ⟨k, hk, rfl, row, hown, hwr, hap, hbel, hxl⟩ := hrel
    rcases Nat.lt_or_ge k acs.length with hlt | hge
    · obtain ⟨b, o, arr, rfl, hat, hA⟩ := HE.out k hlt
      have hsz := hA.size
      have HAT := Lib.hid (fun i u hu => (Below.cell hbel (p := ⟨b, o + k * 37 + i, none⟩) (World.block_lt_of_cell? w ⟨b, o + k * 37 + i, none⟩ (hat i u hu))).trans (hat i u hu) : At wr b (o + k * 37) arr.toList)
      have HS := Lib.hid hsz
      have HON := Lib.hid hA.one
      have HAc := Lib.hid (fun w' (hbl : Below w.heap.size w w') => hA.fr (fun v hv => hv.below hbl))
      have HBl := Lib.hid hbel
      have HW := Lib.hid hwr
      have HO := Lib.hid hown
      have HAp := Lib.hid hap
      have HX := Lib.hid hxl
      have hws := hwr.lt.1
      have hbs := hbel.size
      clear hat hA hsz hbel hwr hown hap hxl
      go_wp2_with (first | (refine load_act rfl (.tmp 17) rfl rfl HAT.out HS.out ?_) | (refine store_act rfl (.tmp 6) (.tmp 18) rfl rfl rfl (heap_alloc_new _ _) rfl HS.out HON.out ?_))
      intro w3 hb3 hf3 hs3
      have hfr3 : Fr (fun _ => False) wr w3 := by
        refine ⟨hf3.os, hf3.tape, hf3.output, by rw [hs3]; simp, fun k hk _ => ?_⟩
        exact (hf3.block k (Nat.lt_of_lt_of_le hk (by simp)) (by omega)).trans (Below.heap_alloc _ _ _ hk)
      have HB3 := Lib.hid hb3
      have HF3 := Lib.hid hfr3
      have HAT3 := Lib.hid (At.of_row (cs := arr.toList) (by simpa using hb3) : At w3 wr.heap.size 0 arr.toList)
      have hs3' : w3.heap.size = wr.heap.size + 1 := by rw [hs3]
      have HS3 := Lib.hid hs3'
      have hbel3 := HBl.out.trans (hfr3.below hbs (fun _ h => h.elim))
      have HBel3 := Lib.hid hbel3
      clear hb3 hf3 hs3 hfr3 hs3' hbel3
      go_wp2_with (refine load_act rfl (.tmp 6) rfl rfl HAT3.out HS.out ?_)
      refine (refLay_any _ arr acs[k] _ w1.heap.size _ (HO.out.fr HF3.out (fun _ _ => id)) (by have := HS3.out; have := HBl.out.size; have := HW.out.lt.1; omega) (HAc.out _ HBel3.out) (by have := HX.out; omega) (by have := HSm.out _ (List.getElem_mem hlt); omega)).mono ?_
      rintro e w4 ⟨v4, rfl, hown4, hf4, hv4⟩
      have hlB := layB_length (layAll (acs.take k)) acs[k] (HAc.out _ (Below.refl _ w)).hash (HSm.out _ (List.getElem_mem hlt))
      have hlt4 := HF3.out.size
      have hW3 := HW.out.fr HF3.out id (fun _ _ => id)
      have hvlt : ∀ j, Value.ownBlock _ = some j → j < wr.heap.size := fun j hj => (HO.out.lt j hj).2
      have hW4 : Wr w4 w1.heap.size w1.heap.size row (layAll (acs.take k)) := hW3.fr hf4 (fun e => (HAp.out _ e).1 rfl) (fun j hj e => (HAp.out _ e).2 hj)
      have hs4 := hf4.size
      have hbel4 : Below w.heap.size w w4 := HBel3.out.trans (hf4.below HBel3.out.size (fun j hj => by have := (HO.out.lt j hj).1; omega))
      have hAp4 : Apart v4 w1.heap.size row := by
        intro j hj
        rcases hv4 j hj with h | h
        · exact HAp.out j h
        · have := hW3.lt
          exact ⟨by omega, fun e => by have := (this.2 j e).2; omega⟩
      have hb4 : w4.heap[wr.heap.size]? = some (.cells arr 42 (0, 0)) := (hf4.block _ (by have := HS3.out; omega) (fun e => by have := hvlt _ e; omega)).trans HB3.out
      have HAT4 := Lib.hid (At.of_row (cs := arr.toList) (by simpa using hb4) : At w4 wr.heap.size 0 arr.toList)
      have HO4 := Lib.hid hown4
      have HLB := Lib.hid hlB
      have HW4 := Lib.hid hW4
      have HBel4 := Lib.hid hbel4
      have HAp4 := Lib.hid hAp4
      clear hown4 hf4 hv4 hlB hlt4 hW3 hvlt hW4 hs4 hbel4 hAp4 hb4
      go_wp2_with (refine load_act rfl (.tmp 6) rfl rfl HAT4.out HS.out ?_)
      refine (lay_any arr acs[k] _ w1.heap.size w1.heap.size row _ HW4.out (by have := HBel4.out.size; have := HW4.out.lt.1; omega) (HAc.out _ HBel4.out) (by have := HX.out; omega) (by have := HSm.out _ (List.getElem_mem hlt); omega)).mono ?_
      rintro e w5 ⟨rfl, row5, hW5, hf5, hr5⟩
      have hs5 := hf5.size
      have hO5 := HO4.out.fr hf5 (fun j hj e => by rcases e with e | e; (· exact (HAp4.out j hj).1 e); (· exact (HAp4.out j hj).2 e))
      have hbel5 : Below w.heap.size w w5 := HBel4.out.trans (hf5.below HBel4.out.size (fun j hj => by rcases hj with e | e; (· omega); (· have := (HW4.out.lt.2 j e).1; omega)))
      have hAp5 : Apart v4 w1.heap.size row5 := by
        intro j hj
        refine ⟨(HAp4.out j hj).1, fun e => ?_⟩
        rcases hr5 j e with h | h
        · exact (HAp4.out j hj).2 h
        · have := (HO4.out.lt j hj).2; omega
      have HW5 := Lib.hid hW5
      have HO5 := Lib.hid hO5
      have HBel5 := Lib.hid hbel5
      have HAp5 := Lib.hid hAp5
      clear hW5 hf5 hr5 hs5 hO5 hbel5 hAp5
      have e6 : (layE (layAll (acs.take k)) acs[k] != layE (layAll (acs.take k)) acs[k]) = false := by simp
      obtain ⟨er, her⟩ : ∃ er, er = layE (layAll (acs.take k)) acs[k] := ⟨_, rfl⟩
      rw [← her] at e6 ⊢
      clear her
      go_wp2_with fail
      refine (wBytes_ok w1.heap.size w1.heap.size row5 _ _ HW5.out (by have := HX.out; have := HLB.out; omega)).mono ?_
      rintro e w6 ⟨aa, cc, rfl, hown6, hb6⟩
      have HS6 := Lib.hid (Sl.own hown6)
      have HO6 := Lib.hid (HO5.out.fr (Fr.of_below (S := fun _ => False) hb6) (fun _ _ => id))
      have HW6 := Lib.hid (HW5.out.fr (Fr.of_below (S := fun _ => False) hb6) id (fun _ _ => id))
      have HBel6 := Lib.hid (HBel5.out.trans (hb6.mono HBel5.out.size))
      clear hown6 hb6
      go_wp2_with fail
      refine (same_any _ _ _ _ _ _ _ HS6.out (Sl.own HO6.out)).mono ?_
      rintro e w7 ⟨rfl, rfl⟩
      rw [decide_eq_true (rfl : layB (layAll (acs.take k)) acs[k] = layB (layAll (acs.take k)) acs[k])]
      go_wp2
      go_roundw
      case rel =>
        refine ⟨k + 1, by omega, by go_num, row5, ?_, ?_, HAp5.out, HBel6.out, ?_⟩
        · rw [layAll_succ acs k hlt]; exact HO6.out
        · rw [layAll_succ acs k hlt]; exact HW6.out
        · rw [layAll_succ acs k hlt]; have := HLB.out; have := HX.out; omega
      case measure => simp [intOf]; omega
    · obtain rfl : k = acs.length := by omega
      have HBl := Lib.hid hbel
      clear hbel hown hwr hap hxl
      go_wp2
      go_ret
      exact ⟨rfl, HBl.out⟩

end Go.Proofs.Ytdhlcofjpkbgaaa
