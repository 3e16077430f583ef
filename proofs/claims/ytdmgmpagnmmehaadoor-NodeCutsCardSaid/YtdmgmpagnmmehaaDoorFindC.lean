/- Walks: node.Find, the reference's Find. -/
import Derived.Test.YtdmgmpagnmmehaaDoorFindB
namespace Go.Proofs.YtdmgmpagnmmehaaDoor
open Go.RowKit

theorem PartAt.count {p : ByteArray → Bool} {l : List ByteArray} {i : Nat} (h : PartAt p l i) : (l.filter p).length = i := by
  obtain ⟨h0, h1, h2⟩ := h
  have e1 : (l.take i).filter p = l.take i := List.filter_eq_self.2 fun x hx => by
    obtain ⟨j, hj, rfl⟩ := List.getElem_of_mem hx
    rw [List.length_take] at hj
    rw [List.getElem_take]
    exact h1 j (by omega) (by omega)
  have e2 : (l.drop i).filter p = [] := List.filter_eq_nil_iff.2 fun x hx => by
    obtain ⟨j, hj, rfl⟩ := List.getElem_of_mem hx
    rw [List.length_drop] at hj
    rw [List.getElem_drop, h2 (i + j) (by omega) (by omega)]
    simp
  have e : l.filter p = (l.take i).filter p ++ (l.drop i).filter p := by rw [← List.filter_append, List.take_append_drop]
  rw [e, e1, e2, List.append_nil, List.length_take]
  omega

def findIs (l : List ByteArray) (key : ByteArray) : Bool := l.any (fun k => sEq k key)
def atP (leaf : Bool) (key : ByteArray) (k : ByteArray) : Bool := sLt k key || (sEq k key && !leaf)
def findAt (n : Nd) (key : ByteArray) : Nat := (n.keys.filter (atP n.leaf key)).length

theorem found_eq {l : List ByteArray} {key : ByteArray} {i : Nat} (hr : Rising l) (h : PartAt (fun k => sLt k key) l i) : (decide (i < l.length) && sEq (l.getD i ⟨#[]⟩) key) = findIs l key := by
  obtain ⟨h0, h1, h2⟩ := h
  rw [Bool.eq_iff_iff]
  unfold findIs
  simp only [Bool.and_eq_true, decide_eq_true_iff, List.any_eq_true]
  constructor
  · rintro ⟨hi, he⟩
    refine ⟨l[i], List.getElem_mem hi, ?_⟩
    rwa [List.getD_eq_getElem?_getD, List.getElem?_eq_getElem hi] at he
  · rintro ⟨x, hx, he⟩
    obtain ⟨j, hj, rfl⟩ := List.getElem_of_mem hx
    have hk := (sEq_iff _ _).1 he
    have hji : i ≤ j := by
      rcases Nat.lt_or_ge j i with h | h
      · have := h1 j hj h
        simp only [hk, sLt_irrefl] at this
        cases this
      · exact h
    have hij : j ≤ i := by
      rcases Nat.lt_or_ge i j with h | h
      · have h3 := hr i j hj h
        have h4 := h2 i (by omega) (Nat.le_refl _)
        simp only at h4
        rw [hk] at h3
        rw [h3] at h4
        cases h4
      · exact h
    obtain rfl : i = j := by omega
    refine ⟨hj, ?_⟩
    rw [List.getD_eq_getElem?_getD, List.getElem?_eq_getElem hj]
    exact he

set_option maxHeartbeats 2000000 in
theorem find_any (arr : Array Value) (n : Nd) (key : ByteArray) (w : World) (h : NdIs w arr n) (hf : n.Fits) (hr : Rising n.keys) :
    Calls Tryd.prog 27 #[.agg arr, .string key] w fun e w' => e = .returned (.tuple #[.int .i64 (findAt n key : Int), .bool (findIs n.keys key)]) ∧ Below w.heap.size w w' := by
  obtain ⟨ak, ck, av, cv, ap, cp, rfl, hk, hv, hp⟩ := h.get
  have hb0 : Below w.heap.size w ((w.alloc (.cells #[.bool n.leaf, .slice ak n.keys.length ck, .slice av n.vals.length cv, .slice ap n.kids.length cp] 25)).alloc (.cells #[.string key] 9)) := ((Below.refl _ w).alloc (Nat.le_refl _) _).alloc (by simp) _
  have HK := Lib.hid (hk.below hb0)
  have HB := Lib.hid hb0
  have HF := Lib.hid hf
  have HR := Lib.hid hr
  have hc1 := cell_of_row _ w.heap.size 1 _ _ _ (heap_alloc2_old w (.cells #[.bool n.leaf, .slice ak n.keys.length ck, .slice av n.vals.length cv, .slice ap n.kids.length cp] 25) (.cells #[.string key] 9))
  have hc2 := cell_of_row _ (w.heap.size + 1) 0 _ _ _ (heap_alloc2_new w (.cells #[.bool n.leaf, .slice ak n.keys.length ck, .slice av n.vals.length cv, .slice ap n.kids.length cp] 25) (.cells #[.string key] 9))
  have HC1 := Lib.hid hc1
  have HC2 := Lib.hid hc2
  clear h hk hv hp hb0 hf hr hc1 hc2
  cases hl : n.leaf with
  | true =>
    rw [hl] at HK HB HC1 HC2
    have HL := Lib.hid hl
    clear hl
    go_enter Tryd.func27, Tryd.ntmps27
    go_wp2_with fail
    refine (search_any _ n.keys key _ HK.out HF.out.keys HR.out).mono ?_
    rintro e w1 ⟨i, rfl, hP, rfl⟩
    have HA := Lib.hid (show findAt n key = i by unfold findAt; rw [HL.out]; have := hP.count; rw [← this]; congr 2; funext k; unfold atP; simp)
    have HI := Lib.hid (found_eq HR.out hP)
    rw [HI.out]
    clear hP
    go_wp2
    go_ret2
    exact ⟨by rw [HA.out]; rfl, HB.out⟩
  | false =>
    rw [hl] at HK HB HC1 HC2
    have HL := Lib.hid hl
    clear hl
    go_enter Tryd.func27, Tryd.ntmps27
    go_wp2_with fail
    refine (search_any _ n.keys key _ HK.out HF.out.keys HR.out).mono ?_
    rintro e w1 ⟨i, rfl, hP, rfl⟩
    have HI := Lib.hid (found_eq HR.out hP)
    rw [HI.out]
    clear hP
    go_wp2_with fail
    refine (sortSearch_any _ _ n.keys key _ _ HK.out HF.out.keys HR.out HC1.out HC2.out).mono ?_
    rintro e w2 ⟨i2, rfl, hP2, nd, rfl⟩
    have HA := Lib.hid (show findAt n key = i2 by
      unfold findAt; rw [HL.out]; have := hP2.count; rw [← this]; congr 2; funext k; unfold atP gtS; simp)
    have HB2 := Lib.hid (HB.out.trans ((Fr_drewN' (fun _ => False) _ nd).below HB.out.size (fun _ h => h.elim)))
    clear hP2
    go_wp2
    go_ret2
    exact ⟨by rw [HA.out]; rfl, HB2.out⟩

end Go.Proofs.YtdmgmpagnmmehaaDoor
