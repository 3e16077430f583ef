/- Walks: ptr.Get, the reference's Get of a pointer. -/
import Derived.Test.YtdmgmpagnmmehaaDoorReadO
import Derived.Test.YtdmgmpagnmmehaaDoorNd
namespace Go.Proofs.YtdmgmpagnmmehaaDoor
open Go.RowKit

section
variable {P : Program}
/-- A part of a row, stored. -/
theorem wpList_store_part {ops : Array Oper} {rest : List Oper} {o : Oper} {a : Act} {w : World} {Q : Exit → Act → World → Prop} (hgd : o.guard = none) (ty : TypeId) (x y : Operand) (ho : o.op = .store ty x y)
    (b off : Nat) (hx : a.eval x = .pointer (some ⟨b, off, none⟩)) (cs : List Value) (hy : a.eval y = .agg cs.toArray) (old : Array Value) (t : TypeId) (hb : w.heap[b]? = some (.cells old t (0, 0))) (hl : off + cs.length ≤ old.size)
    (h1 : ∀ u ∈ cs, u.oneCell' = true) (hi : (P.info? ty).map (·.size) = some cs.length)
    (h : ∀ w', w'.heap[b]? = some (.cells (old.toList.take off ++ cs ++ old.toList.drop (off + cs.length)).toArray t (0, 0)) → Fr (fun k => k = b) w w' → w'.heap.size = w.heap.size → wpList P ops Q rest (a.put o.dst undef) w') : wpList P ops Q (o :: rest) a w := by
  refine wpList_plain hgd fun K hK => ?_
  have hst := run_storeCells_at P b off t cs 0 old w hb (by omega) h1
  cases hq : P.info? ty with
  | none => simp [hq] at hi
  | some i =>
    have hs : i.size = cs.length := by simpa [hq] using hi
    rw [Nat.add_zero] at hst
    have hr : (Instr.storeAt ty (.pointer (some ⟨b, off, none⟩)) (.agg cs.toArray)).run P w = .ok () (w.setRow b (old.toList.take off ++ cs ++ old.toList.drop (off + cs.length)).toArray) := by
      simp [Instr.storeAt, Instr.sureAddr, storeVar, sizeOf, typeInfo, hq, hs, Value.cells, Sem.run_bind, hst]
    unfold Oper.wp execOp
    simp only [ho, hx, hy, Sem.run_bind, Sem.run_pure, Result.andThen_ok, hr]
    exact hK _ _ (h _ (setRow_heap w b old _ t _ hb) ⟨rfl, rfl, rfl, by simp, fun k _ hk => setRow_other w b k _ hk⟩ (by simp))
end

/-- What is read for a pointer. -/
def ptrOf (xs : List UInt8) : Pt × Int × List UInt8 :=
  if xs.length < 44 then (Pt.zero, 3, xs) else (⟨getB (xs.take 4), getB ((xs.drop 4).take 8), (xs.drop 12).take 32⟩, 0, xs.drop 44)
theorem ptrOf_wf (xs : List UInt8) : (ptrOf xs).1.Wf := by
  unfold ptrOf
  split
  · exact Pt.zero_wf
  · refine ⟨?_, ?_, ?_⟩
    · have := getB_lt (xs.take 4)
      rw [List.length_take, Nat.min_eq_left (by omega)] at this
      simpa using this
    · have := getB_lt ((xs.drop 4).take 8)
      rw [List.length_take, List.length_drop, Nat.min_eq_left (by omega)] at this
      simpa using this
    · simp; omega

theorem ret_ptr {fn : Func} {p u : Tmp} (h : fn.results = #[.cell p 47, .tmp u]) {tmps : Array Value} {w : World} {g : Nat} {q : Pt} {t : TypeId} (hp : tmps.getD p undef = .pointer (some ⟨g, 0, none⟩))
    (hg : w.heap[g]? = some (.cells q.arr t (0, 0))) (hl : q.Wf) :
    (results fn tmps).run Tryd.prog w = .ok (.tuple #[.agg q.arr, tmps.getD u undef]) w := by
  rw [results_cell_tmp h, hp]
  simp [asAddr, run_loadVar_row w g t 47 _ _ _ hg Tryd.underlying47 rfl (by rw [info_ptr]; simp [hl.size]), Result.andThen]

theorem hash_part {ops : Array Oper} {rest : List Oper} {o : Oper} {a : Act} {w : World} {Q : Exit → Act → World → Prop} (hgd : o.guard = none) (x y : Operand) (ho : o.op = .store 45 x y)
    {b : Nat} (hx : a.eval x = .pointer (some ⟨b, 2, none⟩)) {h : List UInt8} (hy : a.eval y = .agg (h.map Bv).toArray) {old : Array Value} {t : TypeId} (hb : w.heap[b]? = some (.cells old t (0, 0))) (hl : h.length = 32) {p : Pt} (hs : p.sum = h)
    (ho2 : ∃ c0 c1 l, old = (c0 :: c1 :: l).toArray ∧ l.length = 32 ∧ c0 = .int .u32 (p.addr : Int) ∧ c1 = .int .u64 (p.birth : Int))
    (hK : ∀ w', w'.heap[b]? = some (.cells p.arr t (0, 0)) → Fr (fun k => k = b) w w' → w'.heap.size = w.heap.size → wpList Tryd.prog ops Q rest (a.put o.dst undef) w') : wpList Tryd.prog ops Q (o :: rest) a w := by
  obtain ⟨c0, c1, l, rfl, hll, rfl, rfl⟩ := ho2
  refine wpList_store_part hgd _ x y ho b 2 hx (h.map Bv) hy _ t hb (by simp; omega) (Bv_oneCell _) (by rw [info_hash']; simp [hl]) (fun w' h1 h2 h3 => hK w' ?_ h2 h3)
  rw [h1]
  congr 2
  apply Array.toList_inj.1
  subst hs
  rw [List.length_map, hl]
  simp [Pt.arr, Pt.cells]
  omega

theorem zero_cells (c : Array Value) (h : c = Pt.zero.arr) (a b : Value) : ∃ l, (c.setIfInBounds 0 a).setIfInBounds 1 b = (a :: b :: l).toArray ∧ l.length = 32 := by
  subst h
  exact ⟨(List.replicate 32 0).map Bv, by simp [Pt.arr, Pt.cells, Pt.zero], by simp⟩

theorem getB4_lt (xs : List UInt8) : getB (xs.take 4) < 4294967296 := by
  have h1 := getB_lt (xs.take 4)
  have h2 : (xs.take 4).length ≤ 4 := by rw [List.length_take]; omega
  exact Nat.lt_of_lt_of_le h1 (by have := Nat.pow_le_pow_right (show 0 < 256 by decide) h2; simpa using this)

set_option maxRecDepth 100000 in
set_option maxHeartbeats 4000000 in
theorem ptrGet_any (b : Nat) (ob : Option Nat) (xs : List UInt8) (w : World) (h : RdO w b ob xs) (hob : ∀ k, ob = some k → k < w.heap.size) (hr : xs.length ≤ 140737488351232) :
    Calls Tryd.prog 37 #[.pointer (some ⟨b, 0, none⟩)] w fun e w' => e = .returned (.tuple #[.agg (ptrOf xs).1.arr, .int .i64 (ptrOf xs).2.1]) ∧ RdO w' b ob (ptrOf xs).2.2 ∧ Fr (fun k => k = b) w w' := by
  have hlt := h.rd.lt
  have HH := Lib.hid (h.below ((Below.refl _ w).alloc (Nat.le_refl _) (.cells Pt.zero.arr 47)))
  have HOB := Lib.hid hob
  have hg0 : ∀ w1, w.alloc (.cells Pt.zero.arr 47) = w1 → w1.heap[w.heap.size]? = some (.cells Pt.zero.arr 47 (0, 0)) := fun w1 e => by rw [← e]; exact heap_alloc_new _ _
  have HG0 := Lib.hid hg0
  clear h hg0 hob
  by_cases hs : xs.length < 44
  · have HQ := Lib.hid (show ptrOf xs = (Pt.zero, 3, xs) by unfold ptrOf; rw [if_pos hs])
    have m1 : (xs.length : Int) < 44 := by omega
    clear hs
    go_enter Tryd.func37, Tryd.ntmps37
    go_wp2_with fail
    refine (rLeft_any b xs _ HH.out.rd).mono ?_
    rintro e w1 ⟨rfl, hw1⟩
    have HG1 := Lib.hid (HG0.out w1 hw1)
    have HA1 := Lib.hid (show At w1 w.heap.size 0 Pt.zero.cells from At.of_row HG1.out)
    have HR1 := Lib.hid (show RdO w1 b ob xs by rw [← hw1]; exact HH.out)
    have HF1 := Lib.hid (show Fr (fun k => k = b) w w1 by rw [← hw1]; exact (Fr.refl _ w).alloc _)
    clear hw1
    go_wp2_with (first | (refine load_ptr rfl (.tmp 2) rfl rfl HA1.out Pt.zero_wf ?_) | (refine store_ptr rfl (.tmp 2) (.tmp 14) rfl rfl rfl HG1.out Pt.zero_wf.size Pt.zero_wf ?_))
    intro w2 hg2 hf2 hs2
    have HG2 := Lib.hid hg2
    have HR2 := Lib.hid (HR1.out.fr hf2 (by omega) (fun k hk e => by have := HOB.out k hk; omega))
    have HF2 := Lib.hid (HF1.out.step hf2 (fun k hk => Or.inr (by omega)))
    clear hg2 hf2 hs2
    go_wp2
    refine bodyPost_ret (ret_ptr rfl rfl HG2.out Pt.zero_wf) rfl ?_
    rw [HQ.out]
    exact ⟨rfl, HR2.out, HF2.out⟩
  · have hq : ptrOf xs = (⟨getB (xs.take 4), getB ((xs.drop 4).take 8), (xs.drop 12).take 32⟩, 0, xs.drop 44) := by unfold ptrOf; rw [if_neg hs]
    have hwf := ptrOf_wf xs
    rw [hq] at hwf
    have m1 : ¬ (xs.length : Int) < 44 := by omega
    have HN4 := Lib.hid (show numOf 4 xs = (getB (xs.take 4), 0, xs.drop 4) by unfold numOf; rw [if_neg (by omega), if_neg (by omega)]; rfl)
    have HN8 := Lib.hid (show numOf 8 (xs.drop 4) = (getB ((xs.drop 4).take 8), 0, xs.drop 12) by unfold numOf; rw [if_neg (by omega), if_neg (by rw [List.length_drop]; omega), List.drop_drop]; rfl)
    have HHs := Lib.hid (show hashOf (xs.drop 12) = ((xs.drop 12).take 32, 0, xs.drop 44) by unfold hashOf; rw [if_neg (by rw [List.length_drop]; omega), List.drop_drop])
    have hl32 : ((xs.drop 12).take 32).length = 32 := by simp; omega
    have HL32 := Lib.hid hl32
    obtain ⟨p, hp⟩ : ∃ p : Pt, p = ⟨getB (xs.take 4), getB ((xs.drop 4).take 8), (xs.drop 12).take 32⟩ := ⟨_, rfl⟩
    rw [← hp] at hq hwf
    have HQ := Lib.hid hq
    have HW := Lib.hid hwf
    have hp0 : getB (xs.take 4) = p.addr := by rw [hp]
    have hp1 : getB ((xs.drop 4).take 8) = p.birth := by rw [hp]
    have hp2 : (xs.drop 12).take 32 = p.sum := by rw [hp]
    rw [hp0] at HN4
    rw [hp1] at HN8
    rw [hp2] at HHs HL32
    have ha := hwf.addr
    clear hs hq hwf hl32 hp hp0 hp1 hp2
    go_enter Tryd.func37, Tryd.ntmps37
    go_wp2_with fail
    refine (rLeft_any b xs _ HH.out.rd).mono ?_
    rintro e w1 ⟨rfl, hw1⟩
    have HG1 := Lib.hid (HG0.out w1 hw1)
    have HR1 := Lib.hid (show RdO w1 b ob xs by rw [← hw1]; exact HH.out)
    have HF1 := Lib.hid (show Fr (fun k => k = b) w w1 by rw [← hw1]; exact (Fr.refl _ w).alloc _)
    clear hw1
    go_wp2_with fail
    refine (rNumO_any b ob 4 xs _ HR1.out hr).mono ?_
    rw [HN4.out]
    rintro e w2 ⟨rfl, hr2, hf2⟩
    have hg2 := (hf2.block w.heap.size (lt_of_block HG1.out) (by omega)).trans HG1.out
    have HG2 := Lib.hid hg2
    have HR2 := Lib.hid hr2
    have HF2 := Lib.hid (HF1.out.trans hf2)
    have c0 : w2.cell? ⟨w.heap.size, 0, none⟩ = some (.int .u32 0) := cell_of_row _ _ 0 _ _ _ hg2
    have f0 : w2.frozen? ⟨w.heap.size, 0, none⟩ = false := by simp [World.frozen?, hg2]
    clear hr2 hf2 hg2
    go_wp2_with fail
    obtain ⟨w3, hw3⟩ : ∃ w3, w3 = w2.setCell ⟨w.heap.size, 0, none⟩ (.int .u32 (p.addr : Int)) := ⟨_, rfl⟩
    have hg3 : w3.heap[w.heap.size]? = some (.cells (Pt.zero.arr.setIfInBounds 0 (.int .u32 (p.addr : Int))) 47 (0, 0)) := by rw [hw3]; exact heap_setCell_same _ _ _ _ _ _ HG2.out
    have hr3 : RdO w3 b ob (xs.drop 4) := by
      rw [hw3]
      exact HR2.out.fr ((Fr.refl (fun k => k = w.heap.size) _).set _ 0 rfl _) (by omega) (fun k hk e => by have := HOB.out k hk; omega)
    have hF3 : Fr (fun k => k = b) w w3 := by rw [hw3]; exact HF2.out.setCell (Or.inr (Nat.le_refl _)) _
    rw [← hw3]
    have HF3 := Lib.hid hF3
    clear hw3 hF3 c0 f0
    refine (rNumO_any b ob 8 (xs.drop 4) _ hr3 (by rw [List.length_drop]; omega)).mono ?_
    rw [HN8.out]
    rintro e w4 ⟨rfl, hr4, hf4⟩
    have hg4 := (hf4.block w.heap.size (lt_of_block hg3) (by omega)).trans hg3
    have HG4 := Lib.hid hg4
    have HR4 := Lib.hid hr4
    have HF4 := Lib.hid (HF3.out.trans hf4)
    have c1 : w4.cell? ⟨w.heap.size, 1, none⟩ = some (.int .u64 0) := (cell_of_row _ _ 1 _ _ _ hg4).trans rfl
    have f1 : w4.frozen? ⟨w.heap.size, 1, none⟩ = false := by simp [World.frozen?, hg4]
    clear hr4 hf4 hg4 hg3 hr3
    go_wp2_with fail
    obtain ⟨w5, hw5⟩ : ∃ w5, w5 = w4.setCell ⟨w.heap.size, 1, none⟩ (.int .u64 (p.birth : Int)) := ⟨_, rfl⟩
    have hg5 : w5.heap[w.heap.size]? = some (.cells ((Pt.zero.arr.setIfInBounds 0 (.int .u32 (p.addr : Int))).setIfInBounds 1 (.int .u64 (p.birth : Int))) 47 (0, 0)) := by rw [hw5]; exact heap_setCell_same _ _ _ _ _ _ HG4.out
    have hr5 : RdO w5 b ob (xs.drop 12) := by
      rw [hw5]
      exact HR4.out.fr ((Fr.refl (fun k => k = w.heap.size) _).set _ 1 rfl _) (by omega) (fun k hk e => by have := HOB.out k hk; omega)
    have hF5 : Fr (fun k => k = b) w w5 := by rw [hw5]; exact HF4.out.setCell (Or.inr (Nat.le_refl _)) _
    rw [← hw5]
    have HF5 := Lib.hid hF5
    clear hw5 hF5 c1 f1
    refine (rHashO_any b ob (xs.drop 12) _ hr5 (by rw [List.length_drop]; omega)).mono ?_
    rw [HHs.out]
    rintro e w6 ⟨rfl, hr6, hf6⟩
    have hg6 := (hf6.block w.heap.size (lt_of_block hg5) (by omega)).trans hg5
    obtain ⟨l6, hl6, hl6'⟩ := zero_cells Pt.zero.arr rfl (.int .u32 (p.addr : Int)) (.int .u64 (p.birth : Int))
    rw [hl6] at hg6
    have HG6 := Lib.hid hg6
    have HO6 := Lib.hid (show ∃ c0 c1 l, (Value.int IntKind.u32 (p.addr : Int) :: Value.int IntKind.u64 (p.birth : Int) :: l6).toArray = (c0 :: c1 :: l).toArray ∧ l.length = 32 ∧ c0 = .int .u32 (p.addr : Int) ∧ c1 = .int .u64 (p.birth : Int) from ⟨_, _, l6, rfl, hl6', rfl, rfl⟩)
    have HR6 := Lib.hid hr6
    have HF6 := Lib.hid (HF5.out.trans hf6)
    clear hr6 hf6 hg6 hg5 hr5 hl6 hl6'
    go_wp2_with (refine hash_part (p := p) rfl (.tmp 34) (.tmp 32) rfl rfl rfl HG6.out HL32.out rfl HO6.out ?_)
    intro w7 hg7 hf7 hs7
    have HG7 := Lib.hid hg7
    have HA7 := Lib.hid (show At w7 w.heap.size 0 p.cells from At.of_row hg7)
    have HR7 := Lib.hid (HR6.out.fr hf7 (by omega) (fun k hk e => by have := HOB.out k hk; omega))
    have HF7 := Lib.hid (HF6.out.step hf7 (fun k hk => Or.inr (by omega)))
    clear hg7 hf7 hs7
    go_wp2_with (first | (refine load_ptr rfl (.tmp 2) rfl rfl HA7.out HW.out ?_) | (refine store_ptr rfl (.tmp 2) (.tmp 35) rfl rfl rfl HG7.out HW.out.size HW.out ?_))
    intro w8 hg8 hf8 hs8
    have HG8 := Lib.hid hg8
    have HR8 := Lib.hid (HR7.out.fr hf8 (by omega) (fun k hk e => by have := HOB.out k hk; omega))
    have HF8 := Lib.hid (HF7.out.step hf8 (fun k hk => Or.inr (by omega)))
    clear hg8 hf8 hs8
    go_wp2
    refine bodyPost_ret (ret_ptr rfl rfl HG8.out HW.out) rfl ?_
    rw [HQ.out]
    exact ⟨rfl, HR8.out, HF8.out⟩

end Go.Proofs.YtdmgmpagnmmehaaDoor

namespace Go.Proofs.YtdmgmpagnmmehaaDoor
open Go.RowKit

theorem free_row {w : World} {b i : Nat} {cs : Array Value} {t : TypeId} (hg : w.heap[b]? = some (.cells cs t (0, 0))) : w.frozen? ⟨b, i, none⟩ = false := by
  obtain ⟨g, hgg⟩ : ∃ g, g = b := ⟨_, rfl⟩
  subst hgg
  simp [World.frozen?, hg]

end Go.Proofs.YtdmgmpagnmmehaaDoor
