/- Walks: ptr.Get, the reference's Get of a pointer. What an api.Uber is, as data; its cells loaded, stored, compared; the walks of uber's Check and Slot, and of banyanlaw10.of. Walks: node's form, Size, Check. Walks: node's Size, Check. Walks: codec.Writer's Hash, Raw, Pad; the reference's Str and Put. What an act is, and what laying one gives; the walk of laying one into a Writer. Walk: banyanlaw07's alive. -/
import Derived.Test.YtdmjnopjnaoepaaGreatDoorB0
import Derived.Test.YtdmjnopjnaoepaaGreatDoorB4
import Derived.Test.YtdmjnopjnaoepaaGreatDoorB6
import Derived.Laws.BitsAllLaws
namespace Go.Proofs.YtdmjnopjnaoepaaGreatDoor
open Go.RowKit

section
variable {P : Program}
/-- A part of a row, stored. -/
theorem wpList_store_part {ops : Array Oper} {rest : List Oper} {o : Oper} {a : Act} {w : World} {Q : Exit → Act → World → Prop} (hgd : o.guard = none) (ty : TypeId) (x y : Operand) (ho : o.op = .store ty x y)
    (b off : Nat) (hx : a.eval x = .pointer (some ⟨b, off, none⟩)) (cs : List Value) (hy : a.eval y = .agg cs.toArray) (old : Array Value) (t : TypeId) (hb : w.heap[b]? = some (.cells old t (0, 0))) (hl : off + cs.length ≤ old.size)
    (h1 : ∀ u ∈ cs, u.oneCell' = true) (hi : (P.info? ty).map (·.size) = some cs.length)
    (h : ∀ w', w'.heap[b]? = some (.cells (old.toList.take off ++ cs ++ old.toList.drop (off + cs.length)).toArray t (0, 0)) → Fr (fun k => k = b) w w' → w'.heap.size = w.heap.size → wpList P ops Q rest (a.put o.dst undef) w') : wpList P ops Q (o :: rest) a w := by
  refine wpList_plain hgd fun K hK => ?_
  have hst := run_storeCells_at P b off t cs 0 old w hb (by omega) h1
  cases hq : P.info? ty with
  | none => simp [hq] at hi
  | some i =>
    have hs : i.size = cs.length := by simpa [hq] using hi
    rw [Nat.add_zero] at hst
    have hr : (Instr.storeAt ty (.pointer (some ⟨b, off, none⟩)) (.agg cs.toArray)).run P w = .ok () (w.setRow b (old.toList.take off ++ cs ++ old.toList.drop (off + cs.length)).toArray) := by
      simp [Instr.storeAt, Instr.sureAddr, storeVar, sizeOf, typeInfo, hq, hs, Value.cells, Sem.run_bind, hst]
    unfold Oper.wp execOp
    simp only [ho, hx, hy, Sem.run_bind, Sem.run_pure, Result.andThen_ok, hr]
    exact hK _ _ (h _ (setRow_heap w b old _ t _ hb) ⟨rfl, rfl, rfl, by simp, fun k _ hk => setRow_other w b k _ hk⟩ (by simp))
end

/-- What is read for a pointer. -/
def ptrOf (xs : List UInt8) : Pt × Int × List UInt8 :=
  if xs.length < 44 then (Pt.zero, 3, xs) else (⟨getB (xs.take 4), getB ((xs.drop 4).take 8), (xs.drop 12).take 32⟩, 0, xs.drop 44)
theorem ptrOf_wf (xs : List UInt8) : (ptrOf xs).1.Wf := by
  unfold ptrOf
  split
  · exact Pt.zero_wf
  · refine ⟨?_, ?_, ?_⟩
    · have := getB_lt (xs.take 4)
      rw [List.length_take, Nat.min_eq_left (by omega)] at this
      simpa using this
    · have := getB_lt ((xs.drop 4).take 8)
      rw [List.length_take, List.length_drop, Nat.min_eq_left (by omega)] at this
      simpa using this
    · simp; omega

theorem ret_ptr {fn : Func} {p u : Tmp} (h : fn.results = #[.cell p 30, .tmp u]) {tmps : Array Value} {w : World} {g : Nat} {q : Pt} {t : TypeId} (hp : tmps.getD p undef = .pointer (some ⟨g, 0, none⟩))
    (hg : w.heap[g]? = some (.cells q.arr t (0, 0))) (hl : q.Wf) :
    (results fn tmps).run Tryz.prog w = .ok (.tuple #[.agg q.arr, tmps.getD u undef]) w := by
  rw [results_cell_tmp h, hp]
  simp [asAddr, run_loadVar_row w g t 30 _ _ _ hg Tryz.underlying30 rfl (by rw [info_ptr]; simp [hl.size]), Result.andThen]

theorem hash_part {ops : Array Oper} {rest : List Oper} {o : Oper} {a : Act} {w : World} {Q : Exit → Act → World → Prop} (hgd : o.guard = none) (x y : Operand) (ho : o.op = .store 28 x y)
    {b : Nat} (hx : a.eval x = .pointer (some ⟨b, 2, none⟩)) {h : List UInt8} (hy : a.eval y = .agg (h.map Bv).toArray) {old : Array Value} {t : TypeId} (hb : w.heap[b]? = some (.cells old t (0, 0))) (hl : h.length = 32) {p : Pt} (hs : p.sum = h)
    (ho2 : ∃ c0 c1 l, old = (c0 :: c1 :: l).toArray ∧ l.length = 32 ∧ c0 = .int .u32 (p.addr : Int) ∧ c1 = .int .u64 (p.birth : Int))
    (hK : ∀ w', w'.heap[b]? = some (.cells p.arr t (0, 0)) → Fr (fun k => k = b) w w' → w'.heap.size = w.heap.size → wpList Tryz.prog ops Q rest (a.put o.dst undef) w') : wpList Tryz.prog ops Q (o :: rest) a w := by
  obtain ⟨c0, c1, l, rfl, hll, rfl, rfl⟩ := ho2
  refine wpList_store_part hgd _ x y ho b 2 hx (h.map Bv) hy _ t hb (by simp; omega) (Bv_oneCell _) (by rw [info_hash']; simp [hl]) (fun w' h1 h2 h3 => hK w' ?_ h2 h3)
  rw [h1]
  congr 2
  apply Array.toList_inj.1
  subst hs
  rw [List.length_map, hl]
  simp [Pt.arr, Pt.cells]
  omega

theorem zero_cells (c : Array Value) (h : c = Pt.zero.arr) (a b : Value) : ∃ l, (c.setIfInBounds 0 a).setIfInBounds 1 b = (a :: b :: l).toArray ∧ l.length = 32 := by
  subst h
  exact ⟨(List.replicate 32 0).map Bv, by simp [Pt.arr, Pt.cells, Pt.zero], by simp⟩

theorem getB4_lt (xs : List UInt8) : getB (xs.take 4) < 4294967296 := by
  have h1 := getB_lt (xs.take 4)
  have h2 : (xs.take 4).length ≤ 4 := by rw [List.length_take]; omega
  exact Nat.lt_of_lt_of_le h1 (by have := Nat.pow_le_pow_right (show 0 < 256 by decide) h2; simpa using this)

set_option maxRecDepth 100000 in
set_option maxHeartbeats 4000000 in
theorem ptrGet_any (b : Nat) (ob : Option Nat) (xs : List UInt8) (w : World) (h : RdO w b ob xs) (hob : ∀ k, ob = some k → k < w.heap.size) (hr : xs.length ≤ 140737488351232) :
    Calls Tryz.prog 38 #[.pointer (some ⟨b, 0, none⟩)] w fun e w' => e = .returned (.tuple #[.agg (ptrOf xs).1.arr, .int .i64 (ptrOf xs).2.1]) ∧ RdO w' b ob (ptrOf xs).2.2 ∧ Fr (fun k => k = b) w w' := by
  have hlt := h.rd.lt
  have HH := Lib.hid (h.below ((Below.refl _ w).alloc (Nat.le_refl _) (.cells Pt.zero.arr 30)))
  have HOB := Lib.hid hob
  have hg0 : ∀ w1, w.alloc (.cells Pt.zero.arr 30) = w1 → w1.heap[w.heap.size]? = some (.cells Pt.zero.arr 30 (0, 0)) := fun w1 e => by rw [← e]; exact heap_alloc_new _ _
  have HG0 := Lib.hid hg0
  clear h hg0 hob
  by_cases hs : xs.length < 44
  · have HQ := Lib.hid (show ptrOf xs = (Pt.zero, 3, xs) by unfold ptrOf; rw [if_pos hs])
    have m1 : (xs.length : Int) < 44 := by omega
    clear hs
    go_enter Tryz.func38, Tryz.ntmps38
    go_wp2_with fail
    refine (rLeft_any b xs _ HH.out.rd).mono ?_
    rintro e w1 ⟨rfl, hw1⟩
    have HG1 := Lib.hid (HG0.out w1 hw1)
    have HA1 := Lib.hid (show At w1 w.heap.size 0 Pt.zero.cells from At.of_row HG1.out)
    have HR1 := Lib.hid (show RdO w1 b ob xs by rw [← hw1]; exact HH.out)
    have HF1 := Lib.hid (show Fr (fun k => k = b) w w1 by rw [← hw1]; exact (Fr.refl _ w).alloc _)
    clear hw1
    go_wp2_with (first | (refine load_ptr rfl (.tmp 2) rfl rfl HA1.out Pt.zero_wf ?_) | (refine store_ptr rfl (.tmp 2) (.tmp 14) rfl rfl rfl HG1.out Pt.zero_wf.size Pt.zero_wf ?_))
    intro w2 hg2 hf2 hs2
    have HG2 := Lib.hid hg2
    have HR2 := Lib.hid (HR1.out.fr hf2 (by omega) (fun k hk e => by have := HOB.out k hk; omega))
    have HF2 := Lib.hid (HF1.out.step hf2 (fun k hk => Or.inr (by omega)))
    clear hg2 hf2 hs2
    go_wp2
    refine bodyPost_ret (ret_ptr rfl rfl HG2.out Pt.zero_wf) rfl ?_
    rw [HQ.out]
    exact ⟨rfl, HR2.out, HF2.out⟩
  · have hq : ptrOf xs = (⟨getB (xs.take 4), getB ((xs.drop 4).take 8), (xs.drop 12).take 32⟩, 0, xs.drop 44) := by unfold ptrOf; rw [if_neg hs]
    have hwf := ptrOf_wf xs
    rw [hq] at hwf
    have m1 : ¬ (xs.length : Int) < 44 := by omega
    have HN4 := Lib.hid (show numOf 4 xs = (getB (xs.take 4), 0, xs.drop 4) by unfold numOf; rw [if_neg (by omega), if_neg (by omega)]; rfl)
    have HN8 := Lib.hid (show numOf 8 (xs.drop 4) = (getB ((xs.drop 4).take 8), 0, xs.drop 12) by unfold numOf; rw [if_neg (by omega), if_neg (by rw [List.length_drop]; omega), List.drop_drop]; rfl)
    have HHs := Lib.hid (show hashOf (xs.drop 12) = ((xs.drop 12).take 32, 0, xs.drop 44) by unfold hashOf; rw [if_neg (by rw [List.length_drop]; omega), List.drop_drop])
    have hl32 : ((xs.drop 12).take 32).length = 32 := by simp; omega
    have HL32 := Lib.hid hl32
    obtain ⟨p, hp⟩ : ∃ p : Pt, p = ⟨getB (xs.take 4), getB ((xs.drop 4).take 8), (xs.drop 12).take 32⟩ := ⟨_, rfl⟩
    rw [← hp] at hq hwf
    have HQ := Lib.hid hq
    have HW := Lib.hid hwf
    have hp0 : getB (xs.take 4) = p.addr := by rw [hp]
    have hp1 : getB ((xs.drop 4).take 8) = p.birth := by rw [hp]
    have hp2 : (xs.drop 12).take 32 = p.sum := by rw [hp]
    rw [hp0] at HN4
    rw [hp1] at HN8
    rw [hp2] at HHs HL32
    have ha := hwf.addr
    clear hs hq hwf hl32 hp hp0 hp1 hp2
    go_enter Tryz.func38, Tryz.ntmps38
    go_wp2_with fail
    refine (rLeft_any b xs _ HH.out.rd).mono ?_
    rintro e w1 ⟨rfl, hw1⟩
    have HG1 := Lib.hid (HG0.out w1 hw1)
    have HR1 := Lib.hid (show RdO w1 b ob xs by rw [← hw1]; exact HH.out)
    have HF1 := Lib.hid (show Fr (fun k => k = b) w w1 by rw [← hw1]; exact (Fr.refl _ w).alloc _)
    clear hw1
    go_wp2_with fail
    refine (rNumO_any b ob 4 xs _ HR1.out hr).mono ?_
    rw [HN4.out]
    rintro e w2 ⟨rfl, hr2, hf2⟩
    have hg2 := (hf2.block w.heap.size (lt_of_block HG1.out) (by omega)).trans HG1.out
    have HG2 := Lib.hid hg2
    have HR2 := Lib.hid hr2
    have HF2 := Lib.hid (HF1.out.trans hf2)
    have c0 : w2.cell? ⟨w.heap.size, 0, none⟩ = some (.int .u32 0) := cell_of_row _ _ 0 _ _ _ hg2
    have f0 : w2.frozen? ⟨w.heap.size, 0, none⟩ = false := by simp [World.frozen?, hg2]
    clear hr2 hf2 hg2
    go_wp2_with fail
    obtain ⟨w3, hw3⟩ : ∃ w3, w3 = w2.setCell ⟨w.heap.size, 0, none⟩ (.int .u32 (p.addr : Int)) := ⟨_, rfl⟩
    have hg3 : w3.heap[w.heap.size]? = some (.cells (Pt.zero.arr.setIfInBounds 0 (.int .u32 (p.addr : Int))) 30 (0, 0)) := by rw [hw3]; exact heap_setCell_same _ _ _ _ _ _ HG2.out
    have hr3 : RdO w3 b ob (xs.drop 4) := by
      rw [hw3]
      exact HR2.out.fr ((Fr.refl (fun k => k = w.heap.size) _).set _ 0 rfl _) (by omega) (fun k hk e => by have := HOB.out k hk; omega)
    have hF3 : Fr (fun k => k = b) w w3 := by rw [hw3]; exact HF2.out.setCell (Or.inr (Nat.le_refl _)) _
    rw [← hw3]
    have HF3 := Lib.hid hF3
    clear hw3 hF3 c0 f0
    refine (rNumO_any b ob 8 (xs.drop 4) _ hr3 (by rw [List.length_drop]; omega)).mono ?_
    rw [HN8.out]
    rintro e w4 ⟨rfl, hr4, hf4⟩
    have hg4 := (hf4.block w.heap.size (lt_of_block hg3) (by omega)).trans hg3
    have HG4 := Lib.hid hg4
    have HR4 := Lib.hid hr4
    have HF4 := Lib.hid (HF3.out.trans hf4)
    have c1 : w4.cell? ⟨w.heap.size, 1, none⟩ = some (.int .u64 0) := (cell_of_row _ _ 1 _ _ _ hg4).trans rfl
    have f1 : w4.frozen? ⟨w.heap.size, 1, none⟩ = false := by simp [World.frozen?, hg4]
    clear hr4 hf4 hg4 hg3 hr3
    go_wp2_with fail
    obtain ⟨w5, hw5⟩ : ∃ w5, w5 = w4.setCell ⟨w.heap.size, 1, none⟩ (.int .u64 (p.birth : Int)) := ⟨_, rfl⟩
    have hg5 : w5.heap[w.heap.size]? = some (.cells ((Pt.zero.arr.setIfInBounds 0 (.int .u32 (p.addr : Int))).setIfInBounds 1 (.int .u64 (p.birth : Int))) 30 (0, 0)) := by rw [hw5]; exact heap_setCell_same _ _ _ _ _ _ HG4.out
    have hr5 : RdO w5 b ob (xs.drop 12) := by
      rw [hw5]
      exact HR4.out.fr ((Fr.refl (fun k => k = w.heap.size) _).set _ 1 rfl _) (by omega) (fun k hk e => by have := HOB.out k hk; omega)
    have hF5 : Fr (fun k => k = b) w w5 := by rw [hw5]; exact HF4.out.setCell (Or.inr (Nat.le_refl _)) _
    rw [← hw5]
    have HF5 := Lib.hid hF5
    clear hw5 hF5 c1 f1
    refine (rHashO_any b ob (xs.drop 12) _ hr5 (by rw [List.length_drop]; omega)).mono ?_
    rw [HHs.out]
    rintro e w6 ⟨rfl, hr6, hf6⟩
    have hg6 := (hf6.block w.heap.size (lt_of_block hg5) (by omega)).trans hg5
    obtain ⟨l6, hl6, hl6'⟩ := zero_cells Pt.zero.arr rfl (.int .u32 (p.addr : Int)) (.int .u64 (p.birth : Int))
    rw [hl6] at hg6
    have HG6 := Lib.hid hg6
    have HO6 := Lib.hid (show ∃ c0 c1 l, (Value.int IntKind.u32 (p.addr : Int) :: Value.int IntKind.u64 (p.birth : Int) :: l6).toArray = (c0 :: c1 :: l).toArray ∧ l.length = 32 ∧ c0 = .int .u32 (p.addr : Int) ∧ c1 = .int .u64 (p.birth : Int) from ⟨_, _, l6, rfl, hl6', rfl, rfl⟩)
    have HR6 := Lib.hid hr6
    have HF6 := Lib.hid (HF5.out.trans hf6)
    clear hr6 hf6 hg6 hg5 hr5 hl6 hl6'
    go_wp2_with (refine hash_part (p := p) rfl (.tmp 34) (.tmp 32) rfl rfl rfl HG6.out HL32.out rfl HO6.out ?_)
    intro w7 hg7 hf7 hs7
    have HG7 := Lib.hid hg7
    have HA7 := Lib.hid (show At w7 w.heap.size 0 p.cells from At.of_row hg7)
    have HR7 := Lib.hid (HR6.out.fr hf7 (by omega) (fun k hk e => by have := HOB.out k hk; omega))
    have HF7 := Lib.hid (HF6.out.step hf7 (fun k hk => Or.inr (by omega)))
    clear hg7 hf7 hs7
    go_wp2_with (first | (refine load_ptr rfl (.tmp 2) rfl rfl HA7.out HW.out ?_) | (refine store_ptr rfl (.tmp 2) (.tmp 35) rfl rfl rfl HG7.out HW.out.size HW.out ?_))
    intro w8 hg8 hf8 hs8
    have HG8 := Lib.hid hg8
    have HR8 := Lib.hid (HR7.out.fr hf8 (by omega) (fun k hk e => by have := HOB.out k hk; omega))
    have HF8 := Lib.hid (HF7.out.step hf8 (fun k hk => Or.inr (by omega)))
    clear hg8 hf8 hs8
    go_wp2
    refine bodyPost_ret (ret_ptr rfl rfl HG8.out HW.out) rfl ?_
    rw [HQ.out]
    exact ⟨rfl, HR8.out, HF8.out⟩

end Go.Proofs.YtdmjnopjnaoepaaGreatDoor

namespace Go.Proofs.YtdmjnopjnaoepaaGreatDoor
open Go.RowKit

theorem free_row {w : World} {b i : Nat} {cs : Array Value} {t : TypeId} (hg : w.heap[b]? = some (.cells cs t (0, 0))) : w.frozen? ⟨b, i, none⟩ = false := by
  obtain ⟨g, hgg⟩ : ∃ g, g = b := ⟨_, rfl⟩
  subst hgg
  simp [World.frozen?, hg]

set_option maxRecDepth 100000 in
set_option maxHeartbeats 4000000 in
theorem refPtrGet_any (b : Nat) (ob : Option Nat) (xs : List UInt8) (w : World) (h : RfO w b ob xs) (hob : ∀ k, ob = some k → k < w.heap.size) (hr : xs.length ≤ 140737488351232) :
    Calls Tryz.prog 19 #[.pointer (some ⟨b, 0, none⟩)] w fun e w' => e = .returned (.tuple #[.agg (ptrOf xs).1.arr, .int .i64 (ptrOf xs).2.1]) ∧ RfO w' b ob (ptrOf xs).2.2 ∧ Fr (fun k => k = b) w w' := by
  have hlt := h.rf.lt
  obtain ⟨a, cap, hc⟩ : ∃ a cap, w.cell? ⟨b, 0, none⟩ = some (.slice a xs.length cap) := by
    obtain ⟨v, hb, hs, _⟩ := h
    obtain ⟨a, cap, rfl, _⟩ := hs.len
    exact ⟨a, cap, cell_of_row _ _ 0 _ _ _ hb⟩
  have hb0 : Below w.heap.size w ((w.alloc (.cells Pt.zero.arr 30)).alloc (.cells Pt.zero.arr 30)) := ((Below.refl _ w).alloc (Nat.le_refl _) _).alloc (by simp) _
  have HH := Lib.hid (h.below hb0)
  have HOB := Lib.hid hob
  have HG0 := Lib.hid (heap_alloc2_old w (.cells Pt.zero.arr 30) (.cells Pt.zero.arr 30))
  have HG1 := Lib.hid (heap_alloc2_new w (.cells Pt.zero.arr 30) (.cells Pt.zero.arr 30))
  have HF0 := Lib.hid (Fr.of_below (S := fun k => k = b) hb0)
  clear h hob hb0
  by_cases hs : xs.length < 44
  · have HQ := Lib.hid (show ptrOf xs = (Pt.zero, 3, xs) by unfold ptrOf; rw [if_pos hs])
    have m1 : (xs.length : Int) < 44 := by omega
    have HA1 := Lib.hid (show At ((w.alloc (.cells Pt.zero.arr 30)).alloc (.cells Pt.zero.arr 30)) (w.heap.size + 1) 0 Pt.zero.cells from At.of_row HG1.out)
    clear hs
    go_enter Tryz.func19, Tryz.ntmps19
    go_wp2_with (first | (refine load_ptr rfl (.tmp 4) rfl rfl HA1.out Pt.zero_wf ?_) | (refine store_ptr rfl (.tmp 2) (.tmp 13) rfl rfl rfl HG0.out Pt.zero_wf.size Pt.zero_wf ?_))
    intro w2 hg2 hf2 hs2
    have HG2 := Lib.hid hg2
    have HR2 := Lib.hid (HH.out.fr hf2 (by omega) (fun k hk e => by have := HOB.out k hk; omega))
    have HF2 := Lib.hid (HF0.out.step hf2 (fun k hk => Or.inr (by omega)))
    clear hg2 hf2 hs2 hc
    go_wp2
    refine bodyPost_ret (ret_ptr rfl rfl HG2.out Pt.zero_wf) rfl ?_
    rw [HQ.out]
    exact ⟨rfl, HR2.out, HF2.out⟩
  · have hq : ptrOf xs = (⟨getB (xs.take 4), getB ((xs.drop 4).take 8), (xs.drop 12).take 32⟩, 0, xs.drop 44) := by unfold ptrOf; rw [if_neg hs]
    have hwf := ptrOf_wf xs
    rw [hq] at hwf
    have m1 : ¬ (xs.length : Int) < 44 := by omega
    have HN4 := Lib.hid (show numOf 4 xs = (getB (xs.take 4), 0, xs.drop 4) by unfold numOf; rw [if_neg (by omega), if_neg (by omega)]; rfl)
    have HN8 := Lib.hid (show numOf 8 (xs.drop 4) = (getB ((xs.drop 4).take 8), 0, xs.drop 12) by unfold numOf; rw [if_neg (by omega), if_neg (by rw [List.length_drop]; omega), List.drop_drop]; rfl)
    have HHs := Lib.hid (show hashOf (xs.drop 12) = ((xs.drop 12).take 32, 0, xs.drop 44) by unfold hashOf; rw [if_neg (by rw [List.length_drop]; omega), List.drop_drop])
    have hl32 : ((xs.drop 12).take 32).length = 32 := by simp; omega
    have HL32 := Lib.hid hl32
    obtain ⟨p, hp⟩ : ∃ p : Pt, p = ⟨getB (xs.take 4), getB ((xs.drop 4).take 8), (xs.drop 12).take 32⟩ := ⟨_, rfl⟩
    rw [← hp] at hq hwf
    have HQ := Lib.hid hq
    have HW := Lib.hid hwf
    have hp0 : getB (xs.take 4) = p.addr := by rw [hp]
    have hp1 : getB ((xs.drop 4).take 8) = p.birth := by rw [hp]
    have hp2 : (xs.drop 12).take 32 = p.sum := by rw [hp]
    rw [hp0] at HN4
    rw [hp1] at HN8
    rw [hp2] at HHs HL32
    have ha := hwf.addr
    clear hs hq hwf hl32 hp hp0 hp1 hp2
    go_enter Tryz.func19, Tryz.ntmps19
    go_wp2_with fail
    refine (fNumO_any b ob 4 xs _ HH.out hr).mono ?_
    rw [HN4.out]
    rintro e w2 ⟨rfl, hr2, hf2⟩
    have hg2 := (hf2.block (w.heap.size + 1) (by simp) (by omega)).trans HG1.out
    have hz2 := (hf2.block w.heap.size (by simp; omega) (by omega)).trans HG0.out
    have HG2 := Lib.hid hg2
    have HZ2 := Lib.hid hz2
    have HR2 := Lib.hid hr2
    have HF2 := Lib.hid (HF0.out.trans hf2)
    have c0 : w2.cell? ⟨w.heap.size + 1, 0, none⟩ = some (.int .u32 0) := cell_of_row _ _ 0 _ _ _ hg2
    have f0 : w2.frozen? ⟨w.heap.size + 1, 0, none⟩ = false := free_row hg2
    clear hr2 hf2 hg2 hz2 hc
    go_wp2_with fail
    obtain ⟨w3, hw3⟩ : ∃ w3, w3 = w2.setCell ⟨w.heap.size + 1, 0, none⟩ (.int .u32 (p.addr : Int)) := ⟨_, rfl⟩
    have hg3 : w3.heap[w.heap.size + 1]? = some (.cells (Pt.zero.arr.setIfInBounds 0 (.int .u32 (p.addr : Int))) 30 (0, 0)) := by rw [hw3]; exact heap_setCell_same _ _ _ _ _ _ HG2.out
    have hz3 : w3.heap[w.heap.size]? = some (.cells Pt.zero.arr 30 (0, 0)) := by rw [hw3, heap_setCell_other _ _ _ _ (show w.heap.size ≠ w.heap.size + 1 by omega)]; exact HZ2.out
    have hr3 : RfO w3 b ob (xs.drop 4) := by
      rw [hw3]
      exact HR2.out.fr ((Fr.refl (fun k => k = w.heap.size + 1) _).set _ 0 rfl _) (by omega) (fun k hk e => by have := HOB.out k hk; omega)
    have hF3 : Fr (fun k => k = b) w w3 := by rw [hw3]; exact HF2.out.setCell (Or.inr (Nat.le_succ _)) _
    rw [← hw3]
    have HF3 := Lib.hid hF3
    clear hw3 hF3 c0 f0
    refine (fNumO_any b ob 8 (xs.drop 4) _ hr3 (by rw [List.length_drop]; omega)).mono ?_
    rw [HN8.out]
    rintro e w4 ⟨rfl, hr4, hf4⟩
    have hg4 := (hf4.block (w.heap.size + 1) (lt_of_block hg3) (by omega)).trans hg3
    have hz4 := (hf4.block w.heap.size (lt_of_block hz3) (by omega)).trans hz3
    have HG4 := Lib.hid hg4
    have HZ4 := Lib.hid hz4
    have HR4 := Lib.hid hr4
    have HF4 := Lib.hid (HF3.out.trans hf4)
    have c1 : w4.cell? ⟨w.heap.size + 1, 1, none⟩ = some (.int .u64 0) := (cell_of_row _ _ 1 _ _ _ hg4).trans rfl
    have f1 : w4.frozen? ⟨w.heap.size + 1, 1, none⟩ = false := free_row hg4
    clear hr4 hf4 hg4 hg3 hr3 hz3 hz4
    go_wp2_with fail
    obtain ⟨w5, hw5⟩ : ∃ w5, w5 = w4.setCell ⟨w.heap.size + 1, 1, none⟩ (.int .u64 (p.birth : Int)) := ⟨_, rfl⟩
    have hg5 : w5.heap[w.heap.size + 1]? = some (.cells ((Pt.zero.arr.setIfInBounds 0 (.int .u32 (p.addr : Int))).setIfInBounds 1 (.int .u64 (p.birth : Int))) 30 (0, 0)) := by rw [hw5]; exact heap_setCell_same _ _ _ _ _ _ HG4.out
    have hz5 : w5.heap[w.heap.size]? = some (.cells Pt.zero.arr 30 (0, 0)) := by rw [hw5, heap_setCell_other _ _ _ _ (show w.heap.size ≠ w.heap.size + 1 by omega)]; exact HZ4.out
    have hr5 : RfO w5 b ob (xs.drop 12) := by
      rw [hw5]
      exact HR4.out.fr ((Fr.refl (fun k => k = w.heap.size + 1) _).set _ 1 rfl _) (by omega) (fun k hk e => by have := HOB.out k hk; omega)
    have hF5 : Fr (fun k => k = b) w w5 := by rw [hw5]; exact HF4.out.setCell (Or.inr (Nat.le_succ _)) _
    rw [← hw5]
    have HF5 := Lib.hid hF5
    clear hw5 hF5 c1 f1
    refine (fHashO_any b ob (xs.drop 12) _ hr5 (by rw [List.length_drop]; omega)).mono ?_
    rw [HHs.out]
    rintro e w6 ⟨rfl, hr6, hf6⟩
    have hg6 := (hf6.block (w.heap.size + 1) (lt_of_block hg5) (by omega)).trans hg5
    have hz6 := (hf6.block w.heap.size (lt_of_block hz5) (by omega)).trans hz5
    obtain ⟨l6, hl6, hl6'⟩ := zero_cells Pt.zero.arr rfl (.int .u32 (p.addr : Int)) (.int .u64 (p.birth : Int))
    rw [hl6] at hg6
    have HG6 := Lib.hid hg6
    have HZ6 := Lib.hid hz6
    have HO6 := Lib.hid (show ∃ c0 c1 l, (Value.int IntKind.u32 (p.addr : Int) :: Value.int IntKind.u64 (p.birth : Int) :: l6).toArray = (c0 :: c1 :: l).toArray ∧ l.length = 32 ∧ c0 = .int .u32 (p.addr : Int) ∧ c1 = .int .u64 (p.birth : Int) from ⟨_, _, l6, rfl, hl6', rfl, rfl⟩)
    have HR6 := Lib.hid hr6
    have HF6 := Lib.hid (HF5.out.trans hf6)
    clear hr6 hf6 hg6 hg5 hr5 hl6 hl6' hz6 hz5
    go_wp2_with (refine hash_part (p := p) rfl (.tmp 33) (.tmp 31) rfl rfl rfl HG6.out HL32.out rfl HO6.out ?_)
    intro w7 hg7 hf7 hs7
    have HZ7 := Lib.hid ((hf7.block w.heap.size (lt_of_block HZ6.out) (by omega)).trans HZ6.out)
    have HA7 := Lib.hid (show At w7 (w.heap.size + 1) 0 p.cells from At.of_row hg7)
    have HR7 := Lib.hid (HR6.out.fr hf7 (by omega) (fun k hk e => by have := HOB.out k hk; omega))
    have HF7 := Lib.hid (HF6.out.step hf7 (fun k hk => Or.inr (by omega)))
    clear hg7 hf7 hs7
    go_wp2_with (first | (refine load_ptr rfl (.tmp 4) rfl rfl HA7.out HW.out ?_) | (refine store_ptr rfl (.tmp 2) (.tmp 34) rfl rfl rfl HZ7.out Pt.zero_wf.size HW.out ?_))
    intro w8 hg8 hf8 hs8
    have HG8 := Lib.hid hg8
    have HR8 := Lib.hid (HR7.out.fr hf8 (by omega) (fun k hk e => by have := HOB.out k hk; omega))
    have HF8 := Lib.hid (HF7.out.step hf8 (fun k hk => Or.inr (by omega)))
    clear hg8 hf8 hs8
    go_wp2
    refine bodyPost_ret (ret_ptr rfl rfl HG8.out HW.out) rfl ?_
    rw [HQ.out]
    exact ⟨rfl, HR8.out, HF8.out⟩

end Go.Proofs.YtdmjnopjnaoepaaGreatDoor
namespace Go.Proofs.YtdmjnopjnaoepaaGreatDoor
open Go.RowKit

structure Ub where
  txg : Nat
  size : Nat
  root : Pt
  deriving DecidableEq
def Ub.cells (u : Ub) : List Value := .int .u64 (u.txg : Int) :: .int .u32 (u.size : Int) :: u.root.cells
def Ub.arr (u : Ub) : Array Value := u.cells.toArray
def Ub.zero : Ub := ⟨0, 0, Pt.zero⟩
structure Ub.Wf (u : Ub) : Prop where
  txg : u.txg < 18446744073709551616
  size : u.size < 4294967296
  root : u.root.Wf
theorem Ub.zero_wf : Ub.zero.Wf := ⟨by decide, by decide, Pt.zero_wf⟩
theorem Ub.Wf.len {u : Ub} (h : u.Wf) : u.cells.length = 36 := by simp [Ub.cells, h.root.len]
theorem Ub.Wf.asize {u : Ub} (h : u.Wf) : u.arr.size = 36 := by simp [Ub.arr, h.len]
theorem Ub.arr_toList (u : Ub) : u.arr.toList = u.cells := by simp [Ub.arr]
theorem Ub.get0 (u : Ub) : u.arr[0]? = some (.int .u64 (u.txg : Int)) := by simp [Ub.arr, Ub.cells]
theorem Ub.get1 (u : Ub) : u.arr[1]? = some (.int .u32 (u.size : Int)) := by simp [Ub.arr, Ub.cells]
theorem Ub.one (u : Ub) : ∀ x ∈ u.arr.toList, x.oneCell' = true := by
  rw [Ub.arr_toList]
  intro x hx
  simp only [Ub.cells, List.mem_cons] at hx
  rcases hx with rfl | rfl | hx
  · rfl
  · rfl
  · exact u.root.one x (by rw [Pt.arr_toList]; exact hx)
theorem Ub.rootAt {w : World} {b o : Nat} {u : Ub} (h : At w b o u.cells) : At w b (o + 2) u.root.cells := by
  have : At w b o ([.int .u64 (u.txg : Int), .int .u32 (u.size : Int)] ++ u.root.cells ++ []) := by simpa [Ub.cells] using h
  exact this.part
theorem Ub.box (w : World) (u : Ub) (t : TypeId) : At (w.alloc (.cells u.arr t)) w.heap.size 0 u.cells := At.of_row (heap_alloc_new _ _)
theorem Ub.box_root (w : World) (u : Ub) (t : TypeId) : At (w.alloc (.cells u.arr t)) w.heap.size 2 u.root.cells := Ub.rootAt (o := 0) (Ub.box w u t)

theorem info_ub : (Tryz.prog.info? 32).map (·.size) = some 36 := by kernel_rfl
theorem guard_ub : Tryz.prog.eqGuardType Tryz.prog.depth 32 = false := by kernel_rfl
theorem stood_ub : Tryz.prog.stoodInHeld 32 = false := by kernel_rfl
theorem fields_ub : ((Tryz.prog.fieldsOf 32).toList.map fun f => (f.name != "_", f.type, f.offset)) = [(true, 25, 0), (true, 26, 1), (true, 30, 2)] := by kernel_rfl
theorem und_ub : Tryz.prog.underlying 32 = some (.struct (Tryz.prog.fieldsOf 32)) := by
  unfold Program.fieldsOf; rw [Tryz.underlying32]

theorem run_part_ptr (u : Ub) (h : u.Wf) (w : World) : (part 30 u.arr 2).run Tryz.prog w = .ok (.agg u.root.arr) w := by
  have hagg : (isAgg 30).run Tryz.prog w = .ok true w := by
    unfold isAgg
    rw [Sem.run_bind, run_underlying Tryz.underlying30 w]
    rfl
  have hsz : (sizeOf 30).run Tryz.prog w = .ok 34 w := by
    have : ∃ i, Tryz.prog.info? 30 = some i ∧ i.size = 34 := by
      cases hq : Tryz.prog.info? 30 with
      | none =>
        have h1 : (Tryz.prog.info? 30).map (·.size) = some 34 := by kernel_rfl
        simp [hq] at h1
      | some i =>
        have h1 : (Tryz.prog.info? 30).map (·.size) = some 34 := by kernel_rfl
        exact ⟨i, rfl, by simpa [hq] using h1⟩
    obtain ⟨i, hi, hs⟩ := this
    simp [sizeOf, typeInfo, hi, hs]
  have hx : u.arr.extract 2 (2 + 34) = u.root.arr := by
    apply Array.toList_inj.1
    simp only [Ub.arr, Ub.cells, List.extract_toArray, List.extract_eq_take_drop, Pt.arr]
    rw [List.drop_succ_cons, List.drop_succ_cons, List.drop_zero, List.take_of_length_le (by rw [h.root.len]; omega)]
  unfold part
  simp only [Sem.run_bind, hagg, Result.andThen_ok, if_true, hsz, Sem.run_pure, hx]

set_option maxRecDepth 100000 in
theorem eqFields_ptr' (d : Nat) (p q : Pt) (hp : p.Wf) (hq : q.Wf) (w : World) (fs : List Field) (hf : (fs.map fun f => (f.name != "_", f.type, f.offset)) = [(true, 26, 0), (true, 25, 1), (true, 28, 2)]) :
    (Op.eqFields (d + 2) p.arr q.arr fs).run Tryz.prog w = .ok (decide (p = q)) w := by
  obtain ⟨f0, fs, rfl, h0, hf⟩ := List.map_eq_cons_iff.1 hf
  obtain ⟨f1, fs, rfl, h1, hf⟩ := List.map_eq_cons_iff.1 hf
  obtain ⟨f2, fs, rfl, h2, hf⟩ := List.map_eq_cons_iff.1 hf
  obtain rfl := List.map_eq_nil_iff.1 hf
  simp only [Prod.mk.injEq] at h0 h1 h2
  obtain ⟨n0, t0, o0⟩ := h0
  obtain ⟨n1, t1, o1⟩ := h1
  obtain ⟨n2, t2, o2⟩ := h2
  have q0 : Tryz.prog.plainKey 26 = true := by kernel_rfl
  have q1 : Tryz.prog.plainKey 25 = true := by kernel_rfl
  have e3 : (Op.eqFields (d + 2) p.arr q.arr []).run Tryz.prog w = .ok true w := by simp [Op.eqFields]
  have e2 := eqFields_step n2 _ _ t2 o2 (run_part_hash p hp w) (run_part_hash q hq w) (run_equalIn_hash d p.sum q.sum hp.sum hq.sum w) e3
  have e1 := eqFields_step n1 _ _ t1 o1 (run_part_plain (P := Tryz.prog) w q1 p.get1) (run_part_plain (P := Tryz.prog) w q1 q.get1) (run_equalIn_int (P := Tryz.prog) w (d + 1) 25 .u64 .u64 (p.birth : Int) (q.birth : Int) Tryz.underlying25) e2
  have e0 := eqFields_step n0 _ _ t0 o0 (run_part_plain (P := Tryz.prog) w q0 p.get0) (run_part_plain (P := Tryz.prog) w q0 q.get0) (run_equalIn_int (P := Tryz.prog) w (d + 1) 26 .u32 .u32 (p.addr : Int) (q.addr : Int) Tryz.underlying26) e1
  rw [e0]
  congr 1
  obtain ⟨pa, pb, ps⟩ := p
  obtain ⟨qa, qb, qs⟩ := q
  rw [Bool.eq_iff_iff]
  simp only [Pt.mk.injEq, Bool.and_eq_true, beq_iff_eq, decide_eq_true_iff, Int.natCast_inj, and_true]

theorem run_equalIn_ptr' (d : Nat) (p q : Pt) (hp : p.Wf) (hq : q.Wf) (w : World) : (Op.equalIn (d + 3) 30 (.agg p.arr) (.agg q.arr)).run Tryz.prog w = .ok (decide (p = q)) w := by
  rw [run_equalIn_struct w (d + 2) 30 p.arr q.arr und_ptr stood_ptr]
  exact eqFields_ptr' d p q hp hq w _ fields_ptr

set_option maxRecDepth 100000 in
theorem eqFields_ub (u v : Ub) (hu : u.Wf) (hv : v.Wf) (w : World) (fs : List Field) (hf : (fs.map fun f => (f.name != "_", f.type, f.offset)) = [(true, 25, 0), (true, 26, 1), (true, 30, 2)]) :
    (Op.eqFields 9999 u.arr v.arr fs).run Tryz.prog w = .ok (decide (u = v)) w := by
  obtain ⟨f0, fs, rfl, h0, hf⟩ := List.map_eq_cons_iff.1 hf
  obtain ⟨f1, fs, rfl, h1, hf⟩ := List.map_eq_cons_iff.1 hf
  obtain ⟨f2, fs, rfl, h2, hf⟩ := List.map_eq_cons_iff.1 hf
  obtain rfl := List.map_eq_nil_iff.1 hf
  simp only [Prod.mk.injEq] at h0 h1 h2
  obtain ⟨n0, t0, o0⟩ := h0
  obtain ⟨n1, t1, o1⟩ := h1
  obtain ⟨n2, t2, o2⟩ := h2
  have q0 : Tryz.prog.plainKey 25 = true := by kernel_rfl
  have q1 : Tryz.prog.plainKey 26 = true := by kernel_rfl
  have e3 : (Op.eqFields 9999 u.arr v.arr []).run Tryz.prog w = .ok true w := by simp [Op.eqFields]
  have e2 := eqFields_step n2 _ _ t2 o2 (run_part_ptr u hu w) (run_part_ptr v hv w) (run_equalIn_ptr' 9996 u.root v.root hu.root hv.root w) e3
  have e1 := eqFields_step n1 _ _ t1 o1 (run_part_plain (P := Tryz.prog) w q1 u.get1) (run_part_plain (P := Tryz.prog) w q1 v.get1) (run_equalIn_int (P := Tryz.prog) w 9998 26 .u32 .u32 (u.size : Int) (v.size : Int) Tryz.underlying26) e2
  have e0 := eqFields_step n0 _ _ t0 o0 (run_part_plain (P := Tryz.prog) w q0 u.get0) (run_part_plain (P := Tryz.prog) w q0 v.get0) (run_equalIn_int (P := Tryz.prog) w 9998 25 .u64 .u64 (u.txg : Int) (v.txg : Int) Tryz.underlying25) e1
  rw [e0]
  congr 1
  obtain ⟨ua, us, ur⟩ := u
  obtain ⟨va, vs, vr⟩ := v
  rw [Bool.eq_iff_iff]
  simp only [Ub.mk.injEq, Bool.and_eq_true, beq_iff_eq, decide_eq_true_iff, Int.natCast_inj, and_true]

theorem run_equalIn_ub (u v : Ub) (hu : u.Wf) (hv : v.Wf) (w : World) : (Op.equalIn 10000 32 (.agg u.arr) (.agg v.arr)).run Tryz.prog w = .ok (decide (u = v)) w := by
  rw [run_equalIn_struct w 9999 32 u.arr v.arr und_ub stood_ub]
  exact eqFields_ub u v hu hv w _ fields_ub

theorem eql_ub {ops : Array Oper} {rest : List Oper} {o : Oper} {a : Act} {w : World} {Q : Exit → Act → World → Prop} (hgd : o.guard = none) (x y : Operand) (yt : TypeId) (ho : o.op = .binOp .eql 32 x y yt)
    {u v : Ub} (hx : a.eval x = .agg u.arr) (hy : a.eval y = .agg v.arr) (h1 : u.Wf) (h2 : v.Wf)
    (hK : wpList Tryz.prog ops Q rest (a.put o.dst (.bool (decide (u = v)))) w) : wpList Tryz.prog ops Q (o :: rest) a w := by
  refine wpList_plain hgd fun K hKK => ?_
  unfold Oper.wp execOp
  simp only [ho, hx, hy, Sem.run_bind, run_eqGuard_agg w _ _ _ _ _ _ guard_ub, Result.andThen_ok, run_eql_struct, run_equalIn_ub u v h1 h2 w]
  exact hKK _ _ hK

theorem load_ub {ops : Array Oper} {rest : List Oper} {o : Oper} {a : Act} {w : World} {Q : Exit → Act → World → Prop} (hgd : o.guard = none) (x : Operand) (ho : o.op = .load 32 x)
    {b off : Nat} (hx : a.eval x = .pointer (some ⟨b, off, none⟩)) {u : Ub} (hc : At w b off u.cells) (hl : u.Wf)
    (hK : wpList Tryz.prog ops Q rest (a.put o.dst (.agg u.arr)) w) : wpList Tryz.prog ops Q (o :: rest) a w :=
  wpList_load_at hgd _ x ho b off hx u.cells _ hc Tryz.underlying32 rfl (by rw [info_ub, hl.len]) hK
theorem store_ub {ops : Array Oper} {rest : List Oper} {o : Oper} {a : Act} {w : World} {Q : Exit → Act → World → Prop} (hgd : o.guard = none) (x y : Operand) (ho : o.op = .store 32 x y)
    {b : Nat} (hx : a.eval x = .pointer (some ⟨b, 0, none⟩)) {u : Ub} (hy : a.eval y = .agg u.arr) {old : Array Value} {t : TypeId} (hb : w.heap[b]? = some (.cells old t (0, 0))) (ho2 : old.size = 36) (hl : u.Wf)
    (hK : ∀ w', w'.heap[b]? = some (.cells u.arr t (0, 0)) → Fr (fun k => k = b) w w' → w'.heap.size = w.heap.size → wpList Tryz.prog ops Q rest (a.put o.dst undef) w') : wpList Tryz.prog ops Q (o :: rest) a w :=
  wpList_store_row hgd _ x y ho b hx u.cells (by simpa [Ub.arr] using hy) old _ hb (by rw [ho2, hl.len]) (by have := u.one; rwa [Ub.arr_toList] at this) (by rw [info_ub, hl.len]) (fun w' h1 h2 h3 => hK w' h1 h2 h3)
theorem ret_ub {fn : Func} {p u : Tmp} (h : fn.results = #[.cell p 32, .tmp u]) {tmps : Array Value} {w : World} {g : Nat} {q : Ub} {t : TypeId} (hp : tmps.getD p undef = .pointer (some ⟨g, 0, none⟩))
    (hg : w.heap[g]? = some (.cells q.arr t (0, 0))) (hl : q.Wf) :
    (results fn tmps).run Tryz.prog w = .ok (.tuple #[.agg q.arr, tmps.getD u undef]) w := by
  rw [results_cell_tmp h, hp]
  simp [asAddr, run_loadVar_row w g t 32 _ _ _ hg Tryz.underlying32 rfl (by rw [info_ub]; simp [hl.asize]), Result.andThen]

/-- May an uber be? -/
def ubOk (u : Ub) : Bool := decide (u.txg ≠ 0) && decide (16 ≤ u.size) && decide (u.size ≤ 4096) && ptrOk u.root (u.size : Int)
def ubE (u : Ub) : Int := if ubOk u then 0 else 4
theorem ubE_ok {u : Ub} (h : ubOk u = true) : ubE u = 0 := by unfold ubE; rw [if_pos h]
theorem ubE_bad {u : Ub} (h : ubOk u = false) : ubE u = 4 := by unfold ubE; rw [if_neg (by rw [h]; simp)]
theorem ubE_split {u : Ub} : ubE u = 0 ↔ ubOk u = true := by
  constructor
  · intro h
    cases hq : ubOk u with
    | true => rfl
    | false => rw [ubE_bad hq] at h; cases h
  · exact ubE_ok
theorem ubE_or (u : Ub) : ubE u = 0 ∨ ubE u = 4 := by
  cases hq : ubOk u with
  | true => exact .inl (ubE_ok hq)
  | false => exact .inr (ubE_bad hq)
theorem ubE_root {u : Ub} (h0 : u.txg ≠ 0) (h1 : 16 ≤ u.size) (h2 : u.size ≤ 4096) : ubE u = ptrE u.root (u.size : Int) := by
  have e : ubOk u = ptrOk u.root (u.size : Int) := by unfold ubOk; rw [decide_eq_true h0, decide_eq_true h1, decide_eq_true h2]; rfl
  unfold ubE ptrE
  rw [e]

set_option maxHeartbeats 1000000 in
theorem ubCheck_any (u : Ub) (w : World) (h : u.Wf) :
    Calls Tryz.prog 13 #[.agg u.arr] w fun e w' => e = .returned (.int .i64 (ubE u)) ∧ Below w.heap.size w w' := by
  have g0 := u.get0
  have g1 := u.get1
  have h64 := h.txg
  have h32 := h.size
  have HAT := Lib.hid (Ub.box_root w u 32)
  have HW := Lib.hid h
  have HB := Lib.hid ((Below.refl _ w).alloc (Nat.le_refl _) (.cells u.arr 32))
  by_cases h0 : u.txg = 0
  · have HQ := Lib.hid (show ubE u = 4 from ubE_bad (by unfold ubOk; rw [h0]; rfl))
    have e0 : ((u.txg : Int) == 0) = true := by rw [h0]; rfl
    clear h h0
    go_enter Tryz.func13, Tryz.ntmps13
    go_wp2
    go_ret
    exact ⟨by rw [HQ.out]; rfl, HB.out⟩
  · have e0 : ((u.txg : Int) == 0) = false := by rw [Bool.eq_false_iff]; intro hh; rw [beq_iff_eq] at hh; omega
    by_cases h1 : 16 ≤ u.size
    · have e1 : ¬ (u.size : Int) < 16 := by omega
      by_cases h2 : u.size ≤ 4096
      · have e2 : ¬ (4096 : Int) < (u.size : Int) := by omega
        have HQ := Lib.hid (ubE_root h0 h1 h2)
        have m1 : u.size ≤ 4096 := h2
        clear h h0 h1 h2
        go_enter Tryz.func13, Tryz.ntmps13
        go_wp2_with (refine load_ptr rfl (.tmp 16) rfl rfl HAT.out HW.out.root ?_)
        refine (ptrCheck_any u.root (u.size : Int) _ HW.out.root (by omega)).mono ?_
        rintro e w1 ⟨rfl, hb⟩
        have HB1 := Lib.hid (HB.out.trans (hb.mono HB.out.size))
        clear hb
        go_wp2
        go_ret
        exact ⟨by rw [HQ.out]; rfl, HB1.out⟩
      · have e2 : (4096 : Int) < (u.size : Int) := by omega
        have HQ := Lib.hid (show ubE u = 4 from ubE_bad (by unfold ubOk; rw [decide_eq_false h2]; simp))
        clear h h0 h1 h2
        go_enter Tryz.func13, Tryz.ntmps13
        go_wp2
        go_ret
        exact ⟨by rw [HQ.out]; rfl, HB.out⟩
    · have e1 : (u.size : Int) < 16 := by omega
      have HQ := Lib.hid (show ubE u = 4 from ubE_bad (by unfold ubOk; rw [decide_eq_false h1]; simp))
      clear h h0 h1
      go_enter Tryz.func13, Tryz.ntmps13
      go_wp2
      go_ret
      exact ⟨by rw [HQ.out]; rfl, HB.out⟩

theorem ubSlot_any (t : Nat) (w : World) (h : t < 18446744073709551616) :
    Calls Tryz.prog 21 #[.int .u64 (t : Int)] w fun e w' => e = .returned (.int .u32 ((t % 2 : Nat) : Int)) ∧ w = w' := by
  have e2 : t % 2 < 2 := Nat.mod_lt _ (by decide)
  obtain ⟨m, hm⟩ : ∃ m, m = t % 2 := ⟨_, rfl⟩
  have e1 : bits .and .u64 (t : Int) 1 = (m : Int) := by
    have := u64_and_nat t 1 h (by decide)
    rw [show ((1 : Nat) : Int) = 1 from rfl] at this
    rw [this, Nat.and_one_is_mod, hm]
  rw [← hm] at e2 ⊢
  have e3 : IntKind.u32.wrap (m : Int) = (m : Int) := by simp [IntKind.wrap, IntKind.bits, IntKind.signed]; omega
  clear hm
  go_enter Tryz.func21, Tryz.ntmps21
  go_wp2
  go_ret
  exact ⟨rfl, rfl⟩

/-- An uber of a number. -/
def ub16 (t : Nat) : Ub := ⟨t, 16, ⟨5, 1, List.replicate 32 0⟩⟩
theorem ub16_wf {t : Nat} (h : t < 18446744073709551616) : (ub16 t).Wf := ⟨h, (show 16 < 4294967296 by decide), ⟨(show 5 < 4294967296 by decide), (show 1 < 18446744073709551616 by decide), (show (List.replicate 32 (0 : UInt8)).length = 32 by decide)⟩⟩
theorem ub16_ok {t : Nat} (h : t ≠ 0) : ubOk (ub16 t) = true := by
  unfold ubOk ub16
  rw [decide_eq_true h]
  simp only [Bool.true_and, Bool.and_eq_true, decide_eq_true_eq]
  exact ⟨by decide, by decide⟩
end Go.Proofs.YtdmjnopjnaoepaaGreatDoor
namespace Go.Proofs.YtdmjnopjnaoepaaGreatDoor
open Go.RowKit

/-- Is all of a node as it must be, but its size? -/
def formB (n : Nd) : Bool :=
  keysB n.keys && (if n.leaf then decide (n.vals.length = n.keys.length) && decide (n.kids.length = 0) && !longB n.vals
    else decide (n.vals.length = 0) && decide (0 < n.keys.length) && decide (n.kids.length = n.keys.length + 1) && !badB n.kids)

theorem beq_nat (a b : Nat) : ((a : Int) == (b : Int)) = decide (a = b) := by rw [Bool.eq_iff_iff]; simp only [beq_iff_eq, decide_eq_true_iff]; omega
theorem beq_zero (a : Nat) : ((a : Int) == 0) = decide (a = 0) := beq_nat a 0
theorem beq_succ (a b : Nat) : ((a : Int) == (b : Int) + 1) = decide (a = b + 1) := by rw [Bool.eq_iff_iff]; simp only [beq_iff_eq, decide_eq_true_iff]; omega

/-- Bounds on a node that came in. -/
structure Nd.Fits (n : Nd) : Prop where
  keys : n.keys.length ≤ 140737488351232
  vals : n.vals.length ≤ 140737488351232
  kids : n.kids.length ≤ 4139337892682
  keyS : ∀ s ∈ n.keys, s.size ≤ 140737488351232
  valS : ∀ s ∈ n.vals, s.size ≤ 140737488351232

theorem NdIs.get {w : World} {arr : Array Value} {n : Nd} (h : NdIs w arr n) : ∃ ak ck av cv ap cp, arr = #[.bool n.leaf, .slice ak n.keys.length ck, .slice av n.vals.length cv, .slice ap n.kids.length cp] ∧
    StrsIn w (.slice ak n.keys.length ck) n.keys ∧ StrsIn w (.slice av n.vals.length cv) n.vals ∧ PtsIn w (.slice ap n.kids.length cp) n.kids := by
  obtain ⟨vk, vv, vp, h0, h1, h2, h3⟩ := h
  obtain ⟨ak, ck, rfl, _⟩ := h1.open
  obtain ⟨av, cv, rfl, _⟩ := h2.open
  obtain ⟨ap, cp, rfl, _⟩ := h3.open
  exact ⟨ak, ck, av, cv, ap, cp, h0, h1, h2, h3⟩

end Go.Proofs.YtdmjnopjnaoepaaGreatDoor
namespace Go.Proofs.YtdmjnopjnaoepaaGreatDoor
open Go.RowKit

def strsN (l : List ByteArray) : Nat := (l.map (fun s => 1 + s.size)).sum
theorem strsN_step (l : List ByteArray) (k : Nat) (h : k < l.length) : strsN (l.take (k + 1)) = strsN (l.take k) + (1 + l[k].size) := by
  unfold strsN
  rw [List.take_succ_eq_append_getElem h, List.map_append, List.sum_append]; simp
theorem strsN_le (m : Nat) : ∀ (l : List ByteArray), (∀ s ∈ l, s.size ≤ m) → strsN l ≤ (m + 1) * l.length
  | [], _ => by simp [strsN]
  | a :: l, h => by
    have h1 := strsN_le m l (fun s hs => h s (by simp [hs]))
    have h2 := h a (by simp)
    have e : strsN (a :: l) = (1 + a.size) + strsN l := by simp [strsN]
    rw [e, List.length_cons, Nat.mul_succ]; omega
def sizeN (n : Nd) : Nat := 2 + 44 * n.kids.length + strsN n.keys + strsN n.vals
def sizeV (n : Nd) : Int := if formB n then (sizeN n : Int) else 0
def sizeR (n : Nd) : Int := if formB n then 0 else 4
theorem sizeV_ok {n : Nd} (h : formB n = true) : sizeV n = (sizeN n : Int) := by unfold sizeV; rw [if_pos h]
theorem sizeR_ok {n : Nd} (h : formB n = true) : sizeR n = 0 := by unfold sizeR; rw [if_pos h]
theorem sizeV_bad {n : Nd} (h : formB n = false) : sizeV n = 0 := by unfold sizeV; rw [if_neg (by rw [h]; simp)]
theorem sizeR_bad {n : Nd} (h : formB n = false) : sizeR n = 4 := by unfold sizeR; rw [if_neg (by rw [h]; simp)]

theorem keysB_size {l : List ByteArray} (h : keysB l = true) : ∀ s ∈ l, s.size ≤ 32 := by
  intro s hs
  obtain ⟨i, hi, rfl⟩ := List.getElem_of_mem hs
  have h1 := List.all_eq_true.1 h i (by simpa using hi)
  unfold keyAt at h1
  rw [List.getElem?_eq_getElem hi] at h1
  simp only [Bool.and_eq_true, decide_eq_true_iff] at h1
  exact h1.1.2
theorem formB_keys {n : Nd} (h : formB n = true) : keysB n.keys = true := by
  unfold formB at h; simp only [Bool.and_eq_true] at h; exact h.1
theorem formB_vals {n : Nd} (h : formB n = true) : ∀ s ∈ n.vals, s.size ≤ 96 := by
  unfold formB at h
  simp only [Bool.and_eq_true] at h
  have h2 := h.2
  split at h2
  · simp only [Bool.and_eq_true, Bool.not_eq_true', decide_eq_true_iff] at h2
    intro s hs
    have := List.any_eq_false.1 h2.2 s hs
    simp at this; omega
  · simp only [Bool.and_eq_true, decide_eq_true_iff] at h2
    have : n.vals = [] := List.eq_nil_of_length_eq_zero h2.1.1.1
    rw [this]; simp

end Go.Proofs.YtdmjnopjnaoepaaGreatDoor
namespace Go.Proofs.YtdmjnopjnaoepaaGreatDoor
open Go.RowKit

/-- append of noughts onto own bytes. -/
theorem append_zeros_u8 {w : World} {ops : Array Oper} {rest : List Oper} {o : Oper} {a : Act} {Q : Exit → Act → World → Prop} (hgd : o.guard = none) (s x : Operand)
    (ho : o.op = .call { callee := .builtin .append, args := #[s, x], argTypes := #[22, 3] })
    {base : Nat} {v : Value} {n : Nat} {xs : List UInt8} (hown : w.ownsRow base 5 1 v n (xs.map Bv)) {k : Nat}
    (hs : a.eval s = v) (hxe : a.eval x = .int .i64 (k : Int)) (hr : n + k ≤ 140737488355328) (hbase : base ≤ w.heap.size)
    (h : ∀ v' w', w'.ownsRow base 5 1 v' (n + k) ((xs ++ List.replicate k 0).map Bv) → Fr (fun k => v.ownBlock = some k) w w' → (v'.ownBlock = v.ownBlock ∨ v'.ownBlock = some w.heap.size) →
      wpList Tryz.prog ops Q rest (a.put o.dst v') w') : wpList Tryz.prog ops Q (o :: rest) a w := by
  obtain ⟨i0, hi, hz0, hz1, hz2⟩ := info_parts info_u8
  obtain ⟨v', w', hr', h2, hg, h3⟩ := run_append_zeros_own (P := Tryz.prog) w base 22 3 o.type 5 i0 (.int .u8 0) .i64 .i64 Tryz.underlying22 Tryz.underlying3 hi hz0 hz1 hz2 rfl rfl v n _ hown k hr hbase
  refine Lib.wpList_append_run w hgd s x _ _ ho v _ hs hxe v' w' hr' ?_
  have e : xs.map Bv ++ List.replicate k (.int .u8 0) = (xs ++ List.replicate k 0).map Bv := by rw [List.map_append, List.map_replicate]; rfl
  rw [e] at h2
  exact h v' w' h2 ((Fr.refl _ w).grown hg (fun k hk => Or.inl hk)) h3

theorem wRaw_ok (b base : Nat) (row : Option Nat) (os xs : List UInt8) (v : Value) (w : World) (hw : Wr w base b row os) (hbase : base ≤ w.heap.size) (h : Sl w 1 v xs.length (xs.map Bv)) (hr : os.length + xs.length ≤ 140737488351232) :
    Calls Tryz.prog 22 #[.pointer (some ⟨b, 0, none⟩), v] w fun e w' => e = .returned (.int .i64 0) ∧ Laid w w' base b row (os ++ xs) := by
  have HW := Lib.hid hw
  have HH := Lib.hid h
  clear hw h
  go_enter Tryz.func22, Tryz.ntmps22
  go_wp2_with fail
  refine (add_ok b base row os xs _ w HW.out hbase HH.out hr).mono ?_
  rintro e w2 ⟨rfl, hl⟩
  have HL := Lib.hid hl
  clear hl
  go_wp2
  go_ret
  exact ⟨rfl, HL.out⟩

/-- A boxed array of bytes, as the slice of all of it. -/
theorem Sl_box (w : World) (h : List UInt8) (t : TypeId) : Sl (w.alloc (.cells (h.map Bv).toArray t)) 1 (.slice (some ⟨w.heap.size, 0, none⟩) h.length h.length) h.length (h.map Bv) := by
  refine ⟨by simp, _, _, rfl, Nat.le_refl _, fun h => (by cases h), fun i u hu => ⟨_, 0, rfl, ?_⟩⟩
  rw [Nat.zero_add, cell_of_row _ w.heap.size i _ t (0, 0) (heap_alloc_new _ _)]
  simpa using hu

set_option maxHeartbeats 400000 in
theorem wHash_ok (b base : Nat) (row : Option Nat) (os h : List UInt8) (w : World) (hw : Wr w base b row os) (hbase : base ≤ w.heap.size) (hh : h.length = 32) (hr : os.length + 32 ≤ 140737488351232) :
    Calls Tryz.prog 26 #[.pointer (some ⟨b, 0, none⟩), .agg (h.map Bv).toArray] w fun e w' => e = .returned (.int .i64 0) ∧ Laid w w' base b row (os ++ h) := by
  have hS := Sl_box w h 28
  rw [hh] at hS
  obtain ⟨cs, hcs⟩ : ∃ cs, cs = (h.map Bv).toArray := ⟨_, rfl⟩
  rw [← hcs] at hS ⊢
  have HS := Lib.hid hS
  have HW := Lib.hid (hw.fr ((Fr.refl (fun _ => False) w).alloc (.cells cs 28)) id (fun _ _ => id))
  have HH := Lib.hid hh
  clear hcs hS hw hh
  go_enter Tryz.func26, Tryz.ntmps26
  go_wp2_with fail
  refine (add_ok b base row os h _ _ HW.out (by simp; omega) (by rw [HH.out]; exact HS.out) (by rw [HH.out]; omega)).mono ?_
  rintro e w2 ⟨rfl, hl⟩
  have HL := Lib.hid hl
  clear hl
  go_wp2
  go_ret
  obtain ⟨row', a1, a2, a3⟩ := HL.out
  exact ⟨rfl, row', a1, ((Fr.refl _ w).alloc _).trans a2, fun k hk => (a3 k hk).imp id (fun h => by simp at h; omega)⟩

set_option maxHeartbeats 400000 in
theorem wPad_ok (b base n : Nat) (row : Option Nat) (os : List UInt8) (w : World) (hw : Wr w base b row os) (hbase : base ≤ w.heap.size) (h1 : n ≤ 65536) (h2 : os.length ≤ n) :
    Calls Tryz.prog 25 #[.pointer (some ⟨b, 0, none⟩), .int .i64 (n : Int)] w fun e w' => e = .returned (.int .i64 0) ∧ Laid w w' base b row (os ++ List.replicate (n - os.length) 0) := by
  have HW := Lib.hid hw
  obtain ⟨v0, hb, ho, rfl⟩ := hw
  have c0 := cell_of_one hb
  obtain ⟨a, cap, rfl, _⟩ := (Sl.own ho).len
  have b1 : decide ((65536 : Int) < (n : Int)) = false := by simp; omega
  have b2 : ¬ (n : Int) < (os.length : Int) := by omega
  have es : (n : Int) - (os.length : Int) = ((n - os.length : Nat) : Int) := by omega
  clear hb ho
  go_enter Tryz.func25, Tryz.ntmps25
  go_wp2_with (at_make; refine make_u8 rfl (.tmp 25) (.tmp 25) rfl (n - os.length) rfl rfl (by omega) ?_)
  intro w1 hown hb
  have hw1 := Lib.hid (HW.out.fr (Fr.of_below (S := fun _ => False) hb) id (fun _ _ => id))
  have HB := Lib.hid hb
  have hs := hb.size
  have HS := Lib.hid (Sl.own hown)
  clear hown hb es
  go_wp2_with fail
  refine (add_ok b base _ os (List.replicate (n - os.length) 0) _ w1 hw1.out (by omega) (by simpa using HS.out) (by simp; omega)).mono ?_
  rintro e w2 ⟨rfl, hl⟩
  have HL := Lib.hid hl
  clear hl
  go_wp2
  go_ret
  obtain ⟨row', a1, a2, a3⟩ := HL.out
  exact ⟨rfl, row', a1, (Fr.of_below HB.out).trans a2, fun k hk => (a3 k hk).imp id (fun h => by omega)⟩

set_option maxHeartbeats 400000 in
theorem wPad_err (b base : Nat) (n : Int) (row : Option Nat) (os : List UInt8) (w : World) (hw : Wr w base b row os) (h : 65536 < n ∨ n < os.length) :
    Calls Tryz.prog 25 #[.pointer (some ⟨b, 0, none⟩), .int .i64 n] w fun e w' => e = .returned (.int .i64 2) ∧ w = w' := by
  obtain ⟨v0, hb, ho, rfl⟩ := hw
  have c0 := cell_of_one hb
  obtain ⟨a, cap, rfl, _⟩ := (Sl.own ho).len
  clear hb ho
  by_cases h1 : 65536 < n
  · clear h
    go_enter Tryz.func25, Tryz.ntmps25
    go_wp2
    go_ret
    exact ⟨rfl, rfl⟩
  · have h2 : n < os.length := h.resolve_left h1
    clear h
    go_enter Tryz.func25, Tryz.ntmps25
    go_wp2
    go_ret
    exact ⟨rfl, rfl⟩

set_option maxHeartbeats 400000 in
theorem refPut_arg (x size : Int) (w : World) (h : size < 0 ∨ 8 < size) :
    Calls Tryz.prog 86 #[.int .u64 x, .int .i64 size] w fun e w' => e = .returned (.tuple #[.slice none 0 0, .int .i64 2]) ∧ w = w' := by
  rcases h with h | h
  · go_enter Tryz.func86, Tryz.ntmps86
    go_wp2
    go_ret2
    exact ⟨rfl, rfl⟩
  · have h0 : ¬ size < 0 := by omega
    go_enter Tryz.func86, Tryz.ntmps86
    go_wp2
    go_ret2
    exact ⟨rfl, rfl⟩

/-- The bytes laid from the last one on, k of them yet to be laid. -/
def putDown (x n k : Nat) : List UInt8 := (List.range n).map fun j => if j < k then 0 else UInt8.ofNat (x / 256 ^ (n - 1 - j))
theorem putDown_all (x n : Nat) : putDown x n n = List.replicate n 0 := by
  apply List.ext_getElem? ; intro j; by_cases h : j < n <;> simp [putDown, h]
theorem putDown_zero (x n : Nat) : putDown x n 0 = putB x n := by
  apply List.ext_getElem? ; intro j; by_cases h : j < n <;> simp [putDown, putB, h]
theorem putDown_succ (x n k : Nat) (h : k < n) : (putDown x n (k + 1)).set k (UInt8.ofNat (x / 256 ^ (n - 1 - k))) = putDown x n k := by
  apply List.ext_getElem?
  intro j
  rw [List.getElem?_set]
  by_cases hj : k = j
  · subst hj
    simp [putDown, h]
  · by_cases h1 : j < k
    · by_cases h2 : j < n <;> simp [putDown, hj, h1, h2, show j < k + 1 by omega]
    · by_cases h2 : j < n <;> simp [putDown, hj, h1, h2, show ¬ j < k + 1 by omega]

set_option maxRecDepth 100000 in
set_option maxHeartbeats 400000 in
theorem refPut_all (x n : Nat) (w : World) (h8 : n ≤ 8) (hx : x < 18446744073709551616) :
    Calls Tryz.prog 86 #[.int .u64 (x : Int), .int .i64 (n : Int)] w fun e w' => Below w.heap.size w w' ∧
      ((0 < x / 256 ^ n ∧ e = .returned (.tuple #[.slice none 0 0, .int .i64 2])) ∨ (x / 256 ^ n = 0 ∧ ∃ aa cc, e = .returned (.tuple #[.slice aa n cc, .int .i64 0]) ∧ w'.ownsRow w.heap.size 5 1 (.slice aa n cc) n ((putB x n).map Bv))) := by
  have b1 : decide ((n : Int) < 0) = false := by simp
  have b2 : decide ((8 : Int) < (n : Int)) = false := by simp; omega
  have HX := Lib.hid hx
  clear hx
  go_enter Tryz.func86, Tryz.ntmps86
  go_wp2_with (at_make; refine make_u8 rfl (.tmp 14) (.tmp 14) rfl n rfl rfl (by omega) ?_)
  intro w1 hown hb
  have HO := Lib.hid hown
  have HB := Lib.hid hb
  clear hown hb
  go_wp2_with fail
  go_loopw [0, 7] (fun y i wr => ∃ k : Nat, k ≤ n ∧ i = .int .i64 ((k : Int) - 1) ∧ y = .int .u64 ((x / 256 ^ (n - k) : Nat) : Int) ∧ wr.ownsRow w.heap.size 5 1 (.slice (some ⟨w.heap.size, 0, none⟩) n n) n ((putDown x n k).map Bv) ∧ Below w.heap.size w wr) (fun _ i _ => (intOf i + 1).toNat)
  case atStart => exact ⟨n, Nat.le_refl _, rfl, by simp, by rw [putDown_all]; simpa using HO.out, HB.out⟩
  case round =>
    obtain ⟨k, hk, rfl, rfl, hown, hb⟩ := hrel
    have HO := Lib.hid hown
    have HB := Lib.hid hb
    clear hb
    cases k with
    | zero =>
      clear hown
      obtain ⟨y, hy⟩ : ∃ y, y = x / 256 ^ n := ⟨_, rfl⟩
      rw [Nat.sub_zero, ← hy]
      have HY := Lib.hid hy
      clear hy
      rw [putDown_zero] at HO
      rcases Nat.eq_zero_or_pos y with h0 | h0
      · subst h0
        go_wp2
        go_ret2
        exact ⟨HB.out, Or.inr ⟨HY.out.symm, _, _, rfl, HO.out⟩⟩
      · go_wp2
        go_ret2
        exact ⟨HB.out, Or.inl ⟨HY.out ▸ h0, rfl⟩⟩
    | succ j =>
      have hc : ∃ u, wr.cell? ⟨w.heap.size, j, none⟩ = some (Bv u) := ⟨_, by rw [hown.cellAt j (by omega)]; simp [putDown, show j < n by omega]; rfl⟩
      obtain ⟨u, hc⟩ := hc
      have hf := hown.frozenAt j
      have e1 : ((j + 1 : Nat) : Int) - 1 = (j : Int) := by omega
      rw [e1]
      clear hown e1
      obtain ⟨y, hy⟩ : ∃ y, y = x / 256 ^ (n - (j + 1)) := ⟨_, rfl⟩
      rw [← hy]
      have hy2 : ((y : Int) / 256) = ((x / 256 ^ (n - j) : Nat) : Int) := by
        rw [hy, show n - j = (n - (j + 1)) + 1 by omega, Nat.pow_succ, ← Nat.div_div_eq_div_mul]; simp
      have hy3 : Value.int .u8 ((y : Int) % 256) = Bv (UInt8.ofNat (x / 256 ^ (n - 1 - j))) := by
        rw [hy, show n - (j + 1) = n - 1 - j by omega]
        simp only [Bv, UInt8.toNat_ofNat']; rfl
      have hyw : IntKind.u64.wrap ((y : Int) / 256) = (y : Int) / 256 := by
        have h1 : y ≤ x := by rw [hy]; exact Nat.div_le_self _ _
        have h2 := HX.out
        rw [IntKind.wrap_u64]; omega
      have HW := Lib.hid hyw
      clear hyw
      have HY2 := Lib.hid hy2
      have HY3 := Lib.hid hy3
      clear hy hy2 hy3
      go_wp2
      go_roundw
      case rel =>
        refine ⟨j, by omega, by go_num, by first | rw [HW.out, HY2.out] | rw [HY2.out], ?_, HB.out.setCell (Nat.le_refl _) _⟩
        have h2 := (HO.out.stored j (.int .u8 ((y : Int) % 256))).1
        rw [HY3.out, ← List.map_set, putDown_succ x n j (by omega)] at h2
        rw [HY3.out]
        exact h2
      case measure => simp [intOf]

end Go.Proofs.YtdmjnopjnaoepaaGreatDoor
namespace Go.Proofs.YtdmjnopjnaoepaaGreatDoor
open Go.RowKit

/-- An act, as data. -/
structure Ac where
  kind : Int
  size : Int
  n : Nat
  s : ByteArray
  h : List UInt8
  b : List UInt8

/-- The bytes behind an act, and the error. -/
def layB (xs : List UInt8) (a : Ac) : List UInt8 :=
  if a.kind = 1 then (if 255 < a.s.size then xs else xs ++ strB a.s)
  else if a.kind = 2 then xs ++ a.h
  else if a.kind = 3 then xs ++ a.b
  else if a.kind = 4 then (if 65536 < a.size ∨ a.size < xs.length then xs else xs ++ List.replicate (a.size.toNat - xs.length) 0)
  else if a.size < 0 ∨ 8 < a.size ∨ 0 < a.n / 256 ^ a.size.toNat then xs else xs ++ putB a.n a.size.toNat
def layE (xs : List UInt8) (a : Ac) : Int :=
  if a.kind = 1 then (if 255 < a.s.size then 2 else 0)
  else if a.kind = 2 then 0
  else if a.kind = 3 then 0
  else if a.kind = 4 then (if 65536 < a.size ∨ a.size < xs.length then 2 else 0)
  else if a.size < 0 ∨ 8 < a.size ∨ 0 < a.n / 256 ^ a.size.toNat then 2 else 0

/-- An act's cells. -/
structure AcIs (w : World) (arr : Array Value) (a : Ac) : Prop where
  cells : ∃ v, arr.toList = [.int .i64 a.kind, .int .i64 a.size, .int .u64 (a.n : Int), .string a.s] ++ a.h.map Bv ++ [v] ∧ Sl w 1 v a.b.length (a.b.map Bv)
  hash : a.h.length = 32
  num : a.n < 18446744073709551616

theorem AcIs.fr {w w' : World} {arr : Array Value} {a : Ac} (h : AcIs w arr a) (hf : ∀ v, Sl w 1 v a.b.length (a.b.map Bv) → Sl w' 1 v a.b.length (a.b.map Bv)) : AcIs w' arr a := by
  obtain ⟨⟨v, h1, h2⟩, h3, h4⟩ := h
  exact ⟨⟨v, h1, hf v h2⟩, h3, h4⟩
theorem AcIs.size {w : World} {arr : Array Value} {a : Ac} (h : AcIs w arr a) : arr.size = 37 := by
  obtain ⟨⟨v, h1, h2⟩, h3, h4⟩ := h
  rw [← Array.length_toList, h1]; simp [h3]
/-- Its fields, each as the walk reads it. -/
theorem AcIs.get {w : World} {arr : Array Value} {a : Ac} (h : AcIs w arr a) : ∃ v, arr[0]? = some (.int .i64 a.kind) ∧ arr[1]? = some (.int .i64 a.size) ∧ arr[2]? = some (.int .u64 (a.n : Int)) ∧ arr[3]? = some (.string a.s) ∧ arr[36]? = some v ∧
    Sl w 1 v a.b.length (a.b.map Bv) ∧ (∀ i u, (a.h.map Bv)[i]? = some u → arr[4 + i]? = some u) := by
  obtain ⟨⟨v, h1, h2⟩, h3, h4⟩ := h
  have e : ∀ i : Nat, arr[i]? = ([.int .i64 a.kind, .int .i64 a.size, .int .u64 (a.n : Int), .string a.s] ++ a.h.map Bv ++ [v])[i]? := by
    intro i; rw [← h1]; simp
  refine ⟨v, by rw [e]; rfl, by rw [e]; rfl, by rw [e]; rfl, by rw [e]; rfl, ?_, h2, ?_⟩
  · rw [e, List.getElem?_append_right (by simp [h3])]
    simp [h3]
  · intro i u hu
    rw [e, List.getElem?_append_left (by have := (List.getElem?_eq_some_iff.1 hu).1; simp at this ⊢; omega), List.getElem?_append_right (by simp)]
    simpa using hu

theorem info_hash : (Tryz.prog.info? 28).map (·.size) = some 32 := by kernel_rfl

/-- An array of bytes, read at an address. -/
theorem load_hash {ops : Array Oper} {rest : List Oper} {o : Oper} {a : Act} {w : World} {Q : Exit → Act → World → Prop} (hgd : o.guard = none) (x : Operand) (ho : o.op = .load 28 x)
    {b off : Nat} (hx : a.eval x = .pointer (some ⟨b, off, none⟩)) {h : List UInt8} (hc : At w b off (h.map Bv)) (hl : h.length = 32)
    (hK : wpList Tryz.prog ops Q rest (a.put o.dst (.agg (h.map Bv).toArray)) w) : wpList Tryz.prog ops Q (o :: rest) a w :=
  wpList_load_at hgd _ x ho b off hx (h.map Bv) _ hc Tryz.underlying28 rfl (by rw [info_hash]; simp [hl]) hK

theorem Laid.alloc {w w' : World} {o : Obj} {base b : Nat} {row : Option Nat} {xs : List UInt8} (h : Laid (w.alloc o) w' base b row xs) : Laid w w' base b row xs := by
  obtain ⟨row', a1, a2, a3⟩ := h
  exact ⟨row', a1, ((Fr.refl _ w).alloc _).trans a2, fun k hk => (a3 k hk).imp id (fun h => by simp at h; omega)⟩
theorem Laid.none {w w' : World} {base b : Nat} {row : Option Nat} {xs : List UInt8} (h : Wr w base b row xs) (hf : Fr (WS b row) w w') (hw : w'.heap = w.heap ∨ Wr w' base b row xs) : Laid w w' base b row xs :=
  ⟨row, hw.elim (fun e => by obtain ⟨v, h1, h2, h3⟩ := h; exact ⟨v, by rw [e]; exact h1, by simpa only [World.ownsRow, e] using h2, h3⟩) id, hf, fun k hk => Or.inl hk⟩

end Go.Proofs.YtdmjnopjnaoepaaGreatDoor
namespace Go.Proofs.YtdmjnopjnaoepaaGreatDoor
open Go.RowKit

/-- A new Writer. -/
theorem Wr.new (w : World) (B : Nat) : Wr (w.alloc (.cells #[.slice none 0 0] 59)) B w.heap.size none [] :=
  ⟨_, heap_alloc_new _ _, World.ownsRow_nil _ _ _ _, rfl⟩

theorem Laid.below {w w' : World} {base b B : Nat} {row : Option Nat} {xs : List UInt8} (h : Laid w w' base b row xs) (hB : B ≤ w.heap.size) (h1 : B ≤ b) (h2 : ∀ k, row = some k → B ≤ k) : Below B w w' := by
  obtain ⟨_, _, hf, _⟩ := h
  exact hf.below hB (fun k hk => hk.elim (fun e => e ▸ h1) (h2 k))

theorem Sl_lit (w : World) (cs : Array Value) (xs : List UInt8) (n : Nat) (hn : n = xs.length) (hcs : cs.toList = xs.map Bv) (hm : n ≤ maxLen) : Sl (w.alloc (.cells cs 5)) 1 (.slice (some ⟨w.heap.size, 0, none⟩) n n) n (xs.map Bv) := by
  have := World.ownsRow_lit (e := 5) (size := 1) (base := w.heap.size) w cs n (Nat.le_refl _) hm (by rw [Nat.mul_one, hn, ← Array.length_toList, hcs]; simp)
  rw [hcs] at this
  exact Sl.own this

end Go.Proofs.YtdmjnopjnaoepaaGreatDoor
