/- Walks: sha's Hasher: New, Write. A region in a round of a range over a function: what is shown of it outside serves within. Over any program. The walk's law at a copy of bytes into a row that is known whole. Walks: codec.Reader. Walks: bytes.Trim of noughts. Walks: codec.Reader's End, Raw, Hash; the reference's Reader. -/
import Derived.Test.YtkbnkdokcmpcgaaGreatDoorB0
import Derived.Test.YtkbnkdokcmpcgaaGreatDoorB1
import Derived.Test.YtkbnkdokcmpcgaaGreatDoorB2
import Derived.RangeFuncNested
import Derived.RangeFuncBound
import Derived.RangeFuncCalls
import Derived.RangeFuncLeaves
import Derived.RangeFuncWrites
import Derived.OrdersIn
import Derived.OwnWalkIn
import Derived.TacticsInMore
import Derived.LoopNIn
import Derived.LoopIn
import Derived.Shelf.Abstract
import Derived.Laws.CopyOwn
import Derived.Laws.ResultCell
import Derived.Deep.RegionWith
namespace Go.Proofs.YtkbnkdokcmpcgaaGreatDoor
open Go.RowKit

section
variable {P : Program}
theorem wpList_store_lpart {ops : Array Oper} {rest : List Oper} {o : Oper} {a : Act} {w : World} {Q : Exit → Act → World → Prop} (hgd : o.guard = none) (ty : TypeId) (x y : Operand) (ho : o.op = .store ty x y)
    (b off : Nat) (hx : a.eval x = .pointer (some ⟨b, off, none⟩)) (cs : List Value) (hy : a.eval y = .agg cs.toArray) (old : List Value) (t : TypeId) (hb : w.heap[b]? = some (.cells old.toArray t (0, 0))) (hl : off + cs.length ≤ old.length)
    (h1 : ∀ u ∈ cs, u.oneCell' = true) (hi : (P.info? ty).map (·.size) = some cs.length)
    (h : ∀ w', w'.heap[b]? = some (.cells (old.take off ++ cs ++ old.drop (off + cs.length)).toArray t (0, 0)) → Fr (fun k => k = b) w w' → w'.heap.size = w.heap.size → wpList P ops Q rest (a.put o.dst undef) w') : wpList P ops Q (o :: rest) a w := by
  refine wpList_plain hgd fun K hK => ?_
  have hst := run_storeCells_at P b off t cs 0 old.toArray w hb (by simpa using hl) h1
  cases hq : P.info? ty with
  | none => simp [hq] at hi
  | some i =>
    have hs : i.size = cs.length := by simpa [hq] using hi
    simp only [Nat.add_zero] at hst
    have hr : (Instr.storeAt ty (.pointer (some ⟨b, off, none⟩)) (.agg cs.toArray)).run P w = .ok () (w.setRow b (old.take off ++ cs ++ old.drop (off + cs.length)).toArray) := by
      simp [Instr.storeAt, Instr.sureAddr, storeVar, sizeOf, typeInfo, hq, hs, Value.cells, Sem.run_bind, hst]
    unfold Oper.wp execOp
    simp only [ho, hx, hy, Sem.run_bind, Sem.run_pure, Result.andThen_ok, hr]
    exact hK _ _ (h _ (setRow_heap w b _ _ t _ hb) ⟨rfl, rfl, rfl, by simp, fun k _ hk => setRow_other w b k _ hk⟩ (by simp))
end

def hCells (s : St) (ks : List Nat) (v : Value) (n : Nat) : List Value := s.list.map U32 ++ (ks.map U32 ++ [v, .int .i64 (n : Int)])
theorem hCells_length (s : St) {ks : List Nat} (h : ks.length = 64) (v : Value) (n : Nat) : (hCells s ks v n).length = 74 := by simp [hCells, St.list, h]
def HsAt (w : World) (b : Nat) (s : St) (ks : List Nat) (v : Value) (n : Nat) : Prop := w.heap[b]? = some (.cells (hCells s ks v n).toArray 228 (0, 0))
theorem hCells_72 (s : St) {ks : List Nat} (h : ks.length = 64) (v : Value) (n : Nat) : (hCells s ks v n)[72]? = some v := by
  unfold hCells
  rw [List.getElem?_append_right (by simp [St.list]), List.getElem?_append_right (by simp [St.list, h])]
  simp [St.list, h]
theorem hCells_73 (s : St) {ks : List Nat} (h : ks.length = 64) (v : Value) (n : Nat) : (hCells s ks v n)[73]? = some (.int .i64 (n : Int)) := by
  unfold hCells
  rw [List.getElem?_append_right (by simp [St.list]), List.getElem?_append_right (by simp [St.list, h])]
  simp [St.list, h]
theorem hCells_set72 (s : St) {ks : List Nat} (h : ks.length = 64) (v v' : Value) (n : Nat) : (hCells s ks v n).set 72 v' = hCells s ks v' n := by
  unfold hCells
  rw [List.set_append_right _ _ (by simp [St.list]), List.set_append_right _ _ (by simp [St.list, h])]
  simp [St.list, h]
theorem hCells_set73 (s : St) {ks : List Nat} (h : ks.length = 64) (v : Value) (n m : Nat) : (hCells s ks v n).set 73 (.int .i64 (m : Int)) = hCells s ks v m := by
  unfold hCells
  rw [List.set_append_right _ _ (by simp [St.list]), List.set_append_right _ _ (by simp [St.list, h])]
  simp [St.list, h]
theorem hCells_setS (s s' : St) (ks : List Nat) (v : Value) (n : Nat) : (hCells s ks v n).take 0 ++ s'.list.map U32 ++ (hCells s ks v n).drop (0 + (s'.list.map U32).length) = hCells s' ks v n := rfl
section
variable {w : World} {b n : Nat} {s : St} {ks : List Nat} {v : Value}
theorem HsAt.cell72 (h : HsAt w b s ks v n) (hk : ks.length = 64) : w.cell? ⟨b, 72, none⟩ = some v := by
  rw [cell_of_row _ _ 72 _ _ _ h, List.getElem?_toArray, hCells_72 s hk]
theorem HsAt.cell73 (h : HsAt w b s ks v n) (hk : ks.length = 64) : w.cell? ⟨b, 73, none⟩ = some (.int .i64 (n : Int)) := by
  rw [cell_of_row _ _ 73 _ _ _ h, List.getElem?_toArray, hCells_73 s hk]
theorem HsAt.free (h : HsAt w b s ks v n) (i : Nat) : w.frozen? ⟨b, i, none⟩ = false := by unfold HsAt at h; simp [World.frozen?, h]
theorem HsAt.set72 (h : HsAt w b s ks v n) (hk : ks.length = 64) (v' : Value) : HsAt (w.setCell ⟨b, 72, none⟩ v') b s ks v' n := by
  have e := heap_setCell_same w b 72 _ _ v' h
  rwa [List.setIfInBounds_toArray, hCells_set72 s hk] at e
theorem HsAt.set73 (h : HsAt w b s ks v n) (hk : ks.length = 64) (m : Nat) : HsAt (w.setCell ⟨b, 73, none⟩ (.int .i64 (m : Int))) b s ks v m := by
  have e := heap_setCell_same w b 73 _ _ (.int .i64 (m : Int)) h
  rwa [List.setIfInBounds_toArray, hCells_set73 s hk] at e
theorem HsAt.atS (h : HsAt w b s ks v n) : At w b 0 s.arr.toList := (At.of_row h).part (xs := [])
theorem HsAt.atK (h : HsAt w b s ks v n) : At w b 8 (ks.map U32) := by
  have h1 := At.of_row h
  unfold hCells at h1
  rw [← List.append_assoc] at h1
  simpa [St.list] using h1.part
end

def Hs (w : World) (base b : Nat) (row : Option Nat) (xs : List UInt8) : Prop :=
  ∃ v, HsAt w b (stOf xs) kInit v xs.length ∧ w.ownsRow base 5 1 v (restOf xs).length ((restOf xs).map Bv) ∧ v.ownBlock = row

theorem zero_hasher : (Tryz.zeroCells228).toList.length = 74 := by kernel_rfl
theorem zero_hasher_drop : (Tryz.zeroCells228).toList.drop 72 = [.slice none 0 0, .int .i64 0] := by kernel_rfl

set_option maxRecDepth 100000 in
set_option maxHeartbeats 4000000 in
theorem new_any (w : World) :
    Calls Tryz.prog 82 #[] w fun e w' => e = .returned (.pointer (some ⟨w.heap.size, 0, none⟩)) ∧ Hs w' w.heap.size w.heap.size none [] ∧ Below w.heap.size w w' := by
  have hB0 : Below w.heap.size w (w.alloc (.cells Tryz.zeroCells228 228)) := (Below.refl _ w).alloc (Nat.le_refl _) _
  have hBk := heap_alloc_new w (.cells Tryz.zeroCells228 228)
  have hC := consts_any (w.alloc (.cells Tryz.zeroCells228 228))
  have hz := zero_hasher
  have hzd := zero_hasher_drop
  obtain ⟨hs, hhs⟩ : ∃ hs, hs = hInit := ⟨_, rfl⟩
  obtain ⟨ks, hks⟩ : ∃ ks, ks = kInit := ⟨_, rfl⟩
  obtain ⟨zs, hzs⟩ : ∃ zs, zs = Tryz.zeroCells228 := ⟨_, rfl⟩
  have hhl : hs.length = 8 := by rw [hhs, hInit_length]
  have hkl : ks.length = 64 := by rw [hks, kInit_length]
  rw [← hhs, ← hks] at hC
  rw [← hzs] at hC hB0 hBk hz hzd
  have HHs := Lib.hid hhs
  have HKs := Lib.hid hks
  have HC := Lib.hid hC
  have HB0 := Lib.hid hB0
  have HBk := Lib.hid hBk
  have HZ := Lib.hid hz
  have HZd := Lib.hid hzd
  have HHl := Lib.hid hhl
  have HKl := Lib.hid hkl
  clear hhs hks hC hB0 hBk hz hzd hhl hkl
  go_enter Tryz.func82, Tryz.ntmps82
  go_wp2_with fail
  rw [← hzs]
  clear hzs
  refine HC.out.mono ?_
  rintro e w1 ⟨rfl, hb1⟩
  have hblk := (hb1.block w.heap.size (by simp)).trans HBk.out
  have HBlk := Lib.hid (show w1.heap[w.heap.size]? = some (.cells zs.toList.toArray 228 (0, 0)) by simpa using hblk)
  have HB1 := Lib.hid (HB0.out.trans (hb1.mono HB0.out.size))
  have HE := Lib.hid (show ((zs.toList.take 0 ++ hs.map U32 ++ zs.toList.drop (0 + (hs.map U32).length)).take 8 ++ ks.map U32 ++ (zs.toList.take 0 ++ hs.map U32 ++ zs.toList.drop (0 + (hs.map U32).length)).drop (8 + (ks.map U32).length)) = hCells (stOf []) kInit (.slice none 0 0) 0 by
    have h8 : (hs.map U32).length = 8 := by rw [List.length_map, HHl.out]
    rw [List.take_zero, List.nil_append, h8, List.length_map, HKl.out, List.take_append_of_le_length (by omega), List.take_of_length_le (by omega), List.drop_append, List.drop_of_length_le (by omega), List.nil_append, h8, List.drop_drop, HZd.out]
    have hst : (stOf []).list = hs := by rw [HHs.out]; exact sInit_list
    unfold hCells
    rw [hst, HKs.out, List.append_assoc]
    rfl)
  clear hblk hb1
  go_wp2_with (first | (refine wpList_store_lpart rfl 225 (.tmp 11) (.tmp 8) rfl w.heap.size 0 rfl (hs.map U32) rfl zs.toList _ HBlk.out (by rw [List.length_map, HHl.out, HZ.out]; omega) (U32_one hs) (by rw [info_state', List.length_map, HHl.out]) ?_; intro w2 hg2 hf2 hs2; have HG2 := Lib.hid hg2; have HF2 := Lib.hid hf2; have HS2 := Lib.hid hs2; clear hg2 hf2 hs2) | (refine wpList_store_lpart rfl 226 (.tmp 13) (.tmp 9) rfl w.heap.size 8 rfl (ks.map U32) rfl _ _ HG2.out (by simp [HHl.out, HKl.out, HZ.out]) (U32_one ks) (by rw [info_w64', List.length_map, HKl.out]) ?_; intro w3 hg3 hf3 hs3; have HG3 := Lib.hid hg3; have HF3 := Lib.hid hf3; clear hg3 hf3 hs3))
  go_ret
  refine ⟨rfl, ⟨.slice none 0 0, ?_, World.ownsRow_nil _ _ _ _, rfl⟩, ?_⟩
  · have h := HG3.out
    rw [HE.out] at h
    exact h
  · have h2 := HB1.out.trans (HF2.out.below HB1.out.size (fun j hj => by omega))
    exact h2.trans (HF3.out.below h2.size (fun j hj => by omega))

def HsM (w : World) (base b : Nat) (row : Option Nat) (st : St) (rest : List UInt8) (n : Nat) : Prop :=
  ∃ v, HsAt w b st kInit v n ∧ w.ownsRow base 5 1 v rest.length (rest.map Bv) ∧ v.ownBlock = row
theorem Hs.mid {w : World} {base b : Nat} {row : Option Nat} {xs : List UInt8} (h : Hs w base b row xs) : HsM w base b row (stOf xs) (restOf xs) xs.length := h
theorem HsM.row_ne {w : World} {base b n : Nat} {row : Option Nat} {st : St} {rest : List UInt8} (h : HsM w base b row st rest n) : row ≠ some b := by
  obtain ⟨v, h1, h2, rfl⟩ := h
  rcases h2.2 with ⟨rfl, _⟩ | ⟨g, cap, cur, rfl, _, h3, _⟩
  · simp [Value.ownBlock]
  · simp only [Value.ownBlock, ne_eq, Option.some.injEq]
    rintro rfl
    rw [show w.heap[g]? = _ from h1] at h3
    simp at h3
theorem HsM.lt {w : World} {base b n : Nat} {row : Option Nat} {st : St} {rest : List UInt8} (h : HsM w base b row st rest n) : b < w.heap.size ∧ ∀ k, row = some k → base ≤ k ∧ k < w.heap.size := by
  obtain ⟨v, h1, h2, rfl⟩ := h
  exact ⟨lt_of_block h1, h2.lt⟩
theorem HsM.fr {w w' : World} {S : Nat → Prop} {base b n : Nat} {row : Option Nat} {st : St} {rest : List UInt8} (h : HsM w base b row st rest n) (hf : Fr S w w') (h1 : ¬ S b) (h2 : ∀ k, row = some k → ¬ S k) : HsM w' base b row st rest n := by
  have hlt := h.lt
  obtain ⟨v, hb, ho, rfl⟩ := h
  exact ⟨v, (hf.block b hlt.1 h1).trans hb, ho.fr hf h2, rfl⟩
def Took (w w' : World) (base b : Nat) (row : Option Nat) (xs : List UInt8) : Prop :=
  ∃ row', Hs w' base b row' xs ∧ Fr (WS b row) w w' ∧ ∀ k, row' = some k → row = some k ∨ w.heap.size ≤ k

theorem headQ_le (xs : List UInt8) : 64 * headQ xs ≤ xs.length := by unfold headQ; omega
theorem stOf_append (xs ys : List UInt8) : blocksN sInit (xs ++ ys) (headQ xs) = stOf xs := blocksN_append _ _ _ _ (headQ_le xs)
theorem restOf_append (xs ys : List UInt8) : (xs ++ ys).drop (64 * headQ xs) = restOf xs ++ ys := by
  rw [List.drop_append_of_le_length (headQ_le xs)]; rfl
def WrRel (w : World) (base b : Nat) (row : Option Nat) (all : List UInt8) (q : Nat) (wr : World) : Prop :=
  ∃ row', HsM wr base b row' (blocksN sInit all q) (all.drop (64 * q)) all.length ∧ Fr (WS b row) w wr ∧ ∀ k, row' = some k → row = some k ∨ w.heap.size ≤ k
def lenOf : Option Value → Nat
  | some (.slice _ n _) => n
  | _ => 0
theorem HsM.measure {w : World} {base b n : Nat} {row : Option Nat} {st : St} {rest : List UInt8} (h : HsM w base b row st rest n) : lenOf (w.cell? ⟨b, 72, none⟩) = rest.length := by
  obtain ⟨v, h1, h2, _⟩ := h
  rw [h1.cell72 kInit_length]
  obtain ⟨a, c, rfl, _⟩ := (Sl.own h2).len
  rfl
theorem WrRel.done {w wr : World} {base b : Nat} {row : Option Nat} {all : List UInt8} {q : Nat} (h : WrRel w base b row all q wr) (hq : 64 * q ≤ all.length) (hl : all.length < 64 * q + 64) : Took w wr base b row all := by
  obtain ⟨row', h1, h2, h3⟩ := h
  have e : q = headQ all := by unfold headQ; omega
  subst e
  exact ⟨row', h1, h2, h3⟩

set_option maxRecDepth 100000 in
set_option maxHeartbeats 4000000 in
theorem write_any (b base : Nat) (row : Option Nat) (xs ys : List UInt8) (v : Value) (w : World) (h : Hs w base b row xs) (hbase : base ≤ w.heap.size) (hv : Sl w 1 v ys.length (ys.map Bv)) (hr : xs.length + ys.length ≤ 140737488351232) :
    Calls Tryz.prog 83 #[.pointer (some ⟨b, 0, none⟩), v] w fun e w' => e = .returned (.int .i64 0) ∧ Took w w' base b row (xs ++ ys) := by
  obtain ⟨all, hall⟩ : ∃ all, all = xs ++ ys := ⟨_, rfl⟩
  rw [← hall]
  have HAll := Lib.hid hall
  clear hall
  obtain ⟨ks, hks⟩ : ∃ ks, ks = kInit := ⟨_, rfl⟩
  have hkl : ks.length = 64 := by rw [hks, kInit_length]
  have hne := h.mid.row_ne
  have hlt := h.mid.lt
  obtain ⟨v0, hb, ho, rfl⟩ := h
  rw [← hks] at hb
  have c73 := hb.cell73 hkl
  have f73 := hb.free 73
  have hb1 := hb.set73 hkl (xs.length + ys.length)
  have hc : ((xs.length + ys.length : Nat) : Int) = (xs.length : Int) + (ys.length : Int) := by omega
  rw [hc] at hb1
  have c72 := hb1.cell72 hkl
  have f72 := hb1.free 72
  obtain ⟨av, cv, rfl, _⟩ := hv.len
  have hv1 : Sl (w.setCell ⟨b, 73, none⟩ (.int .i64 ((xs.length : Int) + (ys.length : Int)))) 1 (.slice av ys.length cv) ys.length (ys.map Bv) := by
    refine hv.cells ?_
    intro p u hu hp
    obtain ⟨x, _, rfl⟩ := List.mem_map.1 hu
    exact cell_set_other hp c73 (by simp [Bv])
  have ho1 := ho.set_other (fun e => hne e) 73 (.int .i64 ((xs.length : Int) + (ys.length : Int)))
  have HKs := Lib.hid hks
  have HKl := Lib.hid hkl
  have HNe := Lib.hid hne
  have HLt := Lib.hid hlt
  have HB1 := Lib.hid hb1
  have HV1 := Lib.hid hv1
  have HO1 := Lib.hid ho1
  have HRl := Lib.hid (restOf_length xs)
  have hrl : (restOf xs).length ≤ xs.length := by rw [restOf_length]; exact Nat.mod_le _ _
  have HF1 := Lib.hid (Fr.set (S := WS b v0.ownBlock) (Fr.refl _ w) b 73 (Or.inl rfl) (.int .i64 ((xs.length : Int) + (ys.length : Int))))
  have HBase := Lib.hid (show base ≤ (w.setCell ⟨b, 73, none⟩ (.int .i64 ((xs.length : Int) + (ys.length : Int)))).heap.size by simpa using hbase)
  clear hks hkl hne hlt hb hv ho hb1 hv1 ho1 hc
  go_enter Tryz.func83, Tryz.ntmps83
  go_wp2_with (at_builtin; refine append_u8 rfl (.tmp 20) (.tmp 21) rfl HO1.out HV1.out rfl rfl (by omega) HBase.out ?_)
  intro aa cc w2 hown hf h3
  have hb2 : HsAt w2 b (stOf xs) ks v0 (xs.length + ys.length) := (hf.block b (lt_of_block HB1.out) (fun e => HNe.out e)).trans HB1.out
  have hne2 : (Value.slice aa ((restOf xs).length + ys.length) cc).ownBlock ≠ some b := by
    rcases h3 with e | e
    · rw [e]; exact HNe.out
    · rw [e]; have := HLt.out.1; simp; omega
  have c72 := hb2.cell72 HKl.out
  have f72 := hb2.free 72
  have hb3 := hb2.set72 HKl.out (.slice aa ((restOf xs).length + ys.length) cc)
  have ho3 := hown.set_other hne2 72 (.slice aa ((restOf xs).length + ys.length) cc)
  have hf3 : Fr (WS b v0.ownBlock) w (w2.setCell ⟨b, 72, none⟩ (.slice aa ((restOf xs).length + ys.length) cc)) :=
    (HF1.out.trans (hf.mono (fun k _ e => Or.inr e))).set b 72 (Or.inl rfl) _
  have hrel0 : WrRel w base b v0.ownBlock (xs ++ ys) (headQ xs) (w2.setCell ⟨b, 72, none⟩ (.slice aa ((restOf xs).length + ys.length) cc)) := by
    refine ⟨(Value.slice aa ((restOf xs).length + ys.length) cc).ownBlock, ⟨.slice aa ((restOf xs).length + ys.length) cc, ?_, ?_, rfl⟩, hf3, fun k hk => ?_⟩
    · rw [stOf_append, ← HKs.out, List.length_append]; exact hb3
    · rw [restOf_append, List.length_append, List.map_append]; exact ho3
    · rcases h3 with e | e
      · rw [e] at hk; exact Or.inl hk
      · rw [e] at hk; simp at hk; exact Or.inr (by omega)
  have HRel0 := Lib.hid hrel0
  have hal : (xs ++ ys).length ≤ 140737488351232 := by rw [List.length_append]; exact hr
  have HQ0 := Lib.hid (show 64 * headQ xs ≤ (xs ++ ys).length by have := headQ_le xs; rw [List.length_append]; omega)
  rw [← HAll.out] at HRel0 hal HQ0
  obtain ⟨q0, hq0⟩ : ∃ q0, q0 = headQ xs := ⟨_, rfl⟩
  rw [← hq0] at HRel0 HQ0
  clear hown hf h3 hb2 hne2 hb3 ho3 hf3 hrel0 hq0 HB1 HV1 HO1 HRl HF1 HBase c73 f73
  go_wp2_with fail
  go_loopw [30] (fun _ wr => ∃ q : Nat, 64 * q ≤ all.length ∧ WrRel w base b v0.ownBlock all q wr) (fun _ wr => lenOf (wr.cell? ⟨b, 72, none⟩))
  case atStart => exact ⟨q0, HQ0.out, HRel0.out⟩
  case round =>
    obtain ⟨q, hq, row', hm, hfr, hrow⟩ := hrel
    have hmeas := hm.measure
    have hlt := hm.lt
    have hne := hm.row_ne
    have hrest : (all.drop (64 * q)).length = all.length - 64 * q := List.length_drop
    obtain ⟨vr, hb, ho, rfl⟩ := hm
    rw [← HKs.out] at hb
    obtain ⟨ar, cr, rfl, _⟩ := (Sl.own ho).len
    have c72 := hb.cell72 HKl.out
    obtain ⟨rest, hrr⟩ : ∃ rest, rest = all.drop (64 * q) := ⟨_, rfl⟩
    rw [← hrr] at hmeas hrest hb ho c72 hrow hne hlt
    obtain ⟨rl, hrl⟩ : ∃ rl, rl = rest.length := ⟨_, rfl⟩
    rw [← hrl] at hmeas hrest hb ho c72 hrow hne hlt
    rcases Nat.lt_or_ge rl 64 with hlt64 | hge
    · have HT := Lib.hid (show Took w wr base b v0.ownBlock all from WrRel.done ⟨_, ⟨_, by rw [← HKs.out]; exact hb, by rw [← hrr, ← hrl]; exact ho, rfl⟩, hfr, hrow⟩ hq (by omega))
      clear hmeas hlt hne hrest hb ho hrr hrl hfr hrow
      go_wp2
      go_ret
      exact ⟨rfl, HT.out⟩
    · have hstok : (blocksN sInit all q).Ok := blocksN_ok _ sInit_ok _
      obtain ⟨st, hst⟩ : ∃ st, st = blocksN sInit all q := ⟨_, rfl⟩
      rw [← hst] at hb hstok
      obtain ⟨A, C, qs, hA⟩ := cut_u8_hi (Sl.own ho) (hi := 64) hge
      rw [show ((64 : Nat) : Int) = 64 from rfl] at qs
      have htk := fun (u : Wd wr.heap.size wr) => Calls.wd u (Nat.le_refl _) (take_any st hstok (.slice A 64 C) (rest.take 64) b 8 ks u.to (hA.below u.hb) (u.at hb.atK) HKl.out (by rw [HKs.out]; exact kInit_lt))
      have hs' : addSt (roundsN st ks (spreadL (rest.take 64) 64) 64) st = blocksN sInit all (q + 1) := by
        rw [hst, hrr, HKs.out]; rfl
      rw [hs'] at htk
      obtain ⟨st', hst'⟩ : ∃ st', st' = blocksN sInit all (q + 1) := ⟨_, rfl⟩
      rw [← hst'] at htk
      have u72 := fun (u : Wd wr.heap.size wr) => u.cell' c72
      have HU := Lib.hid (fun w' (hw : ∃ u : Wd wr.heap.size wr, w' = u.to) => (by obtain ⟨u, rfl⟩ := hw; exact u.at hb.atS : At w' b 0 st.arr.toList))
      have HTk := Lib.hid htk
      have HMeas := Lib.hid hmeas
      have HLt := Lib.hid hlt
      have HNe := Lib.hid hne
      have HRest := Lib.hid hrest
      have HRr := Lib.hid hrr
      have HRl := Lib.hid hrl
      have HSt' := Lib.hid hst'
      have HBk := Lib.hid hb
      have HO := Lib.hid ho
      have HFr := Lib.hid hfr
      have HRow := Lib.hid hrow
      clear hmeas hlt hne hrest hrr hrl hs' hst' hb ho hfr hrow htk hst hA hstok
      go_wp2_with fail
      refine wp_region_class_tail 16 (C := fun w' => ∃ u : Wd wr.heap.size wr, w' = u.to) (by kernel_rfl) (by kernel_rfl) ⟨⟨{ wr with drawn := wr.drawn + 1 }, (Below.refl _ wr).drew⟩, rfl⟩ ?_
      simp only [List.take_succ_cons, List.take_zero, List.drop_succ_cons, List.drop_zero]
      repeat (first | (refine wpQuiet_load_at rfl 225 (.tmp 34) rfl b 0 rfl _ _ HU.out Tryz.underlying225 rfl (by rw [info_state']; rfl) ?_; simp only [Act.put, List.setIfInBounds_toArray, List.set_cons_succ, List.set_cons_zero, Array.toArray_toList]) | go_big_quiet_step (with_reducible exact HTk.out _))
      refine wpQuiet_nil ?_
      rintro _ ⟨⟨w5, hb5⟩, rfl⟩
      have HBk5 := Lib.hid ((hb5.block b (lt_of_block HBk.out)).trans HBk.out)
      have HO5 := Lib.hid (HO.out.fr (Fr.of_below (S := fun _ => False) hb5) (fun _ _ => id))
      have HFr5 := Lib.hid (HFr.out.trans (Fr.of_below (S := WS b v0.ownBlock) hb5))
      have hsz5 := hb5.size
      clear hb5 u72 c72
      refine wpList_store_lpart rfl 225 (.tmp 46) (.tmp 44) rfl b 0 rfl (st'.list.map U32) rfl _ _ HBk5.out (by rw [hCells_length _ HKl.out]; show 8 ≤ 74; decide) (U32_one _) (by rw [info_state']; rfl) ?_
      intro w6 hg6 hf6 hs6
      rw [hCells_setS] at hg6
      have hb6 : HsAt w6 b st' ks (.slice ar rl cr) all.length := hg6
      have c72 := hb6.cell72 HKl.out
      have f72 := hb6.free 72
      have ho6 := HO5.out.fr hf6 (fun k hk e => HNe.out (e ▸ hk))
      obtain ⟨A', C', qs', hA', hoA'⟩ := cut_u8_lo' (Sl.own ho6) (lo := 64) hge
      rw [show ((64 : Nat) : Int) = 64 from rfl] at qs'
      have HA' := Lib.hid hA'
      have HBk6 := Lib.hid hb6
      have HO6 := Lib.hid ho6
      have HFr6 := Lib.hid (HFr5.out.trans (hf6.mono (fun k _ e => Or.inl e)))
      have hsz6 : wr.heap.size ≤ w6.heap.size := by omega
      have hle : rl - 64 ≤ 140737488351232 := by have := HRest.out; omega
      clear hg6 hf6 hs6 hb6 ho6 hA' hoA' qs
      go_wp2_with fail
      refine (clone_any _ _ (rl - 64) _ HA'.out hle).mono ?_
      rintro e w7 ⟨ac, cc', rfl, hown7, hb7⟩
      have hbk7 : HsAt w7 b st' ks (.slice ar rl cr) all.length := (hb7.block b (lt_of_block HBk6.out)).trans HBk6.out
      have c72 := hbk7.cell72 HKl.out
      have f72 := hbk7.free 72
      have hb8 := hbk7.set72 HKl.out (.slice ac (rl - 64) cc')
      have hne7 : (Value.slice ac (rl - 64) cc').ownBlock ≠ some b := fun e => by
        have h1 := (hown7.lt b e).1
        have := lt_of_block HBk6.out
        omega
      have HRel := Lib.hid (show WrRel w base b v0.ownBlock all (q + 1) (w7.setCell ⟨b, 72, none⟩ (.slice ac (rl - 64) cc')) by
        refine ⟨(Value.slice ac (rl - 64) cc').ownBlock, ⟨.slice ac (rl - 64) cc', ?_, ?_, rfl⟩, (HFr6.out.trans (Fr.of_below hb7)).set b 72 (Or.inl rfl) _, fun k hk => ?_⟩
        · rw [← HSt'.out, ← HKs.out]; exact hb8
        · have h1 := (hown7.base (by have := HFr6.out.size; omega : base ≤ w6.heap.size)).set_other hne7 72 (.slice ac (rl - 64) cc')
          have e1 : all.drop (64 * (q + 1)) = rest.drop 64 := by rw [HRr.out, List.drop_drop, Nat.mul_succ]
          rw [e1, List.length_drop, ← HRl.out]
          exact h1
        · have := (hown7.lt k hk).1
          have := HFr6.out.size
          exact Or.inr (by omega))
      have hq1 : 64 * (q + 1) ≤ all.length := by have := HRest.out; omega
      clear hown7 hb7 hbk7 hb8 hne7
      have HMe := Lib.hid (show lenOf ((w7.setCell ⟨b, 72, none⟩ (.slice ac (rl - 64) cc')).cell? ⟨b, 72, none⟩) = rl - 64 by
        obtain ⟨row', h1, _⟩ := HRel.out
        rw [h1.measure, List.length_drop]; have := HRest.out; omega)
      go_wp2
      go_roundw
      case rel => exact ⟨q + 1, hq1, HRel.out⟩
      case measure => rw [HMe.out, HMeas.out]; omega
end Go.Proofs.YtkbnkdokcmpcgaaGreatDoor
namespace Go.Proofs.YtkbnkdokcmpcgaaGreatDoor
open Go.RowKit

section
variable {P : Program} {ops : Array Oper} {md : Region.Mode} {Q : Exit → Act → World → Prop}

def noDefer (o : Oper) : Bool := match o.op with
  | .defer _ => false
  | _ => true
theorem noDefer_spec {o : Oper} (h : noDefer o = true) : ∀ c, o.op ≠ .defer c := by
  intro c e
  unfold noDefer at h
  rw [e] at h
  cases h

theorem rowsIn_round {n l : Nat} {row : String} {args : Array Value} {w : World} {R : Value → World → Prop} (h : Rows P row args w R) : RowsIn (Fence.wide.inRound l) n P row args w R := fun c cs _ => by
  obtain ⟨v, w', hr, hs⟩ := h c cs
  exact ⟨v, w', hr, stepsIn_wide.2 hs⟩
theorem oper_in_round {n l : Nat} {o : Oper} {a : Act} {w : World} {K : Act → World → Prop} (hd : noDefer o = true) (h : Oper.wp P o a w K Q) : Oper.wpIn (Fence.wide.inRound l) n P o a w K Q := by
  refine ⟨fun _ _ => trivial, ?_⟩
  show o.uponIn (Fence.wide.inRound l) n P a K Q ((o.semAt (some l) a.eval).run P w)
  rw [Oper.semAt_some l _ o (noDefer_spec hd)]
  unfold Oper.wp at h
  generalize (execOp a.eval o).run P w = r at *
  cases r with
  | ok x w' =>
    cases x <;> simp only [Oper.upon] at h <;> simp only [Oper.uponIn]
    case value u => exact h
    case skip => exact h
    case defer d => exact h
    case enter f args => exact ⟨fun hh => (by cases hh), CallsIn.inRound l (callsIn_wide.2 h)⟩
    case row row args => exact ⟨fun hh => (by cases hh), rowsIn_round h⟩
  | halt x w' => cases x <;> simp only [Oper.upon] at h <;> simp only [Oper.uponIn] <;> exact h
theorem wpOp_in_round {n l i : Nat} {a : Act} {w : World} {K : Act → World → Prop} (hQ : ¬ LetsOut Q) (hd : ∀ (j : Nat) o, ops[j]? = some o → noDefer o = true) (h : wpOp P ops Q i K a w) : wpOpIn (Fence.wide.inRound l) n P ops Q i K a w := by
  unfold wpOp at h
  unfold wpOpIn
  cases ho : ops[i]? with
  | none => rw [ho] at h; exact h
  | some o =>
    rw [ho] at h
    simp only at h ⊢
    split
    · rename_i hw
      rw [if_pos hw] at h
      rcases h with h | h
      · exact oper_in_round (hd i o ho) h
      · exact absurd h.2 hQ
    · rename_i hw
      rw [if_neg hw] at h
      exact ⟨fun _ _ => trivial, h⟩
theorem wpAny_in_round {n l : Nat} (hQ : ¬ LetsOut Q) (hd : ∀ (j : Nat) o, ops[j]? = some o → noDefer o = true) : ∀ (fuel : Nat) (listed : Array Bool) (a : Act) (w : World), wpAny P md ops Q fuel listed a w → wpAnyIn (Fence.wide.inRound l) n P md ops Q fuel listed a w
  | 0, _, _, _, h => h
  | fuel + 1, _, _, _, h => ⟨h.1, fun i hi => wpOpIn_mono (fun a' w' h' => wpAny_in_round hQ hd fuel _ a' w' h') (wpOp_in_round hQ hd (h.2 i hi))⟩

theorem wpIn_region_round {n l id : Nat} {a : Act} {w : World} (hm : P.follows .mixedOrders = true) (hQ : ¬ LetsOut Q) (hd : ops.all noDefer = true) (h : wpAny P .any ops Q ops.size (Array.replicate ops.size false) a { w with drawn := w.drawn + 1 }) :
    (Code.region id ops true).wpIn (Fence.wide.inRound l) n P Q a w :=
  wpIn_region_any hm (wpAny_in_round hQ (fun j o hj => by
    have := Array.all_eq_true.1 hd j (Array.getElem?_eq_some_iff.1 hj).1
    rwa [(Array.getElem?_eq_some_iff.1 hj).2] at this) _ _ _ _ h)
end

end Go.Proofs.YtkbnkdokcmpcgaaGreatDoor
namespace Go.Proofs.YtkbnkdokcmpcgaaGreatDoor
open Go.RowKit

theorem size_u8' : (Tryz.prog.info? 5).map (·.size) = some 1 := by kernel_rfl

def over {α : Type} (cur : List α) (off : Nat) (ys : List α) : List α := cur.take off ++ (ys ++ cur.drop (off + ys.length))
theorem over_all {α : Type} (cur ys : List α) (h : ys.length = cur.length) : over cur 0 ys = ys := by simp [over, h]

theorem copy_u8 {w : World} {ops : Array Oper} {rest : List Oper} {o : Oper} {a : Act} {Q : Exit → Act → World → Prop} (hgd : o.guard = none) (d s : Operand)
    (ho : o.op = .call { callee := .builtin .copy, args := #[d, s], argTypes := #[26, 26] })
    {g off dLen dCap : Nat} {vs : Value} {cur : List UInt8} {t : TypeId} (hg : w.heap[g]? = some (.cells (cur.map Bv).toArray t (0, 0))) {n : Nat} {ys : List UInt8} (hsrc : Sl w 1 vs n (ys.map Bv))
    (hd : a.eval d = .slice (some ⟨g, off, none⟩) dLen dCap) (hs : a.eval s = vs) (hfit : off + min n dLen ≤ cur.length)
    (h : ∀ w', w'.heap[g]? = some (.cells ((over cur off (ys.take (min n dLen))).map Bv).toArray t (0, 0)) → Fr (fun k => k = g) w w' → wpList Tryz.prog ops Q rest (a.put o.dst (.int .i64 (min n dLen : Nat))) w') :
    wpList Tryz.prog ops Q (o :: rest) a w := by
  obtain ⟨hl, sp, sCap, rfl, hsc, hnil, hc⟩ := hsrc
  have hyl : ys.length = n := by simpa using hl
  by_cases h0 : min n dLen = 0
  · refine wpList_copy_nothing hgd d s _ _ ho 5 Tryz.underlying26 size_u8' _ _ dLen dCap n sCap hd hs (by simpa [Nat.min_def] using h0) ?_
    have := h w (by rw [h0]; simpa [over] using hg) (Fr.refl _ _)
    rw [h0] at this
    exact this
  · have hn0 : 0 < n := by omega
    obtain ⟨b, o', rfl, _⟩ := hc 0 (Bv (ys[0]'(by omega))) (by simp [show 0 < ys.length by omega])
    have hlt : (ys.take (min n dLen)).length = min n dLen := by rw [List.length_take]; omega
    refine wpList_copy_own hgd d s _ _ ho 5 Tryz.underlying26 size_u8' g off dLen dCap ⟨b, o', none⟩ n sCap hd hs _ t hg ((ys.take (min n dLen)).map Bv) (by rw [List.length_map, hlt]) ?_ (by simp only [List.length_map, hlt, List.size_toArray]; exact hfit) (Bv_oneCell _) ?_
    · intro j u hj
      rw [List.map_take, List.getElem?_take] at hj
      split at hj
      · obtain ⟨b2, o2, e, hc2⟩ := hc j u hj
        simp only [Option.some.injEq, Addr.mk.injEq, and_true] at e
        obtain ⟨rfl, rfl⟩ := e
        rw [Addr.add_lit]; exact hc2
      · cases hj
    · have e2 : (((cur.map Bv).toArray).toList.take off ++ ((ys.take (min n dLen)).map Bv ++ ((cur.map Bv).toArray).toList.drop (off + ((ys.take (min n dLen)).map Bv).length))).toArray = ((over cur off (ys.take (min n dLen))).map Bv).toArray := by
        simp [over]
      rw [e2]
      have e3 : goInt ((ys.take (min n dLen)).map Bv).length = .int .i64 (min n dLen : Nat) := by rw [List.length_map, hlt]; rfl
      rw [e3]
      exact h _ (setRow_heap w g _ _ t _ hg) ⟨rfl, rfl, rfl, by simp, fun k _ hk => setRow_other w g k _ hk⟩

end Go.Proofs.YtkbnkdokcmpcgaaGreatDoor
namespace Go.Proofs.YtkbnkdokcmpcgaaGreatDoor
open Go.RowKit

theorem Bv_ne_slice (x : UInt8) (a : Option Addr) (n c : Nat) : Bv x ≠ .slice a n c := by simp [Bv]

theorem Rd.fr {w w' : World} {S : Nat → Prop} {b : Nat} {xs : List UInt8} (h : Rd w b xs) (hf : Fr S w w') (h1 : ¬ S b) (h2 : ∀ p (x : UInt8), w.cell? p = some (Bv x) → ¬ S p.block) : Rd w' b xs := by
  obtain ⟨v, hb, hs⟩ := h
  refine ⟨v, (hf.block b (lt_of_block hb) h1).trans hb, hs.cells ?_⟩
  intro p u hu hp
  obtain ⟨x, _, rfl⟩ := List.mem_map.1 hu
  exact hf.cell hp (h2 p x hp)
theorem Rd.below {w w' : World} {b : Nat} {xs : List UInt8} (h : Rd w b xs) (hf : Below w.heap.size w w') : Rd w' b xs :=
  h.fr (Fr.of_below (S := fun _ => False) hf) id (fun _ _ _ => id)

theorem take_pre (b : Nat) (xs : List UInt8) (w : World) (h : Rd w b xs) : ∃ a cap, w.cell? ⟨b, 0, none⟩ = some (.slice a xs.length cap) ∧ w.frozen? ⟨b, 0, none⟩ = false ∧ w.heap[b]? = some (.cells #[.slice a xs.length cap] 258 (0, 0)) ∧ Sl w 1 (.slice a xs.length cap) xs.length (xs.map Bv) := by
  obtain ⟨v, hb, hs⟩ := h
  obtain ⟨a, cap, rfl, _⟩ := hs.len
  exact ⟨a, cap, cell_of_one hb, free_of_one hb, hb, hs⟩

set_option maxHeartbeats 400000 in
theorem take_short (b : Nat) (xs : List UInt8) (skip n : Int) (w : World) (h : Rd w b xs) (h0 : 0 ≤ skip) (h1 : skip ≤ 1) (hn : (xs.length : Int) - skip < n) (hr : xs.length ≤ 140737488351232) :
    Calls Tryz.prog 148 #[.pointer (some ⟨b, 0, none⟩), .int .i64 skip, .int .i64 n] w fun e w' => e = .returned (.tuple #[.slice none 0 0, .int .i64 3]) ∧ w = w' := by
  obtain ⟨a, cap, hc, hf, hb, hs⟩ := take_pre b xs w h
  clear hb hs h
  go_enter Tryz.func148, Tryz.ntmps148
  go_wp2
  go_ret2
  exact ⟨rfl, rfl⟩

def RdO (w : World) (b : Nat) (ob : Option Nat) (xs : List UInt8) : Prop :=
  ∃ v, w.heap[b]? = some (.cells #[v] 258 (0, 0)) ∧ Sl w 1 v xs.length (xs.map Bv) ∧ v.ownBlock = ob
theorem RdO.rd {w : World} {b : Nat} {ob : Option Nat} {xs : List UInt8} (h : RdO w b ob xs) : Rd w b xs := by
  obtain ⟨v, h1, h2, _⟩ := h; exact ⟨v, h1, h2⟩
theorem Rd.ob {w : World} {b : Nat} {xs : List UInt8} (h : Rd w b xs) : ∃ ob, RdO w b ob xs := by
  obtain ⟨v, h1, h2⟩ := h; exact ⟨_, v, h1, h2, rfl⟩
theorem RdO.fr {w w' : World} {S : Nat → Prop} {b : Nat} {ob : Option Nat} {xs : List UInt8} (h : RdO w b ob xs) (hf : Fr S w w') (h1 : ¬ S b) (h2 : ∀ k, ob = some k → ¬ S k) : RdO w' b ob xs := by
  obtain ⟨v, hb, hs, rfl⟩ := h
  refine ⟨v, (hf.block b (lt_of_block hb) h1).trans hb, hs.fr hf ?_, rfl⟩
  rintro a m c rfl
  exact h2 _ rfl
theorem RdO.lt {w : World} {b : Nat} {ob : Option Nat} {xs : List UInt8} (h : RdO w b ob xs) (hx : xs ≠ []) : ∀ k, ob = some k → k < w.heap.size := by
  obtain ⟨v, hb, ⟨_, a, c, rfl, _, _, h4⟩, rfl⟩ := h
  obtain ⟨x, l, rfl⟩ : ∃ x l, xs = x :: l := by cases xs with | nil => exact absurd rfl hx | cons x l => exact ⟨x, l, rfl⟩
  obtain ⟨b', o', rfl, hc⟩ := h4 0 (Bv x) rfl
  intro k hk
  simp only [Value.ownBlock, Option.some.injEq] at hk
  subst hk
  exact World.block_lt_of_cell? w _ hc

set_option maxHeartbeats 400000 in
theorem take_stay (b : Nat) (ob : Option Nat) (xs : List UInt8) (skip n : Nat) (w : World) (h0 : RdO w b ob xs) (hn : skip + n ≤ xs.length) (hr : xs.length ≤ 140737488351232) :
    Calls Tryz.prog 148 #[.pointer (some ⟨b, 0, none⟩), .int .i64 (skip : Int), .int .i64 (n : Int)] w fun e w' => ∃ aa cc, e = .returned (.tuple #[.slice aa n cc, .int .i64 0]) ∧
      w'.ownsRow w.heap.size 5 1 (.slice aa n cc) n (((xs.drop skip).take n).map Bv) ∧ RdO w' b ob (xs.drop (skip + n)) ∧ Fr (fun k => k = b) w w' := by
  obtain ⟨v, hb, hs, rfl⟩ := h0
  obtain ⟨a, cap, rfl, _⟩ := hs.len
  have hc := cell_of_one hb
  have hf := free_of_one hb
  obtain ⟨A, C, q, hA⟩ := cut_u8 hs (lo := skip) (hi := skip + n) (by omega) hn
  obtain ⟨A', C', q', hA', hoA⟩ := cut_u8_lo' hs (lo := skip + n) hn
  have e : skip + n - skip = n := by omega
  have ec : ((skip + n : Nat) : Int) = (skip : Int) + (n : Int) := by omega
  rw [e] at hA q
  rw [ec] at q q'
  have HA := Lib.hid hA
  have HA' := Lib.hid hA'
  have HOA := Lib.hid hoA
  have HB := Lib.hid hb
  have hlt : b < w.heap.size := lt_of_block hb
  have b1 : ¬ (xs.length : Int) - (skip : Int) < (n : Int) := by omega
  clear hA hA' hb hs e ec hoA
  go_enter Tryz.func148, Tryz.ntmps148
  go_wp2_with fail
  refine (clone_any _ _ n _ HA.out (by omega)).mono ?_
  rintro e w1 ⟨aa, cc, rfl, hown, hbel⟩
  have c1 := (hbel.cell (p := ⟨b, 0, none⟩) hlt).trans hc
  have f1 := (hbel.frozen (p := ⟨b, 0, none⟩) hlt).trans hf
  have HB1 := Lib.hid ((hbel.block b hlt).trans HB.out)
  have HA1 := Lib.hid (HA'.out.below hbel)
  have HO := Lib.hid hown
  have HBel := Lib.hid hbel
  clear hown hbel hc hf
  go_wp2
  go_ret2
  refine ⟨_, _, rfl, HO.out.set_other ?_ 0 _, ?_, Fr.set (S := fun k => k = b) (Fr.of_below HBel.out) b 0 rfl _⟩
  · intro e
    have := HO.out.lt b e
    omega
  · refine ⟨_, one_setCell HB1.out, ?_, HOA.out⟩
    have e : (xs.drop (skip + n)).length = xs.length - (skip + n) := List.length_drop
    rw [e]
    refine HA1.out.cells ?_
    intro p u hu hp
    obtain ⟨x, _, rfl⟩ := List.mem_map.1 hu
    exact cell_set_other hp c1 (Bv_ne_slice x _ _ _)

theorem rLeft_any (b : Nat) (xs : List UInt8) (w : World) (h : Rd w b xs) :
    Calls Tryz.prog 150 #[.pointer (some ⟨b, 0, none⟩)] w fun e w' => e = .returned (.int .i64 (xs.length : Int)) ∧ w = w' := by
  obtain ⟨a, cap, hc, hf, hb, hs⟩ := take_pre b xs w h
  clear hb hs h hf
  go_enter Tryz.func150, Tryz.ntmps150
  go_wp2
  go_ret
  exact ⟨rfl, rfl⟩

set_option maxHeartbeats 400000 in
theorem rNum_short (b : Nat) (xs : List UInt8) (n : Nat) (w : World) (h : Rd w b xs) (h8 : n ≤ 8) (hn : xs.length < n) :
    Calls Tryz.prog 118 #[.pointer (some ⟨b, 0, none⟩), .int .i64 (n : Int)] w fun e w' => e = .returned (.tuple #[.int .u64 0, .int .i64 3]) ∧ w = w' := by
  have HH := Lib.hid h
  have b1 : decide ((n : Int) < 0) = false := by simp
  have b2 : decide ((8 : Int) < (n : Int)) = false := by simp; omega
  clear h
  go_enter Tryz.func118, Tryz.ntmps118
  go_wp2_with fail
  refine (take_short b xs 0 n _ HH.out (by omega) (by omega) (by omega) (by omega)).mono ?_
  rintro e w1 ⟨rfl, rfl⟩
  go_wp2
  go_ret2
  exact ⟨rfl, rfl⟩

theorem rNum_arg (b : Nat) (n : Int) (w : World) (h : n < 0 ∨ 8 < n) :
    Calls Tryz.prog 118 #[.pointer (some ⟨b, 0, none⟩), .int .i64 n] w fun e w' => e = .returned (.tuple #[.int .u64 0, .int .i64 2]) ∧ w = w' := by
  rcases h with h | h
  · go_enter Tryz.func118, Tryz.ntmps118
    go_wp2
    go_ret2
    exact ⟨rfl, rfl⟩
  · have h0 : ¬ n < 0 := by omega
    go_enter Tryz.func118, Tryz.ntmps118
    go_wp2
    go_ret2
    exact ⟨rfl, rfl⟩

def strB (s : ByteArray) : List UInt8 := UInt8.ofNat s.size :: s.data.toList
theorem strB_length (s : ByteArray) : (strB s).length = s.size + 1 := by
  simp only [strB, List.length_cons, Array.length_toList]; rfl

set_option maxHeartbeats 400000 in
theorem wStr_ok (b base : Nat) (row : Option Nat) (os : List UInt8) (s : ByteArray) (w : World) (hw : Wr w base b row os) (hbase : base ≤ w.heap.size) (h8 : s.size ≤ 255) (hr : os.length + 256 ≤ 140737488351232) :
    Calls Tryz.prog 104 #[.pointer (some ⟨b, 0, none⟩), .string s] w fun e w' => e = .returned (.int .i64 0) ∧ Laid w w' base b row (os ++ strB s) := by
  have HW := Lib.hid hw
  have hown := World.ownsRow_lit (e := 5) (size := 1) (base := w.heap.size) w #[.int .u8 (s.size : Int)] 1 (Nat.le_refl _) (by decide) rfl
  have ev : ([.int .u8 (s.size : Int)] : List Value) = [UInt8.ofNat s.size].map Bv := by simp [Bv, UInt8.toNat_ofNat', Nat.mod_eq_of_lt (show s.size < 256 by omega)]
  have hown' : (w.alloc (.cells #[.int .u8 (s.size : Int)] 5)).ownsRow w.heap.size 5 1 (.slice (some ⟨w.heap.size, 0, none⟩) 1 1) 1 ([UInt8.ofNat s.size].map Bv) := by rw [← ev]; exact hown
  have HO := Lib.hid hown'
  clear hw hown hown' ev
  go_enter Tryz.func104, Tryz.ntmps104
  go_wp2_with (at_builtin; refine append_str rfl (.tmp 14) (.tmp 15) rfl HO.out rfl rfl (by omega) (by simp) ?_)
  intro v' w1 hown hf
  have hb1 : Below w.heap.size w w1 := ((Below.refl _ _).alloc (Nat.le_refl _) _).trans (hf.below (by simp) (fun k h => by simp [Value.ownBlock] at h; omega))
  have hw1 := Lib.hid (HW.out.fr (Fr.of_below (S := fun _ => False) hb1) id (fun _ _ => id))
  have HB := Lib.hid hb1
  have hs := hb1.size
  have hS : Sl w1 1 v' (strB s).length ((strB s).map Bv) := by
    rw [strB_length, Nat.add_comm]
    exact Sl.own hown
  have HS := Lib.hid hS
  clear hS hown hf hb1
  go_wp2_with fail
  refine (add_ok b base row os (strB s) _ w1 hw1.out (by omega) HS.out (by rw [strB_length]; omega)).mono ?_
  rintro e w2 ⟨rfl, hl⟩
  have HL := Lib.hid hl
  clear hl
  go_wp2
  go_ret
  obtain ⟨row', a1, a2, a3⟩ := HL.out
  exact ⟨rfl, row', a1, (Fr.of_below HB.out).trans a2, fun k hk => (a3 k hk).imp id (fun h => by omega)⟩

set_option maxHeartbeats 400000 in
theorem rStr_cut (b : Nat) (c : UInt8) (xs : List UInt8) (w : World) (h : Rd w b (c :: xs)) (hn : xs.length < c.toNat) (hr : xs.length + 1 ≤ 140737488351232) :
    Calls Tryz.prog 119 #[.pointer (some ⟨b, 0, none⟩)] w fun e w' => e = .returned (.tuple #[.string ⟨#[]⟩, .int .i64 3]) ∧ w = w' := by
  obtain ⟨a, cap, hc, hf, hb, hs⟩ := take_pre b _ w h
  obtain ⟨b', o', rfl, hc0⟩ : ∃ b' o', a = some ⟨b', o', none⟩ ∧ w.cell? ⟨b', o', none⟩ = some (.int .u8 (c.toNat : Int)) := by
    obtain ⟨_, a', cap', e, _, _, hcs⟩ := hs
    obtain ⟨b', o', rfl, h0⟩ := hcs 0 (Bv c) rfl
    simp only [Value.slice.injEq, true_and] at e
    exact ⟨b', o', e.1, h0⟩
  have HH := Lib.hid h
  have hc256 := c.toNat_lt
  have q : (convert 26 9 (.slice none 0 0)).run Tryz.prog w = .ok (.string ⟨#[]⟩) w := toStr_u8 (xs := []) (Sl.nil w 1)
  clear hb hs h hf
  go_enter Tryz.func119, Tryz.ntmps119
  go_wp2_with fail
  refine (rLeft_any b _ _ HH.out).mono ?_
  rintro e w1 ⟨rfl, rfl⟩
  rw [List.length_cons]
  go_wp2_with fail
  refine (take_short b (c :: xs) 1 c.toNat _ HH.out (by omega) (by omega) (by rw [List.length_cons]; omega) (by rw [List.length_cons]; omega)).mono ?_
  rintro e w1 ⟨rfl, rfl⟩
  go_wp2
  go_ret2
  exact ⟨rfl, rfl⟩

set_option maxHeartbeats 400000 in
theorem rStr_empty (b : Nat) (w : World) (h : Rd w b []) :
    Calls Tryz.prog 119 #[.pointer (some ⟨b, 0, none⟩)] w fun e w' => e = .returned (.tuple #[.string ⟨#[]⟩, .int .i64 3]) ∧ w = w' := by
  have HH := Lib.hid h
  have q : (convert 26 9 (.slice none 0 0)).run Tryz.prog w = .ok (.string ⟨#[]⟩) w := toStr_u8 (xs := []) (Sl.nil w 1)
  clear h
  go_enter Tryz.func119, Tryz.ntmps119
  go_wp2_with fail
  refine (rLeft_any b _ _ HH.out).mono ?_
  rintro e w1 ⟨rfl, rfl⟩
  go_wp2_with fail
  refine (take_short b [] 1 0 _ HH.out (by omega) (by omega) (by simp) (by simp)).mono ?_
  rintro e w1 ⟨rfl, rfl⟩
  go_wp2
  go_ret2
  exact ⟨rfl, rfl⟩

end Go.Proofs.YtkbnkdokcmpcgaaGreatDoor
namespace Go.Proofs.YtkbnkdokcmpcgaaGreatDoor
open Go.RowKit

theorem list_take_one_less {xs : List UInt8} {m : Nat} : (xs.take (m + 1)).take m = xs.take m := by rw [List.take_take]; congr 1; omega

def CutRight (w : World) (xs : List UInt8) (n : Nat) (e : Ending) (w' : World) : Prop :=
  w = w' ∧ ∃ v' m, e = .returned v' ∧ m ≤ n ∧ Sl w 1 v' m ((xs.take m).map Bv) ∧ (∀ j, m ≤ j → ∀ c, xs[j]? = some c → c = 0)
def CutLeft (w : World) (xs : List UInt8) (e : Ending) (w' : World) : Prop :=
  w = w' ∧ ∃ a L c, e = .returned (.slice a L c) ∧ (L = 0 ↔ ∀ y ∈ xs, y = 0)

set_option maxHeartbeats 400000 in
theorem trimRight_any (v : Value) (xs : List UInt8) (n : Nat) (w : World) (h : Sl w 1 v n (xs.map Bv)) (hr : n ≤ 140737488351232) :
    Calls Tryz.prog 180 #[v, .int .u8 0] w (CutRight w xs n) := by
  have hxl : xs.length = n := by simpa using h.1
  have HH := Lib.hid h
  have HXL := Lib.hid hxl
  clear h hxl
  go_enter Tryz.func180, Tryz.ntmps180
  go_wp2_with fail
  go_loop [0] (fun v => ∃ m, m ≤ n ∧ Sl w 1 v m ((xs.take m).map Bv) ∧ (∀ j, m ≤ j → ∀ c, xs[j]? = some c → c = 0) ∧ ∃ a cc, v = .slice a m cc) (fun v => match v with | .slice _ m _ => m | _ => 0)
  case atStart =>
    obtain ⟨a, c, rfl, _⟩ := HH.out.len
    refine ⟨n, Nat.le_refl _, ?_, fun j hj c hc => ?_, _, _, rfl⟩
    · rw [List.take_of_length_le (by have := HXL.out; omega)]; exact HH.out
    · have := (List.getElem?_eq_some_iff.1 hc).1; have := HXL.out; omega
  case round =>
    obtain ⟨m, hm, hsl, hz, a, cc, rfl⟩ := hrel
    have HZ := Lib.hid hz
    have HS := Lib.hid hsl
    clear hz hsl
    cases m with
    | zero =>
      go_wp2
      go_ret
      exact ⟨rfl, _, 0, rfl, hm, HS.out, HZ.out⟩
    | succ m =>
      have hlt : m < xs.length := by have := HXL.out; omega
      obtain ⟨b, o, rfl, hc⟩ : ∃ b o, a = some ⟨b, o, none⟩ ∧ w.cell? ⟨b, o + m, none⟩ = some (.int .u8 ((xs[m]'hlt).toNat : Int)) := by
        obtain ⟨_, a', cap', e, _, _, hcs⟩ := HS.out
        obtain ⟨b', o', rfl, h0⟩ := hcs m (Bv (xs[m]'hlt)) (by simp [hlt])
        simp only [Value.slice.injEq] at e
        exact ⟨b', o', e.1, h0⟩
      obtain ⟨A, C, q, hA⟩ := cut_u8_hi HS.out (hi := m) (by omega)
      rw [list_take_one_less] at hA
      have HA := Lib.hid hA
      have e1 : ((m + 1 : Nat) : Int) - 1 = (m : Int) := by omega
      clear hA
      by_cases h0 : xs[m]'hlt = 0
      · have hz2 : ∀ j, m ≤ j → ∀ c, xs[j]? = some c → c = 0 := by
          intro j hj c hc'
          rcases Nat.lt_or_ge m j with h | h
          · exact HZ.out j h c hc'
          · obtain rfl : j = m := by omega
            rw [List.getElem?_eq_getElem hlt] at hc'
            rw [← Option.some.inj hc', h0]
        have HZ2 := Lib.hid hz2
        rw [h0] at hc
        have hc' : w.cell? ⟨b, o + m, none⟩ = some (.int .u8 0) := hc
        clear hz2 h0 hc
        go_wp2
        go_round
        case rel => exact ⟨m, by omega, HA.out, HZ2.out, _, _, rfl⟩
        case measure => simp
      · have hne : (((xs[m]'hlt).toNat : Int) == 0) = false := by
          have : (xs[m]'hlt).toNat ≠ 0 := fun e => h0 (UInt8.toNat_inj.1 (by simpa using e))
          simp; omega
        clear h0
        go_wp2
        go_ret
        exact ⟨rfl, _, m + 1, rfl, hm, HS.out, HZ.out⟩

set_option maxHeartbeats 400000 in
theorem trimLeft_any (v : Value) (xs : List UInt8) (n : Nat) (w : World) (h : Sl w 1 v n (xs.map Bv)) (hr : n ≤ 140737488351232) :
    Calls Tryz.prog 179 #[v, .int .u8 0] w (CutLeft w xs) := by
  have hxl : xs.length = n := by simpa using h.1
  have HH := Lib.hid h
  have HXL := Lib.hid hxl
  clear h hxl
  go_enter Tryz.func179, Tryz.ntmps179
  go_wp2_with fail
  go_loop [0] (fun v => ∃ m, m ≤ n ∧ Sl w 1 v m ((xs.drop (n - m)).map Bv) ∧ (∀ j, j < n - m → ∀ c, xs[j]? = some c → c = 0) ∧ ∃ a cc, v = .slice a m cc) (fun v => match v with | .slice _ m _ => m | _ => 0)
  case atStart =>
    obtain ⟨a, c, rfl, _⟩ := HH.out.len
    exact ⟨n, Nat.le_refl _, by simpa using HH.out, fun j hj => by omega, _, _, rfl⟩
  case round =>
    obtain ⟨m, hm, hsl, hz, a, cc, rfl⟩ := hrel
    have HZ := Lib.hid hz
    have HS := Lib.hid hsl
    clear hz hsl
    cases m with
    | zero =>
      go_wp2
      go_ret
      refine ⟨rfl, _, 0, _, rfl, ⟨fun _ y hy => ?_, fun _ => rfl⟩⟩
      obtain ⟨j, hj⟩ := List.getElem?_of_mem hy
      exact HZ.out j (by have := (List.getElem?_eq_some_iff.1 hj).1; have := HXL.out; omega) y hj
    | succ m =>
      have hlt : n - (m + 1) < xs.length := by have := HXL.out; omega
      obtain ⟨c0, hc0⟩ : ∃ c0, c0 = xs[n - (m + 1)]'hlt := ⟨_, rfl⟩
      have hg : xs[n - (m + 1)]? = some c0 := by rw [hc0]; exact List.getElem?_eq_getElem hlt
      obtain ⟨b, o, rfl, hc⟩ : ∃ b o, a = some ⟨b, o, none⟩ ∧ w.cell? ⟨b, o, none⟩ = some (.int .u8 (c0.toNat : Int)) := by
        obtain ⟨_, a', cap', e, _, _, hcs⟩ := HS.out
        obtain ⟨b', o', rfl, h0⟩ := hcs 0 (Bv c0) (by simp [hg])
        simp only [Value.slice.injEq] at e
        exact ⟨b', o', e.1, h0⟩
      obtain ⟨A, C, q, hA⟩ := cut_u8_lo HS.out (lo := 1) (by omega)
      rw [List.drop_drop, show n - (m + 1) + 1 = n - m by omega, Nat.add_sub_cancel] at hA
      rw [Nat.add_sub_cancel] at q
      have q1 : ∀ w', (Instr.slice 26 (.slice (some ⟨b, o, none⟩) (m + 1) cc) (some (.int .i64 1)) none none).run Tryz.prog w' = .ok (.slice A m C) w' := q
      clear q
      have HA := Lib.hid hA
      have HG := Lib.hid hg
      clear hA hg hc0
      by_cases h0 : c0 = 0
      · subst h0
        have hc' : w.cell? ⟨b, o, none⟩ = some (.int .u8 0) := hc
        clear hc
        go_wp2
        go_round
        case rel =>
          refine ⟨m, by omega, HA.out, fun j hj c hcj => ?_, _, _, rfl⟩
          rcases Nat.lt_or_ge j (n - (m + 1)) with h | h
          · exact HZ.out j h c hcj
          · obtain rfl : j = n - (m + 1) := by omega
            rw [HG.out] at hcj
            exact (Option.some.inj hcj).symm
        case measure => simp
      · have hne : ((c0.toNat : Int) == 0) = false := by
          have : c0.toNat ≠ 0 := fun e => h0 (UInt8.toNat_inj.1 (by simpa using e))
          simp; omega
        have H0 := Lib.hid h0
        clear h0
        go_wp2
        go_ret
        exact ⟨rfl, _, m + 1, _, rfl, ⟨fun h => by omega, fun h => absurd (h c0 (List.mem_of_getElem? HG.out)) H0.out⟩⟩

def Trimmed (w : World) (xs : List UInt8) (e : Ending) (w' : World) : Prop :=
  Below w.heap.size w w' ∧ w'.heap.size = w.heap.size ∧ ∃ a L c, e = .returned (.slice a L c) ∧ (L = 0 ↔ ∀ y ∈ xs, y = 0)

set_option maxRecDepth 100000 in
set_option maxHeartbeats 1000000 in
theorem trim_any (v : Value) (xs : List UInt8) (n : Nat) (w : World) (h : Sl w 1 v n (xs.map Bv)) (hr : n ≤ 140737488351232) :
    Calls Tryz.prog 152 #[v, .string ⟨#[0]⟩] w (Trimmed w xs) := by
  have hxl : xs.length = n := by simpa using h.1
  obtain ⟨a, cap, rfl, _⟩ := h.len
  cases n with
  | zero =>
    have hx : xs = [] := List.eq_nil_of_length_eq_zero hxl
    subst hx
    clear h hxl
    go_enter Tryz.func152, Tryz.ntmps152
    go_wp2
    go_ret
    exact ⟨Below.refl _ _, rfl, _, 0, _, rfl, by simp⟩
  | succ n =>
    have HH := Lib.hid h
    have b0 : (((n + 1 : Nat) : Int) == 0) = false := by simp; omega
    clear h hxl
    go_enter Tryz.func152, Tryz.ntmps152
    go_wp2_with fail
    go_region_with (first | (go_at_call 180; refine (trimRight_any (.slice a (n + 1) cap) xs (n + 1) w.drew HH.out hr).mono ?_; rintro e w1 ⟨rfl, v1, m, rfl, hm, hs1, hz1⟩; have H1 := Lib.hid hs1; have HZ1 := Lib.hid hz1; clear hs1 hz1) | (go_at_call 179; refine (trimLeft_any v1 (xs.take m) m w.drew H1.out (by omega)).mono ?_; rintro e w2 ⟨rfl, a2, L, c2, rfl, hL⟩; have HL := Lib.hid hL; clear hL))
    all_goals
      go_wp2
      go_ret
      refine ⟨(Below.refl _ _).drew, rfl, a2, L, c2, rfl, HL.out.trans ⟨fun h y hy => ?_, fun h y hy => h y (List.mem_of_mem_take hy)⟩⟩
      obtain ⟨j, hj⟩ := List.getElem?_of_mem hy
      rcases Nat.lt_or_ge j m with hjm | hjm
      · exact h y (List.mem_of_getElem? (by rw [List.getElem?_take, if_pos hjm]; exact hj))
      · exact HZ1.out j hjm y hj

end Go.Proofs.YtkbnkdokcmpcgaaGreatDoor
namespace Go.Proofs.YtkbnkdokcmpcgaaGreatDoor
open Go.RowKit

def endE (xs : List UInt8) : Int := if xs.all (· == 0) then 0 else 4
theorem endE_zero {xs : List UInt8} (h : ∀ y ∈ xs, y = 0) : endE xs = 0 := by
  unfold endE; rw [if_pos]; simpa using h
theorem endE_not {xs : List UInt8} (h : ¬ ∀ y ∈ xs, y = 0) : endE xs = 4 := by
  unfold endE; rw [if_neg]; simpa using h

set_option maxHeartbeats 1000000 in
theorem rEnd_any (b : Nat) (xs : List UInt8) (w : World) (h : Rd w b xs) (hr : xs.length ≤ 140737488351232) :
    Calls Tryz.prog 121 #[.pointer (some ⟨b, 0, none⟩)] w fun e w' => e = .returned (.int .i64 (endE xs)) ∧ Rd w' b xs ∧ Below w.heap.size w w' := by
  obtain ⟨a, cap, hc, hf, hb, hs⟩ := take_pre b xs w h
  have HH := Lib.hid h
  have HS := Lib.hid hs
  clear hb hs h hf
  go_enter Tryz.func121, Tryz.ntmps121
  go_wp2_with fail
  refine (trim_any _ xs _ _ HS.out hr).mono ?_
  rintro e w1 ⟨hbel, hsz, a1, L, c1, rfl, hL⟩
  have HB := Lib.hid hbel
  have HL := Lib.hid hL
  clear hbel hsz hL
  cases L with
  | zero =>
    have HE := Lib.hid (endE_zero (HL.out.1 rfl))
    clear HL
    go_wp2
    go_ret
    exact ⟨by rw [HE.out]; rfl, HH.out.below HB.out, HB.out⟩
  | succ L =>
    have b1 : (0 : Int) < ((L + 1 : Nat) : Int) := by omega
    have HE := Lib.hid (endE_not (fun h => by have := HL.out.2 h; omega))
    clear HL
    go_wp2
    go_ret
    exact ⟨by rw [HE.out]; rfl, HH.out.below HB.out, HB.out⟩

theorem alloc_zero32 (w : World) : (w.alloc (.cells ((List.replicate 32 (0 : UInt8)).map Bv).toArray 33)).heap[w.heap.size]? = some (.cells ((List.replicate 32 (0 : UInt8)).map Bv).toArray 33 (0, 0)) := heap_alloc_new _ _

theorem info_hash' : (Tryz.prog.info? 33).map (·.size) = some 32 := by kernel_rfl
theorem ret_hash {fn : Func} {p u : Tmp} (h : fn.results = #[.cell p 33, .tmp u]) {tmps : Array Value} {w : World} {g : Nat} {hs : List UInt8} {t : TypeId} (hp : tmps.getD p undef = .pointer (some ⟨g, 0, none⟩))
    (hg : w.heap[g]? = some (.cells (hs.map Bv).toArray t (0, 0))) (hl : hs.length = 32) :
    (results fn tmps).run Tryz.prog w = .ok (.tuple #[.agg (hs.map Bv).toArray, tmps.getD u undef]) w := by
  rw [results_cell_tmp h, hp]
  simp [asAddr, run_loadVar_row w g t 33 _ _ _ hg Tryz.underlying33 rfl (by rw [info_hash']; simp [hl]), Result.andThen]

theorem load_hash' {ops : Array Oper} {rest : List Oper} {o : Oper} {a : Act} {w : World} {Q : Exit → Act → World → Prop} (hgd : o.guard = none) (x : Operand) (ho : o.op = .load 33 x)
    {b off : Nat} (hx : a.eval x = .pointer (some ⟨b, off, none⟩)) {h : List UInt8} (hc : At w b off (h.map Bv)) (hl : h.length = 32)
    (hK : wpList Tryz.prog ops Q rest (a.put o.dst (.agg (h.map Bv).toArray)) w) : wpList Tryz.prog ops Q (o :: rest) a w :=
  wpList_load_at hgd _ x ho b off hx (h.map Bv) _ hc Tryz.underlying33 rfl (by rw [info_hash']; simp [hl]) hK
theorem store_hash {ops : Array Oper} {rest : List Oper} {o : Oper} {a : Act} {w : World} {Q : Exit → Act → World → Prop} (hgd : o.guard = none) (x y : Operand) (ho : o.op = .store 33 x y)
    {b : Nat} (hx : a.eval x = .pointer (some ⟨b, 0, none⟩)) {h : List UInt8} (hy : a.eval y = .agg (h.map Bv).toArray) {old : Array Value} {t : TypeId} (hb : w.heap[b]? = some (.cells old t (0, 0))) (ho2 : old.size = 32) (hl : h.length = 32)
    (hK : ∀ w', w'.heap[b]? = some (.cells (h.map Bv).toArray t (0, 0)) → Fr (fun k => k = b) w w' → wpList Tryz.prog ops Q rest (a.put o.dst undef) w') : wpList Tryz.prog ops Q (o :: rest) a w :=
  wpList_store_row hgd _ x y ho b hx (h.map Bv) hy old t hb (by simp [ho2, hl]) (Bv_oneCell _) (by rw [info_hash']; simp [hl]) (fun w' h1 h2 _ => hK w' h1 h2)

set_option maxRecDepth 100000 in
set_option maxHeartbeats 1000000 in
theorem rHash_short (b : Nat) (xs : List UInt8) (w : World) (h : Rd w b xs) (hn : xs.length < 32) :
    Calls Tryz.prog 151 #[.pointer (some ⟨b, 0, none⟩)] w fun e w' => e = .returned (.tuple #[.agg ((List.replicate 32 (0 : UInt8)).map Bv).toArray, .int .i64 3]) ∧ Rd w' b xs ∧ Below w.heap.size w w' := by
  have HH := Lib.hid (h.below ((Below.refl _ w).alloc (Nat.le_refl _) (.cells ((List.replicate 32 (0 : UInt8)).map Bv).toArray 33)))
  have HB0 := Lib.hid h
  clear h
  go_enter Tryz.func151, Tryz.ntmps151
  go_wp2_with fail
  refine (take_short b xs 0 32 _ HH.out (by omega) (by omega) (by omega) (by omega)).mono ?_
  rintro e w1 ⟨rfl, hw1⟩
  have hg1 : w1.heap[w.heap.size]? = some (.cells ((List.replicate 32 (0 : UInt8)).map Bv).toArray 33 (0, 0)) := by rw [← hw1]; exact alloc_zero32 w
  have hb1 : Below w.heap.size w w1 := by rw [← hw1]; exact (Below.refl _ _).alloc (Nat.le_refl _) _
  obtain ⟨y, hy⟩ : ∃ y, y = List.replicate 32 (0 : UInt8) := ⟨_, rfl⟩
  rw [← hy] at hg1
  have hlen : y.length = 32 := by rw [hy]; simp
  have HLn := Lib.hid hlen
  have HG := Lib.hid hg1
  have HB1 := Lib.hid hb1
  have HY := Lib.hid hy
  clear hy hlen hg1 hb1 hw1
  go_wp2_with (refine copy_u8 (vs := .slice none 0 0) (n := 0) (ys := []) (cur := y) rfl (.tmp 10) (.tmp 11) rfl HG.out (Sl.nil w1 1) rfl rfl (by simp) ?_)
  intro w2 hg2 hf2
  have hov : over y 0 [] = y := by simp [over]
  have hg2' : w2.heap[w.heap.size]? = some (.cells (y.map Bv).toArray 33 (0, 0)) := by simpa [over] using hg2
  have HG2 := Lib.hid hg2'
  have HA2 := Lib.hid (At.of_row (cs := y.map Bv) hg2')
  have hb2 := HB1.out.trans (hf2.below HB1.out.size (fun k hk => by omega))
  have HB2 := Lib.hid hb2
  clear hg2 hf2 hov hg2' hb2
  go_wp2_with (first | (refine load_hash' rfl (.tmp 2) rfl rfl HA2.out HLn.out ?_) | (refine store_hash rfl (.tmp 2) (.tmp 13) rfl rfl rfl HG2.out (by rw [List.size_toArray, List.length_map]; exact HLn.out) HLn.out ?_))
  intro w3 hg3 hf3
  have HG3 := Lib.hid hg3
  have hb3 := HB2.out.trans (hf3.below HB2.out.size (fun k hk => by omega))
  have HB3 := Lib.hid hb3
  clear hg3 hf3 hb3
  go_wp2
  refine bodyPost_ret (ret_hash rfl rfl HG3.out HLn.out) rfl ?_
  exact ⟨by rw [HY.out]; rfl, HB0.out.below HB3.out, HB3.out⟩

end Go.Proofs.YtkbnkdokcmpcgaaGreatDoor
