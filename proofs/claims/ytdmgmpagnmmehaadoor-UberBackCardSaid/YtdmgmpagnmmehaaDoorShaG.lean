/- Walks: sha's Hasher: New, Write. -/
import Derived.Test.YtdmgmpagnmmehaaDoorShaE
import Derived.Test.YtdmgmpagnmmehaaDoorShaF
import Derived.Test.YtdmgmpagnmmehaaDoorCodecA
namespace Go.Proofs.YtdmgmpagnmmehaaDoor
open Go.RowKit

section
variable {P : Program}
/-- A struct or an array, stored into a part of a variable. -/
theorem wpList_store_lpart {ops : Array Oper} {rest : List Oper} {o : Oper} {a : Act} {w : World} {Q : Exit → Act → World → Prop} (hgd : o.guard = none) (ty : TypeId) (x y : Operand) (ho : o.op = .store ty x y)
    (b off : Nat) (hx : a.eval x = .pointer (some ⟨b, off, none⟩)) (cs : List Value) (hy : a.eval y = .agg cs.toArray) (old : List Value) (t : TypeId) (hb : w.heap[b]? = some (.cells old.toArray t (0, 0))) (hl : off + cs.length ≤ old.length)
    (h1 : ∀ u ∈ cs, u.oneCell' = true) (hi : (P.info? ty).map (·.size) = some cs.length)
    (h : ∀ w', w'.heap[b]? = some (.cells (old.take off ++ cs ++ old.drop (off + cs.length)).toArray t (0, 0)) → Fr (fun k => k = b) w w' → w'.heap.size = w.heap.size → wpList P ops Q rest (a.put o.dst undef) w') : wpList P ops Q (o :: rest) a w := by
  refine wpList_plain hgd fun K hK => ?_
  have hst := run_storeCells_at P b off t cs 0 old.toArray w hb (by simpa using hl) h1
  cases hq : P.info? ty with
  | none => simp [hq] at hi
  | some i =>
    have hs : i.size = cs.length := by simpa [hq] using hi
    simp only [Nat.add_zero] at hst
    have hr : (Instr.storeAt ty (.pointer (some ⟨b, off, none⟩)) (.agg cs.toArray)).run P w = .ok () (w.setRow b (old.take off ++ cs ++ old.drop (off + cs.length)).toArray) := by
      simp [Instr.storeAt, Instr.sureAddr, storeVar, sizeOf, typeInfo, hq, hs, Value.cells, Sem.run_bind, hst]
    unfold Oper.wp execOp
    simp only [ho, hx, hy, Sem.run_bind, Sem.run_pure, Result.andThen_ok, hr]
    exact hK _ _ (h _ (setRow_heap w b _ _ t _ hb) ⟨rfl, rfl, rfl, by simp, fun k _ hk => setRow_other w b k _ hk⟩ (by simp))
end

/-- A Hasher's cells. -/
def hCells (s : St) (ks : List Nat) (v : Value) (n : Nat) : List Value := s.list.map U32 ++ (ks.map U32 ++ [v, .int .i64 (n : Int)])
theorem hCells_length (s : St) {ks : List Nat} (h : ks.length = 64) (v : Value) (n : Nat) : (hCells s ks v n).length = 74 := by simp [hCells, St.list, h]
def HsAt (w : World) (b : Nat) (s : St) (ks : List Nat) (v : Value) (n : Nat) : Prop := w.heap[b]? = some (.cells (hCells s ks v n).toArray 148 (0, 0))
theorem hCells_72 (s : St) {ks : List Nat} (h : ks.length = 64) (v : Value) (n : Nat) : (hCells s ks v n)[72]? = some v := by
  unfold hCells
  rw [List.getElem?_append_right (by simp [St.list]), List.getElem?_append_right (by simp [St.list, h])]
  simp [St.list, h]
theorem hCells_73 (s : St) {ks : List Nat} (h : ks.length = 64) (v : Value) (n : Nat) : (hCells s ks v n)[73]? = some (.int .i64 (n : Int)) := by
  unfold hCells
  rw [List.getElem?_append_right (by simp [St.list]), List.getElem?_append_right (by simp [St.list, h])]
  simp [St.list, h]
theorem hCells_set72 (s : St) {ks : List Nat} (h : ks.length = 64) (v v' : Value) (n : Nat) : (hCells s ks v n).set 72 v' = hCells s ks v' n := by
  unfold hCells
  rw [List.set_append_right _ _ (by simp [St.list]), List.set_append_right _ _ (by simp [St.list, h])]
  simp [St.list, h]
theorem hCells_set73 (s : St) {ks : List Nat} (h : ks.length = 64) (v : Value) (n m : Nat) : (hCells s ks v n).set 73 (.int .i64 (m : Int)) = hCells s ks v m := by
  unfold hCells
  rw [List.set_append_right _ _ (by simp [St.list]), List.set_append_right _ _ (by simp [St.list, h])]
  simp [St.list, h]
theorem hCells_setS (s s' : St) (ks : List Nat) (v : Value) (n : Nat) : (hCells s ks v n).take 0 ++ s'.list.map U32 ++ (hCells s ks v n).drop (0 + (s'.list.map U32).length) = hCells s' ks v n := rfl
section
variable {w : World} {b n : Nat} {s : St} {ks : List Nat} {v : Value}
theorem HsAt.cell72 (h : HsAt w b s ks v n) (hk : ks.length = 64) : w.cell? ⟨b, 72, none⟩ = some v := by
  rw [cell_of_row _ _ 72 _ _ _ h, List.getElem?_toArray, hCells_72 s hk]
theorem HsAt.cell73 (h : HsAt w b s ks v n) (hk : ks.length = 64) : w.cell? ⟨b, 73, none⟩ = some (.int .i64 (n : Int)) := by
  rw [cell_of_row _ _ 73 _ _ _ h, List.getElem?_toArray, hCells_73 s hk]
theorem HsAt.free (h : HsAt w b s ks v n) (i : Nat) : w.frozen? ⟨b, i, none⟩ = false := by unfold HsAt at h; simp [World.frozen?, h]
theorem HsAt.set72 (h : HsAt w b s ks v n) (hk : ks.length = 64) (v' : Value) : HsAt (w.setCell ⟨b, 72, none⟩ v') b s ks v' n := by
  have e := heap_setCell_same w b 72 _ _ v' h
  rwa [List.setIfInBounds_toArray, hCells_set72 s hk] at e
theorem HsAt.set73 (h : HsAt w b s ks v n) (hk : ks.length = 64) (m : Nat) : HsAt (w.setCell ⟨b, 73, none⟩ (.int .i64 (m : Int))) b s ks v m := by
  have e := heap_setCell_same w b 73 _ _ (.int .i64 (m : Int)) h
  rwa [List.setIfInBounds_toArray, hCells_set73 s hk] at e
theorem HsAt.atS (h : HsAt w b s ks v n) : At w b 0 s.arr.toList := (At.of_row h).part (xs := [])
theorem HsAt.atK (h : HsAt w b s ks v n) : At w b 8 (ks.map U32) := by
  have h1 := At.of_row h
  unfold hCells at h1
  rw [← List.append_assoc] at h1
  simpa [St.list] using h1.part
end

/-- A Hasher at block b has taken xs; 'row': its rest's block. -/
def Hs (w : World) (base b : Nat) (row : Option Nat) (xs : List UInt8) : Prop :=
  ∃ v, HsAt w b (stOf xs) kInit v xs.length ∧ w.ownsRow base 5 1 v (restOf xs).length ((restOf xs).map Bv) ∧ v.ownBlock = row

theorem info_hasher : (Tryd.prog.info? 148).map (·.size) = some 74 := by kernel_rfl

theorem zero_hasher : (Tryd.zeroCells148).toList.length = 74 := by kernel_rfl
theorem zero_hasher_drop : (Tryd.zeroCells148).toList.drop 72 = [.slice none 0 0, .int .i64 0] := by kernel_rfl

set_option maxRecDepth 100000 in
set_option maxHeartbeats 4000000 in
theorem new_any (w : World) :
    Calls Tryd.prog 70 #[] w fun e w' => e = .returned (.pointer (some ⟨w.heap.size, 0, none⟩)) ∧ Hs w' w.heap.size w.heap.size none [] ∧ Below w.heap.size w w' := by
  have hB0 : Below w.heap.size w (w.alloc (.cells Tryd.zeroCells148 148)) := (Below.refl _ w).alloc (Nat.le_refl _) _
  have hBk := heap_alloc_new w (.cells Tryd.zeroCells148 148)
  have hC := consts_any (w.alloc (.cells Tryd.zeroCells148 148))
  have hz := zero_hasher
  have hzd := zero_hasher_drop
  obtain ⟨hs, hhs⟩ : ∃ hs, hs = hInit := ⟨_, rfl⟩
  obtain ⟨ks, hks⟩ : ∃ ks, ks = kInit := ⟨_, rfl⟩
  obtain ⟨zs, hzs⟩ : ∃ zs, zs = Tryd.zeroCells148 := ⟨_, rfl⟩
  have hhl : hs.length = 8 := by rw [hhs, hInit_length]
  have hkl : ks.length = 64 := by rw [hks, kInit_length]
  rw [← hhs, ← hks] at hC
  rw [← hzs] at hC hB0 hBk hz hzd
  have HHs := Lib.hid hhs
  have HKs := Lib.hid hks
  have HC := Lib.hid hC
  have HB0 := Lib.hid hB0
  have HBk := Lib.hid hBk
  have HZ := Lib.hid hz
  have HZd := Lib.hid hzd
  have HHl := Lib.hid hhl
  have HKl := Lib.hid hkl
  clear hhs hks hC hB0 hBk hz hzd hhl hkl
  go_enter Tryd.func70, Tryd.ntmps70
  go_wp2_with fail
  rw [← hzs]
  clear hzs
  refine HC.out.mono ?_
  rintro e w1 ⟨rfl, hb1⟩
  have hblk := (hb1.block w.heap.size (by simp)).trans HBk.out
  have HBlk := Lib.hid (show w1.heap[w.heap.size]? = some (.cells zs.toList.toArray 148 (0, 0)) by simpa using hblk)
  have HB1 := Lib.hid (HB0.out.trans (hb1.mono HB0.out.size))
  have HE := Lib.hid (show ((zs.toList.take 0 ++ hs.map U32 ++ zs.toList.drop (0 + (hs.map U32).length)).take 8 ++ ks.map U32 ++ (zs.toList.take 0 ++ hs.map U32 ++ zs.toList.drop (0 + (hs.map U32).length)).drop (8 + (ks.map U32).length)) = hCells (stOf []) kInit (.slice none 0 0) 0 by
    have h8 : (hs.map U32).length = 8 := by rw [List.length_map, HHl.out]
    rw [List.take_zero, List.nil_append, h8, List.length_map, HKl.out, List.take_append_of_le_length (by omega), List.take_of_length_le (by omega), List.drop_append, List.drop_of_length_le (by omega), List.nil_append, h8, List.drop_drop, HZd.out]
    have hst : (stOf []).list = hs := by rw [HHs.out]; exact sInit_list
    unfold hCells
    rw [hst, HKs.out, List.append_assoc]
    rfl)
  clear hblk hb1
  go_wp2_with (first | (refine wpList_store_lpart rfl 145 (.tmp 11) (.tmp 8) rfl w.heap.size 0 rfl (hs.map U32) rfl zs.toList _ HBlk.out (by rw [List.length_map, HHl.out, HZ.out]; omega) (U32_one hs) (by rw [info_state', List.length_map, HHl.out]) ?_; intro w2 hg2 hf2 hs2; have HG2 := Lib.hid hg2; have HF2 := Lib.hid hf2; have HS2 := Lib.hid hs2; clear hg2 hf2 hs2) | (refine wpList_store_lpart rfl 146 (.tmp 13) (.tmp 9) rfl w.heap.size 8 rfl (ks.map U32) rfl _ _ HG2.out (by simp [HHl.out, HKl.out, HZ.out]) (U32_one ks) (by rw [info_w64', List.length_map, HKl.out]) ?_; intro w3 hg3 hf3 hs3; have HG3 := Lib.hid hg3; have HF3 := Lib.hid hf3; clear hg3 hf3 hs3))
  go_ret
  refine ⟨rfl, ⟨.slice none 0 0, ?_, World.ownsRow_nil _ _ _ _, rfl⟩, ?_⟩
  · have h := HG3.out
    rw [HE.out] at h
    exact h
  · have h2 := HB1.out.trans (HF2.out.below HB1.out.size (fun j hj => by omega))
    exact h2.trans (HF3.out.below h2.size (fun j hj => by omega))

def HsM (w : World) (base b : Nat) (row : Option Nat) (st : St) (rest : List UInt8) (n : Nat) : Prop :=
  ∃ v, HsAt w b st kInit v n ∧ w.ownsRow base 5 1 v rest.length (rest.map Bv) ∧ v.ownBlock = row
theorem Hs.mid {w : World} {base b : Nat} {row : Option Nat} {xs : List UInt8} (h : Hs w base b row xs) : HsM w base b row (stOf xs) (restOf xs) xs.length := h
theorem HsM.row_ne {w : World} {base b n : Nat} {row : Option Nat} {st : St} {rest : List UInt8} (h : HsM w base b row st rest n) : row ≠ some b := by
  obtain ⟨v, h1, h2, rfl⟩ := h
  rcases h2.2 with ⟨rfl, _⟩ | ⟨g, cap, cur, rfl, _, h3, _⟩
  · simp [Value.ownBlock]
  · simp only [Value.ownBlock, ne_eq, Option.some.injEq]
    rintro rfl
    rw [show w.heap[g]? = _ from h1] at h3
    simp at h3
theorem HsM.lt {w : World} {base b n : Nat} {row : Option Nat} {st : St} {rest : List UInt8} (h : HsM w base b row st rest n) : b < w.heap.size ∧ ∀ k, row = some k → base ≤ k ∧ k < w.heap.size := by
  obtain ⟨v, h1, h2, rfl⟩ := h
  exact ⟨lt_of_block h1, h2.lt⟩
theorem HsM.fr {w w' : World} {S : Nat → Prop} {base b n : Nat} {row : Option Nat} {st : St} {rest : List UInt8} (h : HsM w base b row st rest n) (hf : Fr S w w') (h1 : ¬ S b) (h2 : ∀ k, row = some k → ¬ S k) : HsM w' base b row st rest n := by
  have hlt := h.lt
  obtain ⟨v, hb, ho, rfl⟩ := h
  exact ⟨v, (hf.block b hlt.1 h1).trans hb, ho.fr hf h2, rfl⟩
/-- What Write leaves. -/
def Took (w w' : World) (base b : Nat) (row : Option Nat) (xs : List UInt8) : Prop :=
  ∃ row', Hs w' base b row' xs ∧ Fr (WS b row) w w' ∧ ∀ k, row' = some k → row = some k ∨ w.heap.size ≤ k

theorem headQ_le (xs : List UInt8) : 64 * headQ xs ≤ xs.length := by unfold headQ; omega
theorem stOf_append (xs ys : List UInt8) : blocksN sInit (xs ++ ys) (headQ xs) = stOf xs := blocksN_append _ _ _ _ (headQ_le xs)
theorem restOf_append (xs ys : List UInt8) : (xs ++ ys).drop (64 * headQ xs) = restOf xs ++ ys := by
  rw [List.drop_append_of_le_length (headQ_le xs)]; rfl
def WrRel (w : World) (base b : Nat) (row : Option Nat) (all : List UInt8) (q : Nat) (wr : World) : Prop :=
  ∃ row', HsM wr base b row' (blocksN sInit all q) (all.drop (64 * q)) all.length ∧ Fr (WS b row) w wr ∧ ∀ k, row' = some k → row = some k ∨ w.heap.size ≤ k
def lenOf : Option Value → Nat
  | some (.slice _ n _) => n
  | _ => 0
theorem HsM.measure {w : World} {base b n : Nat} {row : Option Nat} {st : St} {rest : List UInt8} (h : HsM w base b row st rest n) : lenOf (w.cell? ⟨b, 72, none⟩) = rest.length := by
  obtain ⟨v, h1, h2, _⟩ := h
  rw [h1.cell72 kInit_length]
  obtain ⟨a, c, rfl, _⟩ := (Sl.own h2).len
  rfl
theorem WrRel.done {w wr : World} {base b : Nat} {row : Option Nat} {all : List UInt8} {q : Nat} (h : WrRel w base b row all q wr) (hq : 64 * q ≤ all.length) (hl : all.length < 64 * q + 64) : Took w wr base b row all := by
  obtain ⟨row', h1, h2, h3⟩ := h
  have e : q = headQ all := by unfold headQ; omega
  subst e
  exact ⟨row', h1, h2, h3⟩

set_option maxRecDepth 100000 in
set_option maxHeartbeats 4000000 in
theorem write_any (b base : Nat) (row : Option Nat) (xs ys : List UInt8) (v : Value) (w : World) (h : Hs w base b row xs) (hbase : base ≤ w.heap.size) (hv : Sl w 1 v ys.length (ys.map Bv)) (hr : xs.length + ys.length ≤ 140737488351232) :
    Calls Tryd.prog 71 #[.pointer (some ⟨b, 0, none⟩), v] w fun e w' => e = .returned (.int .i64 0) ∧ Took w w' base b row (xs ++ ys) := by
  obtain ⟨all, hall⟩ : ∃ all, all = xs ++ ys := ⟨_, rfl⟩
  rw [← hall]
  have HAll := Lib.hid hall
  clear hall
  obtain ⟨ks, hks⟩ : ∃ ks, ks = kInit := ⟨_, rfl⟩
  have hkl : ks.length = 64 := by rw [hks, kInit_length]
  have hne := h.mid.row_ne
  have hlt := h.mid.lt
  obtain ⟨v0, hb, ho, rfl⟩ := h
  rw [← hks] at hb
  have c73 := hb.cell73 hkl
  have f73 := hb.free 73
  have hb1 := hb.set73 hkl (xs.length + ys.length)
  have hc : ((xs.length + ys.length : Nat) : Int) = (xs.length : Int) + (ys.length : Int) := by omega
  rw [hc] at hb1
  have c72 := hb1.cell72 hkl
  have f72 := hb1.free 72
  obtain ⟨av, cv, rfl, _⟩ := hv.len
  have hv1 : Sl (w.setCell ⟨b, 73, none⟩ (.int .i64 ((xs.length : Int) + (ys.length : Int)))) 1 (.slice av ys.length cv) ys.length (ys.map Bv) := by
    refine hv.cells ?_
    intro p u hu hp
    obtain ⟨x, _, rfl⟩ := List.mem_map.1 hu
    exact cell_set_other hp c73 (by simp [Bv])
  have ho1 := ho.set_other (fun e => hne e) 73 (.int .i64 ((xs.length : Int) + (ys.length : Int)))
  have HKs := Lib.hid hks
  have HKl := Lib.hid hkl
  have HNe := Lib.hid hne
  have HLt := Lib.hid hlt
  have HB1 := Lib.hid hb1
  have HV1 := Lib.hid hv1
  have HO1 := Lib.hid ho1
  have HRl := Lib.hid (restOf_length xs)
  have hrl : (restOf xs).length ≤ xs.length := by rw [restOf_length]; exact Nat.mod_le _ _
  have HF1 := Lib.hid (Fr.set (S := WS b v0.ownBlock) (Fr.refl _ w) b 73 (Or.inl rfl) (.int .i64 ((xs.length : Int) + (ys.length : Int))))
  have HBase := Lib.hid (show base ≤ (w.setCell ⟨b, 73, none⟩ (.int .i64 ((xs.length : Int) + (ys.length : Int)))).heap.size by simpa using hbase)
  clear hks hkl hne hlt hb hv ho hb1 hv1 ho1 hc
  go_enter Tryd.func71, Tryd.ntmps71
  go_wp2_with (at_builtin; refine append_u8 rfl (.tmp 20) (.tmp 21) rfl HO1.out HV1.out rfl rfl (by omega) HBase.out ?_)
  intro aa cc w2 hown hf h3
  have hb2 : HsAt w2 b (stOf xs) ks v0 (xs.length + ys.length) := (hf.block b (lt_of_block HB1.out) (fun e => HNe.out e)).trans HB1.out
  have hne2 : (Value.slice aa ((restOf xs).length + ys.length) cc).ownBlock ≠ some b := by
    rcases h3 with e | e
    · rw [e]; exact HNe.out
    · rw [e]; have := HLt.out.1; simp; omega
  have c72 := hb2.cell72 HKl.out
  have f72 := hb2.free 72
  have hb3 := hb2.set72 HKl.out (.slice aa ((restOf xs).length + ys.length) cc)
  have ho3 := hown.set_other hne2 72 (.slice aa ((restOf xs).length + ys.length) cc)
  have hf3 : Fr (WS b v0.ownBlock) w (w2.setCell ⟨b, 72, none⟩ (.slice aa ((restOf xs).length + ys.length) cc)) :=
    (HF1.out.trans (hf.mono (fun k _ e => Or.inr e))).set b 72 (Or.inl rfl) _
  have hrel0 : WrRel w base b v0.ownBlock (xs ++ ys) (headQ xs) (w2.setCell ⟨b, 72, none⟩ (.slice aa ((restOf xs).length + ys.length) cc)) := by
    refine ⟨(Value.slice aa ((restOf xs).length + ys.length) cc).ownBlock, ⟨.slice aa ((restOf xs).length + ys.length) cc, ?_, ?_, rfl⟩, hf3, fun k hk => ?_⟩
    · rw [stOf_append, ← HKs.out, List.length_append]; exact hb3
    · rw [restOf_append, List.length_append, List.map_append]; exact ho3
    · rcases h3 with e | e
      · rw [e] at hk; exact Or.inl hk
      · rw [e] at hk; simp at hk; exact Or.inr (by omega)
  have HRel0 := Lib.hid hrel0
  have hal : (xs ++ ys).length ≤ 140737488351232 := by rw [List.length_append]; exact hr
  have HQ0 := Lib.hid (show 64 * headQ xs ≤ (xs ++ ys).length by have := headQ_le xs; rw [List.length_append]; omega)
  rw [← HAll.out] at HRel0 hal HQ0
  obtain ⟨q0, hq0⟩ : ∃ q0, q0 = headQ xs := ⟨_, rfl⟩
  rw [← hq0] at HRel0 HQ0
  clear hown hf h3 hb2 hne2 hb3 ho3 hf3 hrel0 hq0 HB1 HV1 HO1 HRl HF1 HBase c73 f73
  go_wp2_with fail
  go_loopw [30] (fun _ wr => ∃ q : Nat, 64 * q ≤ all.length ∧ WrRel w base b v0.ownBlock all q wr) (fun _ wr => lenOf (wr.cell? ⟨b, 72, none⟩))
  case atStart => exact ⟨q0, HQ0.out, HRel0.out⟩
  case round =>
    obtain ⟨q, hq, row', hm, hfr, hrow⟩ := hrel
    have hmeas := hm.measure
    have hlt := hm.lt
    have hne := hm.row_ne
    have hrest : (all.drop (64 * q)).length = all.length - 64 * q := List.length_drop
    obtain ⟨vr, hb, ho, rfl⟩ := hm
    rw [← HKs.out] at hb
    obtain ⟨ar, cr, rfl, _⟩ := (Sl.own ho).len
    have c72 := hb.cell72 HKl.out
    obtain ⟨rest, hrr⟩ : ∃ rest, rest = all.drop (64 * q) := ⟨_, rfl⟩
    rw [← hrr] at hmeas hrest hb ho c72 hrow hne hlt
    obtain ⟨rl, hrl⟩ : ∃ rl, rl = rest.length := ⟨_, rfl⟩
    rw [← hrl] at hmeas hrest hb ho c72 hrow hne hlt
    rcases Nat.lt_or_ge rl 64 with hlt64 | hge
    · have HT := Lib.hid (show Took w wr base b v0.ownBlock all from WrRel.done ⟨_, ⟨_, by rw [← HKs.out]; exact hb, by rw [← hrr, ← hrl]; exact ho, rfl⟩, hfr, hrow⟩ hq (by omega))
      clear hmeas hlt hne hrest hb ho hrr hrl hfr hrow
      go_wp2
      go_ret
      exact ⟨rfl, HT.out⟩
    · have hstok : (blocksN sInit all q).Ok := blocksN_ok _ sInit_ok _
      obtain ⟨st, hst⟩ : ∃ st, st = blocksN sInit all q := ⟨_, rfl⟩
      rw [← hst] at hb hstok
      obtain ⟨A, C, qs, hA⟩ := cut_u8_hi (Sl.own ho) (hi := 64) hge
      rw [show ((64 : Nat) : Int) = 64 from rfl] at qs
      have htk := fun (u : Wd wr.heap.size wr) => Calls.wd u (Nat.le_refl _) (take_any st hstok (.slice A 64 C) (rest.take 64) b 8 ks u.to (hA.below u.hb) (u.at hb.atK) HKl.out (by rw [HKs.out]; exact kInit_lt))
      have hs' : addSt (roundsN st ks (spreadL (rest.take 64) 64) 64) st = blocksN sInit all (q + 1) := by
        rw [hst, hrr, HKs.out]; rfl
      rw [hs'] at htk
      obtain ⟨st', hst'⟩ : ∃ st', st' = blocksN sInit all (q + 1) := ⟨_, rfl⟩
      rw [← hst'] at htk
      have u72 := fun (u : Wd wr.heap.size wr) => u.cell' c72
      have HU := Lib.hid (fun w' (hw : ∃ u : Wd wr.heap.size wr, w' = u.to) => (by obtain ⟨u, rfl⟩ := hw; exact u.at hb.atS : At w' b 0 st.arr.toList))
      have HTk := Lib.hid htk
      have HMeas := Lib.hid hmeas
      have HLt := Lib.hid hlt
      have HNe := Lib.hid hne
      have HRest := Lib.hid hrest
      have HRr := Lib.hid hrr
      have HRl := Lib.hid hrl
      have HSt' := Lib.hid hst'
      have HBk := Lib.hid hb
      have HO := Lib.hid ho
      have HFr := Lib.hid hfr
      have HRow := Lib.hid hrow
      clear hmeas hlt hne hrest hrr hrl hs' hst' hb ho hfr hrow htk hst hA hstok
      go_wp2_with fail
      refine wp_region_class_tail 16 (C := fun w' => ∃ u : Wd wr.heap.size wr, w' = u.to) (by kernel_rfl) (by kernel_rfl) ⟨⟨{ wr with drawn := wr.drawn + 1 }, (Below.refl _ wr).drew⟩, rfl⟩ ?_
      simp only [List.take_succ_cons, List.take_zero, List.drop_succ_cons, List.drop_zero]
      repeat (first | (refine wpQuiet_load_at rfl 145 (.tmp 34) rfl b 0 rfl _ _ HU.out Tryd.underlying145 rfl (by rw [info_state']; rfl) ?_; simp only [Act.put, List.setIfInBounds_toArray, List.set_cons_succ, List.set_cons_zero, Array.toArray_toList]) | go_big_quiet_step (with_reducible exact HTk.out _))
      refine wpQuiet_nil ?_
      rintro _ ⟨⟨w5, hb5⟩, rfl⟩
      have HBk5 := Lib.hid ((hb5.block b (lt_of_block HBk.out)).trans HBk.out)
      have HO5 := Lib.hid (HO.out.fr (Fr.of_below (S := fun _ => False) hb5) (fun _ _ => id))
      have HFr5 := Lib.hid (HFr.out.trans (Fr.of_below (S := WS b v0.ownBlock) hb5))
      have hsz5 := hb5.size
      clear hb5 u72 c72
      refine wpList_store_lpart rfl 145 (.tmp 46) (.tmp 44) rfl b 0 rfl (st'.list.map U32) rfl _ _ HBk5.out (by rw [hCells_length _ HKl.out]; show 8 ≤ 74; decide) (U32_one _) (by rw [info_state']; rfl) ?_
      intro w6 hg6 hf6 hs6
      rw [hCells_setS] at hg6
      have hb6 : HsAt w6 b st' ks (.slice ar rl cr) all.length := hg6
      have c72 := hb6.cell72 HKl.out
      have f72 := hb6.free 72
      have ho6 := HO5.out.fr hf6 (fun k hk e => HNe.out (e ▸ hk))
      obtain ⟨A', C', qs', hA', hoA'⟩ := cut_u8_lo' (Sl.own ho6) (lo := 64) hge
      rw [show ((64 : Nat) : Int) = 64 from rfl] at qs'
      have HA' := Lib.hid hA'
      have HBk6 := Lib.hid hb6
      have HO6 := Lib.hid ho6
      have HFr6 := Lib.hid (HFr5.out.trans (hf6.mono (fun k _ e => Or.inl e)))
      have hsz6 : wr.heap.size ≤ w6.heap.size := by omega
      have hle : rl - 64 ≤ 140737488351232 := by have := HRest.out; omega
      clear hg6 hf6 hs6 hb6 ho6 hA' hoA' qs
      go_wp2_with fail
      refine (clone_any _ _ (rl - 64) _ HA'.out hle).mono ?_
      rintro e w7 ⟨ac, cc', rfl, hown7, hb7⟩
      have hbk7 : HsAt w7 b st' ks (.slice ar rl cr) all.length := (hb7.block b (lt_of_block HBk6.out)).trans HBk6.out
      have c72 := hbk7.cell72 HKl.out
      have f72 := hbk7.free 72
      have hb8 := hbk7.set72 HKl.out (.slice ac (rl - 64) cc')
      have hne7 : (Value.slice ac (rl - 64) cc').ownBlock ≠ some b := fun e => by
        have h1 := (hown7.lt b e).1
        have := lt_of_block HBk6.out
        omega
      have HRel := Lib.hid (show WrRel w base b v0.ownBlock all (q + 1) (w7.setCell ⟨b, 72, none⟩ (.slice ac (rl - 64) cc')) by
        refine ⟨(Value.slice ac (rl - 64) cc').ownBlock, ⟨.slice ac (rl - 64) cc', ?_, ?_, rfl⟩, (HFr6.out.trans (Fr.of_below hb7)).set b 72 (Or.inl rfl) _, fun k hk => ?_⟩
        · rw [← HSt'.out, ← HKs.out]; exact hb8
        · have h1 := (hown7.base (by have := HFr6.out.size; omega : base ≤ w6.heap.size)).set_other hne7 72 (.slice ac (rl - 64) cc')
          have e1 : all.drop (64 * (q + 1)) = rest.drop 64 := by rw [HRr.out, List.drop_drop, Nat.mul_succ]
          rw [e1, List.length_drop, ← HRl.out]
          exact h1
        · have := (hown7.lt k hk).1
          have := HFr6.out.size
          exact Or.inr (by omega))
      have hq1 : 64 * (q + 1) ≤ all.length := by have := HRest.out; omega
      clear hown7 hb7 hbk7 hb8 hne7
      have HMe := Lib.hid (show lenOf ((w7.setCell ⟨b, 72, none⟩ (.slice ac (rl - 64) cc')).cell? ⟨b, 72, none⟩) = rl - 64 by
        obtain ⟨row', h1, _⟩ := HRel.out
        rw [h1.measure, List.length_drop]; have := HRest.out; omega)
      go_wp2
      go_roundw
      case rel => exact ⟨q + 1, hq1, HRel.out⟩
      case measure => rw [HMe.out, HMeas.out]; omega
end Go.Proofs.YtdmgmpagnmmehaaDoor
