/- Maps whose keys are of kind uint32: what they hold, entry by entry; look-up, store, range. Nothing of the program. Walks: sha.Sum; mac's pad, Mac, Fits. The cipher as plain functions over bytes, the stream, what is sealed. Nothing of the program. Walks: aes.double, Times, inverse, turn, Box: bytes' products, the box. -/
import Derived.Test.YtkbnkdokcmpcgaaGreatDoorB0
import Derived.Test.YtkbnkdokcmpcgaaGreatDoorB4
import Derived.Maps.RangeRun
import Derived.Maps.OwnSet
import Derived.Laws.BitsAllLaws
namespace Go.Proofs.YtkbnkdokcmpcgaaGreatDoor
open Go.RowKit
open Go.ChangeMaps (setBlock heap_setBlock_same heap_setBlock_other)

def kU (n : Nat) : Value := .int .u32 (n : Int)
def atU : List (Nat × Value) → Nat → Nat → Option (Nat × Value)
  | [], _, _ => none
  | p :: m, n, i => if n = p.1 then some (i, p.2) else atU m n (i + 1)
def getU : List (Nat × Value) → Nat → Option Value
  | [], _ => none
  | p :: m, n => if n = p.1 then some p.2 else getU m n
def putU : List (Nat × Value) → Nat → Value → List (Nat × Value)
  | [], n, v => [(n, v)]
  | p :: m, n, v => if n = p.1 then (n, v) :: m else p :: putU m n v

theorem atU_get : ∀ (m : List (Nat × Value)) (n i : Nat), (atU m n i).map Prod.snd = getU m n
  | [], _, _ => rfl
  | p :: m, n, i => by
    unfold atU getU; split
    · rfl
    · exact atU_get m n (i + 1)
theorem getU_put_same : ∀ (m : List (Nat × Value)) (n : Nat) (v : Value), getU (putU m n v) n = some v
  | [], n, v => by simp [putU, getU]
  | p :: m, n, v => by
    unfold putU; split
    · simp [getU]
    · rename_i h; simp [getU, h, getU_put_same m n v]
theorem getU_put_other : ∀ (m : List (Nat × Value)) (n k : Nat) (v : Value), k ≠ n → getU (putU m n v) k = getU m k
  | [], n, k, v, h => by simp [putU, getU, h]
  | p :: m, n, k, v, h => by
    unfold putU; split
    · rename_i e; simp [getU, ← e, h]
    · unfold getU; split
      · rfl
      · exact getU_put_other m n k v h
theorem getU_put (m : List (Nat × Value)) (n k : Nat) (v : Value) : getU (putU m n v) k = if k = n then some v else getU m k := by
  split
  · rename_i h; subst h; exact getU_put_same m k v
  · rename_i h; exact getU_put_other m n k v h
theorem keys_putU : ∀ (m : List (Nat × Value)) (n : Nat) (v : Value), (putU m n v).map Prod.fst = if n ∈ m.map Prod.fst then m.map Prod.fst else m.map Prod.fst ++ [n]
  | [], n, v => by simp [putU]
  | p :: m, n, v => by
    unfold putU; split
    · rename_i e; simp [e]
    · rename_i e
      rw [List.map_cons, keys_putU m n v, List.map_cons]
      by_cases h : n ∈ m.map Prod.fst
      · rw [if_pos h, if_pos (by simp [h])]
      · rw [if_neg h, if_neg (by simp only [List.mem_cons, not_or]; exact ⟨e, h⟩)]; rfl
theorem nodup_putU (m : List (Nat × Value)) (n : Nat) (v : Value) (h : (m.map Prod.fst).Nodup) : ((putU m n v).map Prod.fst).Nodup := by
  rw [keys_putU]
  split
  · exact h
  · rename_i hn
    rw [List.nodup_append]
    exact ⟨h, by simp, fun a ha b hb => by rw [List.mem_singleton.1 hb]; rintro rfl; exact hn ha⟩
def EU (es : Array MapEntry) (m : List (Nat × Value)) : Prop := es.toList.map (fun e => (e.key, e.val)) = m.map (fun p => (kU p.1, p.2))
def UM (w : World) (b : Nat) (m : List (Nat × Value)) : Prop :=
  ∃ es clock, w.heap[b]? = some (.map es clock) ∧ EU es m ∧ (∀ x ∈ es.toList, x.born < clock) ∧ (es.toList.map (·.born)).Nodup ∧ (m.map Prod.fst).Nodup

theorem UM.lt {w : World} {b : Nat} {m : List (Nat × Value)} (h : UM w b m) : b < w.heap.size := by
  obtain ⟨es, clock, hb, _⟩ := h
  exact (Array.getElem?_eq_some_iff.1 hb).1
theorem UM.made (w : World) : UM (w.alloc (.map #[] 0)) w.heap.size [] := ⟨#[], 0, heap_alloc_new _ _, rfl, by simp, by simp, by simp⟩
theorem UM.of_block {w w' : World} {b : Nat} {m : List (Nat × Value)} (h : UM w b m) (hb : w'.heap[b]? = w.heap[b]?) : UM w' b m := by
  obtain ⟨es, clock, h1, h2⟩ := h
  exact ⟨es, clock, hb.trans h1, h2⟩
theorem UM.fr {S : Nat → Prop} {w w' : World} {b : Nat} {m : List (Nat × Value)} (h : UM w b m) (hf : Fr S w w') (hs : ¬ S b) : UM w' b m := h.of_block (hf.block b h.lt hs)
theorem findNow_um (n : Nat) : ∀ (l : List MapEntry) (m : List (Nat × Value)) (i : Nat), l.map (fun e => (e.key, e.val)) = m.map (fun p => (kU p.1, p.2)) → Instr.findNow (.int .u32) (kU n) l i = some (atU m n i)
  | [], [], _, _ => rfl
  | [], _ :: _, _, h => by simp at h
  | _ :: _, [], _, h => by simp at h
  | e :: l, p :: m, i, h => by
    rw [List.map_cons, List.map_cons, List.cons.injEq, Prod.mk.injEq] at h
    obtain ⟨⟨hk, hv⟩, ht⟩ := h
    have ih := findNow_um n l m (i + 1) ht
    unfold Instr.findNow
    rw [hk]
    unfold kU at ih ⊢
    have hs : Instr.sameNow (.int .u32) (.int .u32 (n : Int)) (.int .u32 (p.1 : Int)) = some ((n : Int) == (p.1 : Int)) := by simp [Instr.sameNow]
    rw [hs]
    by_cases e : n = p.1
    · rw [show ((n : Int) == (p.1 : Int)) = true by simp [e]]
      simp only [atU, e, if_true, hv]
    · rw [show ((n : Int) == (p.1 : Int)) = false by simp; omega]
      simp only [atU, e, if_false]
      exact ih

theorem run_findKey_um {P : Program} {w : World} {k : TypeId} (hk : P.underlying k = some (.int .u32)) {es : Array MapEntry} {m : List (Nat × Value)} (h : EU es m) (n : Nat) :
    (Instr.findKey k (kU n) es.toList).run P w = .ok (atU m n 0) w := by
  unfold Instr.findKey
  rw [Sem.run_bind, run_underlying hk]
  simp only [Result.andThen, findNow_um n es.toList m 0 h]
  rfl
theorem run_checkKey_um {P : Program} {w : World} {k : TypeId} (hk : P.underlying k = some (.int .u32)) (b : Bool) (n : Nat) : (Instr.checkKey b 10000 k (kU n)).run P w = .ok () w := by
  show (Instr.checkKey b (9999 + 1) k (kU n)).run P w = .ok () w
  unfold Instr.checkKey
  rw [Sem.run_bind, run_underlying hk]
  rfl

theorem run_lookup_um {P : Program} {w : World} {t k e : TypeId} {b n : Nat} {m : List (Nat × Value)} {z : Value} (h : UM w b m) (ht : P.underlying t = some (.map k e)) (hk : P.underlying k = some (.int .u32)) (hz : (zeroValue e).run P w = .ok z w) (c : Bool) :
    (Instr.lookup t (.map (some b)) (kU n) c).run P w = .ok (if c then .tuple #[(getU m n).getD z, .bool (getU m n).isSome] else (getU m n).getD z) w := by
  obtain ⟨es, clock, hb, hE, _⟩ := h
  have hg : (getObj b).run P w = .ok (.map es clock) w := by simp [getObj, Sem.run, hb]
  have e1 := atU_get m n 0
  unfold Instr.lookup
  simp only [Sem.run_bind, run_underlying ht, Result.andThen, hg, Sem.run_pure, run_checkKey_um hk, run_findKey_um hk hE]
  cases hq : atU m n 0 with
  | none =>
    rw [hq] at e1
    simp only [Sem.run_bind, hz, Result.andThen, Sem.run_pure, ← e1, Option.map_none, Option.getD_none, Option.isSome_none]
  | some q =>
    rw [hq] at e1
    simp only [Sem.run_bind, Result.andThen, Sem.run_pure, ← e1, Option.map_some, Option.getD_some, Option.isSome_some]

theorem EU.at_ {es : Array MapEntry} {m : List (Nat × Value)} (h : EU es m) {n i : Nat} {v : Value} : ∀ {s}, atU (m.drop s) n s = some (i, v) → ∃ e, es[i]? = some e ∧ e.key = kU n ∧ s ≤ i := by
  intro s
  generalize hl : m.length - s = L
  induction L generalizing s with
  | zero =>
    intro hq
    rw [List.drop_of_length_le (by omega)] at hq
    cases hq
  | succ L ih =>
    intro hq
    have hs : s < m.length := by omega
    rw [List.drop_eq_getElem_cons hs] at hq
    unfold atU at hq
    split at hq
    · rename_i e
      simp only [Option.some.injEq, Prod.mk.injEq] at hq
      obtain ⟨rfl, _⟩ := hq
      have hm : (m.map (fun p => (kU p.1, p.2)))[s]? = some (kU m[s].1, m[s].2) := by rw [List.getElem?_map, List.getElem?_eq_getElem hs]; rfl
      rw [← h, List.getElem?_map] at hm
      cases he : es.toList[s]? with
      | none => rw [he] at hm; cases hm
      | some x =>
        rw [he] at hm
        simp only [Option.map_some, Option.some.injEq, Prod.mk.injEq] at hm
        exact ⟨x, by rw [← Array.getElem?_toList]; exact he, by rw [hm.1, e], Nat.le_refl _⟩
    · obtain ⟨x, h1, h2, h3⟩ := ih (s := s + 1) (by omega) hq
      exact ⟨x, h1, h2, by omega⟩

theorem putU_at : ∀ (m : List (Nat × Value)) (n i s : Nat) (v x : Value), atU m n s = some (i, x) → s ≤ i ∧ putU m n v = m.set (i - s) (n, v)
  | [], _, _, _, _, _, h => by cases h
  | p :: m, n, i, s, v, x, h => by
    unfold atU at h
    unfold putU
    split at h
    · rename_i e
      simp only [Option.some.injEq, Prod.mk.injEq] at h
      obtain ⟨rfl, _⟩ := h
      rw [if_pos e, Nat.sub_self]; exact ⟨Nat.le_refl _, rfl⟩
    · rename_i e
      obtain ⟨h1, h2⟩ := putU_at m n i (s + 1) v x h
      rw [if_neg e, h2, show i - s = i - (s + 1) + 1 by omega]
      exact ⟨by omega, rfl⟩
theorem putU_new : ∀ (m : List (Nat × Value)) (n s : Nat) (v : Value), atU m n s = none → putU m n v = m ++ [(n, v)]
  | [], _, _, _, _ => rfl
  | p :: m, n, s, v, h => by
    unfold atU at h
    unfold putU
    split at h
    · cases h
    · rename_i e; rw [if_neg e, putU_new m n (s + 1) v h]; rfl

theorem run_mapUpdate_um {P : Program} {w : World} {t k e : TypeId} {b n : Nat} {m : List (Nat × Value)} {v : Value} (h : UM w b m) (ht : P.underlying t = some (.map k e)) (hk : P.underlying k = some (.int .u32)) :
    ∃ w', (Instr.mapUpdate t (.map (some b)) (kU n) v).run P w = .ok () w' ∧ UM w' b (putU m n v) ∧ Fr (fun k => k = b) w w' ∧ w'.heap.size = w.heap.size := by
  obtain ⟨es, clock, hb, hE, hborn, hnd, hkd⟩ := h
  have hg : (getObj b).run P w = .ok (.map es clock) w := by simp [getObj, Sem.run, hb]
  have hset : ∀ o, (setObj b o).run P w = .ok () (setBlock w b o) := by intro o; simp [setObj, Sem.run, hb, setBlock]
  have hfr : ∀ o, Fr (fun k => k = b) w (setBlock w b o) := fun o => ⟨rfl, rfl, rfl, by simp [setBlock], fun j _ hj => heap_setBlock_other hb o hj⟩
  have hsz : ∀ o, (setBlock w b o).heap.size = w.heap.size := by intro o; simp [setBlock]
  cases hq : atU m n 0 with
  | none =>
    refine ⟨setBlock w b (.map (es.push { key := kU n, val := v, born := clock }) (clock + 1)), ?_, ⟨_, _, heap_setBlock_same hb _, ?_, ?_, ?_, nodup_putU m n v hkd⟩, hfr _, hsz _⟩
    · unfold Instr.mapUpdate
      simp only [Sem.run_bind, run_underlying ht, Result.andThen, hg, run_checkKey_um hk, run_findKey_um hk hE, hq, hset]
    · unfold EU at hE ⊢
      rw [putU_new m n 0 v hq, Array.toList_push, List.map_append, hE, List.map_append]; rfl
    · intro x hx
      rw [Array.toList_push, List.mem_append, List.mem_singleton] at hx
      rcases hx with hx | rfl
      · exact Nat.lt_succ_of_lt (hborn x hx)
      · exact Nat.lt_succ_self _
    · rw [Array.toList_push, List.map_append, List.nodup_append]
      refine ⟨hnd, by simp, fun a ha c hc => ?_⟩
      obtain ⟨x, hx, rfl⟩ := List.mem_map.1 ha
      rw [List.map_singleton, List.mem_singleton] at hc
      rw [hc]; exact Nat.ne_of_lt (hborn x hx)
  | some q =>
    obtain ⟨i, x0⟩ := q
    obtain ⟨x, hx1, hx2, _⟩ := hE.at_ (s := 0) (n := n) (i := i) (v := x0) (by rw [List.drop_zero]; exact hq)
    have hlen : i < es.size := (Array.getElem?_eq_some_iff.1 hx1).1
    have hkeep : (Instr.keyThatStays (((es[i]?).map (·.key)).getD (kU n)) (kU n)).run P w = .ok (kU n) w := by
      rw [hx1]
      unfold Instr.keyThatStays
      have : Instr.sameBits 10000 x.key (kU n) = true := by rw [hx2]; simp [kU, Instr.sameBits]
      simp [this]
    refine ⟨setBlock w b (.map (es.modify i fun e => { e with key := kU n, val := v }) clock), ?_, ⟨_, _, heap_setBlock_same hb _, ?_, ?_, ?_, nodup_putU m n v hkd⟩, hfr _, hsz _⟩
    · unfold Instr.mapUpdate
      simp only [Sem.run_bind, run_underlying ht, Result.andThen, hg, run_checkKey_um hk, run_findKey_um hk hE, hq, hset, hkeep]
    · unfold EU at hE ⊢
      obtain ⟨_, h2⟩ := putU_at m n i 0 v x0 hq
      rw [h2, Nat.sub_zero, Array.toList_modify]
      apply List.ext_getElem?
      intro j
      have hj : (es.toList.map (fun e => (e.key, e.val)))[j]? = (m.map (fun p => (kU p.1, p.2)))[j]? := by rw [hE]
      rw [List.getElem?_map, List.getElem?_map] at hj
      rw [List.getElem?_map, List.getElem?_map, List.getElem?_modify, List.getElem?_set]
      by_cases e : i = j
      · subst e
        have hm : i < m.length := by
          have := congrArg List.length hE
          simp at this; omega
        rw [if_pos rfl, if_pos hm, Array.getElem?_toList, hx1]
        simp
      · rw [if_neg e]
        simp only [e, if_false]
        simpa using hj
    · intro y hy
      rw [Array.toList_modify] at hy
      obtain ⟨j, hj⟩ := List.mem_iff_getElem?.1 hy
      rw [List.getElem?_modify] at hj
      cases hq2 : es.toList[j]? with
      | none => rw [hq2] at hj; cases hj
      | some y0 =>
        rw [hq2] at hj
        have h0 := hborn y0 (List.mem_of_getElem? hq2)
        have hj' : y = (if i = j then { y0 with key := kU n, val := v } else y0) := (Option.some.inj hj).symm
        rw [hj']; split <;> exact h0
    · have : (es.modify i fun e => { e with key := kU n, val := v }).toList.map (·.born) = es.toList.map (·.born) := by
        apply List.ext_getElem?
        intro j
        rw [List.getElem?_map, List.getElem?_map, Array.toList_modify, List.getElem?_modify]
        cases es.toList[j]? with
        | none => rfl
        | some y => simp only [Option.map_some]; split <;> rfl
      rw [this]; exact hnd

end Go.Proofs.YtkbnkdokcmpcgaaGreatDoor
namespace Go.Proofs.YtkbnkdokcmpcgaaGreatDoor
open Go.RowKit

theorem ret_hash1 {fn : Func} {p : Tmp} (h : fn.results = #[.cell p 33]) {tmps : Array Value} {w : World} {g : Nat} {hs : List UInt8} {t : TypeId} (hp : tmps.getD p undef = .pointer (some ⟨g, 0, none⟩))
    (hg : w.heap[g]? = some (.cells (hs.map Bv).toArray t (0, 0))) (hl : hs.length = 32) : (results fn tmps).run Tryz.prog w = .ok (.agg (hs.map Bv).toArray) w :=
  results_cell_row h tmps w g t _ _ _ hp hg Tryz.underlying33 rfl (by rw [info_hash']; simp [hl])

set_option maxRecDepth 100000 in
set_option maxHeartbeats 4000000 in
theorem shaSum_any (v : Value) (xs : List UInt8) (w : World) (h : Sl w 1 v xs.length (xs.map Bv)) (hr : xs.length ≤ 140737488351232) :
    Calls Tryz.prog 33 #[v] w fun e w' => e = .returned (.agg ((hashN xs).map Bv).toArray) ∧ Below w.heap.size w w' := by
  obtain ⟨hv, hhv⟩ : ∃ hv, hv = hashN xs := ⟨_, rfl⟩
  have hvl : hv.length = 32 := by rw [hhv]; exact hashN_length xs
  rw [← hhv]
  have HHv := Lib.hid hhv
  have HVl := Lib.hid hvl
  have HS := Lib.hid (fun (w' : World) (hh : Below w.heap.size w w') => h.below hh)
  clear h hhv hvl
  go_enter Tryz.func33, Tryz.ntmps33
  go_wp2_with fail
  have hbel0 : Below w.heap.size w (w.alloc (.cells ((List.replicate 32 (0 : UInt8)).map Bv).toArray 33)) := (Below.refl _ w).alloc (Nat.le_refl _) _
  have hz0 := heap_alloc_new w (.cells ((List.replicate 32 (0 : UInt8)).map Bv).toArray 33)
  have hnew := new_any (w.alloc (.cells ((List.replicate 32 (0 : UInt8)).map Bv).toArray 33))
  obtain ⟨B, hB⟩ : ∃ B, B = (w.alloc (.cells ((List.replicate 32 (0 : UInt8)).map Bv).toArray 33)).heap.size := ⟨_, rfl⟩
  have hBs : B = w.heap.size + 1 := by rw [hB]; simp
  rw [← hB] at hnew
  refine hnew.mono ?_
  rintro e w1 ⟨rfl, hh1, hb1⟩
  have HZ1 := Lib.hid ((hb1.block w.heap.size (by omega)).trans hz0)
  have HB1 := Lib.hid (hbel0.trans (hb1.mono (by rw [hBs]; omega)))
  have hwr := write_any B B none [] xs v w1 hh1 (by have := hb1.size; omega) (HS.out w1 HB1.out) (by simpa using hr)
  rw [List.nil_append] at hwr
  have HWr := Lib.hid hwr
  have HBs := Lib.hid hBs
  clear hbel0 hz0 hnew hB hh1 hb1 hwr hBs
  go_wp2_with fail
  refine HWr.out.mono ?_
  rintro e w2 ⟨rfl, row, hh2, hf2, hrow⟩
  have HZ2 := Lib.hid ((hf2.block w.heap.size (lt_of_block HZ1.out) (by rintro (h | h); have := HBs.out; omega; cases h)).trans HZ1.out)
  have HB2 := Lib.hid (HB1.out.trans (hf2.below HB1.out.size (by rintro k (rfl | h); have := HBs.out; omega; cases h)))
  have hsm := sum_any B B row xs w2 hh2 hr
  rw [← HHv.out] at hsm
  have HSm := Lib.hid hsm
  clear hh2 hf2 hrow hsm
  go_wp2_with fail
  refine HSm.out.mono ?_
  rintro e w3 ⟨rfl, hb3⟩
  have HZ3 := Lib.hid ((hb3.block w.heap.size (lt_of_block HZ2.out)).trans HZ2.out)
  have HB3 := Lib.hid (HB2.out.trans (hb3.mono HB2.out.size))
  clear hb3
  go_wp2_with (refine store_hash rfl (.tmp 4) (.tmp 13) rfl rfl rfl (heap_alloc_new _ _) rfl HVl.out ?_)
  intro w4 hg4 hf4
  have hbel4 : Below w3.heap.size w3 w4 := ((Below.refl _ w3).alloc (Nat.le_refl _) _).trans (hf4.below (by simp) (fun j hj => by omega))
  have HZ4 := Lib.hid ((hbel4.block w.heap.size (lt_of_block HZ3.out)).trans HZ3.out)
  have HB4 := Lib.hid (HB3.out.trans (hbel4.mono HB3.out.size))
  have HAt4 := Lib.hid (At.of_row hg4)
  clear hg4 hf4 hbel4
  go_wp2_with (first | (refine load_hash' rfl (.tmp 4) rfl rfl HAt4.out HVl.out ?_) | (refine store_hash rfl (.tmp 2) (.tmp 15) rfl rfl rfl HZ4.out rfl HVl.out ?_; intro w5 hg5 hf5))
  exact bodyPost_ret (ret_hash1 rfl rfl hg5 HVl.out) rfl ⟨rfl, HB4.out.trans (hf5.below HB4.out.size (fun j hj => by omega))⟩

theorem pads_any (w : World) : Calls Tryz.prog 145 #[] w fun e w' => e = .returned (.agg #[.int .u8 54, .int .u8 92]) ∧ Below w.heap.size w w' := by
  go_enter Tryz.func145, Tryz.ntmps145
  go_wp2
  exact bodyPost_ret (v := .agg #[.int .u8 54, .int .u8 92]) (by simp [results, Tryz.results145, go_sem]) rfl ⟨rfl, (Below.refl _ w).alloc (Nat.le_refl _) _⟩

theorem info_b64 : (Tryz.prog.info? 249).map (·.size) = some 64 := by kernel_rfl
theorem load_b64 {ops : Array Oper} {rest : List Oper} {o : Oper} {a : Act} {w : World} {Q : Exit → Act → World → Prop} (hgd : o.guard = none) (x : Operand) (ho : o.op = .load 249 x)
    {b off : Nat} (hx : a.eval x = .pointer (some ⟨b, off, none⟩)) {h : List UInt8} (hc : At w b off (h.map Bv)) (hl : h.length = 64)
    (hK : wpList Tryz.prog ops Q rest (a.put o.dst (.agg (h.map Bv).toArray)) w) : wpList Tryz.prog ops Q (o :: rest) a w :=
  wpList_load_at hgd _ x ho b off hx (h.map Bv) _ hc Tryz.underlying249 rfl (by rw [info_b64]; simp [hl]) hK
theorem store_b64 {ops : Array Oper} {rest : List Oper} {o : Oper} {a : Act} {w : World} {Q : Exit → Act → World → Prop} (hgd : o.guard = none) (x y : Operand) (ho : o.op = .store 249 x y)
    {b : Nat} (hx : a.eval x = .pointer (some ⟨b, 0, none⟩)) {h : List UInt8} (hy : a.eval y = .agg (h.map Bv).toArray) {old : Array Value} {t : TypeId} (hb : w.heap[b]? = some (.cells old t (0, 0))) (ho2 : old.size = 64) (hl : h.length = 64)
    (hK : ∀ w', w'.heap[b]? = some (.cells (h.map Bv).toArray t (0, 0)) → Fr (fun k => k = b) w w' → wpList Tryz.prog ops Q rest (a.put o.dst undef) w') : wpList Tryz.prog ops Q (o :: rest) a w :=
  wpList_store_row hgd _ x y ho b hx (h.map Bv) hy old t hb (by simp [ho2, hl]) (Bv_oneCell _) (by rw [info_b64]; simp [hl]) (fun w' h1 h2 _ => hK w' h1 h2)
theorem ret_b64 {fn : Func} {p : Tmp} (h : fn.results = #[.cell p 249]) {tmps : Array Value} {w : World} {g : Nat} {hs : List UInt8} {t : TypeId} (hp : tmps.getD p undef = .pointer (some ⟨g, 0, none⟩))
    (hg : w.heap[g]? = some (.cells (hs.map Bv).toArray t (0, 0))) (hl : hs.length = 64) : (results fn tmps).run Tryz.prog w = .ok (.agg (hs.map Bv).toArray) w :=
  results_cell_row h tmps w g t _ _ _ hp hg Tryz.underlying249 rfl (by rw [info_b64]; simp [hl])

def zB (n : Nat) : List UInt8 := List.replicate n 0
theorem zB_length (n : Nat) : (zB n).length = n := List.length_replicate
theorem over_zB (n : Nat) (ys : List UInt8) : over (zB n) 0 ys = ys ++ zB (n - ys.length) := by
  unfold over zB
  rw [List.take_zero, List.nil_append, Nat.zero_add, List.drop_replicate]

set_option maxRecDepth 100000 in
set_option maxHeartbeats 4000000 in
theorem pad_any (v : Value) (key : List UInt8) (w : World) (h : Sl w 1 v key.length (key.map Bv)) (hr : key.length ≤ 140737488351232) :
    Calls Tryz.prog 143 #[v] w fun e w' => e = .returned (.agg ((keyB key).map Bv).toArray) ∧ Below w.heap.size w w' := by
  obtain ⟨kv, hkv⟩ : ∃ kv, kv = keyB key := ⟨_, rfl⟩
  have hkl : kv.length = 64 := by rw [hkv]; exact keyB_length key
  rw [← hkv]
  have HKl := Lib.hid hkl
  obtain ⟨a, c, rfl, _⟩ := h.len
  have hbel0 : Below w.heap.size w (w.alloc (.cells ((zB 64).map Bv).toArray 249)) := (Below.refl _ w).alloc (Nat.le_refl _) _
  have hz0 := heap_alloc_new w (.cells ((zB 64).map Bv).toArray 249)
  have HB0 := Lib.hid hbel0
  have HZ0 := Lib.hid hz0
  have HS0 := Lib.hid (h.below hbel0)
  unfold keyB at hkv
  rcases Nat.lt_or_ge 64 key.length with hlt | hge
  · rw [if_pos hlt] at hkv
    have hsum := shaSum_any (.slice a key.length c) key (w.alloc (.cells ((zB 64).map Bv).toArray 249)) (h.below hbel0) hr
    obtain ⟨hv, hhv⟩ : ∃ hv, hv = hashN key := ⟨_, rfl⟩
    have hvl : hv.length = 32 := by rw [hhv]; exact hashN_length key
    rw [← hhv] at hkv hsum
    have HKv := Lib.hid hkv
    have HVl := Lib.hid hvl
    have HSum := Lib.hid hsum
    clear hkv hsum hhv hvl h hbel0 hz0 hkl
    go_enter Tryz.func143, Tryz.ntmps143
    go_wp2_with fail
    refine HSum.out.mono ?_
    rintro e w1 ⟨rfl, hb1⟩
    have HZ1 := Lib.hid ((hb1.block w.heap.size (lt_of_block HZ0.out)).trans HZ0.out)
    have HB1 := Lib.hid (HB0.out.trans (hb1.mono HB0.out.size))
    clear hb1
    go_wp2_with (refine store_hash rfl (.tmp 3) (.tmp 8) rfl rfl rfl (heap_alloc_new _ _) rfl HVl.out ?_)
    intro w4 hg4 hf4
    have hbel4 : Below w1.heap.size w1 w4 := ((Below.refl _ w1).alloc (Nat.le_refl _) _).trans (hf4.below (by simp) (fun j hj => by omega))
    have HZ4 := Lib.hid ((hbel4.block w.heap.size (lt_of_block HZ1.out)).trans HZ1.out)
    have HB4 := Lib.hid (HB1.out.trans (hbel4.mono HB1.out.size))
    have HS4 := Lib.hid (show Sl w4 1 (.slice (some ⟨w1.heap.size, 0, none⟩) 32 32) 32 (hv.map Bv) from sl_row' hg4 rfl (by simp [HVl.out]))
    clear hg4 hf4 hbel4
    go_wp2_with (refine copy_u8 rfl (.tmp 10) (.tmp 11) rfl HZ4.out HS4.out rfl rfl (by rw [zB_length]; decide) ?_)
    intro w5 hg5 hf5
    have e5 : over (zB 64) 0 (hv.take 32) = kv := by rw [List.take_of_length_le (by rw [HVl.out]; exact Nat.le_refl _), over_zB, HVl.out, HKv.out]; rfl
    rw [e5] at hg5
    have HG5 := Lib.hid hg5
    have HB5 := Lib.hid (HB4.out.trans (hf5.below HB4.out.size (fun j hj => by omega)))
    have HAt5 := Lib.hid (At.of_row hg5)
    clear hg5 hf5 e5
    go_wp2_with (first | (refine load_b64 rfl (.tmp 2) rfl rfl HAt5.out HKl.out ?_) | (refine store_b64 rfl (.tmp 2) (.tmp 13) rfl rfl rfl HG5.out (by simp [HKl.out]) HKl.out ?_; intro w6 hg6 hf6))
    exact bodyPost_ret (ret_b64 rfl rfl hg6 HKl.out) rfl ⟨rfl, HB5.out.trans (hf6.below HB5.out.size (fun j hj => by omega))⟩
  · rw [if_neg (by omega)] at hkv
    have HKv := Lib.hid hkv
    clear hkv h hbel0 hz0 hkl
    go_enter Tryz.func143, Tryz.ntmps143
    go_wp2_with (refine copy_u8 rfl (.tmp 10) (.tmp 11) rfl HZ0.out HS0.out rfl rfl (by rw [zB_length]; omega) ?_)
    intro w5 hg5 hf5
    have e5 : over (zB 64) 0 key = kv := by rw [over_zB, HKv.out]; rfl
    rw [e5] at hg5
    have HG5 := Lib.hid hg5
    have HB5 := Lib.hid (HB0.out.trans (hf5.below HB0.out.size (fun j hj => by omega)))
    have HAt5 := Lib.hid (At.of_row hg5)
    clear hg5 hf5 e5
    go_wp2_with (first | (refine load_b64 rfl (.tmp 2) rfl rfl HAt5.out HKl.out ?_) | (refine store_b64 rfl (.tmp 2) (.tmp 13) rfl rfl rfl HG5.out (by simp [HKl.out]) HKl.out ?_; intro w6 hg6 hf6))
    exact bodyPost_ret (ret_b64 rfl rfl hg6 HKl.out) rfl ⟨rfl, HB5.out.trans (hf6.below HB5.out.size (fun j hj => by omega))⟩

def xorB (l : List UInt8) (by' : UInt8) (n : Nat) : List UInt8 := (l.take n).map (· ^^^ by') ++ l.drop n
theorem xorB_get (l : List UInt8) (y : UInt8) (n : Nat) (h : n < l.length) : (xorB l y n)[n]? = some l[n] := by
  unfold xorB
  rw [List.getElem?_append_right (by simp; omega)]
  simp [show min n l.length = n by omega, h]
theorem xorB_set (l : List UInt8) (y : UInt8) (n : Nat) (h : n < l.length) : (xorB l y n).set n (l[n] ^^^ y) = xorB l y (n + 1) := by
  unfold xorB
  have hl : ((l.take n).map (· ^^^ y)).length = n := by simp; omega
  rw [List.set_append_right _ _ (by omega), hl, Nat.sub_self, List.drop_eq_getElem_cons h, List.set_cons_zero, List.take_succ_eq_append_getElem h, List.map_append, List.append_assoc]
  rfl
theorem xorB_all (l : List UInt8) (y : UInt8) (n : Nat) (h : l.length = n) : xorB l y n = l.map (· ^^^ y) := by
  unfold xorB
  rw [List.take_of_length_le (by omega), List.drop_of_length_le (by omega), List.append_nil]
theorem u8_xor_val (x y : UInt8) : Value.int .u8 (bits .xor .u8 (x.toNat : Int) (y.toNat : Int)) = Bv (x ^^^ y) := by
  rw [u8_xor_nat _ _ x.toNat_lt y.toNat_lt, ← UInt8.toNat_xor]; rfl

set_option maxRecDepth 100000 in
set_option maxHeartbeats 4000000 in
theorem under_any (y : UInt8) (v : Value) (msg kb : List UInt8) (K : Nat) (w : World) (hkl : kb.length = 64) (hK : w.heap[K]? = some (.cells (kb.map Bv).toArray 249 (0, 0))) (h : Sl w 1 v msg.length (msg.map Bv)) (hr : msg.length + 64 ≤ 140737488351232) :
    Calls Tryz.prog 144 #[.int .u8 (y.toNat : Int), v, .pointer (some ⟨K, 0, none⟩)] w fun e w' => e = .returned (.agg ((hashN (kb.map (· ^^^ y) ++ msg)).map Bv).toArray) ∧ Below w.heap.size w w' := by
  obtain ⟨hv, hhv⟩ : ∃ hv, hv = hashN (kb.map (· ^^^ y) ++ msg) := ⟨_, rfl⟩
  have hvl : hv.length = 32 := by rw [hhv]; exact hashN_length _
  rw [← hhv]
  have hbel0 : Below w.heap.size w (w.alloc (.cells ((zB 32).map Bv).toArray 33)) := (Below.refl _ w).alloc (Nat.le_refl _) _
  have hz0 := heap_alloc_new w (.cells ((zB 32).map Bv).toArray 33)
  have hnew := new_any (w.alloc (.cells ((zB 32).map Bv).toArray 33))
  obtain ⟨B, hB⟩ : ∃ B, B = (w.alloc (.cells ((zB 32).map Bv).toArray 33)).heap.size := ⟨_, rfl⟩
  have hBs : B = w.heap.size + 1 := by rw [hB]; simp
  rw [← hB] at hnew
  have HHv := Lib.hid hhv
  have HVl := Lib.hid hvl
  have HKl := Lib.hid hkl
  have HKw := Lib.hid hK
  have HS := Lib.hid (fun (w' : World) (hh : Below w.heap.size w w') => h.below hh)
  have HB0 := Lib.hid hbel0
  have HZ0 := Lib.hid hz0
  have HNew := Lib.hid hnew
  have HBs := Lib.hid hBs
  have hy := y.toNat_lt
  clear hhv hvl hkl hK h hbel0 hz0 hnew hB hBs
  go_enter Tryz.func144, Tryz.ntmps144
  go_wp2_with fail
  refine HNew.out.mono ?_
  rintro e w1 ⟨rfl, hh1, hb1⟩
  have HZ1 := Lib.hid ((hb1.block w.heap.size (by have := HBs.out; omega)).trans HZ0.out)
  have HB1 := Lib.hid (HB0.out.trans (hb1.mono (by rw [HBs.out]; omega)))
  have HH1 := Lib.hid hh1
  have hs1 := hb1.size
  have hK1 := (HB1.out.block K (lt_of_block HKw.out)).trans HKw.out
  have HAtK := Lib.hid (At.of_row hK1)
  have hBw1 : B < w1.heap.size := hh1.mid.lt.1
  clear hh1 hb1 hK1
  go_wp2_with (first | (refine load_b64 rfl (.tmp 2) rfl rfl HAtK.out HKl.out ?_) | (refine store_b64 rfl (.tmp 7) (.tmp 12) rfl rfl rfl (heap_alloc_new _ _) rfl HKl.out ?_; intro w2 hg2 hf2))
  have hbel2 : Below w1.heap.size w1 w2 := ((Below.refl _ w1).alloc (Nat.le_refl _) _).trans (hf2.below (by simp) (fun j hj => by omega))
  obtain ⟨C, hC⟩ : ∃ C, C = w1.heap.size := ⟨_, rfl⟩
  have HG2 := Lib.hid (show w2.heap[C]? = some (.cells ((xorB kb y 0).map Bv).toArray 249 (0, 0)) by rw [hC]; simpa [xorB] using hg2)
  have HH2 := Lib.hid (HH1.out.mid.fr (Fr.of_below (S := fun _ => False) hbel2) id (fun _ _ => id))
  have HZ2 := Lib.hid ((hbel2.block w.heap.size (lt_of_block HZ1.out)).trans HZ1.out)
  have HB2 := Lib.hid (HB1.out.trans (hbel2.mono HB1.out.size))
  rw [← hC] at hBw1 ⊢
  have HCs := Lib.hid hC
  have hC2 : C < w2.heap.size := lt_of_block HG2.out
  clear hg2 hf2 hbel2 hC
  go_wp2_with fail
  go_loopw [13] (fun i wr => ∃ n : Nat, n ≤ 64 ∧ i = .int .i64 n ∧ wr.heap[C]? = some (.cells ((xorB kb y n).map Bv).toArray 249 (0, 0)) ∧ Fr (fun k => k = C) w2 wr) (fun i _ => 64 - (intOf i).toNat)
  case atStart => exact ⟨0, Nat.zero_le _, rfl, HG2.out, Fr.refl _ _⟩
  case round =>
    obtain ⟨n, hn, rfl, hg, hf⟩ := hrel
    rcases Nat.lt_or_ge n 64 with hlt | hge
    · have hn2 : n < kb.length := by rw [HKl.out]; exact hlt
      have hc : wr.cell? ⟨C, n, none⟩ = some (Bv (kb[n]'hn2)) := by
        rw [cell_of_row _ _ n _ _ _ hg, List.getElem?_toArray, List.getElem?_map, xorB_get kb y n hn2]; rfl
      have hfz : wr.frozen? ⟨C, n, none⟩ = false := by simp [World.frozen?, hg]
      have hset := xorB_set kb y n hn2
      obtain ⟨x, hx⟩ : ∃ x, x = kb[n]'hn2 := ⟨_, rfl⟩
      rw [← hx] at hc hset
      have hv := u8_xor_val x y
      have hxl := x.toNat_lt
      have HVal := Lib.hid hv
      have HSet := Lib.hid hset
      have HG := Lib.hid hg
      have HF := Lib.hid hf
      unfold Bv at hc
      clear hv hset hg hf hx
      go_wp2
      go_roundw
      case rel =>
        refine ⟨n + 1, by omega, by go_num, ?_, HF.out.set _ _ rfl _⟩
        have h1 := heap_setCell_same wr C n _ _ (Bv (x ^^^ y)) HG.out
        rw [List.setIfInBounds_toArray, ← List.map_set, HSet.out] at h1
        rw [HVal.out]
        exact h1
      case measure => simp [intOf]; omega
    · obtain rfl : n = 64 := by omega
      rw [xorB_all kb y 64 HKl.out] at hg
      have hhr := HH2.out.fr hf (by omega) (fun _ h => by cases h)
      have hbw : Below w.heap.size w wr := HB2.out.trans (hf.below HB2.out.size (fun k hk => by rw [hk, HCs.out]; exact HB1.out.size))
      have hslb : Sl wr 1 (.slice (some ⟨C, 0, none⟩) 64 64) (kb.map (· ^^^ y)).length ((kb.map (· ^^^ y)).map Bv) := by
        rw [List.length_map, HKl.out]; exact sl_row' hg rfl (by simp [HKl.out])
      have hwr1 := write_any B B none [] (kb.map (· ^^^ y)) _ wr hhr (by have := hf.size; omega) hslb (by rw [List.length_map, HKl.out]; simp)
      rw [List.nil_append] at hwr1
      have HWr1 := Lib.hid hwr1
      have HBw := Lib.hid hbw
      have HZr := Lib.hid ((hf.block w.heap.size (lt_of_block HZ2.out) (by have := HBs.out; omega)).trans HZ2.out)
      clear hg hf hhr hbw hslb hwr1
      go_wp2_with fail
      refine HWr1.out.mono ?_
      rintro e w4 ⟨rfl, row, hh4, hf4, hrow4⟩
      have hb4 : Below w.heap.size w w4 := HBw.out.trans (hf4.below HBw.out.size (by rintro k (rfl | h); have := HBs.out; omega; cases h))
      have hwr2 := write_any B B row (kb.map (· ^^^ y)) msg v w4 hh4 (by have := hf4.size; have := (lt_of_block HZr.out); have := hh4.mid.lt.1; omega) (HS.out w4 hb4) (by rw [List.length_map, HKl.out]; omega)
      have HWr2 := Lib.hid hwr2
      have HRow4 := Lib.hid (fun k (hk : row = some k) => (hh4.mid.lt.2 k hk).1)
      have HB4 := Lib.hid hb4
      have HZ4 := Lib.hid ((hf4.block w.heap.size (lt_of_block HZr.out) (by rintro (h | h); have := HBs.out; omega; cases h)).trans HZr.out)
      clear hh4 hf4 hrow4 hb4 hwr2
      go_wp2_with fail
      refine HWr2.out.mono ?_
      rintro e w5 ⟨rfl, row5, hh5, hf5, hrow5⟩
      have HB5 := Lib.hid (HB4.out.trans (hf5.below HB4.out.size (by rintro k (rfl | h); have := HBs.out; omega; have := HRow4.out k h; have := HBs.out; omega)))
      have HZ5 := Lib.hid ((hf5.block w.heap.size (lt_of_block HZ4.out) (by rintro (h | h); have := HBs.out; omega; have := HRow4.out _ h; have := HBs.out; omega)).trans HZ4.out)
      have hsm := sum_any B B row5 (kb.map (· ^^^ y) ++ msg) w5 hh5 (by rw [List.length_append, List.length_map, HKl.out]; omega)
      rw [← HHv.out] at hsm
      have HSm := Lib.hid hsm
      clear hh5 hf5 hrow5 hsm
      go_wp2_with fail
      refine HSm.out.mono ?_
      rintro e w6 ⟨rfl, hb6⟩
      have HZ6 := Lib.hid ((hb6.block w.heap.size (lt_of_block HZ5.out)).trans HZ5.out)
      have HB6 := Lib.hid (HB5.out.trans (hb6.mono HB5.out.size))
      clear hb6
      go_wp2_with (refine store_hash rfl (.tmp 9) (.tmp 32) rfl rfl rfl (heap_alloc_new _ _) rfl HVl.out ?_)
      intro w7 hg7 hf7
      have hbel7 : Below w6.heap.size w6 w7 := ((Below.refl _ w6).alloc (Nat.le_refl _) _).trans (hf7.below (by simp) (fun j hj => by omega))
      have HZ7 := Lib.hid ((hbel7.block w.heap.size (lt_of_block HZ6.out)).trans HZ6.out)
      have HB7 := Lib.hid (HB6.out.trans (hbel7.mono HB6.out.size))
      have HAt7 := Lib.hid (At.of_row hg7)
      clear hg7 hf7 hbel7
      go_wp2_with (first | (refine load_hash' rfl (.tmp 9) rfl rfl HAt7.out HVl.out ?_) | (refine store_hash rfl (.tmp 5) (.tmp 34) rfl rfl rfl HZ7.out (by simp [zB]) HVl.out ?_; intro w8 hg8 hf8))
      exact bodyPost_ret (ret_hash1 rfl rfl hg8 HVl.out) rfl ⟨rfl, HB7.out.trans (hf8.below HB7.out.size (fun j hj => by omega))⟩

theorem index_pads0 (w : World) : (Instr.index 254 (.agg #[.int .u8 54, .int .u8 92]) (.int .i64 0)).run Tryz.prog w = .ok (.int .u8 54) w := by kernel_rfl
theorem index_pads1 (w : World) : (Instr.index 254 (.agg #[.int .u8 54, .int .u8 92]) (.int .i64 1)).run Tryz.prog w = .ok (.int .u8 92) w := by kernel_rfl

set_option maxRecDepth 100000 in
set_option maxHeartbeats 4000000 in
theorem mac_any (vk vm : Value) (key msg : List UInt8) (w : World) (hk : Sl w 1 vk key.length (key.map Bv)) (hm : Sl w 1 vm msg.length (msg.map Bv)) (hr : key.length ≤ 140737488351232) (hr2 : msg.length + 64 ≤ 140737488351232) :
    Calls Tryz.prog 113 #[vk, vm] w fun e w' => e = .returned (.agg ((macN key msg).map Bv).toArray) ∧ Below w.heap.size w w' := by
  obtain ⟨hv, hhv⟩ : ∃ hv, hv = macN key msg := ⟨_, rfl⟩
  have hvl : hv.length = 32 := by rw [hhv]; exact macN_length _ _
  rw [← hhv]
  have hbel0 : Below w.heap.size w (w.alloc (.cells ((zB 32).map Bv).toArray 33)) := (Below.refl _ w).alloc (Nat.le_refl _) _
  have hz0 := heap_alloc_new w (.cells ((zB 32).map Bv).toArray 33)
  have hpad := pad_any vk key (w.alloc (.cells ((zB 32).map Bv).toArray 33)) (hk.below hbel0) hr
  have hkbl := keyB_length key
  unfold macN at hhv
  obtain ⟨kb, hkb⟩ : ∃ kb, kb = keyB key := ⟨_, rfl⟩
  rw [← hkb] at hpad hkbl hhv
  obtain ⟨inner, hin⟩ : ∃ inner, inner = hashN (kb.map (· ^^^ 0x36) ++ msg) := ⟨_, rfl⟩
  rw [← hin] at hhv
  have hinl : inner.length = 32 := by rw [hin]; exact hashN_length _
  have HHv := Lib.hid hhv
  have HIn := Lib.hid hin
  have HInl := Lib.hid hinl
  have HVl := Lib.hid hvl
  have HKl := Lib.hid hkbl
  have HM := Lib.hid (fun (w' : World) (hh : Below w.heap.size w w') => hm.below hh)
  have HB0 := Lib.hid hbel0
  have HZ0 := Lib.hid hz0
  have HPad := Lib.hid hpad
  have i0 := index_pads0
  have i1 := index_pads1
  clear hhv hin hinl hvl hkbl hk hm hbel0 hz0 hpad hkb
  go_enter Tryz.func113, Tryz.ntmps113
  go_wp2_with fail
  refine HPad.out.mono ?_
  rintro e w1 ⟨rfl, hb1⟩
  have HZ1 := Lib.hid ((hb1.block w.heap.size (lt_of_block HZ0.out)).trans HZ0.out)
  have HB1 := Lib.hid (HB0.out.trans (hb1.mono HB0.out.size))
  clear hb1
  go_wp2_with (refine store_b64 rfl (.tmp 5) (.tmp 11) rfl rfl rfl (heap_alloc_new _ _) rfl HKl.out ?_)
  intro w2 hg2 hf2
  have hbel2 : Below w1.heap.size w1 w2 := ((Below.refl _ w1).alloc (Nat.le_refl _) _).trans (hf2.below (by simp) (fun j hj => by omega))
  have HK2 := Lib.hid hg2
  have HZ2 := Lib.hid ((hbel2.block w.heap.size (lt_of_block HZ1.out)).trans HZ1.out)
  have HB2 := Lib.hid (HB1.out.trans (hbel2.mono HB1.out.size))
  have hw12 : w.heap.size < w1.heap.size := lt_of_block HZ1.out
  clear hg2 hf2 hbel2
  go_wp2_with fail
  refine (pads_any _).mono ?_
  rintro e w3 ⟨rfl, hb3⟩
  have hK3 := (hb3.block w1.heap.size (lt_of_block HK2.out)).trans HK2.out
  have HB3 := Lib.hid (HB2.out.trans (hb3.mono HB2.out.size))
  have HZ3 := Lib.hid ((hb3.block w.heap.size (lt_of_block HZ2.out)).trans HZ2.out)
  have hu1 := under_any 0x36 vm msg kb w1.heap.size w3 HKl.out hK3 (HM.out w3 HB3.out) hr2
  rw [← HIn.out] at hu1
  have HU1 := Lib.hid (show Calls Tryz.prog 144 #[.int .u8 54, vm, .pointer (some ⟨w1.heap.size, 0, none⟩)] w3 fun e w' => e = .returned (.agg (inner.map Bv).toArray) ∧ Below w3.heap.size w3 w' from hu1)
  have HK3 := Lib.hid hK3
  clear hb3 hK3 hu1
  go_wp2_with fail
  refine wp_loop_rounds 3 ?_
  rw [rounds_succ]
  go_wp2_with fail
  refine HU1.out.mono ?_
  rintro e w4 ⟨rfl, hb4⟩
  have HK4 := Lib.hid ((hb4.block w1.heap.size (lt_of_block HK3.out)).trans HK3.out)
  have HB4 := Lib.hid (HB3.out.trans (hb4.mono HB3.out.size))
  have HZ4 := Lib.hid ((hb4.block w.heap.size (lt_of_block HZ3.out)).trans HZ3.out)
  clear hb4
  go_wp2_with (refine store_hash rfl (.tmp 4) (.tmp 21) rfl rfl rfl HZ4.out (by simp [zB]) HInl.out ?_)
  intro w5 hg5 hf5
  have HB5 := Lib.hid (HB4.out.trans (hf5.below HB4.out.size (fun j hj => by omega)))
  have hK5 := (hf5.block w1.heap.size (lt_of_block HK4.out) (by omega)).trans HK4.out
  have hs5 : Sl w5 1 (.slice (some ⟨w.heap.size, 0, none⟩) 32 32) inner.length (inner.map Bv) := by rw [HInl.out]; exact sl_row' hg5 rfl (by simp [HInl.out])
  have hu2 := under_any 0x5C (.slice (some ⟨w.heap.size, 0, none⟩) 32 32) inner kb w1.heap.size w5 HKl.out hK5 hs5 (by rw [HInl.out]; decide)
  rw [← HHv.out] at hu2
  have HU2 := Lib.hid (show Calls Tryz.prog 144 #[.int .u8 92, .slice (some ⟨w.heap.size, 0, none⟩) 32 32, .pointer (some ⟨w1.heap.size, 0, none⟩)] w5 fun e w' => e = .returned (.agg (hv.map Bv).toArray) ∧ Below w5.heap.size w5 w' from hu2)
  have HZ5 := Lib.hid hg5
  clear hg5 hf5 hK5 hs5 hu2
  go_wp2_with fail
  rw [rounds_succ]
  go_wp2_with fail
  refine HU2.out.mono ?_
  rintro e w6 ⟨rfl, hb6⟩
  have HB6 := Lib.hid (HB5.out.trans (hb6.mono HB5.out.size))
  have HZ6 := Lib.hid ((hb6.block w.heap.size (lt_of_block HZ5.out)).trans HZ5.out)
  clear hb6
  go_wp2_with (refine store_hash rfl (.tmp 4) (.tmp 21) rfl rfl rfl HZ6.out (by simp [HInl.out]) HVl.out ?_)
  intro w7 hg7 hf7
  have HB7 := Lib.hid (HB6.out.trans (hf7.below HB6.out.size (fun j hj => by omega)))
  have HZ7 := Lib.hid hg7
  have HAt7 := Lib.hid (At.of_row hg7)
  clear hg7 hf7
  go_wp2_with fail
  rw [rounds_succ]
  go_wp2_with (first | (refine load_hash' rfl (.tmp 4) rfl rfl HAt7.out HVl.out ?_) | (refine store_hash rfl (.tmp 4) (.tmp 24) rfl rfl rfl HZ7.out (by simp [HVl.out]) HVl.out ?_; intro w8 hg8 hf8))
  exact bodyPost_ret (ret_hash1 rfl rfl hg8 HVl.out) rfl ⟨rfl, HB7.out.trans (hf8.below HB7.out.size (fun j hj => by omega))⟩
end Go.Proofs.YtkbnkdokcmpcgaaGreatDoor
namespace Go.Proofs.YtkbnkdokcmpcgaaGreatDoor

def dblB (a : UInt8) : UInt8 := (a <<< 1) ^^^ ((0x1B : UInt8) &&& ((0 : UInt8) - (a >>> 7)))
def timesF : Nat → UInt8 → UInt8 → UInt8 → UInt8
  | 0, out, _, _ => out
  | n + 1, out, a, b => timesF n (out ^^^ (a &&& ((0 : UInt8) - (b &&& 1)))) (dblB a) (b >>> 1)
def timesB (a b : UInt8) : UInt8 := timesF 8 0 a b
def invF : Nat → UInt8 → UInt8 → UInt8
  | 0, out, _ => out
  | n + 1, out, sq => invF n (timesB out (timesB sq sq)) (timesB sq sq)
def invB (a : UInt8) : UInt8 := invF 7 1 a
def turnB (b : UInt8) (n : UInt8) : UInt8 := (b <<< n) ||| (b >>> (8 - n))
def boxB (b : UInt8) : UInt8 := invB b ^^^ turnB (invB b) 1 ^^^ turnB (invB b) 2 ^^^ turnB (invB b) 3 ^^^ turnB (invB b) 4 ^^^ 0x63
def boxT : List UInt8 := (List.range 256).map fun i => boxB (UInt8.ofNat i)
theorem boxT_length : boxT.length = 256 := by simp [boxT]
theorem boxT_get (b : UInt8) : boxT[b.toNat]? = some (boxB b) := by
  have := b.toNat_lt
  simp [boxT, this]

def gB (l : List UInt8) (i : Nat) : UInt8 := l.getD i 0
def nextW (k l : List UInt8) (i : Nat) : List UInt8 :=
  if i < 8 then (k.drop (4 * i)).take 4
  else
    let p := fun j => gB l (4 * (i - 1) + j)
    let q := fun j => gB l (4 * (i - 8) + j)
    if i % 8 = 0 then [q 0 ^^^ (boxB (p 1) ^^^ ((1 : UInt8) <<< UInt8.ofNat (i / 8 - 1))), q 1 ^^^ boxB (p 2), q 2 ^^^ boxB (p 3), q 3 ^^^ boxB (p 0)]
    else if i % 4 = 0 then [q 0 ^^^ boxB (p 0), q 1 ^^^ boxB (p 1), q 2 ^^^ boxB (p 2), q 3 ^^^ boxB (p 3)]
    else [q 0 ^^^ p 0, q 1 ^^^ p 1, q 2 ^^^ p 2, q 3 ^^^ p 3]
def wordsB (k : List UInt8) : Nat → List UInt8
  | 0 => []
  | n + 1 => wordsB k n ++ nextW k (wordsB k n) n
def rkeysB (k : List UInt8) : List UInt8 := wordsB k 60
theorem nextW_length (k l : List UInt8) (i : Nat) (h : k.length = 32) : (nextW k l i).length = 4 := by
  unfold nextW
  split
  · rw [List.length_take, List.length_drop]; omega
  · dsimp only; split
    · rfl
    · split <;> rfl
theorem wordsB_length (k : List UInt8) (h : k.length = 32) : ∀ n, (wordsB k n).length = 4 * n
  | 0 => rfl
  | n + 1 => by unfold wordsB; rw [List.length_append, wordsB_length k h n, nextW_length _ _ _ h]; omega
def rkeyAt (ks : List UInt8) (n : Nat) : List UInt8 := (ks.drop (16 * n)).take 16
def sumB (a b : List UInt8) : List UInt8 := List.zipWith (· ^^^ ·) a b
def subB (b : List UInt8) : List UInt8 := (List.range 16).map fun i => boxB (gB b ((i + 4 * (i % 4)) % 16))
def mixAt (b : List UInt8) (i : Nat) : UInt8 :=
  gB b i ^^^ ((gB b (i / 4 * 4) ^^^ gB b (i / 4 * 4 + 1) ^^^ gB b (i / 4 * 4 + 2) ^^^ gB b (i / 4 * 4 + 3)) ^^^ dblB (gB b i ^^^ gB b (i / 4 * 4 + (i + 1) % 4)))
def mixB (b : List UInt8) : List UInt8 := (List.range 16).map (mixAt b)
def sealTo (ks b : List UInt8) : Nat → List UInt8
  | 0 => sumB b (rkeyAt ks 0)
  | n + 1 => sumB (if n + 1 < 14 then mixB (subB (sealTo ks b n)) else subB (sealTo ks b n)) (rkeyAt ks (n + 1))
def aesB (k b : List UInt8) : List UInt8 := sealTo (rkeysB k) b 14
def nonceB (birth addr : Nat) : List UInt8 := putB birth 8 ++ putB addr 4
def blockB (k n : List UInt8) (i : Nat) : List UInt8 := aesB k (n ++ putB i 4)
def streamTo (k n : List UInt8) : Nat → List UInt8
  | 0 => []
  | i + 1 => streamTo k n i ++ blockB k n i
def cryptB (k n b : List UInt8) : List UInt8 := sumB ((streamTo k n ((b.length + 15) / 16)).take b.length) b

theorem subB_length (b : List UInt8) : (subB b).length = 16 := by simp [subB]
theorem mixB_length (b : List UInt8) : (mixB b).length = 16 := by simp [mixB]
theorem sumB_length (a b : List UInt8) : (sumB a b).length = min a.length b.length := by simp [sumB]
theorem rkeyAt_length (ks : List UInt8) (n : Nat) (h : 16 * n + 16 ≤ ks.length) : (rkeyAt ks n).length = 16 := by
  simp only [rkeyAt, List.length_take, List.length_drop]; omega
theorem sealTo_length (ks b : List UInt8) (hk : ks.length = 240) (hb : b.length = 16) : ∀ n, n ≤ 14 → (sealTo ks b n).length = 16
  | 0, _ => by unfold sealTo; rw [sumB_length, hb, rkeyAt_length _ _ (by omega)]; rfl
  | n + 1, h => by
    unfold sealTo
    rw [sumB_length, rkeyAt_length _ _ (by omega)]
    split <;> simp [mixB_length, subB_length]
theorem aesB_length (k b : List UInt8) (hk : k.length = 32) (hb : b.length = 16) : (aesB k b).length = 16 :=
  sealTo_length _ _ (wordsB_length k hk 60) hb 14 (Nat.le_refl _)
theorem nonceB_length (birth addr : Nat) : (nonceB birth addr).length = 12 := by simp [nonceB, putB_length]
theorem blockB_length (k n : List UInt8) (i : Nat) (hk : k.length = 32) (hn : n.length = 12) : (blockB k n i).length = 16 :=
  aesB_length _ _ hk (by simp [hn, putB_length])
theorem streamTo_length (k n : List UInt8) (hk : k.length = 32) (hn : n.length = 12) : ∀ i, (streamTo k n i).length = 16 * i
  | 0 => rfl
  | i + 1 => by unfold streamTo; rw [List.length_append, streamTo_length k n hk hn i, blockB_length _ _ _ hk hn]; omega
theorem cryptB_length (k n b : List UInt8) (hk : k.length = 32) (hn : n.length = 12) : (cryptB k n b).length = b.length := by
  unfold cryptB
  rw [sumB_length, List.length_take, streamTo_length _ _ hk hn]
  omega
theorem sumB_sumB : ∀ a b : List UInt8, b.length ≤ a.length → sumB a (sumB a b) = b
  | [], [], _ => rfl
  | [], _ :: _, h => by simp at h
  | _ :: _, [], _ => rfl
  | x :: a, y :: b, h => by
    show (x ^^^ (x ^^^ y)) :: sumB a (sumB a b) = y :: b
    rw [sumB_sumB a b (by simpa using h), ← UInt8.xor_assoc, UInt8.xor_self, UInt8.zero_xor]
theorem cryptB_twice (k n b : List UInt8) (hk : k.length = 32) (hn : n.length = 12) : cryptB k n (cryptB k n b) = b := by
  have hl := cryptB_length k n b hk hn
  rw [show cryptB k n (cryptB k n b) = sumB ((streamTo k n (((cryptB k n b).length + 15) / 16)).take (cryptB k n b).length) (cryptB k n b) from rfl, hl]
  unfold cryptB
  refine sumB_sumB _ _ ?_
  rw [List.length_take, streamTo_length _ _ hk hn]
  omega

end Go.Proofs.YtkbnkdokcmpcgaaGreatDoor
namespace Go.Proofs.YtkbnkdokcmpcgaaGreatDoor
open Go.RowKit

theorem u8_neg_nat (x : UInt8) : -(x.toNat : Int) % (256 : Int) = (((0 : UInt8) - x).toNat : Int) := by
  rw [UInt8.toNat_sub]
  have := x.toNat_lt
  rw [show (0 : UInt8).toNat = 0 from rfl]; omega
theorem bx (x y : UInt8) : bits .xor .u8 (x.toNat : Int) (y.toNat : Int) = ((x ^^^ y).toNat : Int) := by rw [u8_xor_nat _ _ x.toNat_lt y.toNat_lt, ← UInt8.toNat_xor]
theorem ba (x y : UInt8) : bits .and .u8 (x.toNat : Int) (y.toNat : Int) = ((x &&& y).toNat : Int) := by rw [u8_and_nat _ _ x.toNat_lt y.toNat_lt, ← UInt8.toNat_and]
theorem bo (x y : UInt8) : bits .or .u8 (x.toNat : Int) (y.toNat : Int) = ((x ||| y).toNat : Int) := by rw [u8_or_nat _ _ x.toNat_lt y.toNat_lt, ← UInt8.toNat_or]
theorem bl1 (x : UInt8) : (x.toNat : Int) * (2 : Int) % (256 : Int) = ((x <<< 1).toNat : Int) := by
  have : ∀ i, i < 256 → (i * 2 % 256) = (UInt8.ofNat i <<< 1).toNat := by decide +kernel
  have h := this x.toNat x.toNat_lt
  rw [UInt8.ofNat_toNat] at h; omega
theorem br7 (x : UInt8) : (x.toNat : Int) / (128 : Int) = ((x >>> 7).toNat : Int) := by
  have : ∀ i, i < 256 → (i / 128) = (UInt8.ofNat i >>> 7).toNat := by decide +kernel
  have h := this x.toNat x.toNat_lt
  rw [UInt8.ofNat_toNat] at h; omega
theorem br1 (x : UInt8) : (x.toNat : Int) / (2 : Int) = ((x >>> 1).toNat : Int) := by
  have : ∀ i, i < 256 → (i / 2) = (UInt8.ofNat i >>> 1).toNat := by decide +kernel
  have h := this x.toNat x.toNat_lt
  rw [UInt8.ofNat_toNat] at h; omega
theorem u8_zero_or (x : UInt8) : x = 0 ∨ 0 < x.toNat := by
  rcases Nat.eq_zero_or_pos x.toNat with h | h
  · left; exact UInt8.toNat_inj.1 h
  · exact Or.inr h

theorem double_any (a : UInt8) (w : World) : Calls Tryz.prog 220 #[.int .u8 (a.toNat : Int)] w fun e w' => e = .returned (.int .u8 ((dblB a).toNat : Int)) ∧ w' = w := by
  have HR := Lib.hid (show bits .xor .u8 ((a.toNat : Int) * 2 % 256) (bits .and .u8 27 (-((a.toNat : Int) / 128) % 256)) = ((dblB a).toNat : Int) by
    rw [bl1, br7, u8_neg_nat, show (27 : Int) = ((0x1B : UInt8).toNat : Int) from rfl, ba, bx]; rfl)
  go_enter Tryz.func220, Tryz.ntmps220
  go_wp2
  go_ret
  exact ⟨by rw [← HR.out]; rfl, rfl⟩

theorem timesF_zero : ∀ (n : Nat) (o a : UInt8), timesF n o a 0 = o
  | 0, _, _ => rfl
  | n + 1, o, a => by
    unfold timesF
    rw [show (0 : UInt8) &&& 1 = 0 from rfl, show (0 : UInt8) - 0 = 0 from rfl, UInt8.and_zero, UInt8.xor_zero]
    exact timesF_zero n o _

theorem times8_any (a0 b0 : UInt8) (w : World) : Calls Tryz.prog 221 #[.int .u8 (a0.toNat : Int), .int .u8 (b0.toNat : Int)] w fun e w' => e = .returned (.int .u8 ((timesB a0 b0).toNat : Int)) ∧ w' = w := by
  go_enter Tryz.func221, Tryz.ntmps221
  go_wp2
  go_loop [4, 0, 1] (fun x y z => ∃ (k : Nat) (o a b : UInt8), x = .int .u8 (o.toNat : Int) ∧ y = .int .u8 (a.toNat : Int) ∧ z = .int .u8 (b.toNat : Int) ∧ timesF k o a b = timesB a0 b0 ∧ b.toNat < 2 ^ k) (fun _ _ z => (intOf z).toNat)
  case atStart => exact ⟨8, 0, a0, b0, rfl, rfl, rfl, rfl, b0.toNat_lt⟩
  case round =>
    obtain ⟨k, o, a, b, rfl, rfl, rfl, hk, hb⟩ := hrel
    rcases u8_zero_or b with rfl | hp
    · have HE := Lib.hid ((timesF_zero k o a).symm.trans hk)
      clear hk hb
      rw [show ((0 : UInt8).toNat : Int) = 0 from rfl]
      go_wp2
      go_ret
      exact ⟨by rw [← HE.out]; rfl, rfl⟩
    · obtain ⟨k, rfl⟩ : ∃ j, k = j + 1 := ⟨k - 1, by have : k ≠ 0 := (fun e => by subst e; simp at hb; omega); omega⟩
      have HN := Lib.hid (show timesF k (o ^^^ (a &&& ((0 : UInt8) - (b &&& 1)))) (dblB a) (b >>> 1) = timesB a0 b0 from hk)
      have HB := Lib.hid (show (b >>> 1).toNat < 2 ^ k by
        have := br1 b
        have e : (b >>> 1).toNat = b.toNat / 2 := by omega
        rw [e]; rw [Nat.pow_succ] at hb; omega)
      clear hk hb
      have hdbl := fun w => double_any a w
      have HV := Lib.hid (show bits .xor .u8 (o.toNat : Int) (bits .and .u8 (a.toNat : Int) (-(bits .and .u8 (b.toNat : Int) 1) % 256)) = ((o ^^^ (a &&& ((0 : UInt8) - (b &&& 1)))).toNat : Int) by
        rw [show (1 : Int) = ((1 : UInt8).toNat : Int) from rfl, ba, u8_neg_nat, ba, bx])
      have HS := Lib.hid (br1 b)
      go_wp2_with fail
      refine (hdbl _).mono ?_
      rintro e w1 ⟨rfl, rfl⟩
      go_wp2
      refine ⟨⟨k, _, _, _, ?_, rfl, ?_, HN.out, HB.out⟩, ?_⟩
      · rw [← HV.out]
      · rw [← HS.out]
      · simp [intOf]; omega

theorem inverse_any (a : UInt8) (w : World) : Calls Tryz.prog 218 #[.int .u8 (a.toNat : Int)] w fun e w' => e = .returned (.int .u8 ((invB a).toNat : Int)) ∧ w' = w := by
  have ht := fun (x y : UInt8) (u : World) => times8_any x y u
  go_enter Tryz.func218, Tryz.ntmps218
  go_wp2
  go_loop [3, 4, 6] (fun x y z => ∃ (k : Nat) (o s : UInt8), k ≤ 7 ∧ x = .int .u8 (o.toNat : Int) ∧ y = .int .u8 (s.toNat : Int) ∧ z = .int .i64 (k : Int) ∧ invF (7 - k) o s = invB a) (fun _ _ z => 7 - (intOf z).toNat)
  case atStart => exact ⟨0, 1, a, by decide, rfl, rfl, rfl, rfl⟩
  case round =>
    obtain ⟨k, o, s, hk7, rfl, rfl, rfl, hk⟩ := hrel
    by_cases hlt : k < 7
    · have HN := Lib.hid (show invF (7 - (k + 1)) (timesB o (timesB s s)) (timesB s s) = invB a by
        rw [show 7 - k = 7 - (k + 1) + 1 by omega] at hk; exact hk)
      clear hk
      go_wp2_with fail
      refine (ht _ _ _).mono ?_
      rintro e w1 ⟨rfl, rfl⟩
      go_wp2_with fail
      refine (ht _ _ _).mono ?_
      rintro e w1 ⟨rfl, rfl⟩
      go_wp2
      refine ⟨⟨k + 1, _, _, hlt, rfl, rfl, by simp, HN.out⟩, ?_⟩
      simp [intOf]; omega
    · obtain rfl : k = 7 := by omega
      have HE := Lib.hid (show o = invB a from hk)
      clear hk
      go_wp2
      go_ret
      exact ⟨by rw [← HE.out]; rfl, rfl⟩

theorem bln (x : UInt8) (n : Nat) (hn : n < 8) : (x.toNat : Int) * (2 : Int) ^ n % (256 : Int) = ((x <<< UInt8.ofNat n).toNat : Int) := by
  have : ∀ n, n < 8 → ∀ i, i < 256 → (i * 2 ^ n % 256) = (UInt8.ofNat i <<< UInt8.ofNat n).toNat := by decide +kernel
  have h := this n hn x.toNat x.toNat_lt
  rw [UInt8.ofNat_toNat] at h; rw [← h]; simp
theorem brn (x : UInt8) (n : Nat) (hn : n < 8) : (x.toNat : Int) / (2 : Int) ^ n = ((x >>> UInt8.ofNat n).toNat : Int) := by
  have : ∀ n, n < 8 → ∀ i, i < 256 → (i / 2 ^ n) = (UInt8.ofNat i >>> UInt8.ofNat n).toNat := by decide +kernel
  have h := this n hn x.toNat x.toNat_lt
  rw [UInt8.ofNat_toNat] at h; rw [← h]; simp
theorem turn8_any (b : UInt8) (n : Nat) (w : World) (h1 : 1 ≤ n) (h2 : n ≤ 7) : Calls Tryz.prog 219 #[.int .u8 (b.toNat : Int), .int .u64 (n : Int)] w fun e w' => e = .returned (.int .u8 ((turnB b (UInt8.ofNat n)).toNat : Int)) ∧ w' = w := by
  have HR := Lib.hid (show bits .or .u8 ((b.toNat : Int) * 2 ^ n % 256) ((b.toNat : Int) / 2 ^ (8 - n)) = ((turnB b (UInt8.ofNat n)).toNat : Int) by
    rw [bln _ _ (by omega), brn _ _ (by omega), bo]
    have e : UInt8.ofNat (8 - n) = 8 - UInt8.ofNat n := by
      have : ∀ n, n < 8 → UInt8.ofNat (8 - n) = 8 - UInt8.ofNat n := by decide
      exact this n (by omega)
    rw [e]; rfl)
  go_enter Tryz.func219, Tryz.ntmps219
  go_wp2
  go_ret
  exact ⟨by rw [← HR.out]; rfl, rfl⟩

theorem box_any (b : UInt8) (w : World) : Calls Tryz.prog 211 #[.int .u8 (b.toNat : Int)] w fun e w' => e = .returned (.int .u8 ((boxB b).toNat : Int)) ∧ w' = w := by
  have ht := fun (x : UInt8) (n : Nat) (u : World) => turn8_any x n u
  have HI := Lib.hid (fun w => inverse_any b w)
  go_enter Tryz.func211, Tryz.ntmps211
  go_wp2_with fail
  refine (HI.out _).mono ?_
  rintro e w1 ⟨rfl, rfl⟩
  go_wp2_with fail
  refine (ht _ 1 _ (by decide) (by decide)).mono ?_
  rintro e w1 ⟨rfl, rfl⟩
  go_wp2_with fail
  refine (ht _ 2 _ (by decide) (by decide)).mono ?_
  rintro e w1 ⟨rfl, rfl⟩
  go_wp2_with fail
  refine (ht _ 3 _ (by decide) (by decide)).mono ?_
  rintro e w1 ⟨rfl, rfl⟩
  go_wp2_with fail
  refine (ht _ 4 _ (by decide) (by decide)).mono ?_
  rintro e w1 ⟨rfl, rfl⟩
  go_wp2
  go_ret
  refine ⟨?_, rfl⟩
  simp only [bx, show (99 : Int) = ((0x63 : UInt8).toNat : Int) from rfl]
  rfl

end Go.Proofs.YtkbnkdokcmpcgaaGreatDoor
