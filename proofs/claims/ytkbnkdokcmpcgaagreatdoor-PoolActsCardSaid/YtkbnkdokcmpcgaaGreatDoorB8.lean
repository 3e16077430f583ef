/- Walk: aes.expand: a key's round keys. -/
import Derived.Test.YtkbnkdokcmpcgaaGreatDoorB7
namespace Go.Proofs.YtkbnkdokcmpcgaaGreatDoor
open Go.RowKit

theorem gB_append_left (a b : List UInt8) (j : Nat) (h : j < a.length) : gB (a ++ b) j = gB a j := by
  simp only [gB, List.getD_eq_getElem?_getD]; rw [List.getElem?_append_left h]
theorem gB_append_right (a b : List UInt8) (j : Nat) : gB (a ++ b) (a.length + j) = gB b j := by
  simp only [gB, List.getD_eq_getElem?_getD]; rw [List.getElem?_append_right (by omega), Nat.add_sub_cancel_left]
theorem wordsB_pre (k : List UInt8) (hk : k.length = 32) (n j : Nat) (h : j < 4 * n) : ∀ m, gB (wordsB k (n + m)) j = gB (wordsB k n) j
  | 0 => rfl
  | m + 1 => by
    show gB (wordsB k (n + m) ++ nextW k (wordsB k (n + m)) (n + m)) j = _
    rw [gB_append_left _ _ _ (by rw [wordsB_length k hk]; omega), wordsB_pre k hk n j h m]
theorem rkeysB_pre (k : List UInt8) (hk : k.length = 32) (n j : Nat) (hn : n ≤ 60) (h : j < 4 * n) : gB (rkeysB k) j = gB (wordsB k n) j := by
  have := wordsB_pre k hk n j h (60 - n)
  rwa [show n + (60 - n) = 60 by omega] at this
theorem rkeysB_next (k : List UInt8) (hk : k.length = 32) (i j : Nat) (hi : i < 60) (hj : j < 4) : gB (rkeysB k) (4 * i + j) = gB (nextW k (wordsB k i) i) j := by
  rw [rkeysB_pre k hk (i + 1) _ (by omega) (by omega)]
  show gB (wordsB k i ++ _) _ = _
  rw [← wordsB_length k hk i, gB_append_right]
theorem rkeysB_low (k : List UInt8) (hk : k.length = 32) (i j : Nat) (hi : i < 8) (hj : j < 4) : gB (rkeysB k) (4 * i + j) = gB k (4 * i + j) := by
  rw [rkeysB_next k hk i j (by omega) hj]
  unfold nextW
  rw [if_pos hi]
  simp only [gB, List.getD_eq_getElem?_getD]
  rw [List.getElem?_take, if_pos hj, List.getElem?_drop]
def xAt (p : Nat → UInt8) (i : Nat) : List UInt8 :=
  if i % 8 = 0 then [boxB (p 1) ^^^ ((1 : UInt8) <<< UInt8.ofNat (i / 8 - 1)), boxB (p 2), boxB (p 3), boxB (p 0)]
  else if i % 4 = 0 then [boxB (p 0), boxB (p 1), boxB (p 2), boxB (p 3)] else [p 0, p 1, p 2, p 3]
theorem rkeysB_high (k : List UInt8) (hk : k.length = 32) (i j : Nat) (h8 : 8 ≤ i) (hi : i < 60) (hj : j < 4) :
    gB (rkeysB k) (4 * i + j) = gB (rkeysB k) (4 * (i - 8) + j) ^^^ gB (xAt (fun j => gB (rkeysB k) (4 * (i - 1) + j)) i) j := by
  have hp : ∀ j, j < 4 → gB (wordsB k i) (4 * (i - 1) + j) = gB (rkeysB k) (4 * (i - 1) + j) := fun j h => (rkeysB_pre k hk i _ (by omega) (by omega)).symm
  have hq : ∀ j, j < 4 → gB (wordsB k i) (4 * (i - 8) + j) = gB (rkeysB k) (4 * (i - 8) + j) := fun j h => (rkeysB_pre k hk i _ (by omega) (by omega)).symm
  rw [rkeysB_next k hk i j hi hj]
  unfold nextW xAt
  rw [if_neg (by omega)]
  dsimp only
  rw [hp 0 (by decide), hp 1 (by decide), hp 2 (by decide), hp 3 (by decide), hq 0 (by decide), hq 1 (by decide), hq 2 (by decide), hq 3 (by decide)]
  rcases (show j = 0 ∨ j = 1 ∨ j = 2 ∨ j = 3 by omega) with rfl | rfl | rfl | rfl <;>
    (generalize gB (rkeysB k) (4 * (i - 1) + 0) = p0
     generalize gB (rkeysB k) (4 * (i - 1) + 1) = p1
     generalize gB (rkeysB k) (4 * (i - 1) + 2) = p2
     generalize gB (rkeysB k) (4 * (i - 1) + 3) = p3
     generalize gB (rkeysB k) (4 * (i - 8) + 0) = q0
     generalize gB (rkeysB k) (4 * (i - 8) + 1) = q1
     generalize gB (rkeysB k) (4 * (i - 8) + 2) = q2
     generalize gB (rkeysB k) (4 * (i - 8) + 3) = q3
     split
     · rfl
     · split <;> rfl)
theorem rkeysB_length (k : List UInt8) (hk : k.length = 32) : (rkeysB k).length = 240 := wordsB_length k hk 60

theorem info_w4 : (Tryz.prog.info? 323).map (·.size) = some 4 := by kernel_rfl
theorem info_w60 : (Tryz.prog.info? 324).map (·.size) = some 240 := by kernel_rfl

theorem slice_key (Z n : Nat) (hn : n < 8) (w : World) : (Instr.sliceAt 32 (.pointer (some ⟨Z, 0, none⟩)) (some (.int .i64 (4 * (n : Int)))) (some (.int .i64 (4 * (n : Int) + 4))) none).run Tryz.prog w = .ok (.slice (some ⟨Z, 4 * n, none⟩) 4 (32 - 4 * n)) w := by
  have hal : Tryz.prog.arrayLen 32 = 32 := by kernel_rfl
  have hel : Tryz.prog.elem 32 = 5 := by kernel_rfl
  have hs : (sizeOf 5).run Tryz.prog w = .ok 1 w := by kernel_rfl
  rw [run_sliceAt_array_lh (P := Tryz.prog) (w := w) 32 ⟨Z, 0, none⟩ (by rw [hal, hel]; exact Tryz.underlying32) .i64 .i64 (4 * (n : Int)) (4 * (n : Int) + 4) (by omega) (by omega) (by rw [hal]; omega), hel, hs, hal]
  have e : (4 * (n : Int)).toNat = 4 * n := by omega
  have e2 : (4 * (n : Int) + 4).toNat = 4 * n + 4 := by omega
  simp only [Result.andThen, slicedAt, e, e2]
  rw [if_neg (by omega)]
  simp [Addr.add_lit]
theorem arr4_of_slice (A : Addr) (c : Nat) (w : World) : (Instr.arrayAt 323 (.slice (some A) 4 c)).run Tryz.prog w = .ok (.pointer (some A)) w := by
  simp [Instr.arrayAt, run_underlying Tryz.underlying323, Result.andThen]
theorem At_part8 {w : World} {b : Nat} {l : List UInt8} {t : TypeId} (h : w.heap[b]? = some (.cells (l.map Bv).toArray t (0, 0))) (o n : Nat) : At w b o (((l.drop o).take n).map Bv) := by
  intro i u hu
  rw [cell_of_row w b _ _ t _ h]
  rw [List.getElem?_map, List.getElem?_take] at hu
  split at hu
  · rw [List.getElem?_drop] at hu
    rw [List.getElem?_toArray, List.getElem?_map]; exact hu
  · cases hu
theorem upB_word (K : List UInt8) (n : Nat) (hK : K.length = 240) (hn : n < 60) (ys : List UInt8) (hy : ys = (K.drop (4 * n)).take 4) :
    (upB K 240 (4 * n)).take (4 * n) ++ ys ++ (upB K 240 (4 * n)).drop (4 * n + 4) = upB K 240 (4 * (n + 1)) := by
  subst hy
  have hl : (K.take (4 * n)).length = 4 * n := by rw [List.length_take]; omega
  unfold upB zB
  obtain ⟨A, hA⟩ : ∃ A, A = K.take (4 * n) := ⟨_, rfl⟩
  obtain ⟨Z, hZ⟩ : ∃ Z, Z = List.replicate (240 - 4 * n) (0 : UInt8) := ⟨_, rfl⟩
  rw [← hA] at hl
  have a1 : (A ++ Z).take (4 * n) = A := List.take_left' hl
  have a2 : (A ++ Z).drop (4 * n + 4) = Z.drop 4 := by
    rw [List.drop_append, List.drop_of_length_le (by omega), List.nil_append, hl, Nat.add_sub_cancel_left]
  rw [← hA, ← hZ, a1, a2, hA, hZ, List.drop_replicate, show 240 - 4 * n - 4 = 240 - 4 * (n + 1) by omega]
  congr 1
  rw [show 4 * (n + 1) = 4 * n + 4 by omega, List.take_add]
theorem part_bytes {U ys V : List UInt8} {o n : Nat} (h : U.take o ++ ys ++ U.drop (o + n) = V) (hn : ys.length = n) : (U.map Bv).take o ++ ys.map Bv ++ (U.map Bv).drop (o + (ys.map Bv).length) = V.map Bv := by
  rw [List.length_map, hn, ← h, List.map_append, List.map_append, List.map_take, List.map_drop]

theorem index_w60 (K : List UInt8) (n : Nat) (_hK : K.length = 240) (hn : n < 60) (w : World) : (Instr.index 324 (.agg (K.map Bv).toArray) (.int .i64 (n : Int))).run Tryz.prog w = .ok (.agg (((K.drop (4 * n)).take 4).map Bv).toArray) w := by
  have hs : (sizeOf 323).run Tryz.prog w = .ok 4 w := by
    have : ∃ i, Tryz.prog.info? 323 = some i ∧ i.size = 4 := by
      cases hq : Tryz.prog.info? 323 with
      | none => have := info_w4; simp [hq] at this
      | some i => exact ⟨i, rfl, by have := info_w4; simpa [hq] using this⟩
    obtain ⟨i, hi, hs⟩ := this
    simp [sizeOf, typeInfo, hi, hs]
  have ha : (isAgg 323).run Tryz.prog w = .ok true w := by
    unfold isAgg
    rw [Sem.run_bind, run_underlying Tryz.underlying323 w]; rfl
  have hu : Tryz.prog.underlying 324 = some (.array 60 323) := Tryz.underlying324
  simp [Instr.index, run_underlying hu, asIntOf, hs, part, ha, Sem.run_bind, Result.andThen]
  rw [if_pos hn, Nat.mul_comm]

theorem slice_blk (O o j : Nat) (w : World) : (Instr.sliceAt 282 (.pointer (some ⟨O, o, none⟩)) (some (.int .i64 (4 * ((j : Int) % 4)))) none none).run Tryz.prog w = .ok (.slice (some ⟨O, o + 4 * (j % 4), none⟩) (16 - 4 * (j % 4)) (16 - 4 * (j % 4))) w := by
  have hal : Tryz.prog.arrayLen 282 = 16 := by kernel_rfl
  have hel : Tryz.prog.elem 282 = 5 := by kernel_rfl
  have hs : (sizeOf 5).run Tryz.prog w = .ok 1 w := by kernel_rfl
  rw [run_sliceAt_array_l (P := Tryz.prog) (w := w) 282 ⟨O, o, none⟩ (by rw [hal, hel]; exact Tryz.underlying282) .i64 (4 * ((j : Int) % 4)) (by omega) (by rw [hal]; omega), hel, hs, hal]
  have e : (4 * ((j : Int) % 4)).toNat = 4 * (j % 4) := by omega
  simp only [Result.andThen, slicedAt, e]
  rw [if_neg (by omega)]
  simp [Addr.add_lit]

theorem upB_pre (K : List UInt8) (N m j : Nat) (hj : j < m) (hm : m ≤ K.length) : (upB K N m)[j]? = some (gB K j) := by
  unfold upB
  rw [List.getElem?_append_left (by rw [List.length_take]; omega), List.getElem?_take, if_pos hj, gB_get K j (by omega)]
theorem four_of {l : List UInt8} (o : Nat) {a b c d : UInt8} (h0 : l[o]? = some a) (h1 : l[o + 1]? = some b) (h2 : l[o + 2]? = some c) (h3 : l[o + 3]? = some d) : (l.drop o).take 4 = [a, b, c, d] := by
  apply List.ext_getElem?
  intro j
  rw [List.getElem?_take]
  split
  · rename_i hj
    rw [List.getElem?_drop]
    rcases (show j = 0 ∨ j = 1 ∨ j = 2 ∨ j = 3 by omega) with rfl | rfl | rfl | rfl
    · rw [Nat.add_zero, h0]; rfl
    · rw [h1]; rfl
    · rw [h2]; rfl
    · rw [h3]; rfl
  · rw [List.getElem?_eq_none (by simp; omega)]

def ExW (w0 : World) (k U : List UInt8) (wr : World) : Prop :=
  wr.heap[w0.heap.size]? = some (.cells (k.map Bv).toArray 32 (0, 0)) ∧ wr.heap[w0.heap.size + 1]? = some (.cells ((zB 240).map Bv).toArray 317 (0, 0)) ∧
    wr.heap[w0.heap.size + 1 + 1]? = some (.cells (U.map Bv).toArray 324 (0, 0)) ∧ Below w0.heap.size w0 wr
theorem ExW.fr {w0 wr w' : World} {k U : List UInt8} {x : Nat} (h : ExW w0 k U wr) (hf : Fr (fun k => k = x) wr w') (hx : w0.heap.size + 1 + 1 < x) : ExW w0 k U w' :=
  ⟨(hf.block _ (lt_of_block h.1) (by omega)).trans h.1, (hf.block _ (lt_of_block h.2.1) (by omega)).trans h.2.1, (hf.block _ (lt_of_block h.2.2.1) (by omega)).trans h.2.2.1, h.2.2.2.trans (hf.below h.2.2.2.size (fun j hj => by omega))⟩
theorem ExW.alloc {w0 wr : World} {k U : List UInt8} (h : ExW w0 k U wr) (o : Obj) : ExW w0 k U (wr.alloc o) :=
  have hb : Below wr.heap.size wr (wr.alloc o) := (Below.refl _ wr).alloc (Nat.le_refl _) o
  ⟨(hb.block _ (lt_of_block h.1)).trans h.1, (hb.block _ (lt_of_block h.2.1)).trans h.2.1, (hb.block _ (lt_of_block h.2.2.1)).trans h.2.2.1, h.2.2.2.trans (hb.mono h.2.2.2.size)⟩
theorem ExW.lt {w0 wr : World} {k U : List UInt8} (h : ExW w0 k U wr) : w0.heap.size + 1 + 1 < wr.heap.size := lt_of_block h.2.2.1
def boxTo (l : List UInt8) (n : Nat) : List UInt8 := (l.map boxB).take n ++ l.drop n
theorem boxTo_zero (l : List UInt8) : boxTo l 0 = l := by simp [boxTo]
theorem boxTo_all (l : List UInt8) : boxTo l l.length = l.map boxB := by
  unfold boxTo
  rw [List.drop_of_length_le (Nat.le_refl _), List.append_nil, List.take_of_length_le (by rw [List.length_map]; exact Nat.le_refl _)]
theorem boxTo_get (l : List UInt8) (n : Nat) (h : n < l.length) : (boxTo l n)[n]? = some (gB l n) := by
  have hl : ((l.map boxB).take n).length = n := by rw [List.length_take, List.length_map]; omega
  unfold boxTo
  rw [List.getElem?_append_right (by omega), hl, Nat.sub_self, List.getElem?_drop, Nat.add_zero, gB_get l n h]
theorem boxTo_set (l : List UInt8) (n : Nat) (h : n < l.length) : (boxTo l n).set n (boxB (gB l n)) = boxTo l (n + 1) := by
  have hl : ((l.map boxB).take n).length = n := by rw [List.length_take, List.length_map]; omega
  have hs : n < (l.map boxB).length := by rw [List.length_map]; exact h
  have e : (l.map boxB)[n] = boxB (gB l n) := by
    have h1 := gB_get l n h
    rw [List.getElem?_eq_getElem h] at h1
    rw [List.getElem_map, Option.some.inj h1]
  unfold boxTo
  rw [List.set_append_right _ _ (by omega), hl, Nat.sub_self, List.drop_eq_getElem_cons h, List.set_cons_zero, List.take_succ_eq_append_getElem hs, e, List.append_assoc]
  rfl

theorem ExW.setw {w0 wr : World} {k U U' : List UInt8} (h : ExW w0 k U wr) {o : Nat} {v : UInt8} (hu : U.set o v = U') : ExW w0 k U' (wr.setCell ⟨w0.heap.size + 1 + 1, o, none⟩ (.int .u8 (v.toNat : Int))) :=
  have hf := (Fr.refl (fun k => k = w0.heap.size + 1 + 1) wr).set _ o rfl (.int .u8 (v.toNat : Int))
  ⟨(hf.block _ (lt_of_block h.1) (by omega)).trans h.1, (hf.block _ (lt_of_block h.2.1) (by omega)).trans h.2.1, set_bytes h.2.2.1 hu, h.2.2.2.trans (hf.below h.2.2.2.size (fun j hj => by omega))⟩
theorem xAt_8 (p : Nat → UInt8) (i : Nat) (h : i % 8 = 0) : xAt p i = [boxB (p 1) ^^^ ((1 : UInt8) <<< UInt8.ofNat (i / 8 - 1)), boxB (p 2), boxB (p 3), boxB (p 0)] := by unfold xAt; rw [if_pos h]
theorem xAt_4 (p : Nat → UInt8) (i : Nat) (h : ¬ i % 8 = 0) (h4 : i % 4 = 0) : xAt p i = [boxB (p 0), boxB (p 1), boxB (p 2), boxB (p 3)] := by unfold xAt; rw [if_neg h, if_pos h4]
theorem xAt_0 (p : Nat → UInt8) (i : Nat) (h : ¬ i % 8 = 0) (h4 : ¬ i % 4 = 0) : xAt p i = [p 0, p 1, p 2, p 3] := by unfold xAt; rw [if_neg h, if_neg h4]
theorem xor_set (K xs : List UInt8) (n j : Nat) (hK : K.length = 240) (hn : n < 60) (hj : j < 4) (h : gB K (4 * n + j) = gB K (4 * (n - 8) + j) ^^^ gB xs j) :
    (upB K 240 (4 * n + j)).set (4 * n + j) (gB K (4 * (n - 8) + j) ^^^ gB xs j) = upB K 240 (4 * n + (j + 1)) := by
  rw [← Nat.add_assoc]
  exact upB_set K 240 (4 * n + j) _ (by omega) (by rw [← h]; exact gB_get K _ (by omega))

set_option maxRecDepth 100000 in
set_option maxHeartbeats 4000000 in
theorem expand_any (k : List UInt8) (X : Nat) (w : World) (hk : k.length = 32) (hX : w.heap[X]? = some (.cells (boxT.map Bv).toArray 314 (0, 0))) :
    Calls Tryz.prog 212 #[.agg (k.map Bv).toArray, .pointer (some ⟨X, 0, none⟩)] w fun e w' => e = .returned (.agg ((rkeysB k).map Bv).toArray) ∧ Below w.heap.size w w' := by
  have HKl := Lib.hid hk
  have HA := Lib.hid (al3_0 w (.cells (k.map Bv).toArray 32) (.cells ((zB 240).map Bv).toArray 317) (.cells ((zB 240).map Bv).toArray 324))
  have HO := Lib.hid (al3_1 w (.cells (k.map Bv).toArray 32) (.cells ((zB 240).map Bv).toArray 317) (.cells ((zB 240).map Bv).toArray 324))
  have HW := Lib.hid (al3_2 w (.cells (k.map Bv).toArray 32) (.cells ((zB 240).map Bv).toArray 317) (.cells ((zB 240).map Bv).toArray 324))
  have HB3 := Lib.hid (show Below w.heap.size w (((w.alloc (.cells (k.map Bv).toArray 32)).alloc (.cells ((zB 240).map Bv).toArray 317)).alloc (.cells ((zB 240).map Bv).toArray 324)) from
    (((Below.refl _ w).alloc (Nat.le_refl _) _).alloc (by simp) _).alloc (by simp only [World.size_alloc]; omega) _)
  have HX := Lib.hid hX
  clear hk hX
  go_enter Tryz.func212, Tryz.ntmps212
  go_wp2
  go_loopw [12] (fun ni wr => ∃ n : Nat, n ≤ 60 ∧ ni = .int .i64 n ∧ wr.heap[w.heap.size]? = some (.cells (k.map Bv).toArray 32 (0, 0)) ∧ wr.heap[w.heap.size + 1]? = some (.cells ((zB 240).map Bv).toArray 317 (0, 0)) ∧ wr.heap[w.heap.size + 1 + 1]? = some (.cells ((upB (rkeysB k) 240 (4 * n)).map Bv).toArray 324 (0, 0)) ∧ Below w.heap.size w wr) (fun ni _ => 60 - (intOf ni).toNat)
  case atStart => exact ⟨0, Nat.zero_le _, rfl, HA.out, HO.out, by rw [upB_zero]; exact HW.out, HB3.out⟩
  case round =>
    obtain ⟨n, hn, rfl, hgk, hgo, hgw, hf⟩ := hrel
    have HG := Lib.hid (And.intro hgk (And.intro hgo (And.intro hgw hf)))
    clear hgk hgo hgw hf HA HO HW HB3
    rcases Nat.lt_or_ge n 60 with hlt | hge
    · rcases Nat.lt_or_ge n 8 with h8 | h8
      · have hsk := slice_key w.heap.size n h8 wr
        have hat := arr4_of_slice ⟨w.heap.size, 4 * n, none⟩ (32 - 4 * n) wr
        have HLd := Lib.hid (At_part8 HG.out.1 (4 * n) 4)
        have hlen : ((k.drop (4 * n)).take 4).length = 4 := by rw [List.length_take, List.length_drop, HKl.out]; omega
        have hkw : (k.drop (4 * n)).take 4 = ((rkeysB k).drop (4 * n)).take 4 := by
          apply List.ext_getElem?
          intro j
          rw [List.getElem?_take, List.getElem?_take]
          split
          · rename_i hj
            rw [List.getElem?_drop, List.getElem?_drop, gB_get _ _ (by rw [HKl.out]; omega), gB_get _ _ (by rw [rkeysB_length _ HKl.out]; omega), rkeysB_low k HKl.out n j h8 hj]
          · rfl
        have HWd := Lib.hid (upB_word (rkeysB k) n (rkeysB_length _ HKl.out) hlt _ hkw)
        obtain ⟨ys, hys⟩ : ∃ ys, ys = (k.drop (4 * n)).take 4 := ⟨_, rfl⟩
        rw [← hys] at HLd HWd hlen
        have HYl := Lib.hid hlen
        clear hkw hys hlen
        go_wp2_with (first | (refine wpList_load_at rfl _ (.tmp 24) rfl w.heap.size (4 * n) rfl (ys.map Bv) _ HLd.out Tryz.underlying323 rfl (by rw [info_w4]; simp [HYl.out]) ?_) | (refine wpList_store_lpart rfl _ (.tmp 26) (.tmp 25) rfl (w.heap.size + 1 + 1) (n * 4) rfl (ys.map Bv) rfl ((upB (rkeysB k) 240 (4 * n)).map Bv) _ HG.out.2.2.1 (by rw [List.length_map, List.length_map, HYl.out, upB_length _ _ _ (by omega) (by rw [rkeysB_length _ HKl.out]; omega)]; omega) (Bv_oneCell _) (by rw [info_w4]; simp [HYl.out]) ?_; intro w8 hg8 hf8 _))
        rw [Nat.mul_comm n 4, part_bytes HWd.out HYl.out] at hg8
        refine ⟨⟨n + 1, by omega, by go_num, ?_, ?_, hg8, ?_⟩, by simp [intOf]; omega⟩
        · exact (hf8.block _ (lt_of_block HG.out.1) (by omega)).trans HG.out.1
        · exact (hf8.block _ (lt_of_block HG.out.2.1) (by omega)).trans HG.out.2.1
        · exact HG.out.2.2.2.trans (hf8.below HG.out.2.2.2.size (fun j hj => by omega))
      · obtain ⟨K, hK⟩ : ∃ K, K = rkeysB k := ⟨_, rfl⟩
        have hKl : K.length = 240 := by rw [hK]; exact rkeysB_length k HKl.out
        have hhigh := fun j (hj : j < 4) => rkeysB_high k HKl.out n j h8 hlt hj
        rw [← hK] at HG hhigh
        have hpre := fun j (hj : j < 4) => upB_pre K 240 (4 * n) (4 * (n - 1) + j) (by omega) (by omega)
        have HPt := Lib.hid (At_part8 HG.out.2.2.1 (4 * (n - 1)) 4)
        rw [four_of (4 * (n - 1)) (hpre 0 (by decide)) (hpre 1 (by decide)) (hpre 2 (by decide)) (hpre 3 (by decide))] at HPt
        obtain ⟨p0, hp0⟩ : ∃ p, p = gB K (4 * (n - 1) + 0) := ⟨_, rfl⟩
        obtain ⟨p1, hp1⟩ : ∃ p, p = gB K (4 * (n - 1) + 1) := ⟨_, rfl⟩
        obtain ⟨p2, hp2⟩ : ∃ p, p = gB K (4 * (n - 1) + 2) := ⟨_, rfl⟩
        obtain ⟨p3, hp3⟩ : ∃ p, p = gB K (4 * (n - 1) + 3) := ⟨_, rfl⟩
        rw [← hp0, ← hp1, ← hp2, ← hp3, Nat.mul_comm 4 (n - 1)] at HPt
        have HP := Lib.hid (And.intro hp0 (And.intro hp1 (And.intro hp2 hp3)))
        have HHigh := Lib.hid hhigh
        have HKl2 := Lib.hid hKl
        have HKv := Lib.hid hK
        clear hK hKl hhigh hpre hp0 hp1 hp2 hp3
        rcases Nat.eq_zero_or_pos (n % 8) with hm8 | hm8
        · go_wp2_with (first | (refine wpList_load_at rfl _ (.tmp 29) rfl (w.heap.size + 1 + 1) ((n - 1) * 4) rfl ([p0, p1, p2, p3].map Bv) _ HPt.out Tryz.underlying323 rfl (by rw [info_w4]; rfl) ?_) | (refine wpList_store_row rfl _ (.tmp 7) (.tmp 30) rfl wr.heap.size rfl ([p0, p1, p2, p3].map Bv) rfl _ _ (heap_alloc_new _ _) rfl (Bv_oneCell _) (by rw [info_w4]; rfl) ?_; intro w5 hg5 hf5 _; have c0 := cell_of_bytes (l := [p0, p1, p2, p3]) (n := 0) hg5 rfl; have c1 := cell_of_bytes (l := [p0, p1, p2, p3]) (n := 1) hg5 rfl; have c2 := cell_of_bytes (l := [p0, p1, p2, p3]) (n := 2) hg5 rfl; have c3 := cell_of_bytes (l := [p0, p1, p2, p3]) (n := 3) hg5 rfl; have HG5 := Lib.hid hg5; clear hg5) | (refine wpList_store_row rfl _ (.tmp 7) (.tmp 42) rfl wr.heap.size rfl ([p1, p2, p3, p0].map Bv) rfl _ _ HG5.out rfl (Bv_oneCell _) (by rw [info_w4]; rfl) ?_; intro w6 hg6 hf6 _))
          have HE6 := Lib.hid (show ExW w k (upB K 240 (4 * n)) w6 from ((show ExW w k (upB K 240 (4 * n)) wr from ⟨HG.out.1, HG.out.2.1, HG.out.2.2.1, HG.out.2.2.2⟩).alloc _).fr hf5 (ExW.lt ⟨HG.out.1, HG.out.2.1, HG.out.2.2.1, HG.out.2.2.2⟩) |>.fr hf6 (ExW.lt ⟨HG.out.1, HG.out.2.1, HG.out.2.2.1, HG.out.2.2.2⟩))
          have hxr : w.heap.size + 1 + 1 < wr.heap.size := ExW.lt ⟨HG.out.1, HG.out.2.1, HG.out.2.2.1, HG.out.2.2.2⟩
          have HG6 := Lib.hid hg6
          obtain ⟨x, hx⟩ : ∃ x, x = wr.heap.size := ⟨_, rfl⟩
          have HXL := Lib.hid (hx ▸ hxr)
          rw [← hx] at HG6 ⊢
          obtain ⟨ls, hls⟩ : ∃ ls, ls = [p1, p2, p3, p0] := ⟨_, rfl⟩
          have HLs := Lib.hid hls
          have HLl := Lib.hid (show ls.length = 4 by rw [hls]; rfl)
          rw [← hls] at HG6
          clear hg6 hf5 hf6 c0 c1 c2 c3 HG HPt HG5 hxr hx hls
          go_loopw [46] (fun ji wr => ∃ j : Nat, j ≤ 4 ∧ ji = .int .i64 j ∧ wr.heap[x]? = some (.cells ((boxTo ls j).map Bv).toArray 323 (0, 0)) ∧ ExW w k (upB K 240 (4 * n)) wr) (fun ji _ => 4 - (intOf ji).toNat)
          case atStart => exact ⟨0, Nat.zero_le _, rfl, by rw [boxTo_zero]; exact HG6.out, HE6.out⟩
          case round =>
            clear HG6 HE6
            obtain ⟨j, hj, rfl, hg, he⟩ := hrel
            rcases Nat.lt_or_ge j 4 with hlj | hgj
            · have hxb := (he.2.2.2.block X (lt_of_block HX.out)).trans HX.out
              obtain ⟨y, hy⟩ : ∃ y, y = gB ls j := ⟨_, rfl⟩
              have gj := cell_of_bytes hg (boxTo_get ls j (by rw [HLl.out]; exact hlj))
              have gx := cell_of_bytes hxb (boxT_get (gB ls j))
              have HSet := Lib.hid (boxTo_set ls j (by rw [HLl.out]; exact hlj))
              have hfz : wr.frozen? ⟨x, j, none⟩ = false := by simp [World.frozen?, hg]
              rw [← hy] at gj gx HSet
              have hyl := y.toNat_lt
              have HG := Lib.hid hg
              have HE := Lib.hid he
              clear hg he hxb hy
              go_wp2_with fail
              go_region
              go_wp2
              go_roundw
              case rel =>
                exact ⟨j + 1, by omega, by go_num, set_bytes HG.out HSet.out, HE.out.fr (((Fr.refl (fun k => k = x) wr).set _ j rfl _).trans (Fr_drewN' _ _ 1)) HXL.out⟩
              case measure => simp [intOf]; omega
            · obtain rfl : j = 4 := by omega
              have hal := boxTo_all ls
              rw [HLl.out] at hal
              rw [hal, HLs.out] at hg
              have hml : (List.map boxB [p1, p2, p3, p0]) = [boxB p1, boxB p2, boxB p3, boxB p0] := rfl
              rw [hml] at hg
              obtain ⟨b1, hb1⟩ : ∃ b, b = boxB p1 := ⟨_, rfl⟩
              obtain ⟨xs, hxs⟩ : ∃ xs, xs = [b1 ^^^ ((1 : UInt8) <<< UInt8.ofNat (n / 8 - 1)), boxB p2, boxB p3, boxB p0] := ⟨_, rfl⟩
              have HXs := Lib.hid (show ∀ j, j < 4 → gB K (4 * n + j) = gB K (4 * (n - 8) + j) ^^^ gB xs j from fun j hj => by
                have := HHigh.out j hj
                rw [xAt_8 _ _ (by omega), ← HP.out.1, ← HP.out.2.1, ← HP.out.2.2.1, ← HP.out.2.2.2, ← hb1, ← hxs] at this
                exact this)
              have c0 := cell_of_bytes (n := 0) (x := b1) hg (by rw [hb1]; rfl)
              have hfz : wr.frozen? ⟨x, 0, none⟩ = false := by simp [World.frozen?, hg]
              have HV := Lib.hid (show bits .xor .u8 (b1.toNat : Int) ((2 : Int) ^ (n / 8 - 1) % 256) = ((b1 ^^^ ((1 : UInt8) <<< UInt8.ofNat (n / 8 - 1))).toNat : Int) by
                have := bln 1 (n / 8 - 1) (by omega)
                rw [show ((1 : UInt8).toNat : Int) = 1 from rfl, Int.one_mul] at this
                rw [this, bx])
              have HXl := Lib.hid (show xs.length = 4 by rw [hxs]; rfl)
              have HRow := Lib.hid hg
              have HXv := Lib.hid hxs
              have HB1 := Lib.hid hb1
              have HE := Lib.hid he
              clear hg he hml hal hb1 hxs
              go_wp2_with fail
              go_region
              rw [HV.out]
              have HXr := Lib.hid (show ((wr.setCell ⟨x, 0, none⟩ (.int .u8 ((b1 ^^^ ((1 : UInt8) <<< UInt8.ofNat (n / 8 - 1))).toNat : Int))).drew).heap[x]? = some (.cells (xs.map Bv).toArray 323 (0, 0)) from set_bytes (l' := xs) HRow.out (by rw [HXv.out, HB1.out]; rfl))
              have HEx := Lib.hid (show ExW w k (upB K 240 (4 * n + 0)) ((wr.setCell ⟨x, 0, none⟩ (.int .u8 ((b1 ^^^ ((1 : UInt8) <<< UInt8.ofNat (n / 8 - 1))).toNat : Int))).drew) from HE.out.fr (((Fr.refl (fun k => k = x) wr).set _ 0 rfl _).trans (Fr_drewN' _ _ 1)) HXL.out)
              clear HRow HE HV hfz c0
              -- the xor loop: HXr : x's row is xs, HE : ExW .. , HXs : ∀ j < 4, gB xs j = gB (xAt ..) j
              go_wp2_with fail
              go_loopw [70] (fun ji wr => ∃ j : Nat, j ≤ 4 ∧ ji = .int .i64 j ∧ wr.heap[x]? = some (.cells (xs.map Bv).toArray 323 (0, 0)) ∧ ExW w k (upB K 240 (4 * n + j)) wr) (fun ji _ => 4 - (intOf ji).toNat)
              case atStart => exact ⟨0, Nat.zero_le _, rfl, HXr.out, HEx.out⟩
              case round =>
                clear HXr HEx
                obtain ⟨j, hj, rfl, hg, he⟩ := hrel
                rcases Nat.lt_or_ge j 4 with hlj | hgj
                · have hset := xor_set K xs n j HKl2.out hlt hlj (HXs.out j hlj)
                  have gx := cell_of_bytes hg (gB_get xs j (by rw [HXl.out]; exact hlj))
                  have gw := cell_of_bytes he.2.2.1 (upB_pre K 240 (4 * n + j) (4 * (n - 8) + j) (by omega) (by rw [HKl2.out]; omega))
                  rw [Nat.mul_comm 4 (n - 8)] at gw hset
                  have gz := cell_of_bytes he.2.2.1 (upB_get K 240 (4 * n + j) (by omega) (by rw [HKl2.out]; omega))
                  rw [Nat.mul_comm 4 n] at gz
                  obtain ⟨y, hy⟩ : ∃ y, y = gB xs j := ⟨_, rfl⟩
                  obtain ⟨z, hz⟩ : ∃ z, z = gB K ((n - 8) * 4 + j) := ⟨_, rfl⟩
                  rw [← hy] at gx hset
                  rw [← hz] at gw hset
                  have hfz : wr.frozen? ⟨w.heap.size + 1 + 1, n * 4 + j, none⟩ = false := by simp [World.frozen?, he.2.2.1]
                  obtain ⟨v, hv⟩ : ∃ v, v = z ^^^ y := ⟨_, rfl⟩
                  have HV := Lib.hid (show bits .xor .u8 (z.toNat : Int) (y.toNat : Int) = (v.toNat : Int) by rw [bx, hv])
                  rw [← hv] at hset
                  have HSet := Lib.hid hset
                  have HG := Lib.hid hg
                  have HE := Lib.hid he
                  clear hg he hset hy hz hv
                  go_wp2_with fail
                  go_region
                  rw [HV.out]
                  go_wp2
                  go_roundw
                  case rel =>
                    refine ⟨j + 1, by omega, by go_num, ?_, ?_⟩
                    · exact (((Fr.refl (fun k => k = w.heap.size + 1 + 1) wr).set _ _ rfl _).trans (Fr_drewN' _ _ 1)).block _ (lt_of_block HG.out) (by have := HXL.out; omega) |>.trans HG.out
                    · have := (HE.out.setw (o := 4 * n + j) HSet.out)
                      rw [Nat.mul_comm 4 n] at this
                      exact ⟨this.1, this.2.1, (by rw [Nat.mul_comm 4 n]; exact this.2.2.1), this.2.2.2.drew⟩
                  case measure => simp [intOf]; omega
                · obtain rfl : j = 4 := by omega
                  have HE := Lib.hid he
                  clear he hg
                  go_wp2_with fail
                  exact ⟨⟨n + 1, by omega, by go_num, HE.out.1, HE.out.2.1, by rw [← HKv.out]; exact HE.out.2.2.1, HE.out.2.2.2⟩, by simp [intOf]; omega⟩
        · rcases Nat.eq_zero_or_pos (n % 4) with hm4 | hm4
          · go_wp2_with (first | (refine wpList_load_at rfl _ (.tmp 29) rfl (w.heap.size + 1 + 1) ((n - 1) * 4) rfl ([p0, p1, p2, p3].map Bv) _ HPt.out Tryz.underlying323 rfl (by rw [info_w4]; rfl) ?_) | (refine wpList_store_row rfl _ (.tmp 7) (.tmp 30) rfl wr.heap.size rfl ([p0, p1, p2, p3].map Bv) rfl _ _ (heap_alloc_new _ _) rfl (Bv_oneCell _) (by rw [info_w4]; rfl) ?_; intro w6 hg6 hf6 _))
            have HE6 := Lib.hid (show ExW w k (upB K 240 (4 * n)) w6 from ((show ExW w k (upB K 240 (4 * n)) wr from ⟨HG.out.1, HG.out.2.1, HG.out.2.2.1, HG.out.2.2.2⟩).alloc _).fr hf6 (ExW.lt ⟨HG.out.1, HG.out.2.1, HG.out.2.2.1, HG.out.2.2.2⟩))
            have hxr : w.heap.size + 1 + 1 < wr.heap.size := ExW.lt ⟨HG.out.1, HG.out.2.1, HG.out.2.2.1, HG.out.2.2.2⟩
            have HG6 := Lib.hid hg6
            obtain ⟨x, hx⟩ : ∃ x, x = wr.heap.size := ⟨_, rfl⟩
            have HXL := Lib.hid (hx ▸ hxr)
            rw [← hx] at HG6 ⊢
            obtain ⟨ls, hls⟩ : ∃ ls, ls = [p0, p1, p2, p3] := ⟨_, rfl⟩
            have HLs := Lib.hid hls
            have HLl := Lib.hid (show ls.length = 4 by rw [hls]; rfl)
            rw [← hls] at HG6
            clear hg6 hf6 HG HPt hxr hx hls
            go_loopw [46] (fun ji wr => ∃ j : Nat, j ≤ 4 ∧ ji = .int .i64 j ∧ wr.heap[x]? = some (.cells ((boxTo ls j).map Bv).toArray 323 (0, 0)) ∧ ExW w k (upB K 240 (4 * n)) wr) (fun ji _ => 4 - (intOf ji).toNat)
            case atStart => exact ⟨0, Nat.zero_le _, rfl, by rw [boxTo_zero]; exact HG6.out, HE6.out⟩
            case round =>
              clear HG6 HE6
              obtain ⟨j, hj, rfl, hg, he⟩ := hrel
              rcases Nat.lt_or_ge j 4 with hlj | hgj
              · have hxb := (he.2.2.2.block X (lt_of_block HX.out)).trans HX.out
                obtain ⟨y, hy⟩ : ∃ y, y = gB ls j := ⟨_, rfl⟩
                have gj := cell_of_bytes hg (boxTo_get ls j (by rw [HLl.out]; exact hlj))
                have gx := cell_of_bytes hxb (boxT_get (gB ls j))
                have HSet := Lib.hid (boxTo_set ls j (by rw [HLl.out]; exact hlj))
                have hfz : wr.frozen? ⟨x, j, none⟩ = false := by simp [World.frozen?, hg]
                rw [← hy] at gj gx HSet
                have hyl := y.toNat_lt
                have HG := Lib.hid hg
                have HE := Lib.hid he
                clear hg he hxb hy
                go_wp2_with fail
                go_region
                go_wp2
                go_roundw
                case rel =>
                  exact ⟨j + 1, by omega, by go_num, set_bytes HG.out HSet.out, HE.out.fr (((Fr.refl (fun k => k = x) wr).set _ j rfl _).trans (Fr_drewN' _ _ 1)) HXL.out⟩
                case measure => simp [intOf]; omega
              · obtain rfl : j = 4 := by omega
                have hal := boxTo_all ls
                rw [HLl.out] at hal
                rw [hal, HLs.out] at hg
                have hml : (List.map boxB [p0, p1, p2, p3]) = [boxB p0, boxB p1, boxB p2, boxB p3] := rfl
                rw [hml] at hg
                obtain ⟨xs, hxs⟩ : ∃ xs, xs = [boxB p0, boxB p1, boxB p2, boxB p3] := ⟨_, rfl⟩
                have HXs := Lib.hid (show ∀ j, j < 4 → gB K (4 * n + j) = gB K (4 * (n - 8) + j) ^^^ gB xs j from fun j hj => by
                  have := HHigh.out j hj
                  rw [xAt_4 _ _ (by omega) (by omega), ← HP.out.1, ← HP.out.2.1, ← HP.out.2.2.1, ← HP.out.2.2.2, ← hxs] at this
                  exact this)
                have HXl := Lib.hid (show xs.length = 4 by rw [hxs]; rfl)
                rw [← hxs] at hg
                have HXr := Lib.hid hg
                have HEx := Lib.hid (show ExW w k (upB K 240 (4 * n + 0)) wr from he)
                clear hg he hml hal hxs
                -- the xor loop: HXr : x's row is xs, HE : ExW .. , HXs : ∀ j < 4, gB xs j = gB (xAt ..) j
                go_wp2_with fail
                go_loopw [70] (fun ji wr => ∃ j : Nat, j ≤ 4 ∧ ji = .int .i64 j ∧ wr.heap[x]? = some (.cells (xs.map Bv).toArray 323 (0, 0)) ∧ ExW w k (upB K 240 (4 * n + j)) wr) (fun ji _ => 4 - (intOf ji).toNat)
                case atStart => exact ⟨0, Nat.zero_le _, rfl, HXr.out, HEx.out⟩
                case round =>
                  clear HXr HEx
                  obtain ⟨j, hj, rfl, hg, he⟩ := hrel
                  rcases Nat.lt_or_ge j 4 with hlj | hgj
                  · have hset := xor_set K xs n j HKl2.out hlt hlj (HXs.out j hlj)
                    have gx := cell_of_bytes hg (gB_get xs j (by rw [HXl.out]; exact hlj))
                    have gw := cell_of_bytes he.2.2.1 (upB_pre K 240 (4 * n + j) (4 * (n - 8) + j) (by omega) (by rw [HKl2.out]; omega))
                    rw [Nat.mul_comm 4 (n - 8)] at gw hset
                    have gz := cell_of_bytes he.2.2.1 (upB_get K 240 (4 * n + j) (by omega) (by rw [HKl2.out]; omega))
                    rw [Nat.mul_comm 4 n] at gz
                    obtain ⟨y, hy⟩ : ∃ y, y = gB xs j := ⟨_, rfl⟩
                    obtain ⟨z, hz⟩ : ∃ z, z = gB K ((n - 8) * 4 + j) := ⟨_, rfl⟩
                    rw [← hy] at gx hset
                    rw [← hz] at gw hset
                    have hfz : wr.frozen? ⟨w.heap.size + 1 + 1, n * 4 + j, none⟩ = false := by simp [World.frozen?, he.2.2.1]
                    obtain ⟨v, hv⟩ : ∃ v, v = z ^^^ y := ⟨_, rfl⟩
                    have HV := Lib.hid (show bits .xor .u8 (z.toNat : Int) (y.toNat : Int) = (v.toNat : Int) by rw [bx, hv])
                    rw [← hv] at hset
                    have HSet := Lib.hid hset
                    have HG := Lib.hid hg
                    have HE := Lib.hid he
                    clear hg he hset hy hz hv
                    go_wp2_with fail
                    go_region
                    rw [HV.out]
                    go_wp2
                    go_roundw
                    case rel =>
                      refine ⟨j + 1, by omega, by go_num, ?_, ?_⟩
                      · exact (((Fr.refl (fun k => k = w.heap.size + 1 + 1) wr).set _ _ rfl _).trans (Fr_drewN' _ _ 1)).block _ (lt_of_block HG.out) (by have := HXL.out; omega) |>.trans HG.out
                      · have := (HE.out.setw (o := 4 * n + j) HSet.out)
                        rw [Nat.mul_comm 4 n] at this
                        exact ⟨this.1, this.2.1, (by rw [Nat.mul_comm 4 n]; exact this.2.2.1), this.2.2.2.drew⟩
                    case measure => simp [intOf]; omega
                  · obtain rfl : j = 4 := by omega
                    have HE := Lib.hid he
                    clear he hg
                    go_wp2_with fail
                    exact ⟨⟨n + 1, by omega, by go_num, HE.out.1, HE.out.2.1, by rw [← HKv.out]; exact HE.out.2.2.1, HE.out.2.2.2⟩, by simp [intOf]; omega⟩
          · go_wp2_with (first | (refine wpList_load_at rfl _ (.tmp 29) rfl (w.heap.size + 1 + 1) ((n - 1) * 4) rfl ([p0, p1, p2, p3].map Bv) _ HPt.out Tryz.underlying323 rfl (by rw [info_w4]; rfl) ?_) | (refine wpList_store_row rfl _ (.tmp 7) (.tmp 30) rfl wr.heap.size rfl ([p0, p1, p2, p3].map Bv) rfl _ _ (heap_alloc_new _ _) rfl (Bv_oneCell _) (by rw [info_w4]; rfl) ?_; intro w6 hg6 hf6 _))
            have HE6 := Lib.hid (show ExW w k (upB K 240 (4 * n)) w6 from ((show ExW w k (upB K 240 (4 * n)) wr from ⟨HG.out.1, HG.out.2.1, HG.out.2.2.1, HG.out.2.2.2⟩).alloc _).fr hf6 (ExW.lt ⟨HG.out.1, HG.out.2.1, HG.out.2.2.1, HG.out.2.2.2⟩))
            have hxr : w.heap.size + 1 + 1 < wr.heap.size := ExW.lt ⟨HG.out.1, HG.out.2.1, HG.out.2.2.1, HG.out.2.2.2⟩
            have HG6 := Lib.hid hg6
            obtain ⟨x, hx⟩ : ∃ x, x = wr.heap.size := ⟨_, rfl⟩
            have HXL := Lib.hid (hx ▸ hxr)
            rw [← hx] at HG6 ⊢
            obtain ⟨xs, hxs⟩ : ∃ xs, xs = [p0, p1, p2, p3] := ⟨_, rfl⟩
            have HXs := Lib.hid (show ∀ j, j < 4 → gB K (4 * n + j) = gB K (4 * (n - 8) + j) ^^^ gB xs j from fun j hj => by
              have := HHigh.out j hj
              rw [xAt_0 _ _ (by omega) (by omega), ← HP.out.1, ← HP.out.2.1, ← HP.out.2.2.1, ← HP.out.2.2.2, ← hxs] at this
              exact this)
            have HXl := Lib.hid (show xs.length = 4 by rw [hxs]; rfl)
            rw [← hxs] at HG6
            have HXr := Lib.hid HG6.out
            have HEx := Lib.hid (show ExW w k (upB K 240 (4 * n + 0)) w6 from HE6.out)
            clear hg6 hf6 HG HPt HG6 HE6 hxr hx hxs
            -- the xor loop: HXr : x's row is xs, HE : ExW .. , HXs : ∀ j < 4, gB xs j = gB (xAt ..) j
            go_wp2_with fail
            go_loopw [70] (fun ji wr => ∃ j : Nat, j ≤ 4 ∧ ji = .int .i64 j ∧ wr.heap[x]? = some (.cells (xs.map Bv).toArray 323 (0, 0)) ∧ ExW w k (upB K 240 (4 * n + j)) wr) (fun ji _ => 4 - (intOf ji).toNat)
            case atStart => exact ⟨0, Nat.zero_le _, rfl, HXr.out, HEx.out⟩
            case round =>
              clear HXr HEx
              obtain ⟨j, hj, rfl, hg, he⟩ := hrel
              rcases Nat.lt_or_ge j 4 with hlj | hgj
              · have hset := xor_set K xs n j HKl2.out hlt hlj (HXs.out j hlj)
                have gx := cell_of_bytes hg (gB_get xs j (by rw [HXl.out]; exact hlj))
                have gw := cell_of_bytes he.2.2.1 (upB_pre K 240 (4 * n + j) (4 * (n - 8) + j) (by omega) (by rw [HKl2.out]; omega))
                rw [Nat.mul_comm 4 (n - 8)] at gw hset
                have gz := cell_of_bytes he.2.2.1 (upB_get K 240 (4 * n + j) (by omega) (by rw [HKl2.out]; omega))
                rw [Nat.mul_comm 4 n] at gz
                obtain ⟨y, hy⟩ : ∃ y, y = gB xs j := ⟨_, rfl⟩
                obtain ⟨z, hz⟩ : ∃ z, z = gB K ((n - 8) * 4 + j) := ⟨_, rfl⟩
                rw [← hy] at gx hset
                rw [← hz] at gw hset
                have hfz : wr.frozen? ⟨w.heap.size + 1 + 1, n * 4 + j, none⟩ = false := by simp [World.frozen?, he.2.2.1]
                obtain ⟨v, hv⟩ : ∃ v, v = z ^^^ y := ⟨_, rfl⟩
                have HV := Lib.hid (show bits .xor .u8 (z.toNat : Int) (y.toNat : Int) = (v.toNat : Int) by rw [bx, hv])
                rw [← hv] at hset
                have HSet := Lib.hid hset
                have HG := Lib.hid hg
                have HE := Lib.hid he
                clear hg he hset hy hz hv
                go_wp2_with fail
                go_region
                rw [HV.out]
                go_wp2
                go_roundw
                case rel =>
                  refine ⟨j + 1, by omega, by go_num, ?_, ?_⟩
                  · exact (((Fr.refl (fun k => k = w.heap.size + 1 + 1) wr).set _ _ rfl _).trans (Fr_drewN' _ _ 1)).block _ (lt_of_block HG.out) (by have := HXL.out; omega) |>.trans HG.out
                  · have := (HE.out.setw (o := 4 * n + j) HSet.out)
                    rw [Nat.mul_comm 4 n] at this
                    exact ⟨this.1, this.2.1, (by rw [Nat.mul_comm 4 n]; exact this.2.2.1), this.2.2.2.drew⟩
                case measure => simp [intOf]; omega
              · obtain rfl : j = 4 := by omega
                have HE := Lib.hid he
                clear he hg
                go_wp2_with fail
                exact ⟨⟨n + 1, by omega, by go_num, HE.out.1, HE.out.2.1, by rw [← HKv.out]; exact HE.out.2.2.1, HE.out.2.2.2⟩, by simp [intOf]; omega⟩
    · obtain rfl : n = 60 := by omega
      obtain ⟨K, hK⟩ : ∃ K, K = rkeysB k := ⟨_, rfl⟩
      have hKl : K.length = 240 := by rw [hK]; exact rkeysB_length k HKl.out
      have hgw := HG.out.2.2.1
      rw [show 4 * 60 = 240 from rfl, upB_all _ _ (rkeysB_length k HKl.out), ← hK] at hgw
      have HLw := Lib.hid (At.of_row hgw)
      have HKv := Lib.hid hK
      have HKl2 := Lib.hid hKl
      have hgo := HG.out.2.1
      have HGo := Lib.hid hgo
      have HF := Lib.hid HG.out.2.2.2
      have hix := fun j (hj : j < 60) (u : World) => index_w60 K j hKl hj u
      have HIx := Lib.hid hix
      clear hgw hK hKl HG hgo hix
      go_wp2_with (refine wpList_load_at rfl _ (.tmp 5) rfl (w.heap.size + 1 + 1) 0 rfl (K.map Bv) _ HLw.out Tryz.underlying324 rfl (by rw [info_w60]; simp [HKl2.out]) ?_)
      go_loopw [90] (fun ji wr => ∃ j : Nat, j ≤ 60 ∧ ji = .int .i64 j ∧ wr.heap[w.heap.size + 1]? = some (.cells ((upB K 240 (4 * j)).map Bv).toArray 317 (0, 0)) ∧ Below w.heap.size w wr) (fun ji _ => 60 - (intOf ji).toNat)
      case atStart => exact ⟨0, Nat.zero_le _, rfl, by rw [upB_zero]; exact HGo.out, HF.out⟩
      case round =>
        clear HGo HF HLw
        obtain ⟨j, hj, rfl, hgo, hf⟩ := hrel
        have HGo := Lib.hid hgo
        have HF := Lib.hid hf
        clear hgo hf
        rcases Nat.lt_or_ge j 60 with hlt | hge
        · have hix := HIx.out j hlt wr
          have hyl : ((K.drop (4 * j)).take 4).length = 4 := by rw [List.length_take, List.length_drop, HKl2.out]; omega
          have HWd := Lib.hid (upB_word K j HKl2.out hlt _ rfl)
          obtain ⟨ys, hys⟩ : ∃ ys, ys = (K.drop (4 * j)).take 4 := ⟨_, rfl⟩
          rw [← hys] at hix hyl HWd
          have HYl := Lib.hid hyl
          clear hyl hys
          go_wp2_with (refine wpList_store_row rfl _ (.tmp 11) (.tmp 93) rfl wr.heap.size rfl (ys.map Bv) rfl _ _ (heap_alloc_new _ _) (by simp [HYl.out]) (Bv_oneCell _) (by rw [info_w4]; simp [HYl.out]) ?_; intro w5 hg5 hf5 _)
          have hsl := fun o => slice_blk (w.heap.size + 1) o j w5.drew
          have hgo5 : w5.heap[w.heap.size + 1]? = some (.cells ((upB K 240 (4 * j)).map Bv).toArray 317 (0, 0)) :=
            (hf5.block _ (by have := lt_of_block HGo.out; simp only [World.size_alloc]; omega) (by have := lt_of_block HGo.out; omega)).trans (((Below.refl _ wr).alloc (Nat.le_refl _) _).block _ (lt_of_block HGo.out) |>.trans HGo.out)
          have HB5 := Lib.hid (HF.out.trans (((Below.refl _ wr).alloc (Nat.le_refl _) _).trans (hf5.below (by simp) (fun j hj => by omega)) |>.mono HF.out.size))
          have HG5 := Lib.hid hg5
          have HGo5 := Lib.hid hgo5
          clear hg5 hf5 hgo5 HGo HF hix
          refine wp_region_quiet_tail 8 (by kernel_rfl) (by kernel_rfl) ?_
          simp only [List.take_succ_cons, List.take_zero, List.drop_succ_cons, List.drop_zero, Act.put]
          repeat (go_big_quiet_step (fail))
          refine wpQuiet_nil ?_
          have hsl5 : Sl w5.drew 1 (.slice (some ⟨wr.heap.size, 0, none⟩) 4 4) 4 (ys.map Bv) := sl_row' (show w5.drew.heap[wr.heap.size]? = _ from HG5.out) rfl (by simp [HYl.out])
          have HSl5 := Lib.hid hsl5
          clear hsl hsl5
          go_wp2_with (refine copy_u8 rfl (.tmp 100) (.tmp 101) rfl (show w5.drew.heap[w.heap.size + 1]? = _ from HGo5.out) HSl5.out rfl rfl (by rw [upB_length _ _ _ (by omega) (by rw [HKl2.out]; omega)]; omega) ?_; intro w6 hg6 hf6)
          have e6 : over (upB K 240 (4 * j)) (j / 4 * 16 + 4 * (j % 4)) (ys.take (min 4 (16 - 4 * (j % 4)))) = upB K 240 (4 * (j + 1)) := by
            rw [show j / 4 * 16 + 4 * (j % 4) = 4 * j by omega, show min 4 (16 - 4 * (j % 4)) = 4 by omega, List.take_of_length_le (by rw [HYl.out]; exact Nat.le_refl _), ← HWd.out]
            unfold over
            rw [HYl.out, List.append_assoc]
          rw [e6] at hg6
          exact ⟨⟨j + 1, by omega, by go_num, hg6, HB5.out.drew.trans (hf6.below HB5.out.drew.size (fun j hj => by omega))⟩, by simp [intOf]; omega⟩
        · obtain rfl : j = 60 := by omega
          have hgo := HGo.out
          rw [show 4 * 60 = 240 from rfl, upB_all _ _ HKl2.out] at hgo
          have HAt := Lib.hid (At.of_row hgo)
          have HG9 := Lib.hid hgo
          clear hgo
          go_wp2_with (first | (refine wpList_load_at rfl _ (.tmp 4) rfl (w.heap.size + 1) 0 rfl (K.map Bv) _ HAt.out Tryz.underlying317 rfl (by rw [info_blks]; simp [HKl2.out]) ?_) | (refine wpList_store_row rfl _ (.tmp 4) (.tmp 104) rfl (w.heap.size + 1) rfl (K.map Bv) rfl _ _ HG9.out (by simp [HKl2.out]) (Bv_oneCell _) (by rw [info_blks]; simp [HKl2.out]) ?_; intro w8 hg8 hf8 _))
          exact bodyPost_ret (results_cell_row rfl _ _ _ _ _ _ _ rfl hg8 Tryz.underlying317 rfl (by rw [info_blks]; simp [HKl2.out])) rfl ⟨by rw [← HKv.out], HF.out.trans (hf8.below HF.out.size (fun j hj => by omega))⟩

end Go.Proofs.YtkbnkdokcmpcgaaGreatDoor
