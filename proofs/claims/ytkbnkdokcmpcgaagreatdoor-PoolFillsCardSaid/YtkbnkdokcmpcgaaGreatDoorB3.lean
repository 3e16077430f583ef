/- Walk: the state behind a block. Walks: slices.Clone over bytes; codec.Writer. Walks: sha's Hasher: New, Write. A region in a round of a range over a function: what is shown of it outside serves within. Over any program. -/
import Derived.Test.YtkbnkdokcmpcgaaGreatDoorB2
import Derived.Laws.CopyOwn
import Derived.RangeFuncNested
import Derived.RangeFuncBound
import Derived.RangeFuncCalls
import Derived.RangeFuncLeaves
import Derived.RangeFuncWrites
import Derived.OrdersIn
import Derived.OwnWalkIn
import Derived.TacticsInMore
import Derived.LoopNIn
import Derived.LoopIn
import Derived.Shelf.Abstract
namespace Go.Proofs.YtkbnkdokcmpcgaaGreatDoor
open Go.RowKit

theorem info_u32s : (Tryz.prog.info? 41).map (·.size) = some 1 := by kernel_rfl
theorem info_state' : (Tryz.prog.info? 225).map (·.size) = some 8 := by kernel_rfl

/-- The state's cells. -/
def St.arr (s : St) : Array Value := (s.list.map U32).toArray
theorem St.arr_eq (s : St) : s.arr = #[.int .u32 (s.a : Int), .int .u32 (s.b : Int), .int .u32 (s.c : Int), .int .u32 (s.d : Int), .int .u32 (s.e : Int), .int .u32 (s.f : Int), .int .u32 (s.g : Int), .int .u32 (s.h : Int)] := rfl
theorem St.arr_one (s : St) : ∀ u ∈ s.arr.toList, u.oneCell' = true := U32_one s.list
theorem load_state {ops : Array Oper} {rest : List Oper} {o : Oper} {a : Act} {w : World} {Q : Exit → Act → World → Prop} (hgd : o.guard = none) (x : Operand) (ho : o.op = .load 225 x)
    {b off : Nat} (hx : a.eval x = .pointer (some ⟨b, off, none⟩)) {arr : Array Value} (hc : At w b off arr.toList) (hl : arr.size = 8)
    (hK : wpList Tryz.prog ops Q rest (a.put o.dst (.agg arr)) w) : wpList Tryz.prog ops Q (o :: rest) a w :=
  wpList_load_at hgd _ x ho b off hx arr.toList _ hc Tryz.underlying225 rfl (by rw [info_state', Array.length_toList, hl]) hK
theorem store_state {ops : Array Oper} {rest : List Oper} {o : Oper} {a : Act} {w : World} {Q : Exit → Act → World → Prop} (hgd : o.guard = none) (x y : Operand) (ho : o.op = .store 225 x y)
    {b : Nat} (hx : a.eval x = .pointer (some ⟨b, 0, none⟩)) {arr : Array Value} (hy : a.eval y = .agg arr) {old : Array Value} {t : TypeId} (hb : w.heap[b]? = some (.cells old t (0, 0))) (ho2 : old.size = 8) (hl : arr.size = 8)
    (h1 : ∀ u ∈ arr.toList, u.oneCell' = true)
    (hK : ∀ w', w'.heap[b]? = some (.cells arr t (0, 0)) → Fr (fun k => k = b) w w' → w'.heap.size = w.heap.size → wpList Tryz.prog ops Q rest (a.put o.dst undef) w') : wpList Tryz.prog ops Q (o :: rest) a w :=
  wpList_store_row hgd _ x y ho b hx arr.toList (by simpa using hy) old _ hb (by simp [ho2, hl]) h1 (by rw [info_state']; simp [hl]) (fun w' h1 h2 h3 => hK w' (by simpa using h1) h2 h3)
theorem store_w64 {ops : Array Oper} {rest : List Oper} {o : Oper} {a : Act} {w : World} {Q : Exit → Act → World → Prop} (hgd : o.guard = none) (x y : Operand) (ho : o.op = .store 226 x y)
    {b : Nat} (hx : a.eval x = .pointer (some ⟨b, 0, none⟩)) {l : List Nat} (hy : a.eval y = .agg (l.map U32).toArray) {old : Array Value} {t : TypeId} (hb : w.heap[b]? = some (.cells old t (0, 0))) (ho2 : old.size = 64) (hl : l.length = 64)
    (hK : ∀ w', w'.heap[b]? = some (.cells (l.map U32).toArray t (0, 0)) → Fr (fun k => k = b) w w' → w'.heap.size = w.heap.size → wpList Tryz.prog ops Q rest (a.put o.dst undef) w') : wpList Tryz.prog ops Q (o :: rest) a w :=
  wpList_store_row hgd _ x y ho b hx (l.map U32) hy old _ hb (by simp [ho2, hl]) (U32_one l) (by rw [info_w64']; simp [hl]) (fun w' h1 h2 h3 => hK w' h1 h2 h3)

/-- copy of words within a row. -/
theorem copy_u32 {w : World} {ops : Array Oper} {rest : List Oper} {o : Oper} {a : Act} {Q : Exit → Act → World → Prop} (hgd : o.guard = none) (d s : Operand)
    (ho : o.op = .call { callee := .builtin .copy, args := #[d, s], argTypes := #[54, 54] })
    {g off dLen dCap sg so sCap : Nat} {cur ys : List Nat} {t : TypeId} (hg : w.heap[g]? = some (.cells (cur.map U32).toArray t (0, 0))) (hsrc : At w sg so (ys.map U32))
    (hd : a.eval d = .slice (some ⟨g, off, none⟩) dLen dCap) (hs : a.eval s = .slice (some ⟨sg, so, none⟩) dLen sCap) (hyl : ys.length = dLen) (hfit : off + dLen ≤ cur.length)
    (h : ∀ w', w'.heap[g]? = some (.cells ((cur.take off ++ (ys ++ cur.drop (off + ys.length))).map U32).toArray t (0, 0)) → Fr (fun k => k = g) w w' → wpList Tryz.prog ops Q rest (a.put o.dst (.int .i64 (dLen : Nat))) w') :
    wpList Tryz.prog ops Q (o :: rest) a w := by
  refine wpList_copy_own hgd d s _ _ ho 41 Tryz.underlying54 info_u32s g off dLen dCap ⟨sg, so, none⟩ dLen sCap hd hs _ t hg (ys.map U32) (by simp [hyl]) ?_ (by simpa [hyl] using hfit) (U32_one _) ?_
  · intro j u hj
    rw [Addr.add_lit]; exact hsrc j u hj
  · have e2 : (((cur.map U32).toArray).toList.take off ++ (ys.map U32 ++ ((cur.map U32).toArray).toList.drop (off + (ys.map U32).length))).toArray = ((cur.take off ++ (ys ++ cur.drop (off + ys.length))).map U32).toArray := by
      simp
    rw [e2]
    have e3 : goInt (ys.map U32).length = .int .i64 (dLen : Nat) := by rw [List.length_map, hyl]; rfl
    rw [e3]
    exact h _ (setRow_heap w g _ _ t _ hg) ⟨rfl, rfl, rfl, by simp, fun k _ hk => setRow_other w g k _ hk⟩

theorem addSt_list (x s : St) : (addSt x s).list = List.zipWith (fun a b => (a + b) % 4294967296) x.list s.list := rfl
theorem mid_set {xs ss : List Nat} (hx : xs.length = 8) (hs : ss.length = 8) {n : Nat} (hn : n < 8) :
    ((List.zipWith (fun a b => (a + b) % 4294967296) xs ss).take n ++ xs.drop n).set n ((xs.getD n 0 + ss.getD n 0) % 4294967296) = (List.zipWith (fun a b => (a + b) % 4294967296) xs ss).take (n + 1) ++ xs.drop (n + 1) := by
  have hl : ((List.zipWith (fun a b => (a + b) % 4294967296) xs ss).take n).length = n := by simp; omega
  rw [List.set_append_right _ _ (by rw [hl]; exact Nat.le_refl _), hl, Nat.sub_self, List.drop_eq_getElem_cons (by omega : n < xs.length), List.set_cons_zero, List.take_succ_eq_append_getElem (by simp; omega), List.append_assoc]
  congr 1
  rw [List.getElem_zipWith, List.getD_eq_getElem?_getD, List.getD_eq_getElem?_getD, List.getElem?_eq_getElem (by omega), List.getElem?_eq_getElem (by omega)]
  rfl
def AddRel (w : World) (X : Nat) (x s : St) (n : Nat) (wr : World) : Prop := wr.heap[X]? = some (.cells (((addSt x s).list.take n ++ x.list.drop n).map U32).toArray 225 (0, 0)) ∧ Fr (fun k => k = X) w wr
def TakeRel (w : World) (X : Nat) (x : St) (wr : World) : Prop := wr.heap[X]? = some (.cells x.arr 225 (0, 0)) ∧ Fr (fun k => k = X) w wr
theorem and_val {a b : Nat} (ha : a < 4294967296) (hb : b < 4294967296) : bits .and .u32 (a : Int) (b : Int) = ((a &&& b : Nat) : Int) := u32_and_nat _ _ ha hb

set_option maxRecDepth 100000 in
set_option maxHeartbeats 8000000 in
theorem take_any (s : St) (hs : s.Ok) (v : Value) (b : List UInt8) (kb ko : Nat) (ks : List Nat) (w : World) (h : Sl w 1 v 64 (b.map Bv)) (hk : At w kb ko (ks.map U32)) (hkl : ks.length = 64) (hk32 : ∀ x ∈ ks, x < 4294967296) :
    Calls Tryz.prog 125 #[.agg s.arr, v, .pointer (some ⟨kb, ko, none⟩)] w fun e w' => e = .returned (.agg (addSt (roundsN s ks (spreadL b 64) 64) s).arr) ∧ Below w.heap.size w w' := by
  obtain ⟨R, hR⟩ : ∃ R, R = addSt (roundsN s ks (spreadL b 64) 64) s := ⟨_, rfl⟩
  rw [← hR]
  obtain ⟨arr, harr⟩ : ∃ arr, arr = s.arr := ⟨_, rfl⟩
  rw [← harr]
  have HArr := Lib.hid harr
  have HRes := Lib.hid hR
  have HSp := Lib.hid (fun w' hw => spread_any v b w' hw)
  have HS := Lib.hid h
  have HK := Lib.hid hk
  have HKl := Lib.hid hkl
  have HK32 := Lib.hid hk32
  have HOk := Lib.hid hs
  clear hR harr h hk hkl hk32 hs
  go_enter Tryz.func125, Tryz.ntmps125
  go_wp2_with fail
  have hbel0 : Below w.heap.size w ((w.alloc (.cells arr 225)).alloc (.cells #[.int .u32 0, .int .u32 0, .int .u32 0, .int .u32 0, .int .u32 0, .int .u32 0, .int .u32 0, .int .u32 0] 225)) := ((Below.refl _ w).alloc (Nat.le_refl _) _).alloc (by simp) _
  have hsz0 : ((w.alloc (.cells arr 225)).alloc (.cells #[.int .u32 0, .int .u32 0, .int .u32 0, .int .u32 0, .int .u32 0, .int .u32 0, .int .u32 0, .int .u32 0] 225)).heap.size = w.heap.size + 2 := by simp
  have hs0 : ((w.alloc (.cells arr 225)).alloc (.cells #[.int .u32 0, .int .u32 0, .int .u32 0, .int .u32 0, .int .u32 0, .int .u32 0, .int .u32 0, .int .u32 0] 225)).heap[w.heap.size]? = some (.cells arr 225 (0, 0)) :=
    (Below.heap_alloc _ _ _ (by simp)).trans (heap_alloc_new _ _)
  have hr0 : ((w.alloc (.cells arr 225)).alloc (.cells #[.int .u32 0, .int .u32 0, .int .u32 0, .int .u32 0, .int .u32 0, .int .u32 0, .int .u32 0, .int .u32 0] 225)).heap[w.heap.size + 1]? = some (.cells #[.int .u32 0, .int .u32 0, .int .u32 0, .int .u32 0, .int .u32 0, .int .u32 0, .int .u32 0, .int .u32 0] 225 (0, 0)) := by
    have h := heap_alloc_new (w.alloc (.cells arr 225)) (.cells #[.int .u32 0, .int .u32 0, .int .u32 0, .int .u32 0, .int .u32 0, .int .u32 0, .int .u32 0, .int .u32 0] 225)
    rwa [show (w.alloc (.cells arr 225)).heap.size = w.heap.size + 1 by simp] at h
  refine (HSp.out _ (HS.out.below hbel0)).mono ?_
  rintro e w1 ⟨rfl, hb1⟩
  have HB1 := Lib.hid (hbel0.trans (hb1.mono hbel0.size))
  have HS1 := Lib.hid ((hb1.block w.heap.size (by rw [hsz0]; omega)).trans hs0)
  have HR1 := Lib.hid ((hb1.block (w.heap.size + 1) (by rw [hsz0]; omega)).trans hr0)
  have hsz1 : w.heap.size + 2 ≤ w1.heap.size := by have := hb1.size; rw [hsz0] at this; exact this
  clear hb1 hbel0 hsz0 hs0 hr0 HSp
  obtain ⟨ws, hws⟩ : ∃ ws, ws = spreadL b 64 := ⟨_, rfl⟩
  have HWs := Lib.hid hws
  have HWl := Lib.hid (show ws.length = 64 by rw [hws, spreadL_length])
  have HW32 := Lib.hid (show ∀ x ∈ ws, x < 4294967296 by rw [hws]; exact spreadL_lt b 64)
  rw [← hws] at HRes ⊢
  clear hws
  go_wp2_with (refine store_w64 rfl (.tmp 7) (.tmp 20) rfl rfl rfl (heap_alloc_new _ _) rfl HWl.out ?_)
  intro w2 hg2 hf2 hs2
  have hbel2 : Below w1.heap.size w1 w2 := ((Below.refl _ w1).alloc (Nat.le_refl _) _).trans (hf2.below (by simp) (fun j hj => by omega))
  have HW2 := Lib.hid hg2
  have HB2 := Lib.hid (HB1.out.trans (hbel2.mono HB1.out.size))
  have HS2 := Lib.hid ((hbel2.block w.heap.size (lt_of_block HS1.out)).trans HS1.out)
  have HR2 := Lib.hid ((hbel2.block (w.heap.size + 1) (lt_of_block HR1.out)).trans HR1.out)
  have hsz2 : w1.heap.size < w2.heap.size := by rw [hs2]; simp
  clear hg2 hf2 hs2 hbel2
  have HAs := Lib.hid (show arr.size = 8 by rw [HArr.out]; rfl)
  have HA1 := Lib.hid (show ∀ u ∈ arr.toList, u.oneCell' = true by rw [HArr.out]; exact St.arr_one s)
  have HAt := Lib.hid (At.of_row (cs := arr.toList) (by simpa using HS2.out))
  go_wp2_with (first | (refine load_state rfl (.tmp 3) rfl rfl HAt.out HAs.out ?_) | (refine store_state rfl (.tmp 8) (.tmp 21) rfl rfl rfl (heap_alloc_new _ _) rfl HAs.out HA1.out ?_; intro w3 hg3 hf3 hs3))
  have hbel3 : Below w2.heap.size w2 w3 := ((Below.refl _ w2).alloc (Nat.le_refl _) _).trans (hf3.below (by simp) (fun j hj => by omega))
  have HW3 := Lib.hid ((hbel3.block w1.heap.size (lt_of_block HW2.out)).trans HW2.out)
  have HB3 := Lib.hid (HB2.out.trans (hbel3.mono HB2.out.size))
  have HS3 := Lib.hid ((hbel3.block w.heap.size (lt_of_block HS2.out)).trans HS2.out)
  have HR3 := Lib.hid ((hbel3.block (w.heap.size + 1) (lt_of_block HR2.out)).trans HR2.out)
  rw [HArr.out] at hg3
  have HX3 := Lib.hid (show TakeRel w3 w2.heap.size (roundsN s ks ws 0) w3 from ⟨hg3, Fr.refl _ _⟩)
  clear hg3 hf3 hs3 hbel3
  obtain ⟨X, hX⟩ : ∃ X, X = w2.heap.size := ⟨_, rfl⟩
  obtain ⟨WB, hWB⟩ : ∃ WB, WB = w1.heap.size := ⟨_, rfl⟩
  rw [← hX] at hsz2 HX3 ⊢
  rw [← hWB] at hsz1 hsz2 HW3 ⊢
  clear hX hWB HS1 HS2 HR1 HR2 HW2 HAt HB1 HB2 HS
  go_wp2_with fail
  go_loopw [22] (fun i wr => ∃ n : Nat, n ≤ 64 ∧ i = .int .i64 n ∧ TakeRel w3 X (roundsN s ks ws n) wr) (fun i _ => 64 - (intOf i).toNat)
  case atStart => exact ⟨0, by omega, rfl, HX3.out⟩
  case round =>
    obtain ⟨n, hn, rfl, hrow, hfr⟩ := hrel
    rcases Nat.lt_or_ge n 64 with hlt | hge
    · obtain ⟨x, hx⟩ : ∃ x, x = roundsN s ks ws n := ⟨_, rfl⟩
      rw [← hx] at hrow
      have hok : x.Ok := by rw [hx]; exact roundsN_ok _ _ HOk.out n
      have hnext : roundsN s ks ws (n + 1) = roundN x (ks.getD n 0) (ws.getD n 0) := by rw [hx]; rfl
      have hkc : wr.cell? ⟨kb, ko + n, none⟩ = some (.int .u32 ((ks.getD n 0 : Nat) : Int)) := by
        have h1 := HK.out n (U32 (ks.getD n 0)) (by rw [List.getElem?_map, List.getD_eq_getElem?_getD, List.getElem?_eq_getElem (by rw [HKl.out]; omega)]; rfl)
        have h2 := World.block_lt_of_cell? w _ h1
        have h3 := (HB3.out.cell (p := ⟨kb, ko + n, none⟩) h2).trans h1
        exact hfr.cell h3 (by simp at h2 ⊢; omega)
      have hwc : wr.cell? ⟨WB, n, none⟩ = some (.int .u32 ((ws.getD n 0 : Nat) : Int)) := by
        have h0 := (hfr.block WB (lt_of_block HW3.out) (by omega)).trans HW3.out
        rw [cell_of_row _ _ n _ _ _ h0, List.getElem?_toArray, List.getElem?_map, List.getD_eq_getElem?_getD, List.getElem?_eq_getElem (by rw [HWl.out]; omega)]; rfl
      have hk32 : ks.getD n 0 < 4294967296 := getD_lt32 HK32.out n
      have hw32 : ws.getD n 0 < 4294967296 := getD_lt32 HW32.out n
      obtain ⟨kn, hkn⟩ : ∃ kn, kn = ks.getD n 0 := ⟨_, rfl⟩
      obtain ⟨wn, hwn⟩ : ∃ wn, wn = ws.getD n 0 := ⟨_, rfl⟩
      rw [← hkn] at hkc hk32 hnext
      rw [← hwn] at hwc hw32 hnext
      have HNext := Lib.hid hnext
      clear hx hnext hkn hwn
      obtain ⟨xa, xb, xc, xd, xe, xf, xg, xh⟩ := x
      obtain ⟨ba, bb, bc, bd, be, bf, bg, bh⟩ := hok
      simp only at ba bb bc bd be bf bg bh
      have hc : ∀ j, wr.cell? ⟨X, j, none⟩ = (St.arr ⟨xa, xb, xc, xd, xe, xf, xg, xh⟩)[j]? := fun j => cell_of_row _ _ j _ _ _ hrow
      have c0 : wr.cell? ⟨X, 0, none⟩ = some (.int .u32 (xa : Int)) := hc 0
      have c1 : wr.cell? ⟨X, 1, none⟩ = some (.int .u32 (xb : Int)) := hc 1
      have c2 : wr.cell? ⟨X, 2, none⟩ = some (.int .u32 (xc : Int)) := hc 2
      have c4 : wr.cell? ⟨X, 4, none⟩ = some (.int .u32 (xe : Int)) := hc 4
      have c5 : wr.cell? ⟨X, 5, none⟩ = some (.int .u32 (xf : Int)) := hc 5
      have c6 : wr.cell? ⟨X, 6, none⟩ = some (.int .u32 (xg : Int)) := hc 6
      have c7 : wr.cell? ⟨X, 7, none⟩ = some (.int .u32 (xh : Int)) := hc 7
      have HRow := Lib.hid hrow
      have HFr := Lib.hid hfr
      have q1 := u32_xor_nat xf xg bf bg
      have q2 := u32_and_nat xe (xf ^^^ xg) be (xor_lt32 bf bg)
      have q3 := u32_xor_nat xg (xe &&& (xf ^^^ xg)) bg (and_lt32 be)
      have q4 := u32_or_nat xb xc bb bc
      have q5 := u32_and_nat xa (xb ||| xc) ba (or_lt32 bb bc)
      have q6 := u32_and_nat xb xc bb bc
      have q7 := u32_or_nat (xa &&& (xb ||| xc)) (xb &&& xc) (and_lt32 ba) (and_lt32 bb)
      have hm1 : ∀ (w0 : World) (n0 m : Nat), Calls Tryz.prog 162 #[.int .u32 (xe : Int), .int .i64 6, .int .i64 11, .int .i64 25] (w0.drewN (n0 + m)) fun e w' => e = .returned (.int .u32 (mixN xe 6 11 25 : Int)) ∧ ∃ j, w' = w0.drewN (n0 + j) :=
        fun w0 n0 m => (mix_any xe 6 11 25 (w0.drewN (n0 + m)) be (by omega) (by omega) (by omega)).mono fun _ _ ⟨h1, h2⟩ => ⟨h1, m, h2.symm⟩
      have hm2 : ∀ (w0 : World), Calls Tryz.prog 162 #[.int .u32 (xa : Int), .int .i64 2, .int .i64 13, .int .i64 22] w0 fun e w' => e = .returned (.int .u32 (mixN xa 2 13 22 : Int)) ∧ w0 = w' := fun w0 => mix_any xa 2 13 22 w0 ba (by omega) (by omega) (by omega)
      have bm1 := mixN_lt 6 11 25 be
      have bm2 := mixN_lt 2 13 22 ba
      obtain ⟨M1, hM1⟩ : ∃ M1, M1 = mixN xe 6 11 25 := ⟨_, rfl⟩
      obtain ⟨M2, hM2⟩ : ∃ M2, M2 = mixN xa 2 13 22 := ⟨_, rfl⟩
      obtain ⟨C1, hC1⟩ : ∃ C1, C1 = xg ^^^ (xe &&& (xf ^^^ xg)) := ⟨_, rfl⟩
      obtain ⟨C2, hC2⟩ : ∃ C2, C2 = (xa &&& (xb ||| xc)) ||| (xb &&& xc) := ⟨_, rfl⟩
      have bC1 : C1 < 4294967296 := by rw [hC1]; exact xor_lt32 bg (and_lt32 be)
      have bC2 : C2 < 4294967296 := by rw [hC2]; exact or_lt32 (and_lt32 ba) (and_lt32 bb)
      rw [← hM1] at hm1 bm1
      rw [← hM2] at hm2 bm2
      rw [← hC1] at q3
      rw [← hC2] at q7
      have HM1 := Lib.hid hm1
      have HM2 := Lib.hid hm2
      have HEq := Lib.hid (And.intro hM1 (And.intro hM2 (And.intro hC1 hC2)))
      clear hrow hfr hm1 hm2 hc hM1 hM2 hC1 hC2
      go_wp2_with fail
      go_quiet (fail)
      go_wp2_with fail
      go_quiet (with_reducible exact HM1.out _ _ _)
      go_wp2_with fail
      go_quiet (fail)
      go_wp2_with fail
      refine (HM2.out _).mono ?_
      rintro e w4 ⟨rfl, rfl⟩
      go_wp2_with fail
      generalize hw5 : wr.drewN _ = w5
      have HRow5 := Lib.hid (show w5.heap[X]? = some (.cells ([xa, xb, xc, xd, xe, xf, xg, xh].map U32).toArray 225 (0, 0)) by rw [← hw5]; exact HRow.out)
      have HFr5 := Lib.hid (show Fr (fun k => k = X) w3 w5 by rw [← hw5]; exact HFr.out.trans (Fr_drewN' _ _ _))
      have HAt5 := Lib.hid (show At w5.drew X 0 ([xa, xb, xc, xd, xe, xf, xg].map U32) from (At.of_row (w := w5.drew) (cs := [xa, xb, xc, xd, xe, xf, xg, xh].map U32) HRow5.out).part (xs := []) (ys := [U32 xh]))
      clear hw5 c0 c1 c2 c4 c5 c6 c7 hkc hwc q1 q2 q3 q4 q5 q6 q7
      refine wp_region_quiet_tail 2 (by kernel_rfl) (by kernel_rfl) ?_
      simp only [List.take_succ_cons, List.take_zero, List.drop_succ_cons, List.drop_zero]
      repeat (go_big_quiet_step (fail))
      refine wpQuiet_nil ?_
      refine copy_u32 rfl (.tmp 72) (.tmp 73) rfl HRow5.out HAt5.out rfl rfl rfl (Nat.le_refl 8) ?_
      intro w6 hg6 hf6
      have HRow6 := Lib.hid (show w6.heap[X]? = some (.cells #[.int .u32 (xa : Int), .int .u32 (xa : Int), .int .u32 (xb : Int), .int .u32 (xc : Int), .int .u32 (xd : Int), .int .u32 (xe : Int), .int .u32 (xf : Int), .int .u32 (xg : Int)] 225 (0, 0)) from hg6)
      have HFr6 := Lib.hid (HFr5.out.trans ((Fr.refl (fun k => k = X) w5).drew.trans hf6))
      have hc : ∀ j, w6.cell? ⟨X, j, none⟩ = (#[.int .u32 (xa : Int), .int .u32 (xa : Int), .int .u32 (xb : Int), .int .u32 (xc : Int), .int .u32 (xd : Int), .int .u32 (xe : Int), .int .u32 (xf : Int), .int .u32 (xg : Int)] : Array Value)[j]? := fun j => cell_of_row _ _ j _ _ _ HRow6.out
      have c0 : w6.cell? ⟨X, 0, none⟩ = some (.int .u32 (xa : Int)) := hc 0
      have c4 : w6.cell? ⟨X, 4, none⟩ = some (.int .u32 (xd : Int)) := hc 4
      have f0 : w6.frozen? ⟨X, 0, none⟩ = false := by simp [World.frozen?, HRow6.out]
      have f4 : w6.frozen? ⟨X, 4, none⟩ = false := by simp [World.frozen?, HRow6.out]
      clear hg6 hf6 hc
      go_wp2
      go_roundw
      case rel =>
        refine ⟨n + 1, by omega, by go_num, ?_⟩
        rw [HNext.out]
        obtain ⟨e1, e2, e3, e4⟩ := HEq.out
        have h1 := heap_setCell_same _ X 0 _ _ (.int .u32 (((xh : Int) + M1 + C1 + kn + wn + (M2 + C2)) % 4294967296)) HRow6.out
        have h2 := heap_setCell_same _ X 4 _ _ (.int .u32 (((xd : Int) + (xh + M1 + C1 + kn + wn)) % 4294967296)) h1
        refine ⟨?_, (HFr6.out.set _ _ rfl _).set _ _ rfl _⟩
        rw [h2]
        have ea : t1N ⟨xa, xb, xc, xd, xe, xf, xg, xh⟩ kn wn = (xh + M1 + C1 + kn + wn) % 4294967296 := by rw [e1, e3]; rfl
        have eb : t2N ⟨xa, xb, xc, xd, xe, xf, xg, xh⟩ = (M2 + C2) % 4294967296 := by rw [e2, e4]; rfl
        have e0 : (Value.int .u32 (((xh : Int) + M1 + C1 + kn + wn + (M2 + C2)) % 4294967296)) = .int .u32 (((t1N ⟨xa, xb, xc, xd, xe, xf, xg, xh⟩ kn wn + t2N ⟨xa, xb, xc, xd, xe, xf, xg, xh⟩) % 4294967296 : Nat) : Int) := by
          rw [ea, eb]; congr 1; omega
        have e5 : (Value.int .u32 (((xd : Int) + (xh + M1 + C1 + kn + wn)) % 4294967296)) = .int .u32 (((xd + t1N ⟨xa, xb, xc, xd, xe, xf, xg, xh⟩ kn wn) % 4294967296 : Nat) : Int) := by
          rw [ea]; congr 1; omega
        rw [e0, e5]
        rfl
      case measure => simp [intOf]; omega
    · obtain rfl : n = 64 := by omega
      have HSl := Lib.hid (show w3.heap[w.heap.size]? = some (.cells (s.list.map U32).toArray 225 (0, 0)) by rw [HS3.out, HArr.out]; rfl)
      obtain ⟨x, hx⟩ : ∃ x, x = roundsN s ks ws 64 := ⟨_, rfl⟩
      rw [← hx] at hrow HRes
      have HA0 := Lib.hid (show AddRel w3 X x s 0 wr from ⟨by rw [List.take_zero, List.drop_zero, List.nil_append]; exact hrow, hfr⟩)
      have HXok := Lib.hid (show x.Ok by rw [hx]; exact roundsN_ok _ _ HOk.out 64)
      clear hrow hfr hx hn hge
      go_wp2_with fail
      obtain ⟨wo, hwo⟩ : ∃ wo : World, wo = wr := ⟨_, rfl⟩
      rw [← hwo] at HA0 ⊢
      clear hwo
      go_loopw [85] (fun i wr => ∃ n : Nat, n ≤ 8 ∧ i = .int .i64 n ∧ AddRel w3 X x s n wr) (fun i _ => 8 - (intOf i).toNat)
      case atStart => exact ⟨0, by omega, rfl, HA0.out⟩
      case round =>
        obtain ⟨n, hn, rfl, hrow, hfr⟩ := hrel
        rcases Nat.lt_or_ge n 8 with hlt | hge
        · have hxl : x.list.length = 8 := rfl
          have hsl : s.list.length = 8 := rfl
          have hset := mid_set hxl hsl hlt
          have hxc : wr.cell? ⟨X, n, none⟩ = some (.int .u32 ((x.list.getD n 0 : Nat) : Int)) := by
            rw [cell_of_row _ _ n _ _ _ hrow, List.getElem?_toArray, List.getElem?_map, List.getElem?_append_right (by simp [addSt_list]; omega)]
            rw [show ((addSt x s).list.take n).length = n by rw [List.length_take]; exact Nat.min_eq_left (by show n ≤ 8; omega), Nat.sub_self, List.getElem?_drop, Nat.add_zero, List.getD_eq_getElem?_getD, List.getElem?_eq_getElem (by omega)]
            rfl
          have hsc : wr.cell? ⟨w.heap.size, n, none⟩ = some (.int .u32 ((s.list.getD n 0 : Nat) : Int)) := by
            have h0 := (hfr.block w.heap.size (lt_of_block HSl.out) (by omega)).trans HSl.out
            rw [cell_of_row _ _ n _ _ _ h0, List.getElem?_toArray, List.getElem?_map, List.getD_eq_getElem?_getD, List.getElem?_eq_getElem (by omega)]; rfl
          have hf : wr.frozen? ⟨X, n, none⟩ = false := by simp [World.frozen?, hrow]
          obtain ⟨u, hu⟩ : ∃ u, u = x.list.getD n 0 := ⟨_, rfl⟩
          obtain ⟨v', hv'⟩ : ∃ v', v' = s.list.getD n 0 := ⟨_, rfl⟩
          rw [← hu] at hxc hset
          rw [← hv'] at hsc hset
          have HSet := Lib.hid hset
          have HRow := Lib.hid hrow
          have HFr := Lib.hid hfr
          clear hset hrow hfr hu hv' hxl hsl
          go_wp2_with fail
          refine wp_region_quiet_tail 8 (by kernel_rfl) (by kernel_rfl) ?_
          simp only [List.take_succ_cons, List.take_zero, List.drop_succ_cons, List.drop_zero]
          repeat (go_big_quiet_step (fail))
          refine wpQuiet_nil ?_
          go_wp2_with fail
          go_roundw
          case rel =>
            refine ⟨n + 1, by omega, by go_num, ?_, (HFr.out.trans (Fr.refl (fun k => k = X) wr).drew).set _ _ rfl _⟩
            have h1 := heap_setCell_same wr.drew X n _ _ (U32 ((u + v') % 4294967296)) HRow.out
            rw [List.setIfInBounds_toArray, ← List.map_set, addSt_list, HSet.out] at h1
            rw [addSt_list]
            have e : (Value.int .u32 (((u : Int) + (v' : Int)) % 4294967296)) = U32 ((u + v') % 4294967296) := by unfold U32; congr 1
            rw [e]
            exact h1
          case measure => simp [intOf]; omega
        · obtain rfl : n = 8 := by omega
          have HFin := Lib.hid (show wr.heap[X]? = some (.cells R.arr 225 (0, 0)) by
            rw [hrow, HRes.out]; rfl)
          have HRz := Lib.hid ((hfr.block (w.heap.size + 1) (lt_of_block HR3.out) (by omega)).trans HR3.out)
          have HBf := Lib.hid (HB3.out.trans (hfr.below HB3.out.size (fun j hj => by omega)))
          have HAtF := Lib.hid (At.of_row (cs := R.arr.toList) (by simpa using HFin.out))
          clear hrow hfr hn hge
          go_wp2_with (first | (refine load_state rfl (.tmp 8) rfl rfl HAtF.out rfl ?_) | (refine store_state rfl (.tmp 6) (.tmp 97) rfl rfl rfl HRz.out rfl rfl (St.arr_one R) ?_; intro w9 hg9 hf9 hs9))
          have HG9 := Lib.hid hg9
          have HB9 := Lib.hid (HBf.out.trans (hf9.below HBf.out.size (fun j hj => by omega)))
          clear hg9 hf9 hs9
          go_wp2
          exact bodyPost_ret (results_cell_row rfl _ w9 (w.heap.size + 1) _ _ _ _ rfl HG9.out Tryz.underlying225 rfl (by rw [info_state']; rfl)) rfl ⟨rfl, HB9.out⟩
end Go.Proofs.YtkbnkdokcmpcgaaGreatDoor
namespace Go.Proofs.YtkbnkdokcmpcgaaGreatDoor
open Go.RowKit

set_option maxHeartbeats 400000 in
theorem clone_any (v : Value) (xs : List UInt8) (n : Nat) (w : World) (h : Sl w 1 v n (xs.map Bv)) (hr : n ≤ 140737488351232) :
    Calls Tryz.prog 80 #[v] w fun e w' => ∃ aa cc, e = .returned (.slice aa n cc) ∧ w'.ownsRow w.heap.size 5 1 (.slice aa n cc) n (xs.map Bv) ∧ Below w.heap.size w w' := by
  obtain ⟨a, cap, rfl, hlc⟩ := h.len
  have q := fun (w : World) => Lib.run_eql_slice_nil (P := Tryz.prog) w 26 5 a n cap 0 0 Tryz.underlying26
  cases a with
  | none =>
    obtain ⟨hl, a', cap', e, hlc', hnil, hc⟩ := h
    simp only [Value.slice.injEq, true_and] at e
    obtain ⟨rfl, rfl⟩ := e
    obtain rfl : cap = 0 := hnil rfl
    obtain rfl : n = 0 := by omega
    have hx : xs = [] := List.eq_nil_of_length_eq_zero (by simpa using hl)
    subst hx
    clear hl hnil hc
    go_enter Tryz.func80, Tryz.ntmps80
    go_wp2
    go_ret
    exact ⟨_, _, rfl, World.ownsRow_nil _ _ _ _, Below.refl _ _⟩
  | some ad =>
    have HH := Lib.hid (h.below ((Below.refl _ w).alloc (Nat.le_refl _) (.cells #[] 5)))
    have HO := Lib.hid (own_empty w)
    clear h
    go_enter Tryz.func80, Tryz.ntmps80
    go_wp2_with (at_builtin; refine append_u8 rfl (.tmp 5) (.tmp 6) rfl HO.out HH.out rfl rfl (by omega) (by simp) ?_)
    intro aa cc w1 hown hg h3
    have hb : Below w.heap.size w w1 := ((Below.refl _ _).alloc (Nat.le_refl _) _).trans (hg.below (by simp) (fun k h => by simp [Value.ownBlock] at h; omega))
    have HB := Lib.hid hb
    have HO := Lib.hid hown
    clear hb hown hg h3
    go_wp2
    go_ret
    exact ⟨_, _, rfl, by simpa using HO.out, HB.out⟩

/-- A Writer at block b has laid xs; 'row': its bytes' block. -/
def Wr (w : World) (base b : Nat) (row : Option Nat) (xs : List UInt8) : Prop :=
  ∃ v, w.heap[b]? = some (.cells #[v] 198 (0, 0)) ∧ w.ownsRow base 5 1 v xs.length (xs.map Bv) ∧ v.ownBlock = row

theorem Wr.row_ne {w : World} {base b : Nat} {row : Option Nat} {xs : List UInt8} (h : Wr w base b row xs) : row ≠ some b := by
  obtain ⟨v, h1, h2, rfl⟩ := h
  rcases h2.2 with ⟨rfl, _⟩ | ⟨g, cap, cur, rfl, _, h3, _⟩
  · simp [Value.ownBlock]
  · simp only [Value.ownBlock, ne_eq, Option.some.injEq]
    rintro rfl
    rw [h1] at h3
    simp at h3
theorem Wr.lt {w : World} {base b : Nat} {row : Option Nat} {xs : List UInt8} (h : Wr w base b row xs) : b < w.heap.size ∧ ∀ k, row = some k → base ≤ k ∧ k < w.heap.size := by
  obtain ⟨v, h1, h2, rfl⟩ := h
  exact ⟨lt_of_block h1, h2.lt⟩
theorem Wr.fr {w w' : World} {S : Nat → Prop} {base b : Nat} {row : Option Nat} {xs : List UInt8} (h : Wr w base b row xs) (hf : Fr S w w') (h1 : ¬ S b) (h2 : ∀ k, row = some k → ¬ S k) : Wr w' base b row xs := by
  have hlt := h.lt
  obtain ⟨v, hb, ho, rfl⟩ := h
  refine ⟨v, (hf.block b hlt.1 h1).trans hb, ho.fr hf h2, rfl⟩

/-- A Writer's two blocks. -/
def WS (b : Nat) (row : Option Nat) (k : Nat) : Prop := k = b ∨ row = some k
/-- What a call that lays more leaves. -/
def Laid (w w' : World) (base b : Nat) (row : Option Nat) (xs : List UInt8) : Prop :=
  ∃ row', Wr w' base b row' xs ∧ Fr (WS b row) w w' ∧ ∀ k, row' = some k → row = some k ∨ w.heap.size ≤ k

set_option maxHeartbeats 400000 in
theorem add_ok (b base : Nat) (row : Option Nat) (os xs : List UInt8) (v : Value) (w : World) (hw : Wr w base b row os) (hbase : base ≤ w.heap.size) (h : Sl w 1 v xs.length (xs.map Bv)) (hr : os.length + xs.length ≤ 140737488351232) :
    Calls Tryz.prog 138 #[.pointer (some ⟨b, 0, none⟩), v, .int .i64 0] w fun e w' => e = .returned (.int .i64 0) ∧ Laid w w' base b row (os ++ xs) := by
  have hrow := hw.row_ne
  have hrlt := hw.lt
  obtain ⟨v0, hb, ho, rfl⟩ := hw
  have c0 := cell_of_one hb
  have f0 := free_of_one hb
  have HO := Lib.hid ho
  have HH := Lib.hid h
  have HB := Lib.hid hb
  have HR := Lib.hid hrow
  have HL := Lib.hid hrlt
  clear ho h hb hrow hrlt
  go_enter Tryz.func138, Tryz.ntmps138
  go_wp2_with (at_builtin; refine append_u8 rfl (.tmp 15) (.tmp 16) rfl HO.out HH.out rfl rfl (by omega) hbase ?_)
  intro aa cc w1 hown hg h3
  have hb1 : w1.heap[b]? = some (.cells #[v0] 198 (0, 0)) := (hg.block b HL.out.1 (fun e => HR.out e)).trans HB.out
  have c1 := cell_of_one hb1
  have f1 := free_of_one hb1
  have HB1 := Lib.hid hb1
  have HO1 := Lib.hid hown
  have HG := Lib.hid hg
  have H3 := Lib.hid h3
  clear hb1 hown hg h3
  go_wp2
  go_ret
  have hne : (Value.slice aa (os.length + xs.length) cc).ownBlock ≠ some b := by
    rcases H3.out with e | e
    · rw [e]; exact HR.out
    · rw [e]; have := HL.out.1; simp; omega
  have hrow' : ∀ k, (Value.slice aa (os.length + xs.length) cc).ownBlock = some k → v0.ownBlock = some k ∨ w.heap.size ≤ k := by
    intro k hk
    rcases H3.out with e | e
    · exact Or.inl (e ▸ hk)
    · rw [e] at hk; simp at hk; exact Or.inr (by omega)
  refine ⟨rfl, _, ⟨_, one_setCell HB1.out, ?_, rfl⟩, Fr.set (S := WS b v0.ownBlock) (HG.out.mono (fun k _ h => Or.inr h)) b 0 (Or.inl rfl) _, hrow'⟩
  rw [List.length_append, List.map_append]
  exact HO1.out.set_other hne 0 _

set_option maxHeartbeats 400000 in
theorem add_err (b : Nat) (e : Int) (v : Value) (w : World) (he : (e == 0) = false) :
    Calls Tryz.prog 138 #[.pointer (some ⟨b, 0, none⟩), v, .int .i64 e] w fun e' w' => e' = .returned (.int .i64 e) ∧ w = w' := by
  go_enter Tryz.func138, Tryz.ntmps138
  go_wp2
  go_ret
  exact ⟨rfl, rfl⟩

set_option maxHeartbeats 400000 in
theorem wNum_ok (b base : Nat) (row : Option Nat) (os : List UInt8) (x n : Nat) (w : World) (hw : Wr w base b row os) (hbase : base ≤ w.heap.size) (h8 : n ≤ 8) (hfit : n = 8 ∨ x < 256 ^ n) (hr : os.length + n ≤ 140737488351232) :
    Calls Tryz.prog 103 #[.pointer (some ⟨b, 0, none⟩), .int .u64 (x : Int), .int .i64 (n : Int)] w fun e w' => e = .returned (.int .i64 0) ∧ Laid w w' base b row (os ++ putB x n) := by
  have HW := Lib.hid hw
  have HF := Lib.hid hfit
  clear hw hfit
  go_enter Tryz.func103, Tryz.ntmps103
  go_wp2_with fail
  refine (numPut_ok x n _ h8 HF.out).mono ?_
  rintro e w1 ⟨aa, cc, rfl, hown, hb⟩
  have hw1 : Wr w1 base b row os := HW.out.fr (Fr.of_below (S := fun _ => False) hb) id (fun _ _ => id)
  have hsl : Sl w1 1 (.slice aa n cc) (putB x n).length ((putB x n).map Bv) := by rw [putB_length]; exact Sl.own hown
  have hs1 := hb.size
  have H1 := Lib.hid hw1
  have H2 := Lib.hid hsl
  have HB := Lib.hid hb
  clear hw1 hsl hb hown
  go_wp2_with fail
  refine (add_ok b base row os (putB x n) _ w1 H1.out (by omega) H2.out (by rw [putB_length]; omega)).mono ?_
  rintro e w2 ⟨rfl, hl⟩
  have HL := Lib.hid hl
  clear hl
  go_wp2
  go_ret
  obtain ⟨row', a1, a2, a3⟩ := HL.out
  exact ⟨rfl, row', a1, (Fr.of_below HB.out).trans a2, fun k hk => (a3 k hk).imp id (fun h => by omega)⟩

set_option maxHeartbeats 400000 in
/-- A number that doesn't fit its size; a size that may not be. -/
theorem wNum_err (b : Nat) (x : Nat) (size : Int) (w : World) (hx : size < 0 ∨ 8 < size ∨ (0 ≤ size ∧ size < 8 ∧ 256 ^ size.toNat ≤ x)) :
    Calls Tryz.prog 103 #[.pointer (some ⟨b, 0, none⟩), .int .u64 (x : Int), .int .i64 size] w fun e w' => e = .returned (.int .i64 2) ∧ w = w' := by
  have hc : Calls Tryz.prog 126 #[.int .u64 (x : Int), .int .i64 size] w fun e w' => e = .returned (.tuple #[.slice none 0 0, .int .i64 2]) ∧ w = w' := by
    rcases hx with h | h | ⟨h0, h8, hx⟩
    · exact numPut_arg _ _ _ (Or.inl h)
    · exact numPut_arg _ _ _ (Or.inr h)
    · obtain ⟨n, rfl⟩ := Int.eq_ofNat_of_zero_le h0
      exact numPut_great x n w (by omega) hx
  have HC := Lib.hid hc
  clear hc hx
  go_enter Tryz.func103, Tryz.ntmps103
  go_wp2_with fail
  refine HC.out.mono ?_
  rintro e w1 ⟨rfl, rfl⟩
  go_wp2_with fail
  refine (add_err b 2 _ w (by decide)).mono ?_
  rintro e w1 ⟨rfl, rfl⟩
  go_wp2
  go_ret
  exact ⟨rfl, rfl⟩

set_option maxHeartbeats 400000 in
theorem wBytes_ok (b base : Nat) (row : Option Nat) (os : List UInt8) (w : World) (hw : Wr w base b row os) (hr : os.length ≤ 140737488351232) :
    Calls Tryz.prog 107 #[.pointer (some ⟨b, 0, none⟩)] w fun e w' => ∃ aa cc, e = .returned (.slice aa os.length cc) ∧ w'.ownsRow w.heap.size 5 1 (.slice aa os.length cc) os.length (os.map Bv) ∧ Below w.heap.size w w' := by
  obtain ⟨v0, hb, ho, rfl⟩ := hw
  have c0 := cell_of_one hb
  have HO := Lib.hid (Sl.own ho)
  clear ho hb
  go_enter Tryz.func107, Tryz.ntmps107
  go_wp2_with fail
  refine (clone_any v0 os os.length w HO.out hr).mono ?_
  rintro e w1 ⟨aa, cc, rfl, hown, hb⟩
  have HO1 := Lib.hid hown
  have HB := Lib.hid hb
  clear hown hb
  go_wp2
  go_ret
  exact ⟨_, _, rfl, HO1.out, HB.out⟩

/-- A Reader at block b has yet to read xs. -/
def Rd (w : World) (b : Nat) (xs : List UInt8) : Prop :=
  ∃ v, w.heap[b]? = some (.cells #[v] 258 (0, 0)) ∧ Sl w 1 v xs.length (xs.map Bv)

theorem Rd.lt {w : World} {b : Nat} {xs : List UInt8} (h : Rd w b xs) : b < w.heap.size := by
  obtain ⟨v, h1, _⟩ := h; exact lt_of_block h1

end Go.Proofs.YtkbnkdokcmpcgaaGreatDoor
namespace Go.Proofs.YtkbnkdokcmpcgaaGreatDoor
open Go.RowKit

section
variable {P : Program}
/-- A struct or an array, stored into a part of a variable. -/
theorem wpList_store_lpart {ops : Array Oper} {rest : List Oper} {o : Oper} {a : Act} {w : World} {Q : Exit → Act → World → Prop} (hgd : o.guard = none) (ty : TypeId) (x y : Operand) (ho : o.op = .store ty x y)
    (b off : Nat) (hx : a.eval x = .pointer (some ⟨b, off, none⟩)) (cs : List Value) (hy : a.eval y = .agg cs.toArray) (old : List Value) (t : TypeId) (hb : w.heap[b]? = some (.cells old.toArray t (0, 0))) (hl : off + cs.length ≤ old.length)
    (h1 : ∀ u ∈ cs, u.oneCell' = true) (hi : (P.info? ty).map (·.size) = some cs.length)
    (h : ∀ w', w'.heap[b]? = some (.cells (old.take off ++ cs ++ old.drop (off + cs.length)).toArray t (0, 0)) → Fr (fun k => k = b) w w' → w'.heap.size = w.heap.size → wpList P ops Q rest (a.put o.dst undef) w') : wpList P ops Q (o :: rest) a w := by
  refine wpList_plain hgd fun K hK => ?_
  have hst := run_storeCells_at P b off t cs 0 old.toArray w hb (by simpa using hl) h1
  cases hq : P.info? ty with
  | none => simp [hq] at hi
  | some i =>
    have hs : i.size = cs.length := by simpa [hq] using hi
    simp only [Nat.add_zero] at hst
    have hr : (Instr.storeAt ty (.pointer (some ⟨b, off, none⟩)) (.agg cs.toArray)).run P w = .ok () (w.setRow b (old.take off ++ cs ++ old.drop (off + cs.length)).toArray) := by
      simp [Instr.storeAt, Instr.sureAddr, storeVar, sizeOf, typeInfo, hq, hs, Value.cells, Sem.run_bind, hst]
    unfold Oper.wp execOp
    simp only [ho, hx, hy, Sem.run_bind, Sem.run_pure, Result.andThen_ok, hr]
    exact hK _ _ (h _ (setRow_heap w b _ _ t _ hb) ⟨rfl, rfl, rfl, by simp, fun k _ hk => setRow_other w b k _ hk⟩ (by simp))
end

/-- A Hasher's cells. -/
def hCells (s : St) (ks : List Nat) (v : Value) (n : Nat) : List Value := s.list.map U32 ++ (ks.map U32 ++ [v, .int .i64 (n : Int)])
theorem hCells_length (s : St) {ks : List Nat} (h : ks.length = 64) (v : Value) (n : Nat) : (hCells s ks v n).length = 74 := by simp [hCells, St.list, h]
def HsAt (w : World) (b : Nat) (s : St) (ks : List Nat) (v : Value) (n : Nat) : Prop := w.heap[b]? = some (.cells (hCells s ks v n).toArray 228 (0, 0))
theorem hCells_72 (s : St) {ks : List Nat} (h : ks.length = 64) (v : Value) (n : Nat) : (hCells s ks v n)[72]? = some v := by
  unfold hCells
  rw [List.getElem?_append_right (by simp [St.list]), List.getElem?_append_right (by simp [St.list, h])]
  simp [St.list, h]
theorem hCells_73 (s : St) {ks : List Nat} (h : ks.length = 64) (v : Value) (n : Nat) : (hCells s ks v n)[73]? = some (.int .i64 (n : Int)) := by
  unfold hCells
  rw [List.getElem?_append_right (by simp [St.list]), List.getElem?_append_right (by simp [St.list, h])]
  simp [St.list, h]
theorem hCells_set72 (s : St) {ks : List Nat} (h : ks.length = 64) (v v' : Value) (n : Nat) : (hCells s ks v n).set 72 v' = hCells s ks v' n := by
  unfold hCells
  rw [List.set_append_right _ _ (by simp [St.list]), List.set_append_right _ _ (by simp [St.list, h])]
  simp [St.list, h]
theorem hCells_set73 (s : St) {ks : List Nat} (h : ks.length = 64) (v : Value) (n m : Nat) : (hCells s ks v n).set 73 (.int .i64 (m : Int)) = hCells s ks v m := by
  unfold hCells
  rw [List.set_append_right _ _ (by simp [St.list]), List.set_append_right _ _ (by simp [St.list, h])]
  simp [St.list, h]
theorem hCells_setS (s s' : St) (ks : List Nat) (v : Value) (n : Nat) : (hCells s ks v n).take 0 ++ s'.list.map U32 ++ (hCells s ks v n).drop (0 + (s'.list.map U32).length) = hCells s' ks v n := rfl
section
variable {w : World} {b n : Nat} {s : St} {ks : List Nat} {v : Value}
theorem HsAt.cell72 (h : HsAt w b s ks v n) (hk : ks.length = 64) : w.cell? ⟨b, 72, none⟩ = some v := by
  rw [cell_of_row _ _ 72 _ _ _ h, List.getElem?_toArray, hCells_72 s hk]
theorem HsAt.cell73 (h : HsAt w b s ks v n) (hk : ks.length = 64) : w.cell? ⟨b, 73, none⟩ = some (.int .i64 (n : Int)) := by
  rw [cell_of_row _ _ 73 _ _ _ h, List.getElem?_toArray, hCells_73 s hk]
theorem HsAt.free (h : HsAt w b s ks v n) (i : Nat) : w.frozen? ⟨b, i, none⟩ = false := by unfold HsAt at h; simp [World.frozen?, h]
theorem HsAt.set72 (h : HsAt w b s ks v n) (hk : ks.length = 64) (v' : Value) : HsAt (w.setCell ⟨b, 72, none⟩ v') b s ks v' n := by
  have e := heap_setCell_same w b 72 _ _ v' h
  rwa [List.setIfInBounds_toArray, hCells_set72 s hk] at e
theorem HsAt.set73 (h : HsAt w b s ks v n) (hk : ks.length = 64) (m : Nat) : HsAt (w.setCell ⟨b, 73, none⟩ (.int .i64 (m : Int))) b s ks v m := by
  have e := heap_setCell_same w b 73 _ _ (.int .i64 (m : Int)) h
  rwa [List.setIfInBounds_toArray, hCells_set73 s hk] at e
theorem HsAt.atS (h : HsAt w b s ks v n) : At w b 0 s.arr.toList := (At.of_row h).part (xs := [])
theorem HsAt.atK (h : HsAt w b s ks v n) : At w b 8 (ks.map U32) := by
  have h1 := At.of_row h
  unfold hCells at h1
  rw [← List.append_assoc] at h1
  simpa [St.list] using h1.part
end

/-- A Hasher at block b has taken xs; 'row': its rest's block. -/
def Hs (w : World) (base b : Nat) (row : Option Nat) (xs : List UInt8) : Prop :=
  ∃ v, HsAt w b (stOf xs) kInit v xs.length ∧ w.ownsRow base 5 1 v (restOf xs).length ((restOf xs).map Bv) ∧ v.ownBlock = row

theorem info_hasher : (Tryz.prog.info? 228).map (·.size) = some 74 := by kernel_rfl

theorem zero_hasher : (Tryz.zeroCells228).toList.length = 74 := by kernel_rfl
theorem zero_hasher_drop : (Tryz.zeroCells228).toList.drop 72 = [.slice none 0 0, .int .i64 0] := by kernel_rfl

set_option maxRecDepth 100000 in
set_option maxHeartbeats 4000000 in
theorem new_any (w : World) :
    Calls Tryz.prog 82 #[] w fun e w' => e = .returned (.pointer (some ⟨w.heap.size, 0, none⟩)) ∧ Hs w' w.heap.size w.heap.size none [] ∧ Below w.heap.size w w' := by
  have hB0 : Below w.heap.size w (w.alloc (.cells Tryz.zeroCells228 228)) := (Below.refl _ w).alloc (Nat.le_refl _) _
  have hBk := heap_alloc_new w (.cells Tryz.zeroCells228 228)
  have hC := consts_any (w.alloc (.cells Tryz.zeroCells228 228))
  have hz := zero_hasher
  have hzd := zero_hasher_drop
  obtain ⟨hs, hhs⟩ : ∃ hs, hs = hInit := ⟨_, rfl⟩
  obtain ⟨ks, hks⟩ : ∃ ks, ks = kInit := ⟨_, rfl⟩
  obtain ⟨zs, hzs⟩ : ∃ zs, zs = Tryz.zeroCells228 := ⟨_, rfl⟩
  have hhl : hs.length = 8 := by rw [hhs, hInit_length]
  have hkl : ks.length = 64 := by rw [hks, kInit_length]
  rw [← hhs, ← hks] at hC
  rw [← hzs] at hC hB0 hBk hz hzd
  have HHs := Lib.hid hhs
  have HKs := Lib.hid hks
  have HC := Lib.hid hC
  have HB0 := Lib.hid hB0
  have HBk := Lib.hid hBk
  have HZ := Lib.hid hz
  have HZd := Lib.hid hzd
  have HHl := Lib.hid hhl
  have HKl := Lib.hid hkl
  clear hhs hks hC hB0 hBk hz hzd hhl hkl
  go_enter Tryz.func82, Tryz.ntmps82
  go_wp2_with fail
  rw [← hzs]
  clear hzs
  refine HC.out.mono ?_
  rintro e w1 ⟨rfl, hb1⟩
  have hblk := (hb1.block w.heap.size (by simp)).trans HBk.out
  have HBlk := Lib.hid (show w1.heap[w.heap.size]? = some (.cells zs.toList.toArray 228 (0, 0)) by simpa using hblk)
  have HB1 := Lib.hid (HB0.out.trans (hb1.mono HB0.out.size))
  have HE := Lib.hid (show ((zs.toList.take 0 ++ hs.map U32 ++ zs.toList.drop (0 + (hs.map U32).length)).take 8 ++ ks.map U32 ++ (zs.toList.take 0 ++ hs.map U32 ++ zs.toList.drop (0 + (hs.map U32).length)).drop (8 + (ks.map U32).length)) = hCells (stOf []) kInit (.slice none 0 0) 0 by
    have h8 : (hs.map U32).length = 8 := by rw [List.length_map, HHl.out]
    rw [List.take_zero, List.nil_append, h8, List.length_map, HKl.out, List.take_append_of_le_length (by omega), List.take_of_length_le (by omega), List.drop_append, List.drop_of_length_le (by omega), List.nil_append, h8, List.drop_drop, HZd.out]
    have hst : (stOf []).list = hs := by rw [HHs.out]; exact sInit_list
    unfold hCells
    rw [hst, HKs.out, List.append_assoc]
    rfl)
  clear hblk hb1
  go_wp2_with (first | (refine wpList_store_lpart rfl 225 (.tmp 11) (.tmp 8) rfl w.heap.size 0 rfl (hs.map U32) rfl zs.toList _ HBlk.out (by rw [List.length_map, HHl.out, HZ.out]; omega) (U32_one hs) (by rw [info_state', List.length_map, HHl.out]) ?_; intro w2 hg2 hf2 hs2; have HG2 := Lib.hid hg2; have HF2 := Lib.hid hf2; have HS2 := Lib.hid hs2; clear hg2 hf2 hs2) | (refine wpList_store_lpart rfl 226 (.tmp 13) (.tmp 9) rfl w.heap.size 8 rfl (ks.map U32) rfl _ _ HG2.out (by simp [HHl.out, HKl.out, HZ.out]) (U32_one ks) (by rw [info_w64', List.length_map, HKl.out]) ?_; intro w3 hg3 hf3 hs3; have HG3 := Lib.hid hg3; have HF3 := Lib.hid hf3; clear hg3 hf3 hs3))
  go_ret
  refine ⟨rfl, ⟨.slice none 0 0, ?_, World.ownsRow_nil _ _ _ _, rfl⟩, ?_⟩
  · have h := HG3.out
    rw [HE.out] at h
    exact h
  · have h2 := HB1.out.trans (HF2.out.below HB1.out.size (fun j hj => by omega))
    exact h2.trans (HF3.out.below h2.size (fun j hj => by omega))

def HsM (w : World) (base b : Nat) (row : Option Nat) (st : St) (rest : List UInt8) (n : Nat) : Prop :=
  ∃ v, HsAt w b st kInit v n ∧ w.ownsRow base 5 1 v rest.length (rest.map Bv) ∧ v.ownBlock = row
theorem Hs.mid {w : World} {base b : Nat} {row : Option Nat} {xs : List UInt8} (h : Hs w base b row xs) : HsM w base b row (stOf xs) (restOf xs) xs.length := h
theorem HsM.row_ne {w : World} {base b n : Nat} {row : Option Nat} {st : St} {rest : List UInt8} (h : HsM w base b row st rest n) : row ≠ some b := by
  obtain ⟨v, h1, h2, rfl⟩ := h
  rcases h2.2 with ⟨rfl, _⟩ | ⟨g, cap, cur, rfl, _, h3, _⟩
  · simp [Value.ownBlock]
  · simp only [Value.ownBlock, ne_eq, Option.some.injEq]
    rintro rfl
    rw [show w.heap[g]? = _ from h1] at h3
    simp at h3
theorem HsM.lt {w : World} {base b n : Nat} {row : Option Nat} {st : St} {rest : List UInt8} (h : HsM w base b row st rest n) : b < w.heap.size ∧ ∀ k, row = some k → base ≤ k ∧ k < w.heap.size := by
  obtain ⟨v, h1, h2, rfl⟩ := h
  exact ⟨lt_of_block h1, h2.lt⟩
theorem HsM.fr {w w' : World} {S : Nat → Prop} {base b n : Nat} {row : Option Nat} {st : St} {rest : List UInt8} (h : HsM w base b row st rest n) (hf : Fr S w w') (h1 : ¬ S b) (h2 : ∀ k, row = some k → ¬ S k) : HsM w' base b row st rest n := by
  have hlt := h.lt
  obtain ⟨v, hb, ho, rfl⟩ := h
  exact ⟨v, (hf.block b hlt.1 h1).trans hb, ho.fr hf h2, rfl⟩
/-- What Write leaves. -/
def Took (w w' : World) (base b : Nat) (row : Option Nat) (xs : List UInt8) : Prop :=
  ∃ row', Hs w' base b row' xs ∧ Fr (WS b row) w w' ∧ ∀ k, row' = some k → row = some k ∨ w.heap.size ≤ k

theorem headQ_le (xs : List UInt8) : 64 * headQ xs ≤ xs.length := by unfold headQ; omega
theorem stOf_append (xs ys : List UInt8) : blocksN sInit (xs ++ ys) (headQ xs) = stOf xs := blocksN_append _ _ _ _ (headQ_le xs)
theorem restOf_append (xs ys : List UInt8) : (xs ++ ys).drop (64 * headQ xs) = restOf xs ++ ys := by
  rw [List.drop_append_of_le_length (headQ_le xs)]; rfl
def WrRel (w : World) (base b : Nat) (row : Option Nat) (all : List UInt8) (q : Nat) (wr : World) : Prop :=
  ∃ row', HsM wr base b row' (blocksN sInit all q) (all.drop (64 * q)) all.length ∧ Fr (WS b row) w wr ∧ ∀ k, row' = some k → row = some k ∨ w.heap.size ≤ k
def lenOf : Option Value → Nat
  | some (.slice _ n _) => n
  | _ => 0
theorem HsM.measure {w : World} {base b n : Nat} {row : Option Nat} {st : St} {rest : List UInt8} (h : HsM w base b row st rest n) : lenOf (w.cell? ⟨b, 72, none⟩) = rest.length := by
  obtain ⟨v, h1, h2, _⟩ := h
  rw [h1.cell72 kInit_length]
  obtain ⟨a, c, rfl, _⟩ := (Sl.own h2).len
  rfl
theorem WrRel.done {w wr : World} {base b : Nat} {row : Option Nat} {all : List UInt8} {q : Nat} (h : WrRel w base b row all q wr) (hq : 64 * q ≤ all.length) (hl : all.length < 64 * q + 64) : Took w wr base b row all := by
  obtain ⟨row', h1, h2, h3⟩ := h
  have e : q = headQ all := by unfold headQ; omega
  subst e
  exact ⟨row', h1, h2, h3⟩

set_option maxRecDepth 100000 in
set_option maxHeartbeats 4000000 in
theorem write_any (b base : Nat) (row : Option Nat) (xs ys : List UInt8) (v : Value) (w : World) (h : Hs w base b row xs) (hbase : base ≤ w.heap.size) (hv : Sl w 1 v ys.length (ys.map Bv)) (hr : xs.length + ys.length ≤ 140737488351232) :
    Calls Tryz.prog 83 #[.pointer (some ⟨b, 0, none⟩), v] w fun e w' => e = .returned (.int .i64 0) ∧ Took w w' base b row (xs ++ ys) := by
  obtain ⟨all, hall⟩ : ∃ all, all = xs ++ ys := ⟨_, rfl⟩
  rw [← hall]
  have HAll := Lib.hid hall
  clear hall
  obtain ⟨ks, hks⟩ : ∃ ks, ks = kInit := ⟨_, rfl⟩
  have hkl : ks.length = 64 := by rw [hks, kInit_length]
  have hne := h.mid.row_ne
  have hlt := h.mid.lt
  obtain ⟨v0, hb, ho, rfl⟩ := h
  rw [← hks] at hb
  have c73 := hb.cell73 hkl
  have f73 := hb.free 73
  have hb1 := hb.set73 hkl (xs.length + ys.length)
  have hc : ((xs.length + ys.length : Nat) : Int) = (xs.length : Int) + (ys.length : Int) := by omega
  rw [hc] at hb1
  have c72 := hb1.cell72 hkl
  have f72 := hb1.free 72
  obtain ⟨av, cv, rfl, _⟩ := hv.len
  have hv1 : Sl (w.setCell ⟨b, 73, none⟩ (.int .i64 ((xs.length : Int) + (ys.length : Int)))) 1 (.slice av ys.length cv) ys.length (ys.map Bv) := by
    refine hv.cells ?_
    intro p u hu hp
    obtain ⟨x, _, rfl⟩ := List.mem_map.1 hu
    exact cell_set_other hp c73 (by simp [Bv])
  have ho1 := ho.set_other (fun e => hne e) 73 (.int .i64 ((xs.length : Int) + (ys.length : Int)))
  have HKs := Lib.hid hks
  have HKl := Lib.hid hkl
  have HNe := Lib.hid hne
  have HLt := Lib.hid hlt
  have HB1 := Lib.hid hb1
  have HV1 := Lib.hid hv1
  have HO1 := Lib.hid ho1
  have HRl := Lib.hid (restOf_length xs)
  have hrl : (restOf xs).length ≤ xs.length := by rw [restOf_length]; exact Nat.mod_le _ _
  have HF1 := Lib.hid (Fr.set (S := WS b v0.ownBlock) (Fr.refl _ w) b 73 (Or.inl rfl) (.int .i64 ((xs.length : Int) + (ys.length : Int))))
  have HBase := Lib.hid (show base ≤ (w.setCell ⟨b, 73, none⟩ (.int .i64 ((xs.length : Int) + (ys.length : Int)))).heap.size by simpa using hbase)
  clear hks hkl hne hlt hb hv ho hb1 hv1 ho1 hc
  go_enter Tryz.func83, Tryz.ntmps83
  go_wp2_with (at_builtin; refine append_u8 rfl (.tmp 20) (.tmp 21) rfl HO1.out HV1.out rfl rfl (by omega) HBase.out ?_)
  intro aa cc w2 hown hf h3
  have hb2 : HsAt w2 b (stOf xs) ks v0 (xs.length + ys.length) := (hf.block b (lt_of_block HB1.out) (fun e => HNe.out e)).trans HB1.out
  have hne2 : (Value.slice aa ((restOf xs).length + ys.length) cc).ownBlock ≠ some b := by
    rcases h3 with e | e
    · rw [e]; exact HNe.out
    · rw [e]; have := HLt.out.1; simp; omega
  have c72 := hb2.cell72 HKl.out
  have f72 := hb2.free 72
  have hb3 := hb2.set72 HKl.out (.slice aa ((restOf xs).length + ys.length) cc)
  have ho3 := hown.set_other hne2 72 (.slice aa ((restOf xs).length + ys.length) cc)
  have hf3 : Fr (WS b v0.ownBlock) w (w2.setCell ⟨b, 72, none⟩ (.slice aa ((restOf xs).length + ys.length) cc)) :=
    (HF1.out.trans (hf.mono (fun k _ e => Or.inr e))).set b 72 (Or.inl rfl) _
  have hrel0 : WrRel w base b v0.ownBlock (xs ++ ys) (headQ xs) (w2.setCell ⟨b, 72, none⟩ (.slice aa ((restOf xs).length + ys.length) cc)) := by
    refine ⟨(Value.slice aa ((restOf xs).length + ys.length) cc).ownBlock, ⟨.slice aa ((restOf xs).length + ys.length) cc, ?_, ?_, rfl⟩, hf3, fun k hk => ?_⟩
    · rw [stOf_append, ← HKs.out, List.length_append]; exact hb3
    · rw [restOf_append, List.length_append, List.map_append]; exact ho3
    · rcases h3 with e | e
      · rw [e] at hk; exact Or.inl hk
      · rw [e] at hk; simp at hk; exact Or.inr (by omega)
  have HRel0 := Lib.hid hrel0
  have hal : (xs ++ ys).length ≤ 140737488351232 := by rw [List.length_append]; exact hr
  have HQ0 := Lib.hid (show 64 * headQ xs ≤ (xs ++ ys).length by have := headQ_le xs; rw [List.length_append]; omega)
  rw [← HAll.out] at HRel0 hal HQ0
  obtain ⟨q0, hq0⟩ : ∃ q0, q0 = headQ xs := ⟨_, rfl⟩
  rw [← hq0] at HRel0 HQ0
  clear hown hf h3 hb2 hne2 hb3 ho3 hf3 hrel0 hq0 HB1 HV1 HO1 HRl HF1 HBase c73 f73
  go_wp2_with fail
  go_loopw [30] (fun _ wr => ∃ q : Nat, 64 * q ≤ all.length ∧ WrRel w base b v0.ownBlock all q wr) (fun _ wr => lenOf (wr.cell? ⟨b, 72, none⟩))
  case atStart => exact ⟨q0, HQ0.out, HRel0.out⟩
  case round =>
    obtain ⟨q, hq, row', hm, hfr, hrow⟩ := hrel
    have hmeas := hm.measure
    have hlt := hm.lt
    have hne := hm.row_ne
    have hrest : (all.drop (64 * q)).length = all.length - 64 * q := List.length_drop
    obtain ⟨vr, hb, ho, rfl⟩ := hm
    rw [← HKs.out] at hb
    obtain ⟨ar, cr, rfl, _⟩ := (Sl.own ho).len
    have c72 := hb.cell72 HKl.out
    obtain ⟨rest, hrr⟩ : ∃ rest, rest = all.drop (64 * q) := ⟨_, rfl⟩
    rw [← hrr] at hmeas hrest hb ho c72 hrow hne hlt
    obtain ⟨rl, hrl⟩ : ∃ rl, rl = rest.length := ⟨_, rfl⟩
    rw [← hrl] at hmeas hrest hb ho c72 hrow hne hlt
    rcases Nat.lt_or_ge rl 64 with hlt64 | hge
    · have HT := Lib.hid (show Took w wr base b v0.ownBlock all from WrRel.done ⟨_, ⟨_, by rw [← HKs.out]; exact hb, by rw [← hrr, ← hrl]; exact ho, rfl⟩, hfr, hrow⟩ hq (by omega))
      clear hmeas hlt hne hrest hb ho hrr hrl hfr hrow
      go_wp2
      go_ret
      exact ⟨rfl, HT.out⟩
    · have hstok : (blocksN sInit all q).Ok := blocksN_ok _ sInit_ok _
      obtain ⟨st, hst⟩ : ∃ st, st = blocksN sInit all q := ⟨_, rfl⟩
      rw [← hst] at hb hstok
      obtain ⟨A, C, qs, hA⟩ := cut_u8_hi (Sl.own ho) (hi := 64) hge
      rw [show ((64 : Nat) : Int) = 64 from rfl] at qs
      have htk := fun (u : Wd wr.heap.size wr) => Calls.wd u (Nat.le_refl _) (take_any st hstok (.slice A 64 C) (rest.take 64) b 8 ks u.to (hA.below u.hb) (u.at hb.atK) HKl.out (by rw [HKs.out]; exact kInit_lt))
      have hs' : addSt (roundsN st ks (spreadL (rest.take 64) 64) 64) st = blocksN sInit all (q + 1) := by
        rw [hst, hrr, HKs.out]; rfl
      rw [hs'] at htk
      obtain ⟨st', hst'⟩ : ∃ st', st' = blocksN sInit all (q + 1) := ⟨_, rfl⟩
      rw [← hst'] at htk
      have u72 := fun (u : Wd wr.heap.size wr) => u.cell' c72
      have HU := Lib.hid (fun w' (hw : ∃ u : Wd wr.heap.size wr, w' = u.to) => (by obtain ⟨u, rfl⟩ := hw; exact u.at hb.atS : At w' b 0 st.arr.toList))
      have HTk := Lib.hid htk
      have HMeas := Lib.hid hmeas
      have HLt := Lib.hid hlt
      have HNe := Lib.hid hne
      have HRest := Lib.hid hrest
      have HRr := Lib.hid hrr
      have HRl := Lib.hid hrl
      have HSt' := Lib.hid hst'
      have HBk := Lib.hid hb
      have HO := Lib.hid ho
      have HFr := Lib.hid hfr
      have HRow := Lib.hid hrow
      clear hmeas hlt hne hrest hrr hrl hs' hst' hb ho hfr hrow htk hst hA hstok
      go_wp2_with fail
      refine wp_region_class_tail 16 (C := fun w' => ∃ u : Wd wr.heap.size wr, w' = u.to) (by kernel_rfl) (by kernel_rfl) ⟨⟨{ wr with drawn := wr.drawn + 1 }, (Below.refl _ wr).drew⟩, rfl⟩ ?_
      simp only [List.take_succ_cons, List.take_zero, List.drop_succ_cons, List.drop_zero]
      repeat (first | (refine wpQuiet_load_at rfl 225 (.tmp 34) rfl b 0 rfl _ _ HU.out Tryz.underlying225 rfl (by rw [info_state']; rfl) ?_; simp only [Act.put, List.setIfInBounds_toArray, List.set_cons_succ, List.set_cons_zero, Array.toArray_toList]) | go_big_quiet_step (with_reducible exact HTk.out _))
      refine wpQuiet_nil ?_
      rintro _ ⟨⟨w5, hb5⟩, rfl⟩
      have HBk5 := Lib.hid ((hb5.block b (lt_of_block HBk.out)).trans HBk.out)
      have HO5 := Lib.hid (HO.out.fr (Fr.of_below (S := fun _ => False) hb5) (fun _ _ => id))
      have HFr5 := Lib.hid (HFr.out.trans (Fr.of_below (S := WS b v0.ownBlock) hb5))
      have hsz5 := hb5.size
      clear hb5 u72 c72
      refine wpList_store_lpart rfl 225 (.tmp 46) (.tmp 44) rfl b 0 rfl (st'.list.map U32) rfl _ _ HBk5.out (by rw [hCells_length _ HKl.out]; show 8 ≤ 74; decide) (U32_one _) (by rw [info_state']; rfl) ?_
      intro w6 hg6 hf6 hs6
      rw [hCells_setS] at hg6
      have hb6 : HsAt w6 b st' ks (.slice ar rl cr) all.length := hg6
      have c72 := hb6.cell72 HKl.out
      have f72 := hb6.free 72
      have ho6 := HO5.out.fr hf6 (fun k hk e => HNe.out (e ▸ hk))
      obtain ⟨A', C', qs', hA', hoA'⟩ := cut_u8_lo' (Sl.own ho6) (lo := 64) hge
      rw [show ((64 : Nat) : Int) = 64 from rfl] at qs'
      have HA' := Lib.hid hA'
      have HBk6 := Lib.hid hb6
      have HO6 := Lib.hid ho6
      have HFr6 := Lib.hid (HFr5.out.trans (hf6.mono (fun k _ e => Or.inl e)))
      have hsz6 : wr.heap.size ≤ w6.heap.size := by omega
      have hle : rl - 64 ≤ 140737488351232 := by have := HRest.out; omega
      clear hg6 hf6 hs6 hb6 ho6 hA' hoA' qs
      go_wp2_with fail
      refine (clone_any _ _ (rl - 64) _ HA'.out hle).mono ?_
      rintro e w7 ⟨ac, cc', rfl, hown7, hb7⟩
      have hbk7 : HsAt w7 b st' ks (.slice ar rl cr) all.length := (hb7.block b (lt_of_block HBk6.out)).trans HBk6.out
      have c72 := hbk7.cell72 HKl.out
      have f72 := hbk7.free 72
      have hb8 := hbk7.set72 HKl.out (.slice ac (rl - 64) cc')
      have hne7 : (Value.slice ac (rl - 64) cc').ownBlock ≠ some b := fun e => by
        have h1 := (hown7.lt b e).1
        have := lt_of_block HBk6.out
        omega
      have HRel := Lib.hid (show WrRel w base b v0.ownBlock all (q + 1) (w7.setCell ⟨b, 72, none⟩ (.slice ac (rl - 64) cc')) by
        refine ⟨(Value.slice ac (rl - 64) cc').ownBlock, ⟨.slice ac (rl - 64) cc', ?_, ?_, rfl⟩, (HFr6.out.trans (Fr.of_below hb7)).set b 72 (Or.inl rfl) _, fun k hk => ?_⟩
        · rw [← HSt'.out, ← HKs.out]; exact hb8
        · have h1 := (hown7.base (by have := HFr6.out.size; omega : base ≤ w6.heap.size)).set_other hne7 72 (.slice ac (rl - 64) cc')
          have e1 : all.drop (64 * (q + 1)) = rest.drop 64 := by rw [HRr.out, List.drop_drop, Nat.mul_succ]
          rw [e1, List.length_drop, ← HRl.out]
          exact h1
        · have := (hown7.lt k hk).1
          have := HFr6.out.size
          exact Or.inr (by omega))
      have hq1 : 64 * (q + 1) ≤ all.length := by have := HRest.out; omega
      clear hown7 hb7 hbk7 hb8 hne7
      have HMe := Lib.hid (show lenOf ((w7.setCell ⟨b, 72, none⟩ (.slice ac (rl - 64) cc')).cell? ⟨b, 72, none⟩) = rl - 64 by
        obtain ⟨row', h1, _⟩ := HRel.out
        rw [h1.measure, List.length_drop]; have := HRest.out; omega)
      go_wp2
      go_roundw
      case rel => exact ⟨q + 1, hq1, HRel.out⟩
      case measure => rw [HMe.out, HMeas.out]; omega
end Go.Proofs.YtkbnkdokcmpcgaaGreatDoor
namespace Go.Proofs.YtkbnkdokcmpcgaaGreatDoor
open Go.RowKit

section
variable {P : Program} {ops : Array Oper} {md : Region.Mode} {Q : Exit → Act → World → Prop}

def noDefer (o : Oper) : Bool := match o.op with
  | .defer _ => false
  | _ => true
theorem noDefer_spec {o : Oper} (h : noDefer o = true) : ∀ c, o.op ≠ .defer c := by
  intro c e
  unfold noDefer at h
  rw [e] at h
  cases h

theorem rowsIn_round {n l : Nat} {row : String} {args : Array Value} {w : World} {R : Value → World → Prop} (h : Rows P row args w R) : RowsIn (Fence.wide.inRound l) n P row args w R := fun c cs _ => by
  obtain ⟨v, w', hr, hs⟩ := h c cs
  exact ⟨v, w', hr, stepsIn_wide.2 hs⟩
theorem oper_in_round {n l : Nat} {o : Oper} {a : Act} {w : World} {K : Act → World → Prop} (hd : noDefer o = true) (h : Oper.wp P o a w K Q) : Oper.wpIn (Fence.wide.inRound l) n P o a w K Q := by
  refine ⟨fun _ _ => trivial, ?_⟩
  show o.uponIn (Fence.wide.inRound l) n P a K Q ((o.semAt (some l) a.eval).run P w)
  rw [Oper.semAt_some l _ o (noDefer_spec hd)]
  unfold Oper.wp at h
  generalize (execOp a.eval o).run P w = r at *
  cases r with
  | ok x w' =>
    cases x <;> simp only [Oper.upon] at h <;> simp only [Oper.uponIn]
    case value u => exact h
    case skip => exact h
    case defer d => exact h
    case enter f args => exact ⟨fun hh => (by cases hh), CallsIn.inRound l (callsIn_wide.2 h)⟩
    case row row args => exact ⟨fun hh => (by cases hh), rowsIn_round h⟩
  | halt x w' => cases x <;> simp only [Oper.upon] at h <;> simp only [Oper.uponIn] <;> exact h
theorem wpOp_in_round {n l i : Nat} {a : Act} {w : World} {K : Act → World → Prop} (hQ : ¬ LetsOut Q) (hd : ∀ (j : Nat) o, ops[j]? = some o → noDefer o = true) (h : wpOp P ops Q i K a w) : wpOpIn (Fence.wide.inRound l) n P ops Q i K a w := by
  unfold wpOp at h
  unfold wpOpIn
  cases ho : ops[i]? with
  | none => rw [ho] at h; exact h
  | some o =>
    rw [ho] at h
    simp only at h ⊢
    split
    · rename_i hw
      rw [if_pos hw] at h
      rcases h with h | h
      · exact oper_in_round (hd i o ho) h
      · exact absurd h.2 hQ
    · rename_i hw
      rw [if_neg hw] at h
      exact ⟨fun _ _ => trivial, h⟩
theorem wpAny_in_round {n l : Nat} (hQ : ¬ LetsOut Q) (hd : ∀ (j : Nat) o, ops[j]? = some o → noDefer o = true) : ∀ (fuel : Nat) (listed : Array Bool) (a : Act) (w : World), wpAny P md ops Q fuel listed a w → wpAnyIn (Fence.wide.inRound l) n P md ops Q fuel listed a w
  | 0, _, _, _, h => h
  | fuel + 1, _, _, _, h => ⟨h.1, fun i hi => wpOpIn_mono (fun a' w' h' => wpAny_in_round hQ hd fuel _ a' w' h') (wpOp_in_round hQ hd (h.2 i hi))⟩

theorem wpIn_region_round {n l id : Nat} {a : Act} {w : World} (hm : P.follows .mixedOrders = true) (hQ : ¬ LetsOut Q) (hd : ops.all noDefer = true) (h : wpAny P .any ops Q ops.size (Array.replicate ops.size false) a { w with drawn := w.drawn + 1 }) :
    (Code.region id ops true).wpIn (Fence.wide.inRound l) n P Q a w :=
  wpIn_region_any hm (wpAny_in_round hQ (fun j o hj => by
    have := Array.all_eq_true.1 hd j (Array.getElem?_eq_some_iff.1 hj).1
    rwa [(Array.getElem?_eq_some_iff.1 hj).2] at this) _ _ _ _ h)
end

end Go.Proofs.YtkbnkdokcmpcgaaGreatDoor
