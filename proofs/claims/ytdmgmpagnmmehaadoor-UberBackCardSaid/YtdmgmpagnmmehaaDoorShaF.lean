/- Walk: the state behind a block. -/
import Derived.Test.YtdmgmpagnmmehaaDoorShaB
import Derived.Laws.CopyOwn
namespace Go.Proofs.YtdmgmpagnmmehaaDoor
open Go.RowKit

theorem info_u32s : (Tryd.prog.info? 43).map (·.size) = some 1 := by kernel_rfl
theorem info_state' : (Tryd.prog.info? 145).map (·.size) = some 8 := by kernel_rfl

/-- The state's cells. -/
def St.arr (s : St) : Array Value := (s.list.map U32).toArray
theorem St.arr_eq (s : St) : s.arr = #[.int .u32 (s.a : Int), .int .u32 (s.b : Int), .int .u32 (s.c : Int), .int .u32 (s.d : Int), .int .u32 (s.e : Int), .int .u32 (s.f : Int), .int .u32 (s.g : Int), .int .u32 (s.h : Int)] := rfl
theorem St.arr_one (s : St) : ∀ u ∈ s.arr.toList, u.oneCell' = true := U32_one s.list
theorem load_state {ops : Array Oper} {rest : List Oper} {o : Oper} {a : Act} {w : World} {Q : Exit → Act → World → Prop} (hgd : o.guard = none) (x : Operand) (ho : o.op = .load 145 x)
    {b off : Nat} (hx : a.eval x = .pointer (some ⟨b, off, none⟩)) {arr : Array Value} (hc : At w b off arr.toList) (hl : arr.size = 8)
    (hK : wpList Tryd.prog ops Q rest (a.put o.dst (.agg arr)) w) : wpList Tryd.prog ops Q (o :: rest) a w :=
  wpList_load_at hgd _ x ho b off hx arr.toList _ hc Tryd.underlying145 rfl (by rw [info_state', Array.length_toList, hl]) hK
theorem store_state {ops : Array Oper} {rest : List Oper} {o : Oper} {a : Act} {w : World} {Q : Exit → Act → World → Prop} (hgd : o.guard = none) (x y : Operand) (ho : o.op = .store 145 x y)
    {b : Nat} (hx : a.eval x = .pointer (some ⟨b, 0, none⟩)) {arr : Array Value} (hy : a.eval y = .agg arr) {old : Array Value} {t : TypeId} (hb : w.heap[b]? = some (.cells old t (0, 0))) (ho2 : old.size = 8) (hl : arr.size = 8)
    (h1 : ∀ u ∈ arr.toList, u.oneCell' = true)
    (hK : ∀ w', w'.heap[b]? = some (.cells arr t (0, 0)) → Fr (fun k => k = b) w w' → w'.heap.size = w.heap.size → wpList Tryd.prog ops Q rest (a.put o.dst undef) w') : wpList Tryd.prog ops Q (o :: rest) a w :=
  wpList_store_row hgd _ x y ho b hx arr.toList (by simpa using hy) old _ hb (by simp [ho2, hl]) h1 (by rw [info_state']; simp [hl]) (fun w' h1 h2 h3 => hK w' (by simpa using h1) h2 h3)
theorem store_w64 {ops : Array Oper} {rest : List Oper} {o : Oper} {a : Act} {w : World} {Q : Exit → Act → World → Prop} (hgd : o.guard = none) (x y : Operand) (ho : o.op = .store 146 x y)
    {b : Nat} (hx : a.eval x = .pointer (some ⟨b, 0, none⟩)) {l : List Nat} (hy : a.eval y = .agg (l.map U32).toArray) {old : Array Value} {t : TypeId} (hb : w.heap[b]? = some (.cells old t (0, 0))) (ho2 : old.size = 64) (hl : l.length = 64)
    (hK : ∀ w', w'.heap[b]? = some (.cells (l.map U32).toArray t (0, 0)) → Fr (fun k => k = b) w w' → w'.heap.size = w.heap.size → wpList Tryd.prog ops Q rest (a.put o.dst undef) w') : wpList Tryd.prog ops Q (o :: rest) a w :=
  wpList_store_row hgd _ x y ho b hx (l.map U32) hy old _ hb (by simp [ho2, hl]) (U32_one l) (by rw [info_w64']; simp [hl]) (fun w' h1 h2 h3 => hK w' h1 h2 h3)

/-- copy of words within a row. -/
theorem copy_u32 {w : World} {ops : Array Oper} {rest : List Oper} {o : Oper} {a : Act} {Q : Exit → Act → World → Prop} (hgd : o.guard = none) (d s : Operand)
    (ho : o.op = .call { callee := .builtin .copy, args := #[d, s], argTypes := #[126, 126] })
    {g off dLen dCap sg so sCap : Nat} {cur ys : List Nat} {t : TypeId} (hg : w.heap[g]? = some (.cells (cur.map U32).toArray t (0, 0))) (hsrc : At w sg so (ys.map U32))
    (hd : a.eval d = .slice (some ⟨g, off, none⟩) dLen dCap) (hs : a.eval s = .slice (some ⟨sg, so, none⟩) dLen sCap) (hyl : ys.length = dLen) (hfit : off + dLen ≤ cur.length)
    (h : ∀ w', w'.heap[g]? = some (.cells ((cur.take off ++ (ys ++ cur.drop (off + ys.length))).map U32).toArray t (0, 0)) → Fr (fun k => k = g) w w' → wpList Tryd.prog ops Q rest (a.put o.dst (.int .i64 (dLen : Nat))) w') :
    wpList Tryd.prog ops Q (o :: rest) a w := by
  refine wpList_copy_own hgd d s _ _ ho 43 Tryd.underlying126 info_u32s g off dLen dCap ⟨sg, so, none⟩ dLen sCap hd hs _ t hg (ys.map U32) (by simp [hyl]) ?_ (by simpa [hyl] using hfit) (U32_one _) ?_
  · intro j u hj
    rw [Addr.add_lit]; exact hsrc j u hj
  · have e2 : (((cur.map U32).toArray).toList.take off ++ (ys.map U32 ++ ((cur.map U32).toArray).toList.drop (off + (ys.map U32).length))).toArray = ((cur.take off ++ (ys ++ cur.drop (off + ys.length))).map U32).toArray := by
      simp
    rw [e2]
    have e3 : goInt (ys.map U32).length = .int .i64 (dLen : Nat) := by rw [List.length_map, hyl]; rfl
    rw [e3]
    exact h _ (setRow_heap w g _ _ t _ hg) ⟨rfl, rfl, rfl, by simp, fun k _ hk => setRow_other w g k _ hk⟩

theorem addSt_list (x s : St) : (addSt x s).list = List.zipWith (fun a b => (a + b) % 4294967296) x.list s.list := rfl
theorem mid_set {xs ss : List Nat} (hx : xs.length = 8) (hs : ss.length = 8) {n : Nat} (hn : n < 8) :
    ((List.zipWith (fun a b => (a + b) % 4294967296) xs ss).take n ++ xs.drop n).set n ((xs.getD n 0 + ss.getD n 0) % 4294967296) = (List.zipWith (fun a b => (a + b) % 4294967296) xs ss).take (n + 1) ++ xs.drop (n + 1) := by
  have hl : ((List.zipWith (fun a b => (a + b) % 4294967296) xs ss).take n).length = n := by simp; omega
  rw [List.set_append_right _ _ (by rw [hl]; exact Nat.le_refl _), hl, Nat.sub_self, List.drop_eq_getElem_cons (by omega : n < xs.length), List.set_cons_zero, List.take_succ_eq_append_getElem (by simp; omega), List.append_assoc]
  congr 1
  rw [List.getElem_zipWith, List.getD_eq_getElem?_getD, List.getD_eq_getElem?_getD, List.getElem?_eq_getElem (by omega), List.getElem?_eq_getElem (by omega)]
  rfl
def AddRel (w : World) (X : Nat) (x s : St) (n : Nat) (wr : World) : Prop := wr.heap[X]? = some (.cells (((addSt x s).list.take n ++ x.list.drop n).map U32).toArray 145 (0, 0)) ∧ Fr (fun k => k = X) w wr
def TakeRel (w : World) (X : Nat) (x : St) (wr : World) : Prop := wr.heap[X]? = some (.cells x.arr 145 (0, 0)) ∧ Fr (fun k => k = X) w wr
theorem and_val {a b : Nat} (ha : a < 4294967296) (hb : b < 4294967296) : bits .and .u32 (a : Int) (b : Int) = ((a &&& b : Nat) : Int) := u32_and_nat _ _ ha hb

set_option maxRecDepth 100000 in
set_option maxHeartbeats 8000000 in
theorem take_any (s : St) (hs : s.Ok) (v : Value) (b : List UInt8) (kb ko : Nat) (ks : List Nat) (w : World) (h : Sl w 1 v 64 (b.map Bv)) (hk : At w kb ko (ks.map U32)) (hkl : ks.length = 64) (hk32 : ∀ x ∈ ks, x < 4294967296) :
    Calls Tryd.prog 91 #[.agg s.arr, v, .pointer (some ⟨kb, ko, none⟩)] w fun e w' => e = .returned (.agg (addSt (roundsN s ks (spreadL b 64) 64) s).arr) ∧ Below w.heap.size w w' := by
  obtain ⟨R, hR⟩ : ∃ R, R = addSt (roundsN s ks (spreadL b 64) 64) s := ⟨_, rfl⟩
  rw [← hR]
  obtain ⟨arr, harr⟩ : ∃ arr, arr = s.arr := ⟨_, rfl⟩
  rw [← harr]
  have HArr := Lib.hid harr
  have HRes := Lib.hid hR
  have HSp := Lib.hid (fun w' hw => spread_any v b w' hw)
  have HS := Lib.hid h
  have HK := Lib.hid hk
  have HKl := Lib.hid hkl
  have HK32 := Lib.hid hk32
  have HOk := Lib.hid hs
  clear hR harr h hk hkl hk32 hs
  go_enter Tryd.func91, Tryd.ntmps91
  go_wp2_with fail
  have hbel0 : Below w.heap.size w ((w.alloc (.cells arr 145)).alloc (.cells #[.int .u32 0, .int .u32 0, .int .u32 0, .int .u32 0, .int .u32 0, .int .u32 0, .int .u32 0, .int .u32 0] 145)) := ((Below.refl _ w).alloc (Nat.le_refl _) _).alloc (by simp) _
  have hsz0 : ((w.alloc (.cells arr 145)).alloc (.cells #[.int .u32 0, .int .u32 0, .int .u32 0, .int .u32 0, .int .u32 0, .int .u32 0, .int .u32 0, .int .u32 0] 145)).heap.size = w.heap.size + 2 := by simp
  have hs0 : ((w.alloc (.cells arr 145)).alloc (.cells #[.int .u32 0, .int .u32 0, .int .u32 0, .int .u32 0, .int .u32 0, .int .u32 0, .int .u32 0, .int .u32 0] 145)).heap[w.heap.size]? = some (.cells arr 145 (0, 0)) :=
    (Below.heap_alloc _ _ _ (by simp)).trans (heap_alloc_new _ _)
  have hr0 : ((w.alloc (.cells arr 145)).alloc (.cells #[.int .u32 0, .int .u32 0, .int .u32 0, .int .u32 0, .int .u32 0, .int .u32 0, .int .u32 0, .int .u32 0] 145)).heap[w.heap.size + 1]? = some (.cells #[.int .u32 0, .int .u32 0, .int .u32 0, .int .u32 0, .int .u32 0, .int .u32 0, .int .u32 0, .int .u32 0] 145 (0, 0)) := by
    have h := heap_alloc_new (w.alloc (.cells arr 145)) (.cells #[.int .u32 0, .int .u32 0, .int .u32 0, .int .u32 0, .int .u32 0, .int .u32 0, .int .u32 0, .int .u32 0] 145)
    rwa [show (w.alloc (.cells arr 145)).heap.size = w.heap.size + 1 by simp] at h
  refine (HSp.out _ (HS.out.below hbel0)).mono ?_
  rintro e w1 ⟨rfl, hb1⟩
  have HB1 := Lib.hid (hbel0.trans (hb1.mono hbel0.size))
  have HS1 := Lib.hid ((hb1.block w.heap.size (by rw [hsz0]; omega)).trans hs0)
  have HR1 := Lib.hid ((hb1.block (w.heap.size + 1) (by rw [hsz0]; omega)).trans hr0)
  have hsz1 : w.heap.size + 2 ≤ w1.heap.size := by have := hb1.size; rw [hsz0] at this; exact this
  clear hb1 hbel0 hsz0 hs0 hr0 HSp
  obtain ⟨ws, hws⟩ : ∃ ws, ws = spreadL b 64 := ⟨_, rfl⟩
  have HWs := Lib.hid hws
  have HWl := Lib.hid (show ws.length = 64 by rw [hws, spreadL_length])
  have HW32 := Lib.hid (show ∀ x ∈ ws, x < 4294967296 by rw [hws]; exact spreadL_lt b 64)
  rw [← hws] at HRes ⊢
  clear hws
  go_wp2_with (refine store_w64 rfl (.tmp 7) (.tmp 20) rfl rfl rfl (heap_alloc_new _ _) rfl HWl.out ?_)
  intro w2 hg2 hf2 hs2
  have hbel2 : Below w1.heap.size w1 w2 := ((Below.refl _ w1).alloc (Nat.le_refl _) _).trans (hf2.below (by simp) (fun j hj => by omega))
  have HW2 := Lib.hid hg2
  have HB2 := Lib.hid (HB1.out.trans (hbel2.mono HB1.out.size))
  have HS2 := Lib.hid ((hbel2.block w.heap.size (lt_of_block HS1.out)).trans HS1.out)
  have HR2 := Lib.hid ((hbel2.block (w.heap.size + 1) (lt_of_block HR1.out)).trans HR1.out)
  have hsz2 : w1.heap.size < w2.heap.size := by rw [hs2]; simp
  clear hg2 hf2 hs2 hbel2
  have HAs := Lib.hid (show arr.size = 8 by rw [HArr.out]; rfl)
  have HA1 := Lib.hid (show ∀ u ∈ arr.toList, u.oneCell' = true by rw [HArr.out]; exact St.arr_one s)
  have HAt := Lib.hid (At.of_row (cs := arr.toList) (by simpa using HS2.out))
  go_wp2_with (first | (refine load_state rfl (.tmp 3) rfl rfl HAt.out HAs.out ?_) | (refine store_state rfl (.tmp 8) (.tmp 21) rfl rfl rfl (heap_alloc_new _ _) rfl HAs.out HA1.out ?_; intro w3 hg3 hf3 hs3))
  have hbel3 : Below w2.heap.size w2 w3 := ((Below.refl _ w2).alloc (Nat.le_refl _) _).trans (hf3.below (by simp) (fun j hj => by omega))
  have HW3 := Lib.hid ((hbel3.block w1.heap.size (lt_of_block HW2.out)).trans HW2.out)
  have HB3 := Lib.hid (HB2.out.trans (hbel3.mono HB2.out.size))
  have HS3 := Lib.hid ((hbel3.block w.heap.size (lt_of_block HS2.out)).trans HS2.out)
  have HR3 := Lib.hid ((hbel3.block (w.heap.size + 1) (lt_of_block HR2.out)).trans HR2.out)
  rw [HArr.out] at hg3
  have HX3 := Lib.hid (show TakeRel w3 w2.heap.size (roundsN s ks ws 0) w3 from ⟨hg3, Fr.refl _ _⟩)
  clear hg3 hf3 hs3 hbel3
  obtain ⟨X, hX⟩ : ∃ X, X = w2.heap.size := ⟨_, rfl⟩
  obtain ⟨WB, hWB⟩ : ∃ WB, WB = w1.heap.size := ⟨_, rfl⟩
  rw [← hX] at hsz2 HX3 ⊢
  rw [← hWB] at hsz1 hsz2 HW3 ⊢
  clear hX hWB HS1 HS2 HR1 HR2 HW2 HAt HB1 HB2 HS
  go_wp2_with fail
  go_loopw [22] (fun i wr => ∃ n : Nat, n ≤ 64 ∧ i = .int .i64 n ∧ TakeRel w3 X (roundsN s ks ws n) wr) (fun i _ => 64 - (intOf i).toNat)
  case atStart => exact ⟨0, by omega, rfl, HX3.out⟩
  case round =>
    obtain ⟨n, hn, rfl, hrow, hfr⟩ := hrel
    rcases Nat.lt_or_ge n 64 with hlt | hge
    · obtain ⟨x, hx⟩ : ∃ x, x = roundsN s ks ws n := ⟨_, rfl⟩
      rw [← hx] at hrow
      have hok : x.Ok := by rw [hx]; exact roundsN_ok _ _ HOk.out n
      have hnext : roundsN s ks ws (n + 1) = roundN x (ks.getD n 0) (ws.getD n 0) := by rw [hx]; rfl
      have hkc : wr.cell? ⟨kb, ko + n, none⟩ = some (.int .u32 ((ks.getD n 0 : Nat) : Int)) := by
        have h1 := HK.out n (U32 (ks.getD n 0)) (by rw [List.getElem?_map, List.getD_eq_getElem?_getD, List.getElem?_eq_getElem (by rw [HKl.out]; omega)]; rfl)
        have h2 := World.block_lt_of_cell? w _ h1
        have h3 := (HB3.out.cell (p := ⟨kb, ko + n, none⟩) h2).trans h1
        exact hfr.cell h3 (by simp at h2 ⊢; omega)
      have hwc : wr.cell? ⟨WB, n, none⟩ = some (.int .u32 ((ws.getD n 0 : Nat) : Int)) := by
        have h0 := (hfr.block WB (lt_of_block HW3.out) (by omega)).trans HW3.out
        rw [cell_of_row _ _ n _ _ _ h0, List.getElem?_toArray, List.getElem?_map, List.getD_eq_getElem?_getD, List.getElem?_eq_getElem (by rw [HWl.out]; omega)]; rfl
      have hk32 : ks.getD n 0 < 4294967296 := getD_lt32 HK32.out n
      have hw32 : ws.getD n 0 < 4294967296 := getD_lt32 HW32.out n
      obtain ⟨kn, hkn⟩ : ∃ kn, kn = ks.getD n 0 := ⟨_, rfl⟩
      obtain ⟨wn, hwn⟩ : ∃ wn, wn = ws.getD n 0 := ⟨_, rfl⟩
      rw [← hkn] at hkc hk32 hnext
      rw [← hwn] at hwc hw32 hnext
      have HNext := Lib.hid hnext
      clear hx hnext hkn hwn
      obtain ⟨xa, xb, xc, xd, xe, xf, xg, xh⟩ := x
      obtain ⟨ba, bb, bc, bd, be, bf, bg, bh⟩ := hok
      simp only at ba bb bc bd be bf bg bh
      have hc : ∀ j, wr.cell? ⟨X, j, none⟩ = (St.arr ⟨xa, xb, xc, xd, xe, xf, xg, xh⟩)[j]? := fun j => cell_of_row _ _ j _ _ _ hrow
      have c0 : wr.cell? ⟨X, 0, none⟩ = some (.int .u32 (xa : Int)) := hc 0
      have c1 : wr.cell? ⟨X, 1, none⟩ = some (.int .u32 (xb : Int)) := hc 1
      have c2 : wr.cell? ⟨X, 2, none⟩ = some (.int .u32 (xc : Int)) := hc 2
      have c4 : wr.cell? ⟨X, 4, none⟩ = some (.int .u32 (xe : Int)) := hc 4
      have c5 : wr.cell? ⟨X, 5, none⟩ = some (.int .u32 (xf : Int)) := hc 5
      have c6 : wr.cell? ⟨X, 6, none⟩ = some (.int .u32 (xg : Int)) := hc 6
      have c7 : wr.cell? ⟨X, 7, none⟩ = some (.int .u32 (xh : Int)) := hc 7
      have HRow := Lib.hid hrow
      have HFr := Lib.hid hfr
      have q1 := u32_xor_nat xf xg bf bg
      have q2 := u32_and_nat xe (xf ^^^ xg) be (xor_lt32 bf bg)
      have q3 := u32_xor_nat xg (xe &&& (xf ^^^ xg)) bg (and_lt32 be)
      have q4 := u32_or_nat xb xc bb bc
      have q5 := u32_and_nat xa (xb ||| xc) ba (or_lt32 bb bc)
      have q6 := u32_and_nat xb xc bb bc
      have q7 := u32_or_nat (xa &&& (xb ||| xc)) (xb &&& xc) (and_lt32 ba) (and_lt32 bb)
      have hm1 : ∀ (w0 : World) (n0 m : Nat), Calls Tryd.prog 108 #[.int .u32 (xe : Int), .int .i64 6, .int .i64 11, .int .i64 25] (w0.drewN (n0 + m)) fun e w' => e = .returned (.int .u32 (mixN xe 6 11 25 : Int)) ∧ ∃ j, w' = w0.drewN (n0 + j) :=
        fun w0 n0 m => (mix_any xe 6 11 25 (w0.drewN (n0 + m)) be (by omega) (by omega) (by omega)).mono fun _ _ ⟨h1, h2⟩ => ⟨h1, m, h2.symm⟩
      have hm2 : ∀ (w0 : World), Calls Tryd.prog 108 #[.int .u32 (xa : Int), .int .i64 2, .int .i64 13, .int .i64 22] w0 fun e w' => e = .returned (.int .u32 (mixN xa 2 13 22 : Int)) ∧ w0 = w' := fun w0 => mix_any xa 2 13 22 w0 ba (by omega) (by omega) (by omega)
      have bm1 := mixN_lt 6 11 25 be
      have bm2 := mixN_lt 2 13 22 ba
      obtain ⟨M1, hM1⟩ : ∃ M1, M1 = mixN xe 6 11 25 := ⟨_, rfl⟩
      obtain ⟨M2, hM2⟩ : ∃ M2, M2 = mixN xa 2 13 22 := ⟨_, rfl⟩
      obtain ⟨C1, hC1⟩ : ∃ C1, C1 = xg ^^^ (xe &&& (xf ^^^ xg)) := ⟨_, rfl⟩
      obtain ⟨C2, hC2⟩ : ∃ C2, C2 = (xa &&& (xb ||| xc)) ||| (xb &&& xc) := ⟨_, rfl⟩
      have bC1 : C1 < 4294967296 := by rw [hC1]; exact xor_lt32 bg (and_lt32 be)
      have bC2 : C2 < 4294967296 := by rw [hC2]; exact or_lt32 (and_lt32 ba) (and_lt32 bb)
      rw [← hM1] at hm1 bm1
      rw [← hM2] at hm2 bm2
      rw [← hC1] at q3
      rw [← hC2] at q7
      have HM1 := Lib.hid hm1
      have HM2 := Lib.hid hm2
      have HEq := Lib.hid (And.intro hM1 (And.intro hM2 (And.intro hC1 hC2)))
      clear hrow hfr hm1 hm2 hc hM1 hM2 hC1 hC2
      go_wp2_with fail
      go_quiet (fail)
      go_wp2_with fail
      go_quiet (with_reducible exact HM1.out _ _ _)
      go_wp2_with fail
      go_quiet (fail)
      go_wp2_with fail
      refine (HM2.out _).mono ?_
      rintro e w4 ⟨rfl, rfl⟩
      go_wp2_with fail
      generalize hw5 : wr.drewN _ = w5
      have HRow5 := Lib.hid (show w5.heap[X]? = some (.cells ([xa, xb, xc, xd, xe, xf, xg, xh].map U32).toArray 145 (0, 0)) by rw [← hw5]; exact HRow.out)
      have HFr5 := Lib.hid (show Fr (fun k => k = X) w3 w5 by rw [← hw5]; exact HFr.out.trans (Fr_drewN' _ _ _))
      have HAt5 := Lib.hid (show At w5.drew X 0 ([xa, xb, xc, xd, xe, xf, xg].map U32) from (At.of_row (w := w5.drew) (cs := [xa, xb, xc, xd, xe, xf, xg, xh].map U32) HRow5.out).part (xs := []) (ys := [U32 xh]))
      clear hw5 c0 c1 c2 c4 c5 c6 c7 hkc hwc q1 q2 q3 q4 q5 q6 q7
      refine wp_region_quiet_tail 2 (by kernel_rfl) (by kernel_rfl) ?_
      simp only [List.take_succ_cons, List.take_zero, List.drop_succ_cons, List.drop_zero]
      repeat (go_big_quiet_step (fail))
      refine wpQuiet_nil ?_
      refine copy_u32 rfl (.tmp 72) (.tmp 73) rfl HRow5.out HAt5.out rfl rfl rfl (Nat.le_refl 8) ?_
      intro w6 hg6 hf6
      have HRow6 := Lib.hid (show w6.heap[X]? = some (.cells #[.int .u32 (xa : Int), .int .u32 (xa : Int), .int .u32 (xb : Int), .int .u32 (xc : Int), .int .u32 (xd : Int), .int .u32 (xe : Int), .int .u32 (xf : Int), .int .u32 (xg : Int)] 145 (0, 0)) from hg6)
      have HFr6 := Lib.hid (HFr5.out.trans ((Fr.refl (fun k => k = X) w5).drew.trans hf6))
      have hc : ∀ j, w6.cell? ⟨X, j, none⟩ = (#[.int .u32 (xa : Int), .int .u32 (xa : Int), .int .u32 (xb : Int), .int .u32 (xc : Int), .int .u32 (xd : Int), .int .u32 (xe : Int), .int .u32 (xf : Int), .int .u32 (xg : Int)] : Array Value)[j]? := fun j => cell_of_row _ _ j _ _ _ HRow6.out
      have c0 : w6.cell? ⟨X, 0, none⟩ = some (.int .u32 (xa : Int)) := hc 0
      have c4 : w6.cell? ⟨X, 4, none⟩ = some (.int .u32 (xd : Int)) := hc 4
      have f0 : w6.frozen? ⟨X, 0, none⟩ = false := by simp [World.frozen?, HRow6.out]
      have f4 : w6.frozen? ⟨X, 4, none⟩ = false := by simp [World.frozen?, HRow6.out]
      clear hg6 hf6 hc
      go_wp2
      go_roundw
      case rel =>
        refine ⟨n + 1, by omega, by go_num, ?_⟩
        rw [HNext.out]
        obtain ⟨e1, e2, e3, e4⟩ := HEq.out
        have h1 := heap_setCell_same _ X 0 _ _ (.int .u32 (((xh : Int) + M1 + C1 + kn + wn + (M2 + C2)) % 4294967296)) HRow6.out
        have h2 := heap_setCell_same _ X 4 _ _ (.int .u32 (((xd : Int) + (xh + M1 + C1 + kn + wn)) % 4294967296)) h1
        refine ⟨?_, (HFr6.out.set _ _ rfl _).set _ _ rfl _⟩
        rw [h2]
        have ea : t1N ⟨xa, xb, xc, xd, xe, xf, xg, xh⟩ kn wn = (xh + M1 + C1 + kn + wn) % 4294967296 := by rw [e1, e3]; rfl
        have eb : t2N ⟨xa, xb, xc, xd, xe, xf, xg, xh⟩ = (M2 + C2) % 4294967296 := by rw [e2, e4]; rfl
        have e0 : (Value.int .u32 (((xh : Int) + M1 + C1 + kn + wn + (M2 + C2)) % 4294967296)) = .int .u32 (((t1N ⟨xa, xb, xc, xd, xe, xf, xg, xh⟩ kn wn + t2N ⟨xa, xb, xc, xd, xe, xf, xg, xh⟩) % 4294967296 : Nat) : Int) := by
          rw [ea, eb]; congr 1; omega
        have e5 : (Value.int .u32 (((xd : Int) + (xh + M1 + C1 + kn + wn)) % 4294967296)) = .int .u32 (((xd + t1N ⟨xa, xb, xc, xd, xe, xf, xg, xh⟩ kn wn) % 4294967296 : Nat) : Int) := by
          rw [ea]; congr 1; omega
        rw [e0, e5]
        rfl
      case measure => simp [intOf]; omega
    · obtain rfl : n = 64 := by omega
      have HSl := Lib.hid (show w3.heap[w.heap.size]? = some (.cells (s.list.map U32).toArray 145 (0, 0)) by rw [HS3.out, HArr.out]; rfl)
      obtain ⟨x, hx⟩ : ∃ x, x = roundsN s ks ws 64 := ⟨_, rfl⟩
      rw [← hx] at hrow HRes
      have HA0 := Lib.hid (show AddRel w3 X x s 0 wr from ⟨by rw [List.take_zero, List.drop_zero, List.nil_append]; exact hrow, hfr⟩)
      have HXok := Lib.hid (show x.Ok by rw [hx]; exact roundsN_ok _ _ HOk.out 64)
      clear hrow hfr hx hn hge
      go_wp2_with fail
      obtain ⟨wo, hwo⟩ : ∃ wo : World, wo = wr := ⟨_, rfl⟩
      rw [← hwo] at HA0 ⊢
      clear hwo
      go_loopw [85] (fun i wr => ∃ n : Nat, n ≤ 8 ∧ i = .int .i64 n ∧ AddRel w3 X x s n wr) (fun i _ => 8 - (intOf i).toNat)
      case atStart => exact ⟨0, by omega, rfl, HA0.out⟩
      case round =>
        obtain ⟨n, hn, rfl, hrow, hfr⟩ := hrel
        rcases Nat.lt_or_ge n 8 with hlt | hge
        · have hxl : x.list.length = 8 := rfl
          have hsl : s.list.length = 8 := rfl
          have hset := mid_set hxl hsl hlt
          have hxc : wr.cell? ⟨X, n, none⟩ = some (.int .u32 ((x.list.getD n 0 : Nat) : Int)) := by
            rw [cell_of_row _ _ n _ _ _ hrow, List.getElem?_toArray, List.getElem?_map, List.getElem?_append_right (by simp [addSt_list]; omega)]
            rw [show ((addSt x s).list.take n).length = n by rw [List.length_take]; exact Nat.min_eq_left (by show n ≤ 8; omega), Nat.sub_self, List.getElem?_drop, Nat.add_zero, List.getD_eq_getElem?_getD, List.getElem?_eq_getElem (by omega)]
            rfl
          have hsc : wr.cell? ⟨w.heap.size, n, none⟩ = some (.int .u32 ((s.list.getD n 0 : Nat) : Int)) := by
            have h0 := (hfr.block w.heap.size (lt_of_block HSl.out) (by omega)).trans HSl.out
            rw [cell_of_row _ _ n _ _ _ h0, List.getElem?_toArray, List.getElem?_map, List.getD_eq_getElem?_getD, List.getElem?_eq_getElem (by omega)]; rfl
          have hf : wr.frozen? ⟨X, n, none⟩ = false := by simp [World.frozen?, hrow]
          obtain ⟨u, hu⟩ : ∃ u, u = x.list.getD n 0 := ⟨_, rfl⟩
          obtain ⟨v', hv'⟩ : ∃ v', v' = s.list.getD n 0 := ⟨_, rfl⟩
          rw [← hu] at hxc hset
          rw [← hv'] at hsc hset
          have HSet := Lib.hid hset
          have HRow := Lib.hid hrow
          have HFr := Lib.hid hfr
          clear hset hrow hfr hu hv' hxl hsl
          go_wp2_with fail
          refine wp_region_quiet_tail 8 (by kernel_rfl) (by kernel_rfl) ?_
          simp only [List.take_succ_cons, List.take_zero, List.drop_succ_cons, List.drop_zero]
          repeat (go_big_quiet_step (fail))
          refine wpQuiet_nil ?_
          go_wp2_with fail
          go_roundw
          case rel =>
            refine ⟨n + 1, by omega, by go_num, ?_, (HFr.out.trans (Fr.refl (fun k => k = X) wr).drew).set _ _ rfl _⟩
            have h1 := heap_setCell_same wr.drew X n _ _ (U32 ((u + v') % 4294967296)) HRow.out
            rw [List.setIfInBounds_toArray, ← List.map_set, addSt_list, HSet.out] at h1
            rw [addSt_list]
            have e : (Value.int .u32 (((u : Int) + (v' : Int)) % 4294967296)) = U32 ((u + v') % 4294967296) := by unfold U32; congr 1
            rw [e]
            exact h1
          case measure => simp [intOf]; omega
        · obtain rfl : n = 8 := by omega
          have HFin := Lib.hid (show wr.heap[X]? = some (.cells R.arr 145 (0, 0)) by
            rw [hrow, HRes.out]; rfl)
          have HRz := Lib.hid ((hfr.block (w.heap.size + 1) (lt_of_block HR3.out) (by omega)).trans HR3.out)
          have HBf := Lib.hid (HB3.out.trans (hfr.below HB3.out.size (fun j hj => by omega)))
          have HAtF := Lib.hid (At.of_row (cs := R.arr.toList) (by simpa using HFin.out))
          clear hrow hfr hn hge
          go_wp2_with (first | (refine load_state rfl (.tmp 8) rfl rfl HAtF.out rfl ?_) | (refine store_state rfl (.tmp 6) (.tmp 97) rfl rfl rfl HRz.out rfl rfl (St.arr_one R) ?_; intro w9 hg9 hf9 hs9))
          have HG9 := Lib.hid hg9
          have HB9 := Lib.hid (HBf.out.trans (hf9.below HBf.out.size (fun j hj => by omega)))
          clear hg9 hf9 hs9
          go_wp2
          exact bodyPost_ret (results_cell_row rfl _ w9 (w.heap.size + 1) _ _ _ _ rfl HG9.out Tryd.underlying145 rfl (by rw [info_state']; rfl)) rfl ⟨rfl, HB9.out⟩
end Go.Proofs.YtdmgmpagnmmehaaDoor
