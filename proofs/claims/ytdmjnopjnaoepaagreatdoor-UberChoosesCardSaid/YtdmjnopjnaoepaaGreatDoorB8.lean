/- Walks: node's Check; cmp.Or of noughts; ptr.Put. Walks: sha.Sum; mac's pad, Mac, Fits. Walk: mac.Fits. Walk: uber.Put. -/
import Derived.Test.YtdmjnopjnaoepaaGreatDoorB5
import Derived.Test.YtdmjnopjnaoepaaGreatDoorB7
import Derived.Lib.SmallJoins
namespace Go.Proofs.YtdmjnopjnaoepaaGreatDoor
open Go.RowKit

def checkE (n : Nd) : Int := if formB n then (if 512 < sizeN n then 6 else 0) else 4
theorem checkE_bad {n : Nd} (h : formB n = false) : checkE n = 4 := by unfold checkE; rw [if_neg (by rw [h]; simp)]
theorem checkE_full {n : Nd} (h : formB n = true) (h2 : 512 < sizeN n) : checkE n = 6 := by unfold checkE; rw [if_pos h, if_pos h2]
theorem checkE_ok {n : Nd} (h : formB n = true) (h2 : ¬ 512 < sizeN n) : checkE n = 0 := by unfold checkE; rw [if_pos h, if_neg h2]

/-- cmp.Or of noughts. -/
theorem or_zero (a : Option Addr) (m c : Nat) (w : World) (hr : m ≤ 1000) (h : ∀ i, i < m → ∃ b o, a = some ⟨b, o, none⟩ ∧ w.cell? ⟨b, o + i, none⟩ = some (.int .i64 0)) :
    Calls Tryz.prog 49 #[.slice a m c] w fun e w' => e = .returned (.int .i64 0) ∧ w = w' := by
  have HH := Lib.hid h
  clear h
  go_enter Tryz.func49, Tryz.ntmps49
  go_wp2
  go_loop [8] (fun i => ∃ k : Nat, k ≤ m ∧ i = .int .i64 k) (fun i => m - (intOf i).toNat)
  case atStart => exact ⟨0, Nat.zero_le _, rfl⟩
  case round =>
    obtain ⟨k, hk, rfl⟩ := hrel
    rcases Nat.lt_or_ge k m with hlt | hge
    · obtain ⟨b, o, rfl, hc⟩ := HH.out k hlt
      go_wp2
      go_round
      case rel => exact ⟨k + 1, by omega, by go_num⟩
      case measure => simp [intOf]; omega
    · obtain rfl : k = m := by omega
      go_wp2
      go_ret
      exact ⟨rfl, rfl⟩

/-- A pointer's bytes. -/
def ptrB (p : Pt) : List UInt8 := putB p.addr 4 ++ putB p.birth 8 ++ p.sum
theorem ptrB_length (p : Pt) (h : p.Wf) : (ptrB p).length = 44 := by
  unfold ptrB; simp [putB_length, h.sum]

theorem Laid.trans {w w1 w2 : World} {base b : Nat} {row row1 : Option Nat} {xs ys : List UInt8} (_h1 : Wr w1 base b row1 xs) (hf : Fr (WS b row) w w1) (hr : ∀ k, row1 = some k → row = some k ∨ w.heap.size ≤ k) (h2 : Laid w1 w2 base b row1 ys) : Laid w w2 base b row ys := by
  obtain ⟨row2, a1, a2, a3⟩ := h2
  refine ⟨row2, a1, hf.step a2 (fun k hk => ?_), fun k hk => ?_⟩
  · rcases hk with e | e
    · exact Or.inl (Or.inl e)
    · rcases hr k e with h | h
      · exact Or.inl (Or.inr h)
      · exact Or.inr h
  · rcases a3 k hk with h | h
    · exact hr k h
    · exact Or.inr (Nat.le_trans hf.size h)

set_option maxHeartbeats 2000000 in
theorem ptrPut_ok (p : Pt) (b base : Nat) (row : Option Nat) (os : List UInt8) (w : World) (hw : Wr w base b row os) (hbase : base ≤ w.heap.size) (hp : p.Wf) (hr : os.length ≤ 1000000000) :
    Calls Tryz.prog 24 #[.pointer (some ⟨b, 0, none⟩), .agg p.arr] w fun e w' => e = .returned (.int .i64 0) ∧ Laid w w' base b row (os ++ ptrB p) := by
  have g0 := p.get0
  have g1 := p.get1
  have ha := hp.addr
  have HW := Lib.hid (hw.fr ((Fr.refl (fun _ => False) w).alloc (.cells p.arr 30)) id (fun _ _ => id))
  have HP := Lib.hid hp
  have HAD := Lib.hid (show (4 : Nat) = 8 ∨ p.addr < 256 ^ 4 from Or.inr (by have := hp.addr; omega))
  have hwl := hw.lt
  have HWL := Lib.hid hwl
  have hne : b ≠ w.heap.size := by omega
  have hrow : ∀ k, row = some k → k ≠ w.heap.size := fun k hk => by have := (hwl.2 k hk).2; omega
  have HROW := Lib.hid hrow
  clear hw hp hwl hrow
  go_enter Tryz.func24, Tryz.ntmps24
  go_wp2_with fail
  refine (wNum_ok b base row os p.addr 4 _ HW.out (by simp; omega) (by omega) HAD.out (by omega)).mono ?_
  rintro e w1 ⟨rfl, row1, hW1, hf1, hr1⟩
  have hb1 := (hf1.block w.heap.size (by simp) (fun e => by rcases e with e | e; (· omega); (· exact HROW.out _ e rfl))).trans (heap_alloc_new w (.cells p.arr 30))
  have c1 : w1.cell? ⟨w.heap.size, 1, none⟩ = some (.int .u64 (p.birth : Int)) := (cell_of_row w1 _ 1 _ _ _ hb1).trans g1
  have hs1 := hf1.size
  rw [World.size_alloc] at hs1 hr1
  have hrow1 : ∀ k, row1 = some k → k ≠ w.heap.size := fun k hk => by rcases hr1 k hk with h | h; (· exact HROW.out k h); (· omega)
  have HB1 := Lib.hid hb1
  have HW1 := Lib.hid hW1
  have HF1 := Lib.hid (((Fr.refl (WS b row) w).alloc (.cells p.arr 30)).trans hf1)
  have HR1 := Lib.hid (show ∀ k, row1 = some k → row = some k ∨ w.heap.size ≤ k from fun k hk => (hr1 k hk).imp id (fun h => by omega))
  have HRO1 := Lib.hid hrow1
  clear hW1 hf1 hr1 hb1 hrow1
  go_wp2_with fail
  refine (wNum_ok b base row1 _ p.birth 8 _ HW1.out (by omega) (by omega) (Or.inl rfl) (by rw [List.length_append, putB_length]; omega)).mono ?_
  rintro e w2 ⟨rfl, row2, hW2, hf2, hr2⟩
  have hb2 := (hf2.block w.heap.size (by omega) (fun e => by rcases e with e | e; (· omega); (· exact HRO1.out _ e rfl))).trans HB1.out
  have hs2 := hf2.size
  have hL2 := Laid.trans HW1.out HF1.out HR1.out ⟨row2, hW2, hf2, hr2⟩
  have HAT2 := Lib.hid (show At w2 w.heap.size 2 (p.sum.map Bv) from Pt.sumAt (o := 0) (At.of_row hb2))
  have hrow2 : ∀ k, row2 = some k → k ≠ w.heap.size := fun k hk => by rcases hr2 k hk with h | h; (· exact HRO1.out k h); (· omega)
  obtain ⟨row2', hW2', hf2', hr2'⟩ := hL2
  have HW2 := Lib.hid hW2'
  have HF2 := Lib.hid hf2'
  have HR2 := Lib.hid hr2'
  clear hW2 hf2 hr2 hb2 hrow2 hW2' hf2' hr2' c1
  go_wp2_with (refine load_hash rfl (.tmp 20) rfl rfl HAT2.out HP.out.sum ?_)
  refine (wHash_ok b base row2' _ p.sum _ HW2.out (by omega) HP.out.sum (by rw [List.length_append, List.length_append, putB_length, putB_length]; omega)).mono ?_
  rintro e w3 ⟨rfl, hl3⟩
  have hL3 := Laid.trans HW2.out HF2.out HR2.out hl3
  have HL3 := Lib.hid hL3
  clear hl3 hL3
  go_wp2_with fail
  refine (or_zero _ 3 3 _ (by omega) (fun i hi => ⟨_, 0, rfl, ?_⟩)).mono ?_
  · rw [Nat.zero_add, cell_of_row _ w3.heap.size i _ _ _ (heap_alloc_new _ _)]
    rcases i with _ | _ | _ | i
    · rfl
    · rfl
    · rfl
    · omega
  rintro e w4 ⟨rfl, rfl⟩
  go_wp2
  go_ret
  obtain ⟨row3, hW3, hf3, hr3⟩ := HL3.out
  refine ⟨rfl, row3, ?_, hf3.alloc _, hr3⟩
  have e : os ++ ptrB p = os ++ putB p.addr 4 ++ putB p.birth 8 ++ p.sum := by unfold ptrB; simp
  rw [e]
  exact hW3.fr ((Fr.refl (fun _ => False) _).alloc _) id (fun _ _ => id)

end Go.Proofs.YtdmjnopjnaoepaaGreatDoor
namespace Go.Proofs.YtdmjnopjnaoepaaGreatDoor
open Go.RowKit

theorem ret_hash1 {fn : Func} {p : Tmp} (h : fn.results = #[.cell p 28]) {tmps : Array Value} {w : World} {g : Nat} {hs : List UInt8} {t : TypeId} (hp : tmps.getD p undef = .pointer (some ⟨g, 0, none⟩))
    (hg : w.heap[g]? = some (.cells (hs.map Bv).toArray t (0, 0))) (hl : hs.length = 32) : (results fn tmps).run Tryz.prog w = .ok (.agg (hs.map Bv).toArray) w :=
  results_cell_row h tmps w g t _ _ _ hp hg Tryz.underlying28 rfl (by rw [info_hash']; simp [hl])

set_option maxRecDepth 100000 in
set_option maxHeartbeats 4000000 in
theorem shaSum_any (v : Value) (xs : List UInt8) (w : World) (h : Sl w 1 v xs.length (xs.map Bv)) (hr : xs.length ≤ 140737488351232) :
    Calls Tryz.prog 52 #[v] w fun e w' => e = .returned (.agg ((hashN xs).map Bv).toArray) ∧ Below w.heap.size w w' := by
  obtain ⟨hv, hhv⟩ : ∃ hv, hv = hashN xs := ⟨_, rfl⟩
  have hvl : hv.length = 32 := by rw [hhv]; exact hashN_length xs
  rw [← hhv]
  have HHv := Lib.hid hhv
  have HVl := Lib.hid hvl
  have HS := Lib.hid (fun (w' : World) (hh : Below w.heap.size w w') => h.below hh)
  clear h hhv hvl
  go_enter Tryz.func52, Tryz.ntmps52
  go_wp2_with fail
  have hbel0 : Below w.heap.size w (w.alloc (.cells ((List.replicate 32 (0 : UInt8)).map Bv).toArray 28)) := (Below.refl _ w).alloc (Nat.le_refl _) _
  have hz0 := heap_alloc_new w (.cells ((List.replicate 32 (0 : UInt8)).map Bv).toArray 28)
  have hnew := new_any (w.alloc (.cells ((List.replicate 32 (0 : UInt8)).map Bv).toArray 28))
  obtain ⟨B, hB⟩ : ∃ B, B = (w.alloc (.cells ((List.replicate 32 (0 : UInt8)).map Bv).toArray 28)).heap.size := ⟨_, rfl⟩
  have hBs : B = w.heap.size + 1 := by rw [hB]; simp
  rw [← hB] at hnew
  refine hnew.mono ?_
  rintro e w1 ⟨rfl, hh1, hb1⟩
  have HZ1 := Lib.hid ((hb1.block w.heap.size (by omega)).trans hz0)
  have HB1 := Lib.hid (hbel0.trans (hb1.mono (by rw [hBs]; omega)))
  have hwr := write_any B B none [] xs v w1 hh1 (by have := hb1.size; omega) (HS.out w1 HB1.out) (by simpa using hr)
  rw [List.nil_append] at hwr
  have HWr := Lib.hid hwr
  have HBs := Lib.hid hBs
  clear hbel0 hz0 hnew hB hh1 hb1 hwr hBs
  go_wp2_with fail
  refine HWr.out.mono ?_
  rintro e w2 ⟨rfl, row, hh2, hf2, hrow⟩
  have HZ2 := Lib.hid ((hf2.block w.heap.size (lt_of_block HZ1.out) (by rintro (h | h); have := HBs.out; omega; cases h)).trans HZ1.out)
  have HB2 := Lib.hid (HB1.out.trans (hf2.below HB1.out.size (by rintro k (rfl | h); have := HBs.out; omega; cases h)))
  have hsm := sum_any B B row xs w2 hh2 hr
  rw [← HHv.out] at hsm
  have HSm := Lib.hid hsm
  clear hh2 hf2 hrow hsm
  go_wp2_with fail
  refine HSm.out.mono ?_
  rintro e w3 ⟨rfl, hb3⟩
  have HZ3 := Lib.hid ((hb3.block w.heap.size (lt_of_block HZ2.out)).trans HZ2.out)
  have HB3 := Lib.hid (HB2.out.trans (hb3.mono HB2.out.size))
  clear hb3
  go_wp2_with (refine store_hash rfl (.tmp 4) (.tmp 13) rfl rfl rfl (heap_alloc_new _ _) rfl HVl.out ?_)
  intro w4 hg4 hf4
  have hbel4 : Below w3.heap.size w3 w4 := ((Below.refl _ w3).alloc (Nat.le_refl _) _).trans (hf4.below (by simp) (fun j hj => by omega))
  have HZ4 := Lib.hid ((hbel4.block w.heap.size (lt_of_block HZ3.out)).trans HZ3.out)
  have HB4 := Lib.hid (HB3.out.trans (hbel4.mono HB3.out.size))
  have HAt4 := Lib.hid (At.of_row hg4)
  clear hg4 hf4 hbel4
  go_wp2_with (first | (refine load_hash' rfl (.tmp 4) rfl rfl HAt4.out HVl.out ?_) | (refine store_hash rfl (.tmp 2) (.tmp 15) rfl rfl rfl HZ4.out rfl HVl.out ?_; intro w5 hg5 hf5))
  exact bodyPost_ret (ret_hash1 rfl rfl hg5 HVl.out) rfl ⟨rfl, HB4.out.trans (hf5.below HB4.out.size (fun j hj => by omega))⟩

/-- The two bytes that keys are turned by. -/
theorem pads_any (w : World) : Calls Tryz.prog 34 #[] w fun e w' => e = .returned (.agg #[.int .u8 54, .int .u8 92]) ∧ Below w.heap.size w w' := by
  go_enter Tryz.func34, Tryz.ntmps34
  go_wp2
  exact bodyPost_ret (v := .agg #[.int .u8 54, .int .u8 92]) (by simp [results, Tryz.results34, go_sem]) rfl ⟨rfl, (Below.refl _ w).alloc (Nat.le_refl _) _⟩

theorem info_b64 : (Tryz.prog.info? 68).map (·.size) = some 64 := by kernel_rfl
theorem load_b64 {ops : Array Oper} {rest : List Oper} {o : Oper} {a : Act} {w : World} {Q : Exit → Act → World → Prop} (hgd : o.guard = none) (x : Operand) (ho : o.op = .load 68 x)
    {b off : Nat} (hx : a.eval x = .pointer (some ⟨b, off, none⟩)) {h : List UInt8} (hc : At w b off (h.map Bv)) (hl : h.length = 64)
    (hK : wpList Tryz.prog ops Q rest (a.put o.dst (.agg (h.map Bv).toArray)) w) : wpList Tryz.prog ops Q (o :: rest) a w :=
  wpList_load_at hgd _ x ho b off hx (h.map Bv) _ hc Tryz.underlying68 rfl (by rw [info_b64]; simp [hl]) hK
theorem store_b64 {ops : Array Oper} {rest : List Oper} {o : Oper} {a : Act} {w : World} {Q : Exit → Act → World → Prop} (hgd : o.guard = none) (x y : Operand) (ho : o.op = .store 68 x y)
    {b : Nat} (hx : a.eval x = .pointer (some ⟨b, 0, none⟩)) {h : List UInt8} (hy : a.eval y = .agg (h.map Bv).toArray) {old : Array Value} {t : TypeId} (hb : w.heap[b]? = some (.cells old t (0, 0))) (ho2 : old.size = 64) (hl : h.length = 64)
    (hK : ∀ w', w'.heap[b]? = some (.cells (h.map Bv).toArray t (0, 0)) → Fr (fun k => k = b) w w' → wpList Tryz.prog ops Q rest (a.put o.dst undef) w') : wpList Tryz.prog ops Q (o :: rest) a w :=
  wpList_store_row hgd _ x y ho b hx (h.map Bv) hy old t hb (by simp [ho2, hl]) (Bv_oneCell _) (by rw [info_b64]; simp [hl]) (fun w' h1 h2 _ => hK w' h1 h2)
theorem ret_b64 {fn : Func} {p : Tmp} (h : fn.results = #[.cell p 68]) {tmps : Array Value} {w : World} {g : Nat} {hs : List UInt8} {t : TypeId} (hp : tmps.getD p undef = .pointer (some ⟨g, 0, none⟩))
    (hg : w.heap[g]? = some (.cells (hs.map Bv).toArray t (0, 0))) (hl : hs.length = 64) : (results fn tmps).run Tryz.prog w = .ok (.agg (hs.map Bv).toArray) w :=
  results_cell_row h tmps w g t _ _ _ hp hg Tryz.underlying68 rfl (by rw [info_b64]; simp [hl])

/-- Noughts. -/
def zB (n : Nat) : List UInt8 := List.replicate n 0
theorem zB_length (n : Nat) : (zB n).length = n := List.length_replicate
theorem over_zB (n : Nat) (ys : List UInt8) : over (zB n) 0 ys = ys ++ zB (n - ys.length) := by
  unfold over zB
  rw [List.take_zero, List.nil_append, Nat.zero_add, List.drop_replicate]

set_option maxRecDepth 100000 in
set_option maxHeartbeats 4000000 in
theorem pad_any (v : Value) (key : List UInt8) (w : World) (h : Sl w 1 v key.length (key.map Bv)) (hr : key.length ≤ 140737488351232) :
    Calls Tryz.prog 29 #[v] w fun e w' => e = .returned (.agg ((keyB key).map Bv).toArray) ∧ Below w.heap.size w w' := by
  obtain ⟨kv, hkv⟩ : ∃ kv, kv = keyB key := ⟨_, rfl⟩
  have hkl : kv.length = 64 := by rw [hkv]; exact keyB_length key
  rw [← hkv]
  have HKl := Lib.hid hkl
  obtain ⟨a, c, rfl, _⟩ := h.len
  have hbel0 : Below w.heap.size w (w.alloc (.cells ((zB 64).map Bv).toArray 68)) := (Below.refl _ w).alloc (Nat.le_refl _) _
  have hz0 := heap_alloc_new w (.cells ((zB 64).map Bv).toArray 68)
  have HB0 := Lib.hid hbel0
  have HZ0 := Lib.hid hz0
  have HS0 := Lib.hid (h.below hbel0)
  unfold keyB at hkv
  rcases Nat.lt_or_ge 64 key.length with hlt | hge
  · rw [if_pos hlt] at hkv
    have hsum := shaSum_any (.slice a key.length c) key (w.alloc (.cells ((zB 64).map Bv).toArray 68)) (h.below hbel0) hr
    obtain ⟨hv, hhv⟩ : ∃ hv, hv = hashN key := ⟨_, rfl⟩
    have hvl : hv.length = 32 := by rw [hhv]; exact hashN_length key
    rw [← hhv] at hkv hsum
    have HKv := Lib.hid hkv
    have HVl := Lib.hid hvl
    have HSum := Lib.hid hsum
    clear hkv hsum hhv hvl h hbel0 hz0 hkl
    go_enter Tryz.func29, Tryz.ntmps29
    go_wp2_with fail
    refine HSum.out.mono ?_
    rintro e w1 ⟨rfl, hb1⟩
    have HZ1 := Lib.hid ((hb1.block w.heap.size (lt_of_block HZ0.out)).trans HZ0.out)
    have HB1 := Lib.hid (HB0.out.trans (hb1.mono HB0.out.size))
    clear hb1
    go_wp2_with (refine store_hash rfl (.tmp 3) (.tmp 8) rfl rfl rfl (heap_alloc_new _ _) rfl HVl.out ?_)
    intro w4 hg4 hf4
    have hbel4 : Below w1.heap.size w1 w4 := ((Below.refl _ w1).alloc (Nat.le_refl _) _).trans (hf4.below (by simp) (fun j hj => by omega))
    have HZ4 := Lib.hid ((hbel4.block w.heap.size (lt_of_block HZ1.out)).trans HZ1.out)
    have HB4 := Lib.hid (HB1.out.trans (hbel4.mono HB1.out.size))
    have HS4 := Lib.hid (show Sl w4 1 (.slice (some ⟨w1.heap.size, 0, none⟩) 32 32) 32 (hv.map Bv) from sl_row' hg4 rfl (by simp [HVl.out]))
    clear hg4 hf4 hbel4
    go_wp2_with (refine copy_u8 rfl (.tmp 10) (.tmp 11) rfl HZ4.out HS4.out rfl rfl (by rw [zB_length]; decide) ?_)
    intro w5 hg5 hf5
    have e5 : over (zB 64) 0 (hv.take 32) = kv := by rw [List.take_of_length_le (by rw [HVl.out]; exact Nat.le_refl _), over_zB, HVl.out, HKv.out]; rfl
    rw [e5] at hg5
    have HG5 := Lib.hid hg5
    have HB5 := Lib.hid (HB4.out.trans (hf5.below HB4.out.size (fun j hj => by omega)))
    have HAt5 := Lib.hid (At.of_row hg5)
    clear hg5 hf5 e5
    go_wp2_with (first | (refine load_b64 rfl (.tmp 2) rfl rfl HAt5.out HKl.out ?_) | (refine store_b64 rfl (.tmp 2) (.tmp 13) rfl rfl rfl HG5.out (by simp [HKl.out]) HKl.out ?_; intro w6 hg6 hf6))
    exact bodyPost_ret (ret_b64 rfl rfl hg6 HKl.out) rfl ⟨rfl, HB5.out.trans (hf6.below HB5.out.size (fun j hj => by omega))⟩
  · rw [if_neg (by omega)] at hkv
    have HKv := Lib.hid hkv
    clear hkv h hbel0 hz0 hkl
    go_enter Tryz.func29, Tryz.ntmps29
    go_wp2_with (refine copy_u8 rfl (.tmp 10) (.tmp 11) rfl HZ0.out HS0.out rfl rfl (by rw [zB_length]; omega) ?_)
    intro w5 hg5 hf5
    have e5 : over (zB 64) 0 key = kv := by rw [over_zB, HKv.out]; rfl
    rw [e5] at hg5
    have HG5 := Lib.hid hg5
    have HB5 := Lib.hid (HB0.out.trans (hf5.below HB0.out.size (fun j hj => by omega)))
    have HAt5 := Lib.hid (At.of_row hg5)
    clear hg5 hf5 e5
    go_wp2_with (first | (refine load_b64 rfl (.tmp 2) rfl rfl HAt5.out HKl.out ?_) | (refine store_b64 rfl (.tmp 2) (.tmp 13) rfl rfl rfl HG5.out (by simp [HKl.out]) HKl.out ?_; intro w6 hg6 hf6))
    exact bodyPost_ret (ret_b64 rfl rfl hg6 HKl.out) rfl ⟨rfl, HB5.out.trans (hf6.below HB5.out.size (fun j hj => by omega))⟩

def xorB (l : List UInt8) (by' : UInt8) (n : Nat) : List UInt8 := (l.take n).map (· ^^^ by') ++ l.drop n
theorem xorB_length (l : List UInt8) (y : UInt8) (n : Nat) : (xorB l y n).length = l.length := by simp [xorB]; omega
theorem xorB_get (l : List UInt8) (y : UInt8) (n : Nat) (h : n < l.length) : (xorB l y n)[n]? = some l[n] := by
  unfold xorB
  rw [List.getElem?_append_right (by simp; omega)]
  simp [show min n l.length = n by omega, h]
theorem xorB_set (l : List UInt8) (y : UInt8) (n : Nat) (h : n < l.length) : (xorB l y n).set n (l[n] ^^^ y) = xorB l y (n + 1) := by
  unfold xorB
  have hl : ((l.take n).map (· ^^^ y)).length = n := by simp; omega
  rw [List.set_append_right _ _ (by omega), hl, Nat.sub_self, List.drop_eq_getElem_cons h, List.set_cons_zero, List.take_succ_eq_append_getElem h, List.map_append, List.append_assoc]
  rfl
theorem xorB_all (l : List UInt8) (y : UInt8) (n : Nat) (h : l.length = n) : xorB l y n = l.map (· ^^^ y) := by
  unfold xorB
  rw [List.take_of_length_le (by omega), List.drop_of_length_le (by omega), List.append_nil]
theorem u8_xor_val (x y : UInt8) : Value.int .u8 (bits .xor .u8 (x.toNat : Int) (y.toNat : Int)) = Bv (x ^^^ y) := by
  rw [u8_xor_nat _ _ x.toNat_lt y.toNat_lt, ← UInt8.toNat_xor]; rfl

set_option maxRecDepth 100000 in
set_option maxHeartbeats 4000000 in
theorem under_any (y : UInt8) (v : Value) (msg kb : List UInt8) (K : Nat) (w : World) (hkl : kb.length = 64) (hK : w.heap[K]? = some (.cells (kb.map Bv).toArray 68 (0, 0))) (h : Sl w 1 v msg.length (msg.map Bv)) (hr : msg.length + 64 ≤ 140737488351232) :
    Calls Tryz.prog 30 #[.int .u8 (y.toNat : Int), v, .pointer (some ⟨K, 0, none⟩)] w fun e w' => e = .returned (.agg ((hashN (kb.map (· ^^^ y) ++ msg)).map Bv).toArray) ∧ Below w.heap.size w w' := by
  obtain ⟨hv, hhv⟩ : ∃ hv, hv = hashN (kb.map (· ^^^ y) ++ msg) := ⟨_, rfl⟩
  have hvl : hv.length = 32 := by rw [hhv]; exact hashN_length _
  rw [← hhv]
  have hbel0 : Below w.heap.size w (w.alloc (.cells ((zB 32).map Bv).toArray 28)) := (Below.refl _ w).alloc (Nat.le_refl _) _
  have hz0 := heap_alloc_new w (.cells ((zB 32).map Bv).toArray 28)
  have hnew := new_any (w.alloc (.cells ((zB 32).map Bv).toArray 28))
  obtain ⟨B, hB⟩ : ∃ B, B = (w.alloc (.cells ((zB 32).map Bv).toArray 28)).heap.size := ⟨_, rfl⟩
  have hBs : B = w.heap.size + 1 := by rw [hB]; simp
  rw [← hB] at hnew
  have HHv := Lib.hid hhv
  have HVl := Lib.hid hvl
  have HKl := Lib.hid hkl
  have HKw := Lib.hid hK
  have HS := Lib.hid (fun (w' : World) (hh : Below w.heap.size w w') => h.below hh)
  have HB0 := Lib.hid hbel0
  have HZ0 := Lib.hid hz0
  have HNew := Lib.hid hnew
  have HBs := Lib.hid hBs
  have hy := y.toNat_lt
  clear hhv hvl hkl hK h hbel0 hz0 hnew hB hBs
  go_enter Tryz.func30, Tryz.ntmps30
  go_wp2_with fail
  refine HNew.out.mono ?_
  rintro e w1 ⟨rfl, hh1, hb1⟩
  have HZ1 := Lib.hid ((hb1.block w.heap.size (by have := HBs.out; omega)).trans HZ0.out)
  have HB1 := Lib.hid (HB0.out.trans (hb1.mono (by rw [HBs.out]; omega)))
  have HH1 := Lib.hid hh1
  have hs1 := hb1.size
  have hK1 := (HB1.out.block K (lt_of_block HKw.out)).trans HKw.out
  have HAtK := Lib.hid (At.of_row hK1)
  have hBw1 : B < w1.heap.size := hh1.mid.lt.1
  clear hh1 hb1 hK1
  go_wp2_with (first | (refine load_b64 rfl (.tmp 2) rfl rfl HAtK.out HKl.out ?_) | (refine store_b64 rfl (.tmp 7) (.tmp 12) rfl rfl rfl (heap_alloc_new _ _) rfl HKl.out ?_; intro w2 hg2 hf2))
  have hbel2 : Below w1.heap.size w1 w2 := ((Below.refl _ w1).alloc (Nat.le_refl _) _).trans (hf2.below (by simp) (fun j hj => by omega))
  obtain ⟨C, hC⟩ : ∃ C, C = w1.heap.size := ⟨_, rfl⟩
  have HG2 := Lib.hid (show w2.heap[C]? = some (.cells ((xorB kb y 0).map Bv).toArray 68 (0, 0)) by rw [hC]; simpa [xorB] using hg2)
  have HH2 := Lib.hid (HH1.out.mid.fr (Fr.of_below (S := fun _ => False) hbel2) id (fun _ _ => id))
  have HZ2 := Lib.hid ((hbel2.block w.heap.size (lt_of_block HZ1.out)).trans HZ1.out)
  have HB2 := Lib.hid (HB1.out.trans (hbel2.mono HB1.out.size))
  rw [← hC] at hBw1 ⊢
  have HCs := Lib.hid hC
  have hC2 : C < w2.heap.size := lt_of_block HG2.out
  clear hg2 hf2 hbel2 hC
  go_wp2_with fail
  go_loopw [13] (fun i wr => ∃ n : Nat, n ≤ 64 ∧ i = .int .i64 n ∧ wr.heap[C]? = some (.cells ((xorB kb y n).map Bv).toArray 68 (0, 0)) ∧ Fr (fun k => k = C) w2 wr) (fun i _ => 64 - (intOf i).toNat)
  case atStart => exact ⟨0, Nat.zero_le _, rfl, HG2.out, Fr.refl _ _⟩
  case round =>
    obtain ⟨n, hn, rfl, hg, hf⟩ := hrel
    rcases Nat.lt_or_ge n 64 with hlt | hge
    · have hn2 : n < kb.length := by rw [HKl.out]; exact hlt
      have hc : wr.cell? ⟨C, n, none⟩ = some (Bv (kb[n]'hn2)) := by
        rw [cell_of_row _ _ n _ _ _ hg, List.getElem?_toArray, List.getElem?_map, xorB_get kb y n hn2]; rfl
      have hfz : wr.frozen? ⟨C, n, none⟩ = false := by simp [World.frozen?, hg]
      have hset := xorB_set kb y n hn2
      obtain ⟨x, hx⟩ : ∃ x, x = kb[n]'hn2 := ⟨_, rfl⟩
      rw [← hx] at hc hset
      have hv := u8_xor_val x y
      have hxl := x.toNat_lt
      have HVal := Lib.hid hv
      have HSet := Lib.hid hset
      have HG := Lib.hid hg
      have HF := Lib.hid hf
      unfold Bv at hc
      clear hv hset hg hf hx
      go_wp2
      go_roundw
      case rel =>
        refine ⟨n + 1, by omega, by go_num, ?_, HF.out.set _ _ rfl _⟩
        have h1 := heap_setCell_same wr C n _ _ (Bv (x ^^^ y)) HG.out
        rw [List.setIfInBounds_toArray, ← List.map_set, HSet.out] at h1
        rw [HVal.out]
        exact h1
      case measure => simp [intOf]; omega
    · obtain rfl : n = 64 := by omega
      rw [xorB_all kb y 64 HKl.out] at hg
      have hhr := HH2.out.fr hf (by omega) (fun _ h => by cases h)
      have hbw : Below w.heap.size w wr := HB2.out.trans (hf.below HB2.out.size (fun k hk => by rw [hk, HCs.out]; exact HB1.out.size))
      have hslb : Sl wr 1 (.slice (some ⟨C, 0, none⟩) 64 64) (kb.map (· ^^^ y)).length ((kb.map (· ^^^ y)).map Bv) := by
        rw [List.length_map, HKl.out]; exact sl_row' hg rfl (by simp [HKl.out])
      have hwr1 := write_any B B none [] (kb.map (· ^^^ y)) _ wr hhr (by have := hf.size; omega) hslb (by rw [List.length_map, HKl.out]; simp)
      rw [List.nil_append] at hwr1
      have HWr1 := Lib.hid hwr1
      have HBw := Lib.hid hbw
      have HZr := Lib.hid ((hf.block w.heap.size (lt_of_block HZ2.out) (by have := HBs.out; omega)).trans HZ2.out)
      clear hg hf hhr hbw hslb hwr1
      go_wp2_with fail
      refine HWr1.out.mono ?_
      rintro e w4 ⟨rfl, row, hh4, hf4, hrow4⟩
      have hb4 : Below w.heap.size w w4 := HBw.out.trans (hf4.below HBw.out.size (by rintro k (rfl | h); have := HBs.out; omega; cases h))
      have hwr2 := write_any B B row (kb.map (· ^^^ y)) msg v w4 hh4 (by have := hf4.size; have := (lt_of_block HZr.out); have := hh4.mid.lt.1; omega) (HS.out w4 hb4) (by rw [List.length_map, HKl.out]; omega)
      have HWr2 := Lib.hid hwr2
      have HRow4 := Lib.hid (fun k (hk : row = some k) => (hh4.mid.lt.2 k hk).1)
      have HB4 := Lib.hid hb4
      have HZ4 := Lib.hid ((hf4.block w.heap.size (lt_of_block HZr.out) (by rintro (h | h); have := HBs.out; omega; cases h)).trans HZr.out)
      clear hh4 hf4 hrow4 hb4 hwr2
      go_wp2_with fail
      refine HWr2.out.mono ?_
      rintro e w5 ⟨rfl, row5, hh5, hf5, hrow5⟩
      have HB5 := Lib.hid (HB4.out.trans (hf5.below HB4.out.size (by rintro k (rfl | h); have := HBs.out; omega; have := HRow4.out k h; have := HBs.out; omega)))
      have HZ5 := Lib.hid ((hf5.block w.heap.size (lt_of_block HZ4.out) (by rintro (h | h); have := HBs.out; omega; have := HRow4.out _ h; have := HBs.out; omega)).trans HZ4.out)
      have hsm := sum_any B B row5 (kb.map (· ^^^ y) ++ msg) w5 hh5 (by rw [List.length_append, List.length_map, HKl.out]; omega)
      rw [← HHv.out] at hsm
      have HSm := Lib.hid hsm
      clear hh5 hf5 hrow5 hsm
      go_wp2_with fail
      refine HSm.out.mono ?_
      rintro e w6 ⟨rfl, hb6⟩
      have HZ6 := Lib.hid ((hb6.block w.heap.size (lt_of_block HZ5.out)).trans HZ5.out)
      have HB6 := Lib.hid (HB5.out.trans (hb6.mono HB5.out.size))
      clear hb6
      go_wp2_with (refine store_hash rfl (.tmp 9) (.tmp 32) rfl rfl rfl (heap_alloc_new _ _) rfl HVl.out ?_)
      intro w7 hg7 hf7
      have hbel7 : Below w6.heap.size w6 w7 := ((Below.refl _ w6).alloc (Nat.le_refl _) _).trans (hf7.below (by simp) (fun j hj => by omega))
      have HZ7 := Lib.hid ((hbel7.block w.heap.size (lt_of_block HZ6.out)).trans HZ6.out)
      have HB7 := Lib.hid (HB6.out.trans (hbel7.mono HB6.out.size))
      have HAt7 := Lib.hid (At.of_row hg7)
      clear hg7 hf7 hbel7
      go_wp2_with (first | (refine load_hash' rfl (.tmp 9) rfl rfl HAt7.out HVl.out ?_) | (refine store_hash rfl (.tmp 5) (.tmp 34) rfl rfl rfl HZ7.out (by simp [zB]) HVl.out ?_; intro w8 hg8 hf8))
      exact bodyPost_ret (ret_hash1 rfl rfl hg8 HVl.out) rfl ⟨rfl, HB7.out.trans (hf8.below HB7.out.size (fun j hj => by omega))⟩

theorem index_pads0 (w : World) : (Instr.index 75 (.agg #[.int .u8 54, .int .u8 92]) (.int .i64 0)).run Tryz.prog w = .ok (.int .u8 54) w := by kernel_rfl
theorem index_pads1 (w : World) : (Instr.index 75 (.agg #[.int .u8 54, .int .u8 92]) (.int .i64 1)).run Tryz.prog w = .ok (.int .u8 92) w := by kernel_rfl

set_option maxRecDepth 100000 in
set_option maxHeartbeats 4000000 in
theorem mac_any (vk vm : Value) (key msg : List UInt8) (w : World) (hk : Sl w 1 vk key.length (key.map Bv)) (hm : Sl w 1 vm msg.length (msg.map Bv)) (hr : key.length ≤ 140737488351232) (hr2 : msg.length + 64 ≤ 140737488351232) :
    Calls Tryz.prog 14 #[vk, vm] w fun e w' => e = .returned (.agg ((macN key msg).map Bv).toArray) ∧ Below w.heap.size w w' := by
  obtain ⟨hv, hhv⟩ : ∃ hv, hv = macN key msg := ⟨_, rfl⟩
  have hvl : hv.length = 32 := by rw [hhv]; exact macN_length _ _
  rw [← hhv]
  have hbel0 : Below w.heap.size w (w.alloc (.cells ((zB 32).map Bv).toArray 28)) := (Below.refl _ w).alloc (Nat.le_refl _) _
  have hz0 := heap_alloc_new w (.cells ((zB 32).map Bv).toArray 28)
  have hpad := pad_any vk key (w.alloc (.cells ((zB 32).map Bv).toArray 28)) (hk.below hbel0) hr
  have hkbl := keyB_length key
  unfold macN at hhv
  obtain ⟨kb, hkb⟩ : ∃ kb, kb = keyB key := ⟨_, rfl⟩
  rw [← hkb] at hpad hkbl hhv
  obtain ⟨inner, hin⟩ : ∃ inner, inner = hashN (kb.map (· ^^^ 0x36) ++ msg) := ⟨_, rfl⟩
  rw [← hin] at hhv
  have hinl : inner.length = 32 := by rw [hin]; exact hashN_length _
  have HHv := Lib.hid hhv
  have HIn := Lib.hid hin
  have HInl := Lib.hid hinl
  have HVl := Lib.hid hvl
  have HKl := Lib.hid hkbl
  have HM := Lib.hid (fun (w' : World) (hh : Below w.heap.size w w') => hm.below hh)
  have HB0 := Lib.hid hbel0
  have HZ0 := Lib.hid hz0
  have HPad := Lib.hid hpad
  have i0 := index_pads0
  have i1 := index_pads1
  clear hhv hin hinl hvl hkbl hk hm hbel0 hz0 hpad hkb
  go_enter Tryz.func14, Tryz.ntmps14
  go_wp2_with fail
  refine HPad.out.mono ?_
  rintro e w1 ⟨rfl, hb1⟩
  have HZ1 := Lib.hid ((hb1.block w.heap.size (lt_of_block HZ0.out)).trans HZ0.out)
  have HB1 := Lib.hid (HB0.out.trans (hb1.mono HB0.out.size))
  clear hb1
  go_wp2_with (refine store_b64 rfl (.tmp 5) (.tmp 11) rfl rfl rfl (heap_alloc_new _ _) rfl HKl.out ?_)
  intro w2 hg2 hf2
  have hbel2 : Below w1.heap.size w1 w2 := ((Below.refl _ w1).alloc (Nat.le_refl _) _).trans (hf2.below (by simp) (fun j hj => by omega))
  have HK2 := Lib.hid hg2
  have HZ2 := Lib.hid ((hbel2.block w.heap.size (lt_of_block HZ1.out)).trans HZ1.out)
  have HB2 := Lib.hid (HB1.out.trans (hbel2.mono HB1.out.size))
  have hw12 : w.heap.size < w1.heap.size := lt_of_block HZ1.out
  clear hg2 hf2 hbel2
  go_wp2_with fail
  refine (pads_any _).mono ?_
  rintro e w3 ⟨rfl, hb3⟩
  have hK3 := (hb3.block w1.heap.size (lt_of_block HK2.out)).trans HK2.out
  have HB3 := Lib.hid (HB2.out.trans (hb3.mono HB2.out.size))
  have HZ3 := Lib.hid ((hb3.block w.heap.size (lt_of_block HZ2.out)).trans HZ2.out)
  have hu1 := under_any 0x36 vm msg kb w1.heap.size w3 HKl.out hK3 (HM.out w3 HB3.out) hr2
  rw [← HIn.out] at hu1
  have HU1 := Lib.hid (show Calls Tryz.prog 30 #[.int .u8 54, vm, .pointer (some ⟨w1.heap.size, 0, none⟩)] w3 fun e w' => e = .returned (.agg (inner.map Bv).toArray) ∧ Below w3.heap.size w3 w' from hu1)
  have HK3 := Lib.hid hK3
  clear hb3 hK3 hu1
  go_wp2_with fail
  refine wp_loop_rounds 3 ?_
  rw [rounds_succ]
  go_wp2_with fail
  refine HU1.out.mono ?_
  rintro e w4 ⟨rfl, hb4⟩
  have HK4 := Lib.hid ((hb4.block w1.heap.size (lt_of_block HK3.out)).trans HK3.out)
  have HB4 := Lib.hid (HB3.out.trans (hb4.mono HB3.out.size))
  have HZ4 := Lib.hid ((hb4.block w.heap.size (lt_of_block HZ3.out)).trans HZ3.out)
  clear hb4
  go_wp2_with (refine store_hash rfl (.tmp 4) (.tmp 21) rfl rfl rfl HZ4.out (by simp [zB]) HInl.out ?_)
  intro w5 hg5 hf5
  have HB5 := Lib.hid (HB4.out.trans (hf5.below HB4.out.size (fun j hj => by omega)))
  have hK5 := (hf5.block w1.heap.size (lt_of_block HK4.out) (by omega)).trans HK4.out
  have hs5 : Sl w5 1 (.slice (some ⟨w.heap.size, 0, none⟩) 32 32) inner.length (inner.map Bv) := by rw [HInl.out]; exact sl_row' hg5 rfl (by simp [HInl.out])
  have hu2 := under_any 0x5C (.slice (some ⟨w.heap.size, 0, none⟩) 32 32) inner kb w1.heap.size w5 HKl.out hK5 hs5 (by rw [HInl.out]; decide)
  rw [← HHv.out] at hu2
  have HU2 := Lib.hid (show Calls Tryz.prog 30 #[.int .u8 92, .slice (some ⟨w.heap.size, 0, none⟩) 32 32, .pointer (some ⟨w1.heap.size, 0, none⟩)] w5 fun e w' => e = .returned (.agg (hv.map Bv).toArray) ∧ Below w5.heap.size w5 w' from hu2)
  have HZ5 := Lib.hid hg5
  clear hg5 hf5 hK5 hs5 hu2
  go_wp2_with fail
  rw [rounds_succ]
  go_wp2_with fail
  refine HU2.out.mono ?_
  rintro e w6 ⟨rfl, hb6⟩
  have HB6 := Lib.hid (HB5.out.trans (hb6.mono HB5.out.size))
  have HZ6 := Lib.hid ((hb6.block w.heap.size (lt_of_block HZ5.out)).trans HZ5.out)
  clear hb6
  go_wp2_with (refine store_hash rfl (.tmp 4) (.tmp 21) rfl rfl rfl HZ6.out (by simp [HInl.out]) HVl.out ?_)
  intro w7 hg7 hf7
  have HB7 := Lib.hid (HB6.out.trans (hf7.below HB6.out.size (fun j hj => by omega)))
  have HZ7 := Lib.hid hg7
  have HAt7 := Lib.hid (At.of_row hg7)
  clear hg7 hf7
  go_wp2_with fail
  rw [rounds_succ]
  go_wp2_with (first | (refine load_hash' rfl (.tmp 4) rfl rfl HAt7.out HVl.out ?_) | (refine store_hash rfl (.tmp 4) (.tmp 24) rfl rfl rfl HZ7.out (by simp [HVl.out]) HVl.out ?_; intro w8 hg8 hf8))
  exact bodyPost_ret (ret_hash1 rfl rfl hg8 HVl.out) rfl ⟨rfl, HB7.out.trans (hf8.below HB7.out.size (fun j hj => by omega))⟩
end Go.Proofs.YtdmjnopjnaoepaaGreatDoor
namespace Go.Proofs.YtdmjnopjnaoepaaGreatDoor
open Go.RowKit

theorem u8_differ_val (d x y : UInt8) : Value.int .u8 (bits .or .u8 (d.toNat : Int) (bits .xor .u8 (x.toNat : Int) (y.toNat : Int))) = Bv (d ||| (x ^^^ y)) := by
  rw [u8_xor_nat _ _ x.toNat_lt y.toNat_lt, ← UInt8.toNat_xor, u8_or_nat _ _ d.toNat_lt (x ^^^ y).toNat_lt, ← UInt8.toNat_or]; rfl
theorem u8_differ_zero (d x y : UInt8) : d ||| (x ^^^ y) = 0 ↔ d = 0 ∧ x = y := by
  constructor
  · intro h
    have h1 := congrArg UInt8.toNat h
    rw [UInt8.toNat_or, UInt8.toNat_xor] at h1
    have h2 : d.toNat = 0 ∧ (x.toNat ^^^ y.toNat) = 0 := by
      have := Nat.or_eq_zero_iff.1 (show d.toNat ||| (x.toNat ^^^ y.toNat) = 0 from h1)
      exact this
    refine ⟨UInt8.toNat_inj.1 h2.1, UInt8.toNat_inj.1 ?_⟩
    have h3 := congrArg (· ^^^ y.toNat) h2.2
    simpa [Nat.xor_assoc] using h3
  · rintro ⟨rfl, rfl⟩
    simp
theorem take_eq_succ (xs ys : List UInt8) (n : Nat) (h1 : n < xs.length) (h2 : n < ys.length) : xs.take (n + 1) = ys.take (n + 1) ↔ xs.take n = ys.take n ∧ xs[n] = ys[n] := by
  rw [List.take_succ_eq_append_getElem h1, List.take_succ_eq_append_getElem h2]
  constructor
  · intro h
    have := List.append_inj h (by simp; omega)
    exact ⟨this.1, by simpa using this.2⟩
  · rintro ⟨h, e⟩
    rw [h, e]

set_option maxRecDepth 100000 in
set_option maxHeartbeats 4000000 in
theorem fits_any (vk vm : Value) (key msg code : List UInt8) (w : World) (hk : Sl w 1 vk key.length (key.map Bv)) (hm : Sl w 1 vm msg.length (msg.map Bv)) (hr : key.length ≤ 140737488351232) (hr2 : msg.length + 64 ≤ 140737488351232) (hcl : code.length = 32) :
    Calls Tryz.prog 15 #[vk, vm, .agg (code.map Bv).toArray] w fun e w' => e = .returned (.bool (decide (macN key msg = code))) ∧ Below w.heap.size w w' := by
  obtain ⟨hv, hhv⟩ : ∃ hv, hv = macN key msg := ⟨_, rfl⟩
  have hvl : hv.length = 32 := by rw [hhv]; exact macN_length _ _
  rw [← hhv]
  have hbel0 : Below w.heap.size w (w.alloc (.cells (code.map Bv).toArray 28)) := (Below.refl _ w).alloc (Nat.le_refl _) _
  have hz0 := heap_alloc_new w (.cells (code.map Bv).toArray 28)
  have hmac := mac_any vk vm key msg (w.alloc (.cells (code.map Bv).toArray 28)) (hk.below hbel0) (hm.below hbel0) hr hr2
  rw [← hhv] at hmac
  obtain ⟨r, hrr⟩ : ∃ r, r = decide (hv = code) := ⟨_, rfl⟩
  rw [← hrr]
  have HR := Lib.hid hrr
  have HVl := Lib.hid hvl
  have HCl := Lib.hid hcl
  have HB0 := Lib.hid hbel0
  have HZ0 := Lib.hid hz0
  have HMac := Lib.hid hmac
  clear hrr hvl hcl hbel0 hz0 hmac hk hm hhv
  go_enter Tryz.func15, Tryz.ntmps15
  go_wp2_with fail
  refine HMac.out.mono ?_
  rintro e w1 ⟨rfl, hb1⟩
  have HZ1 := Lib.hid ((hb1.block w.heap.size (lt_of_block HZ0.out)).trans HZ0.out)
  have HB1 := Lib.hid (HB0.out.trans (hb1.mono HB0.out.size))
  clear hb1
  go_wp2_with (refine store_hash rfl (.tmp 7) (.tmp 12) rfl rfl rfl (heap_alloc_new _ _) rfl HVl.out ?_)
  intro w2 hg2 hf2
  have hbel2 : Below w1.heap.size w1 w2 := ((Below.refl _ w1).alloc (Nat.le_refl _) _).trans (hf2.below (by simp) (fun j hj => by omega))
  have HZ2 := Lib.hid ((hbel2.block w.heap.size (lt_of_block HZ1.out)).trans HZ1.out)
  have HB2 := Lib.hid (HB1.out.trans (hbel2.mono HB1.out.size))
  have HG2 := Lib.hid hg2
  clear hg2 hf2 hbel2
  go_wp2_with fail
  go_loopw [13, 8] (fun i dv wr => ∃ (n : Nat) (d : UInt8), n ≤ 32 ∧ i = .int .i64 n ∧ dv = .int .u8 (d.toNat : Int) ∧ (d = 0 ↔ hv.take n = code.take n) ∧ ∃ j, wr = w2.drewN j) (fun i _ _ => 32 - (intOf i).toNat)
  case atStart => exact ⟨0, 0, Nat.zero_le _, rfl, rfl, by simp, 0, rfl⟩
  case round =>
    obtain ⟨n, d, hn, rfl, rfl, hd, j, rfl⟩ := hrel
    rcases Nat.lt_or_ge n 32 with hlt | hge
    · have h1 : n < hv.length := by rw [HVl.out]; exact hlt
      have h2 : n < code.length := by rw [HCl.out]; exact hlt
      have ca : w2.cell? ⟨w1.heap.size, n, none⟩ = some (.int .u8 ((hv[n]'h1).toNat : Int)) := by
        rw [cell_of_row _ _ n _ _ _ HG2.out, List.getElem?_toArray, List.getElem?_map, List.getElem?_eq_getElem h1]; rfl
      have cb : w2.cell? ⟨w.heap.size, n, none⟩ = some (.int .u8 ((code[n]'h2).toNat : Int)) := by
        rw [cell_of_row _ _ n _ _ _ HZ2.out, List.getElem?_toArray, List.getElem?_map, List.getElem?_eq_getElem h2]; rfl
      have hiff := take_eq_succ hv code n h1 h2
      obtain ⟨x, hx⟩ : ∃ x, x = hv[n]'h1 := ⟨_, rfl⟩
      obtain ⟨y, hy⟩ : ∃ y, y = code[n]'h2 := ⟨_, rfl⟩
      rw [← hx] at ca hiff
      rw [← hy] at cb hiff
      have hval := u8_differ_val d x y
      have hz := u8_differ_zero d x y
      have HVal := Lib.hid hval
      have HNew := Lib.hid (show d ||| (x ^^^ y) = 0 ↔ hv.take (n + 1) = code.take (n + 1) by rw [hz, hiff, hd])
      clear hval hz hiff hd hx hy
      go_wp2_with fail
      go_quiet (fail)
      go_wp2
      go_roundw
      case rel => exact ⟨n + 1, d ||| (x ^^^ y), by omega, by go_num, HVal.out, HNew.out, _, rfl⟩
      case measure => simp [intOf]; omega
    · obtain rfl : n = 32 := by omega
      have hfin : ((d.toNat : Int) == 0) = r := by
        rw [HR.out, Bool.eq_iff_iff, beq_iff_eq, decide_eq_true_iff]
        rw [List.take_of_length_le (by rw [HVl.out]; exact Nat.le_refl _), List.take_of_length_le (by rw [HCl.out]; exact Nat.le_refl _)] at hd
        rw [← hd]
        constructor
        · intro h; exact UInt8.toNat_inj.1 (show d.toNat = 0 by omega)
        · rintro rfl; rfl
      have HFin := Lib.hid hfin
      have hdl := d.toNat_lt
      clear hfin hd
      go_wp2
      go_ret
      exact ⟨by rw [← HFin.out]; rfl, by repeat (first | exact HB2.out | refine belowDrewN ?_ _)⟩
end Go.Proofs.YtdmjnopjnaoepaaGreatDoor
namespace Go.Proofs.YtdmjnopjnaoepaaGreatDoor
open Go.RowKit

def markB : List UInt8 := [66, 78, 89, 78]
/-- An uber's bytes, ahead of its noughts; and all ahead of its code. -/
def ubH (u : Ub) : List UInt8 := markB ++ putB u.txg 8 ++ putB u.size 4 ++ ptrB u.root
def ubB (u : Ub) : List UInt8 := ubH u ++ List.replicate 420 0
theorem ubH_length {u : Ub} (h : u.Wf) : (ubH u).length = 60 := by unfold ubH; simp [putB_length, ptrB_length _ h.root, markB]
theorem ubB_length {u : Ub} (h : u.Wf) : (ubB u).length = 480 := by unfold ubB; rw [List.length_append, ubH_length h, List.length_replicate]
def ubS (key : List UInt8) (u : Ub) : List UInt8 := ubB u ++ macN key (ubB u)
theorem ubS_length (key : List UInt8) {u : Ub} (h : u.Wf) : (ubS key u).length = 512 := by unfold ubS; rw [List.length_append, ubB_length h, macN_length]
/-- What Put answers. -/
def putU (key : List UInt8) (u : Ub) : List UInt8 := if ubE u = 0 then ubS key u else []

theorem Sl_litm (w : World) (cs : Array Value) (xs : List UInt8) (fr : Nat × Nat) (n : Nat) {g : Nat} (hn : n = xs.length) (hg : g = w.heap.size) (hcs : cs.toList = xs.map Bv) : Sl (w.alloc (.cells cs 5 fr)) 1 (.slice (some ⟨g, 0, none⟩) n n) n (xs.map Bv) := by
  subst hg
  refine ⟨by simp [hn], some ⟨w.heap.size, 0, none⟩, n, rfl, Nat.le_refl _, fun h => (by cases h), fun i u hu => ⟨w.heap.size, 0, rfl, ?_⟩⟩
  rw [Nat.zero_add, cell_of_row _ w.heap.size i cs _ _ (heap_alloc_new _ _), ← hu, ← hcs, Array.getElem?_toList]
def UPr (w : World) (u : Ub) (B : Nat) (xs : List UInt8) (wr : World) : Prop :=
  ∃ row, Wr wr B B row xs ∧ Below w.heap.size w wr ∧ wr.heap[w.heap.size]? = some (.cells u.arr 32 (0, 0)) ∧ w.heap.size < B
theorem UPr.laid {w : World} {u : Ub} {B : Nat} {xs ys : List UInt8} {wr w' : World} {row : Option Nat} (h1 : Wr wr B B row xs) (h2 : Below w.heap.size w wr) (h3 : wr.heap[w.heap.size]? = some (.cells u.arr 32 (0, 0))) (h4 : w.heap.size < B)
    (hl : Laid wr w' B B row ys) : UPr w u B ys w' := by
  obtain ⟨row', a1, a2, a3⟩ := hl
  have hlt := h1.lt
  refine ⟨row', a1, h2.trans (a2.below h2.size (fun j hj => ?_)), (a2.block _ (lt_of_block h3) (fun e => ?_)).trans h3, h4⟩
  · rcases hj with e | e
    · omega
    · have := (hlt.2 j e).1; omega
  · rcases e with e | e
    · omega
    · have := (hlt.2 _ e).1; omega

set_option maxRecDepth 100000 in
set_option maxHeartbeats 4000000 in
theorem ubPut_ok (vk : Value) (key : List UInt8) (u : Ub) (w : World) (hk : Sl w 1 vk key.length (key.map Bv)) (hr : key.length ≤ 140737488351232) (hu : u.Wf) (hc : ubE u = 0) :
    Calls Tryz.prog 11 #[vk, .agg u.arr] w fun e w' => ∃ aa cc, e = .returned (.tuple #[.slice aa 512 cc, .int .i64 0]) ∧ Sl w' 1 (.slice aa 512 cc) 512 ((ubS key u).map Bv) ∧ Below w.heap.size w w' := by
  have hb0 : Below w.heap.size w (w.alloc (.cells u.arr 32)) := (Below.refl _ w).alloc (Nat.le_refl _) _
  have g0 := u.get0
  have g1 := u.get1
  have HB := Lib.hid hb0
  have HU := Lib.hid hu
  have HK := Lib.hid (fun (w' : World) (hh : Below w.heap.size w w') => (hk.below hh : Sl w' 1 vk key.length (key.map Bv)))
  have HAT := Lib.hid (Ub.box w u 32)
  have HG := Lib.hid (heap_alloc_new w (.cells u.arr 32))
  have HC := Lib.hid (fun w1 => hc ▸ ubCheck_any u w1 hu)
  have HFit := Lib.hid (show (4 : Nat) = 8 ∨ u.size < 256 ^ 4 from Or.inr (by have := hu.size; omega))
  have HT := Lib.hid hu.txg
  have HPL := Lib.hid (ptrB_length _ hu.root)
  have HR := Lib.hid hr
  have m32 := hu.size
  have hl60 := ubH_length hu
  have HL60 := Lib.hid hl60
  have HL480 := Lib.hid (ubB_length hu)
  clear hb0 hk hu hc hl60
  go_enter Tryz.func11, Tryz.ntmps11
  go_wp2_with (refine load_ub rfl (.tmp 3) rfl rfl HAT.out HU.out ?_)
  refine (HC.out _).mono ?_
  rintro e w1 ⟨rfl, hb⟩
  have hg := (hb.block w.heap.size (by simp)).trans HG.out
  have hb1 := HB.out.trans (hb.mono HB.out.size)
  have hlt1 := lt_of_block hg
  have HW1 := Lib.hid (Wr.new w1 w1.heap.size)
  have HB1 := Lib.hid (hb1.alloc (show w.heap.size ≤ w1.heap.size by omega) (.cells #[.slice none 0 0] 59))
  have HG1 := Lib.hid ((Below.heap_alloc w1 (.cells #[.slice none 0 0] 59) _ hlt1).trans hg)
  have c0 : w1.cell? ⟨w.heap.size, 0, none⟩ = some (.int .u64 (u.txg : Int)) := (cell_of_row w1 _ 0 _ _ _ hg).trans g0
  clear hb hg hb1
  have q1 := Go.Joins.run_convert_bytes_const_at (P := Tryz.prog) (w1.alloc (.cells #[.slice none 0 0] 59)) 22 5 #[.int .u8 66, .int .u8 78, .int .u8 89, .int .u8 78] 4 4 (w1.heap.size + 1) (by simp) Tryz.underlying22 Tryz.underlying5
  go_wp2_with fail
  have HW1' := Lib.hid (HW1.out.fr (Fr.alloc (Fr.refl (fun _ => False) _) (.cells #[.int .u8 66, .int .u8 78, .int .u8 89, .int .u8 78] 5 (4, 5))) id (fun _ _ => id))
  have HB1' := Lib.hid (HB1.out.alloc HB1.out.size (.cells #[.int .u8 66, .int .u8 78, .int .u8 89, .int .u8 78] 5 (4, 5)))
  have HG1' := Lib.hid ((Below.heap_alloc _ (.cells #[.int .u8 66, .int .u8 78, .int .u8 89, .int .u8 78] 5 (4, 5)) _ (lt_of_block HG1.out)).trans HG1.out)
  refine (wRaw_ok w1.heap.size w1.heap.size none [] markB _ _ HW1'.out (by simp; omega) (Sl_litm _ _ _ _ 4 rfl (by simp) rfl) (by decide)).mono ?_
  rintro e w2 ⟨rfl, hl2⟩
  rw [List.nil_append] at hl2
  obtain ⟨row2, hW2, hB2, hG2, -⟩ := UPr.laid HW1'.out HB1'.out HG1'.out hlt1 hl2
  have HW2 := Lib.hid hW2
  have HB2 := Lib.hid hB2
  have HG2 := Lib.hid hG2
  have c2 : w2.cell? ⟨w.heap.size, 0, none⟩ = some (.int .u64 (u.txg : Int)) := (cell_of_row w2 _ 0 _ _ _ hG2).trans g0
  have hs2 := hW2.lt.1
  clear hl2 hW2 hB2 hG2 c0 q1
  go_wp2_with fail
  refine (wNum_ok w1.heap.size w1.heap.size row2 markB u.txg 8 _ HW2.out (by omega) (by omega) (Or.inl rfl) (by decide)).mono ?_
  rintro e w3 ⟨rfl, hl3⟩
  obtain ⟨row3, hW3, hB3, hG3, -⟩ := UPr.laid HW2.out HB2.out HG2.out hlt1 hl3
  have HW3 := Lib.hid hW3
  have HB3 := Lib.hid hB3
  have HG3 := Lib.hid hG3
  have c3 : w3.cell? ⟨w.heap.size, 1, none⟩ = some (.int .u32 (u.size : Int)) := (cell_of_row w3 _ 1 _ _ _ hG3).trans g1
  have hs3 := hW3.lt.1
  clear hl3 hW3 hB3 hG3 c2
  go_wp2_with fail
  refine (wNum_ok w1.heap.size w1.heap.size row3 (markB ++ putB u.txg 8) u.size 4 _ HW3.out (by omega) (by omega) HFit.out (by rw [List.length_append, putB_length]; decide)).mono ?_
  rintro e w4 ⟨rfl, hl4⟩
  obtain ⟨row4, hW4, hB4, hG4, -⟩ := UPr.laid HW3.out HB3.out HG3.out hlt1 hl4
  have HW4 := Lib.hid hW4
  have HB4 := Lib.hid hB4
  have HG4 := Lib.hid hG4
  have HA4 := Lib.hid (Ub.rootAt (o := 0) (At.of_row hG4))
  have hs4 := hW4.lt.1
  clear hl4 hW4 hB4 hG4 c3
  go_wp2_with (refine load_ptr rfl (.tmp 24) rfl rfl HA4.out HU.out.root ?_)
  refine (ptrPut_ok u.root w1.heap.size w1.heap.size row4 (markB ++ putB u.txg 8 ++ putB u.size 4) _ HW4.out (by omega) HU.out.root (by rw [List.length_append, List.length_append, putB_length, putB_length]; decide)).mono ?_
  rintro e w5 ⟨rfl, hl5⟩
  rw [show markB ++ putB u.txg 8 ++ putB u.size 4 ++ ptrB u.root = ubH u from rfl] at hl5
  obtain ⟨row5, hW5, hB5, hG5, -⟩ := UPr.laid HW4.out HB4.out HG4.out hlt1 hl5
  have HW5 := Lib.hid hW5
  have HB5 := Lib.hid hB5
  have HG5 := Lib.hid hG5
  have hs5 := hW5.lt.1
  clear hl5 hW5 hB5 hG5
  go_wp2_with fail
  refine (wPad_ok w1.heap.size w1.heap.size 480 row5 (ubH u) _ HW5.out (by omega) (by omega) (by rw [HL60.out]; omega)).mono ?_
  rintro e w6 ⟨rfl, hl6⟩
  rw [HL60.out, show ubH u ++ List.replicate (480 - 60) 0 = ubB u from rfl] at hl6
  obtain ⟨row6, hW6, hB6, hG6, -⟩ := UPr.laid HW5.out HB5.out HG5.out hlt1 hl6
  have HW6 := Lib.hid hW6
  have HB6 := Lib.hid hB6
  have HG6 := Lib.hid hG6
  have hs6 := hW6.lt.1
  clear hl6 hW6 hB6 hG6
  go_wp2_with fail
  refine (wBytes_ok w1.heap.size w1.heap.size row6 (ubB u) _ HW6.out (by rw [HL480.out]; omega)).mono ?_
  rintro e w7 ⟨aa7, cc7, rfl, ho7, hb7⟩
  have HS7 := Lib.hid (Sl.own ho7)
  have hb17 := HB6.out.trans (hb7.mono HB6.out.size)
  have HB7 := Lib.hid hb17
  have HK7 := Lib.hid (HK.out w7 hb17)
  have HW7 := Lib.hid (HW6.out.fr (Fr.of_below (S := fun _ => False) hb7) id (fun _ _ => id))
  have HG7 := Lib.hid ((hb7.block _ (lt_of_block HG6.out)).trans HG6.out)
  have hs7 := HW7.out.lt.1
  clear ho7 hb7 hb17
  go_wp2_with fail
  obtain ⟨hv, hhv⟩ : ∃ hv, hv = macN key (ubB u) := ⟨_, rfl⟩
  have hvl : hv.length = 32 := by rw [hhv]; exact macN_length _ _
  have hsub : ubB u ++ hv = ubS key u := by rw [hhv]; rfl
  have hmac := mac_any vk (.slice aa7 (ubB u).length cc7) key (ubB u) w7 HK7.out HS7.out HR.out (by rw [HL480.out]; omega)
  rw [← hhv] at hmac
  have HMac := Lib.hid hmac
  have HVl := Lib.hid hvl
  have HSub := Lib.hid hsub
  clear hmac hvl hsub hhv
  refine HMac.out.mono ?_
  rintro e w8 ⟨rfl, hb8⟩
  have HB8 := Lib.hid (HB7.out.trans (hb8.mono HB7.out.size))
  have HW8 := Lib.hid (HW7.out.fr (Fr.of_below (S := fun _ => False) hb8) id (fun _ _ => id))
  have HG8 := Lib.hid ((hb8.block _ (lt_of_block HG7.out)).trans HG7.out)
  have hs8 := HW8.out.lt.1
  clear hb8
  go_wp2_with fail
  refine (wHash_ok w1.heap.size w1.heap.size row6 (ubB u) hv _ HW8.out (by omega) HVl.out (by rw [HL480.out]; omega)).mono ?_
  rintro e w9 ⟨rfl, hl9⟩
  rw [HSub.out] at hl9
  obtain ⟨row9, hW9, hB9, hG9, -⟩ := UPr.laid HW8.out HB8.out HG8.out hlt1 hl9
  have HW9 := Lib.hid hW9
  have HB9 := Lib.hid hB9
  clear hl9 hW9 hB9 hG9
  go_wp2_with fail
  have hL := ubS_length key HU.out
  refine (wBytes_ok w1.heap.size w1.heap.size row9 (ubS key u) _ HW9.out (by rw [hL]; omega)).mono ?_
  rw [hL]
  rintro e w10 ⟨aa, cc, rfl, ho, hb10⟩
  have HS := Lib.hid (Sl.own ho)
  have HB10 := Lib.hid (HB9.out.trans (hb10.mono HB9.out.size))
  clear ho hb10 hL
  go_wp2
  go_ret2
  exact ⟨aa, cc, rfl, HS.out, HB10.out⟩

set_option maxHeartbeats 1000000 in
theorem ubPut_bad (vk : Value) (u : Ub) (w : World) (hu : u.Wf) (hc : ubE u = 4) :
    Calls Tryz.prog 11 #[vk, .agg u.arr] w fun e w' => e = .returned (.tuple #[.slice none 0 0, .int .i64 4]) ∧ Below w.heap.size w w' := by
  have HB := Lib.hid ((Below.refl _ w).alloc (Nat.le_refl _) (.cells u.arr 32))
  have HU := Lib.hid hu
  have HAT := Lib.hid (Ub.box w u 32)
  have HC := Lib.hid (fun w1 => hc ▸ ubCheck_any u w1 hu)
  clear hu hc
  go_enter Tryz.func11, Tryz.ntmps11
  go_wp2_with (refine load_ub rfl (.tmp 3) rfl rfl HAT.out HU.out ?_)
  refine (HC.out _).mono ?_
  rintro e w1 ⟨rfl, hb⟩
  have HB1 := Lib.hid (HB.out.trans (hb.mono HB.out.size))
  clear hb
  go_wp2
  go_ret2
  exact ⟨rfl, HB1.out⟩

def PutUPost (key : List UInt8) (u : Ub) (w : World) (e : Ending) (w' : World) : Prop := ∃ a n c, e = .returned (.tuple #[.slice a n c, .int .i64 (ubE u)]) ∧ n = (putU key u).length ∧ Sl w' 1 (.slice a n c) n ((putU key u).map Bv) ∧ Below w.heap.size w w'
theorem ubPut_any (vk : Value) (key : List UInt8) (u : Ub) (w : World) (hk : Sl w 1 vk key.length (key.map Bv)) (hr : key.length ≤ 140737488351232) (hu : u.Wf) :
    Calls Tryz.prog 11 #[vk, .agg u.arr] w (PutUPost key u w) := by
  rcases ubE_or u with h | h
  · refine (ubPut_ok vk key u w hk hr hu h).mono ?_
    rintro e w' ⟨aa, cc, rfl, hs, hb⟩
    have hp : putU key u = ubS key u := by unfold putU; rw [if_pos h]
    exact ⟨aa, 512, cc, by rw [h], by rw [hp, ubS_length key hu], by rw [hp]; exact hs, hb⟩
  · refine (ubPut_bad vk u w hu h).mono ?_
    rintro e w' ⟨rfl, hb⟩
    have hp : putU key u = [] := by unfold putU; rw [if_neg (by rw [h]; decide)]
    exact ⟨none, 0, 0, by rw [h], by rw [hp]; rfl, by rw [hp]; exact Sl.nil _ _, hb⟩
end Go.Proofs.YtdmjnopjnaoepaaGreatDoor
