/- Walks: sha.Sum; mac's pad, Mac, Fits. -/
import Derived.Test.YtdmgmpagnmmehaaDoorShaH
namespace Go.Proofs.YtdmgmpagnmmehaaDoor
open Go.RowKit

theorem ret_hash1 {fn : Func} {p : Tmp} (h : fn.results = #[.cell p 45]) {tmps : Array Value} {w : World} {g : Nat} {hs : List UInt8} {t : TypeId} (hp : tmps.getD p undef = .pointer (some ⟨g, 0, none⟩))
    (hg : w.heap[g]? = some (.cells (hs.map Bv).toArray t (0, 0))) (hl : hs.length = 32) : (results fn tmps).run Tryd.prog w = .ok (.agg (hs.map Bv).toArray) w :=
  results_cell_row h tmps w g t _ _ _ hp hg Tryd.underlying45 rfl (by rw [info_hash']; simp [hl])

set_option maxRecDepth 100000 in
set_option maxHeartbeats 4000000 in
theorem shaSum_any (v : Value) (xs : List UInt8) (w : World) (h : Sl w 1 v xs.length (xs.map Bv)) (hr : xs.length ≤ 140737488351232) :
    Calls Tryd.prog 89 #[v] w fun e w' => e = .returned (.agg ((hashN xs).map Bv).toArray) ∧ Below w.heap.size w w' := by
  obtain ⟨hv, hhv⟩ : ∃ hv, hv = hashN xs := ⟨_, rfl⟩
  have hvl : hv.length = 32 := by rw [hhv]; exact hashN_length xs
  rw [← hhv]
  have HHv := Lib.hid hhv
  have HVl := Lib.hid hvl
  have HS := Lib.hid (fun (w' : World) (hh : Below w.heap.size w w') => h.below hh)
  clear h hhv hvl
  go_enter Tryd.func89, Tryd.ntmps89
  go_wp2_with fail
  have hbel0 : Below w.heap.size w (w.alloc (.cells ((List.replicate 32 (0 : UInt8)).map Bv).toArray 45)) := (Below.refl _ w).alloc (Nat.le_refl _) _
  have hz0 := heap_alloc_new w (.cells ((List.replicate 32 (0 : UInt8)).map Bv).toArray 45)
  have hnew := new_any (w.alloc (.cells ((List.replicate 32 (0 : UInt8)).map Bv).toArray 45))
  obtain ⟨B, hB⟩ : ∃ B, B = (w.alloc (.cells ((List.replicate 32 (0 : UInt8)).map Bv).toArray 45)).heap.size := ⟨_, rfl⟩
  have hBs : B = w.heap.size + 1 := by rw [hB]; simp
  rw [← hB] at hnew
  refine hnew.mono ?_
  rintro e w1 ⟨rfl, hh1, hb1⟩
  have HZ1 := Lib.hid ((hb1.block w.heap.size (by omega)).trans hz0)
  have HB1 := Lib.hid (hbel0.trans (hb1.mono (by rw [hBs]; omega)))
  have hwr := write_any B B none [] xs v w1 hh1 (by have := hb1.size; omega) (HS.out w1 HB1.out) (by simpa using hr)
  rw [List.nil_append] at hwr
  have HWr := Lib.hid hwr
  have HBs := Lib.hid hBs
  clear hbel0 hz0 hnew hB hh1 hb1 hwr hBs
  go_wp2_with fail
  refine HWr.out.mono ?_
  rintro e w2 ⟨rfl, row, hh2, hf2, hrow⟩
  have HZ2 := Lib.hid ((hf2.block w.heap.size (lt_of_block HZ1.out) (by rintro (h | h); have := HBs.out; omega; cases h)).trans HZ1.out)
  have HB2 := Lib.hid (HB1.out.trans (hf2.below HB1.out.size (by rintro k (rfl | h); have := HBs.out; omega; cases h)))
  have hsm := sum_any B B row xs w2 hh2 hr
  rw [← HHv.out] at hsm
  have HSm := Lib.hid hsm
  clear hh2 hf2 hrow hsm
  go_wp2_with fail
  refine HSm.out.mono ?_
  rintro e w3 ⟨rfl, hb3⟩
  have HZ3 := Lib.hid ((hb3.block w.heap.size (lt_of_block HZ2.out)).trans HZ2.out)
  have HB3 := Lib.hid (HB2.out.trans (hb3.mono HB2.out.size))
  clear hb3
  go_wp2_with (refine store_hash rfl (.tmp 4) (.tmp 13) rfl rfl rfl (heap_alloc_new _ _) rfl HVl.out ?_)
  intro w4 hg4 hf4
  have hbel4 : Below w3.heap.size w3 w4 := ((Below.refl _ w3).alloc (Nat.le_refl _) _).trans (hf4.below (by simp) (fun j hj => by omega))
  have HZ4 := Lib.hid ((hbel4.block w.heap.size (lt_of_block HZ3.out)).trans HZ3.out)
  have HB4 := Lib.hid (HB3.out.trans (hbel4.mono HB3.out.size))
  have HAt4 := Lib.hid (At.of_row hg4)
  clear hg4 hf4 hbel4
  go_wp2_with (first | (refine load_hash' rfl (.tmp 4) rfl rfl HAt4.out HVl.out ?_) | (refine store_hash rfl (.tmp 2) (.tmp 15) rfl rfl rfl HZ4.out rfl HVl.out ?_; intro w5 hg5 hf5))
  exact bodyPost_ret (ret_hash1 rfl rfl hg5 HVl.out) rfl ⟨rfl, HB4.out.trans (hf5.below HB4.out.size (fun j hj => by omega))⟩

/-- The two bytes that keys are turned by. -/
theorem pads_any (w : World) : Calls Tryd.prog 73 #[] w fun e w' => e = .returned (.agg #[.int .u8 54, .int .u8 92]) ∧ Below w.heap.size w w' := by
  go_enter Tryd.func73, Tryd.ntmps73
  go_wp2
  exact bodyPost_ret (v := .agg #[.int .u8 54, .int .u8 92]) (by simp [results, Tryd.results73, go_sem]) rfl ⟨rfl, (Below.refl _ w).alloc (Nat.le_refl _) _⟩

theorem info_b64 : (Tryd.prog.info? 116).map (·.size) = some 64 := by kernel_rfl
theorem load_b64 {ops : Array Oper} {rest : List Oper} {o : Oper} {a : Act} {w : World} {Q : Exit → Act → World → Prop} (hgd : o.guard = none) (x : Operand) (ho : o.op = .load 116 x)
    {b off : Nat} (hx : a.eval x = .pointer (some ⟨b, off, none⟩)) {h : List UInt8} (hc : At w b off (h.map Bv)) (hl : h.length = 64)
    (hK : wpList Tryd.prog ops Q rest (a.put o.dst (.agg (h.map Bv).toArray)) w) : wpList Tryd.prog ops Q (o :: rest) a w :=
  wpList_load_at hgd _ x ho b off hx (h.map Bv) _ hc Tryd.underlying116 rfl (by rw [info_b64]; simp [hl]) hK
theorem store_b64 {ops : Array Oper} {rest : List Oper} {o : Oper} {a : Act} {w : World} {Q : Exit → Act → World → Prop} (hgd : o.guard = none) (x y : Operand) (ho : o.op = .store 116 x y)
    {b : Nat} (hx : a.eval x = .pointer (some ⟨b, 0, none⟩)) {h : List UInt8} (hy : a.eval y = .agg (h.map Bv).toArray) {old : Array Value} {t : TypeId} (hb : w.heap[b]? = some (.cells old t (0, 0))) (ho2 : old.size = 64) (hl : h.length = 64)
    (hK : ∀ w', w'.heap[b]? = some (.cells (h.map Bv).toArray t (0, 0)) → Fr (fun k => k = b) w w' → wpList Tryd.prog ops Q rest (a.put o.dst undef) w') : wpList Tryd.prog ops Q (o :: rest) a w :=
  wpList_store_row hgd _ x y ho b hx (h.map Bv) hy old t hb (by simp [ho2, hl]) (Bv_oneCell _) (by rw [info_b64]; simp [hl]) (fun w' h1 h2 _ => hK w' h1 h2)
theorem ret_b64 {fn : Func} {p : Tmp} (h : fn.results = #[.cell p 116]) {tmps : Array Value} {w : World} {g : Nat} {hs : List UInt8} {t : TypeId} (hp : tmps.getD p undef = .pointer (some ⟨g, 0, none⟩))
    (hg : w.heap[g]? = some (.cells (hs.map Bv).toArray t (0, 0))) (hl : hs.length = 64) : (results fn tmps).run Tryd.prog w = .ok (.agg (hs.map Bv).toArray) w :=
  results_cell_row h tmps w g t _ _ _ hp hg Tryd.underlying116 rfl (by rw [info_b64]; simp [hl])

/-- Noughts. -/
def zB (n : Nat) : List UInt8 := List.replicate n 0
theorem zB_length (n : Nat) : (zB n).length = n := List.length_replicate
theorem over_zB (n : Nat) (ys : List UInt8) : over (zB n) 0 ys = ys ++ zB (n - ys.length) := by
  unfold over zB
  rw [List.take_zero, List.nil_append, Nat.zero_add, List.drop_replicate]

set_option maxRecDepth 100000 in
set_option maxHeartbeats 4000000 in
theorem pad_any (v : Value) (key : List UInt8) (w : World) (h : Sl w 1 v key.length (key.map Bv)) (hr : key.length ≤ 140737488351232) :
    Calls Tryd.prog 68 #[v] w fun e w' => e = .returned (.agg ((keyB key).map Bv).toArray) ∧ Below w.heap.size w w' := by
  obtain ⟨kv, hkv⟩ : ∃ kv, kv = keyB key := ⟨_, rfl⟩
  have hkl : kv.length = 64 := by rw [hkv]; exact keyB_length key
  rw [← hkv]
  have HKl := Lib.hid hkl
  obtain ⟨a, c, rfl, _⟩ := h.len
  have hbel0 : Below w.heap.size w (w.alloc (.cells ((zB 64).map Bv).toArray 116)) := (Below.refl _ w).alloc (Nat.le_refl _) _
  have hz0 := heap_alloc_new w (.cells ((zB 64).map Bv).toArray 116)
  have HB0 := Lib.hid hbel0
  have HZ0 := Lib.hid hz0
  have HS0 := Lib.hid (h.below hbel0)
  unfold keyB at hkv
  rcases Nat.lt_or_ge 64 key.length with hlt | hge
  · rw [if_pos hlt] at hkv
    have hsum := shaSum_any (.slice a key.length c) key (w.alloc (.cells ((zB 64).map Bv).toArray 116)) (h.below hbel0) hr
    obtain ⟨hv, hhv⟩ : ∃ hv, hv = hashN key := ⟨_, rfl⟩
    have hvl : hv.length = 32 := by rw [hhv]; exact hashN_length key
    rw [← hhv] at hkv hsum
    have HKv := Lib.hid hkv
    have HVl := Lib.hid hvl
    have HSum := Lib.hid hsum
    clear hkv hsum hhv hvl h hbel0 hz0 hkl
    go_enter Tryd.func68, Tryd.ntmps68
    go_wp2_with fail
    refine HSum.out.mono ?_
    rintro e w1 ⟨rfl, hb1⟩
    have HZ1 := Lib.hid ((hb1.block w.heap.size (lt_of_block HZ0.out)).trans HZ0.out)
    have HB1 := Lib.hid (HB0.out.trans (hb1.mono HB0.out.size))
    clear hb1
    go_wp2_with (refine store_hash rfl (.tmp 3) (.tmp 8) rfl rfl rfl (heap_alloc_new _ _) rfl HVl.out ?_)
    intro w4 hg4 hf4
    have hbel4 : Below w1.heap.size w1 w4 := ((Below.refl _ w1).alloc (Nat.le_refl _) _).trans (hf4.below (by simp) (fun j hj => by omega))
    have HZ4 := Lib.hid ((hbel4.block w.heap.size (lt_of_block HZ1.out)).trans HZ1.out)
    have HB4 := Lib.hid (HB1.out.trans (hbel4.mono HB1.out.size))
    have HS4 := Lib.hid (show Sl w4 1 (.slice (some ⟨w1.heap.size, 0, none⟩) 32 32) 32 (hv.map Bv) from sl_row' hg4 rfl (by simp [HVl.out]))
    clear hg4 hf4 hbel4
    go_wp2_with (refine copy_u8 rfl (.tmp 10) (.tmp 11) rfl HZ4.out HS4.out rfl rfl (by rw [zB_length]; decide) ?_)
    intro w5 hg5 hf5
    have e5 : over (zB 64) 0 (hv.take 32) = kv := by rw [List.take_of_length_le (by rw [HVl.out]; exact Nat.le_refl _), over_zB, HVl.out, HKv.out]; rfl
    rw [e5] at hg5
    have HG5 := Lib.hid hg5
    have HB5 := Lib.hid (HB4.out.trans (hf5.below HB4.out.size (fun j hj => by omega)))
    have HAt5 := Lib.hid (At.of_row hg5)
    clear hg5 hf5 e5
    go_wp2_with (first | (refine load_b64 rfl (.tmp 2) rfl rfl HAt5.out HKl.out ?_) | (refine store_b64 rfl (.tmp 2) (.tmp 13) rfl rfl rfl HG5.out (by simp [HKl.out]) HKl.out ?_; intro w6 hg6 hf6))
    exact bodyPost_ret (ret_b64 rfl rfl hg6 HKl.out) rfl ⟨rfl, HB5.out.trans (hf6.below HB5.out.size (fun j hj => by omega))⟩
  · rw [if_neg (by omega)] at hkv
    have HKv := Lib.hid hkv
    clear hkv h hbel0 hz0 hkl
    go_enter Tryd.func68, Tryd.ntmps68
    go_wp2_with (refine copy_u8 rfl (.tmp 10) (.tmp 11) rfl HZ0.out HS0.out rfl rfl (by rw [zB_length]; omega) ?_)
    intro w5 hg5 hf5
    have e5 : over (zB 64) 0 key = kv := by rw [over_zB, HKv.out]; rfl
    rw [e5] at hg5
    have HG5 := Lib.hid hg5
    have HB5 := Lib.hid (HB0.out.trans (hf5.below HB0.out.size (fun j hj => by omega)))
    have HAt5 := Lib.hid (At.of_row hg5)
    clear hg5 hf5 e5
    go_wp2_with (first | (refine load_b64 rfl (.tmp 2) rfl rfl HAt5.out HKl.out ?_) | (refine store_b64 rfl (.tmp 2) (.tmp 13) rfl rfl rfl HG5.out (by simp [HKl.out]) HKl.out ?_; intro w6 hg6 hf6))
    exact bodyPost_ret (ret_b64 rfl rfl hg6 HKl.out) rfl ⟨rfl, HB5.out.trans (hf6.below HB5.out.size (fun j hj => by omega))⟩

def xorB (l : List UInt8) (by' : UInt8) (n : Nat) : List UInt8 := (l.take n).map (· ^^^ by') ++ l.drop n
theorem xorB_length (l : List UInt8) (y : UInt8) (n : Nat) : (xorB l y n).length = l.length := by simp [xorB]; omega
theorem xorB_get (l : List UInt8) (y : UInt8) (n : Nat) (h : n < l.length) : (xorB l y n)[n]? = some l[n] := by
  unfold xorB
  rw [List.getElem?_append_right (by simp; omega)]
  simp [show min n l.length = n by omega, h]
theorem xorB_set (l : List UInt8) (y : UInt8) (n : Nat) (h : n < l.length) : (xorB l y n).set n (l[n] ^^^ y) = xorB l y (n + 1) := by
  unfold xorB
  have hl : ((l.take n).map (· ^^^ y)).length = n := by simp; omega
  rw [List.set_append_right _ _ (by omega), hl, Nat.sub_self, List.drop_eq_getElem_cons h, List.set_cons_zero, List.take_succ_eq_append_getElem h, List.map_append, List.append_assoc]
  rfl
theorem xorB_all (l : List UInt8) (y : UInt8) (n : Nat) (h : l.length = n) : xorB l y n = l.map (· ^^^ y) := by
  unfold xorB
  rw [List.take_of_length_le (by omega), List.drop_of_length_le (by omega), List.append_nil]
theorem u8_xor_val (x y : UInt8) : Value.int .u8 (bits .xor .u8 (x.toNat : Int) (y.toNat : Int)) = Bv (x ^^^ y) := by
  rw [u8_xor_nat _ _ x.toNat_lt y.toNat_lt, ← UInt8.toNat_xor]; rfl

set_option maxRecDepth 100000 in
set_option maxHeartbeats 4000000 in
theorem under_any (y : UInt8) (v : Value) (msg kb : List UInt8) (K : Nat) (w : World) (hkl : kb.length = 64) (hK : w.heap[K]? = some (.cells (kb.map Bv).toArray 116 (0, 0))) (h : Sl w 1 v msg.length (msg.map Bv)) (hr : msg.length + 64 ≤ 140737488351232) :
    Calls Tryd.prog 69 #[.int .u8 (y.toNat : Int), v, .pointer (some ⟨K, 0, none⟩)] w fun e w' => e = .returned (.agg ((hashN (kb.map (· ^^^ y) ++ msg)).map Bv).toArray) ∧ Below w.heap.size w w' := by
  obtain ⟨hv, hhv⟩ : ∃ hv, hv = hashN (kb.map (· ^^^ y) ++ msg) := ⟨_, rfl⟩
  have hvl : hv.length = 32 := by rw [hhv]; exact hashN_length _
  rw [← hhv]
  have hbel0 : Below w.heap.size w (w.alloc (.cells ((zB 32).map Bv).toArray 45)) := (Below.refl _ w).alloc (Nat.le_refl _) _
  have hz0 := heap_alloc_new w (.cells ((zB 32).map Bv).toArray 45)
  have hnew := new_any (w.alloc (.cells ((zB 32).map Bv).toArray 45))
  obtain ⟨B, hB⟩ : ∃ B, B = (w.alloc (.cells ((zB 32).map Bv).toArray 45)).heap.size := ⟨_, rfl⟩
  have hBs : B = w.heap.size + 1 := by rw [hB]; simp
  rw [← hB] at hnew
  have HHv := Lib.hid hhv
  have HVl := Lib.hid hvl
  have HKl := Lib.hid hkl
  have HKw := Lib.hid hK
  have HS := Lib.hid (fun (w' : World) (hh : Below w.heap.size w w') => h.below hh)
  have HB0 := Lib.hid hbel0
  have HZ0 := Lib.hid hz0
  have HNew := Lib.hid hnew
  have HBs := Lib.hid hBs
  have hy := y.toNat_lt
  clear hhv hvl hkl hK h hbel0 hz0 hnew hB hBs
  go_enter Tryd.func69, Tryd.ntmps69
  go_wp2_with fail
  refine HNew.out.mono ?_
  rintro e w1 ⟨rfl, hh1, hb1⟩
  have HZ1 := Lib.hid ((hb1.block w.heap.size (by have := HBs.out; omega)).trans HZ0.out)
  have HB1 := Lib.hid (HB0.out.trans (hb1.mono (by rw [HBs.out]; omega)))
  have HH1 := Lib.hid hh1
  have hs1 := hb1.size
  have hK1 := (HB1.out.block K (lt_of_block HKw.out)).trans HKw.out
  have HAtK := Lib.hid (At.of_row hK1)
  have hBw1 : B < w1.heap.size := hh1.mid.lt.1
  clear hh1 hb1 hK1
  go_wp2_with (first | (refine load_b64 rfl (.tmp 2) rfl rfl HAtK.out HKl.out ?_) | (refine store_b64 rfl (.tmp 7) (.tmp 12) rfl rfl rfl (heap_alloc_new _ _) rfl HKl.out ?_; intro w2 hg2 hf2))
  have hbel2 : Below w1.heap.size w1 w2 := ((Below.refl _ w1).alloc (Nat.le_refl _) _).trans (hf2.below (by simp) (fun j hj => by omega))
  obtain ⟨C, hC⟩ : ∃ C, C = w1.heap.size := ⟨_, rfl⟩
  have HG2 := Lib.hid (show w2.heap[C]? = some (.cells ((xorB kb y 0).map Bv).toArray 116 (0, 0)) by rw [hC]; simpa [xorB] using hg2)
  have HH2 := Lib.hid (HH1.out.mid.fr (Fr.of_below (S := fun _ => False) hbel2) id (fun _ _ => id))
  have HZ2 := Lib.hid ((hbel2.block w.heap.size (lt_of_block HZ1.out)).trans HZ1.out)
  have HB2 := Lib.hid (HB1.out.trans (hbel2.mono HB1.out.size))
  rw [← hC] at hBw1 ⊢
  have HCs := Lib.hid hC
  have hC2 : C < w2.heap.size := lt_of_block HG2.out
  clear hg2 hf2 hbel2 hC
  go_wp2_with fail
  go_loopw [13] (fun i wr => ∃ n : Nat, n ≤ 64 ∧ i = .int .i64 n ∧ wr.heap[C]? = some (.cells ((xorB kb y n).map Bv).toArray 116 (0, 0)) ∧ Fr (fun k => k = C) w2 wr) (fun i _ => 64 - (intOf i).toNat)
  case atStart => exact ⟨0, Nat.zero_le _, rfl, HG2.out, Fr.refl _ _⟩
  case round =>
    obtain ⟨n, hn, rfl, hg, hf⟩ := hrel
    rcases Nat.lt_or_ge n 64 with hlt | hge
    · have hn2 : n < kb.length := by rw [HKl.out]; exact hlt
      have hc : wr.cell? ⟨C, n, none⟩ = some (Bv (kb[n]'hn2)) := by
        rw [cell_of_row _ _ n _ _ _ hg, List.getElem?_toArray, List.getElem?_map, xorB_get kb y n hn2]; rfl
      have hfz : wr.frozen? ⟨C, n, none⟩ = false := by simp [World.frozen?, hg]
      have hset := xorB_set kb y n hn2
      obtain ⟨x, hx⟩ : ∃ x, x = kb[n]'hn2 := ⟨_, rfl⟩
      rw [← hx] at hc hset
      have hv := u8_xor_val x y
      have hxl := x.toNat_lt
      have HVal := Lib.hid hv
      have HSet := Lib.hid hset
      have HG := Lib.hid hg
      have HF := Lib.hid hf
      unfold Bv at hc
      clear hv hset hg hf hx
      go_wp2
      go_roundw
      case rel =>
        refine ⟨n + 1, by omega, by go_num, ?_, HF.out.set _ _ rfl _⟩
        have h1 := heap_setCell_same wr C n _ _ (Bv (x ^^^ y)) HG.out
        rw [List.setIfInBounds_toArray, ← List.map_set, HSet.out] at h1
        rw [HVal.out]
        exact h1
      case measure => simp [intOf]; omega
    · obtain rfl : n = 64 := by omega
      rw [xorB_all kb y 64 HKl.out] at hg
      have hhr := HH2.out.fr hf (by omega) (fun _ h => by cases h)
      have hbw : Below w.heap.size w wr := HB2.out.trans (hf.below HB2.out.size (fun k hk => by rw [hk, HCs.out]; exact HB1.out.size))
      have hslb : Sl wr 1 (.slice (some ⟨C, 0, none⟩) 64 64) (kb.map (· ^^^ y)).length ((kb.map (· ^^^ y)).map Bv) := by
        rw [List.length_map, HKl.out]; exact sl_row' hg rfl (by simp [HKl.out])
      have hwr1 := write_any B B none [] (kb.map (· ^^^ y)) _ wr hhr (by have := hf.size; omega) hslb (by rw [List.length_map, HKl.out]; simp)
      rw [List.nil_append] at hwr1
      have HWr1 := Lib.hid hwr1
      have HBw := Lib.hid hbw
      have HZr := Lib.hid ((hf.block w.heap.size (lt_of_block HZ2.out) (by have := HBs.out; omega)).trans HZ2.out)
      clear hg hf hhr hbw hslb hwr1
      go_wp2_with fail
      refine HWr1.out.mono ?_
      rintro e w4 ⟨rfl, row, hh4, hf4, hrow4⟩
      have hb4 : Below w.heap.size w w4 := HBw.out.trans (hf4.below HBw.out.size (by rintro k (rfl | h); have := HBs.out; omega; cases h))
      have hwr2 := write_any B B row (kb.map (· ^^^ y)) msg v w4 hh4 (by have := hf4.size; have := (lt_of_block HZr.out); have := hh4.mid.lt.1; omega) (HS.out w4 hb4) (by rw [List.length_map, HKl.out]; omega)
      have HWr2 := Lib.hid hwr2
      have HRow4 := Lib.hid (fun k (hk : row = some k) => (hh4.mid.lt.2 k hk).1)
      have HB4 := Lib.hid hb4
      have HZ4 := Lib.hid ((hf4.block w.heap.size (lt_of_block HZr.out) (by rintro (h | h); have := HBs.out; omega; cases h)).trans HZr.out)
      clear hh4 hf4 hrow4 hb4 hwr2
      go_wp2_with fail
      refine HWr2.out.mono ?_
      rintro e w5 ⟨rfl, row5, hh5, hf5, hrow5⟩
      have HB5 := Lib.hid (HB4.out.trans (hf5.below HB4.out.size (by rintro k (rfl | h); have := HBs.out; omega; have := HRow4.out k h; have := HBs.out; omega)))
      have HZ5 := Lib.hid ((hf5.block w.heap.size (lt_of_block HZ4.out) (by rintro (h | h); have := HBs.out; omega; have := HRow4.out _ h; have := HBs.out; omega)).trans HZ4.out)
      have hsm := sum_any B B row5 (kb.map (· ^^^ y) ++ msg) w5 hh5 (by rw [List.length_append, List.length_map, HKl.out]; omega)
      rw [← HHv.out] at hsm
      have HSm := Lib.hid hsm
      clear hh5 hf5 hrow5 hsm
      go_wp2_with fail
      refine HSm.out.mono ?_
      rintro e w6 ⟨rfl, hb6⟩
      have HZ6 := Lib.hid ((hb6.block w.heap.size (lt_of_block HZ5.out)).trans HZ5.out)
      have HB6 := Lib.hid (HB5.out.trans (hb6.mono HB5.out.size))
      clear hb6
      go_wp2_with (refine store_hash rfl (.tmp 9) (.tmp 32) rfl rfl rfl (heap_alloc_new _ _) rfl HVl.out ?_)
      intro w7 hg7 hf7
      have hbel7 : Below w6.heap.size w6 w7 := ((Below.refl _ w6).alloc (Nat.le_refl _) _).trans (hf7.below (by simp) (fun j hj => by omega))
      have HZ7 := Lib.hid ((hbel7.block w.heap.size (lt_of_block HZ6.out)).trans HZ6.out)
      have HB7 := Lib.hid (HB6.out.trans (hbel7.mono HB6.out.size))
      have HAt7 := Lib.hid (At.of_row hg7)
      clear hg7 hf7 hbel7
      go_wp2_with (first | (refine load_hash' rfl (.tmp 9) rfl rfl HAt7.out HVl.out ?_) | (refine store_hash rfl (.tmp 5) (.tmp 34) rfl rfl rfl HZ7.out (by simp [zB]) HVl.out ?_; intro w8 hg8 hf8))
      exact bodyPost_ret (ret_hash1 rfl rfl hg8 HVl.out) rfl ⟨rfl, HB7.out.trans (hf8.below HB7.out.size (fun j hj => by omega))⟩

theorem index_pads0 (w : World) : (Instr.index 121 (.agg #[.int .u8 54, .int .u8 92]) (.int .i64 0)).run Tryd.prog w = .ok (.int .u8 54) w := by kernel_rfl
theorem index_pads1 (w : World) : (Instr.index 121 (.agg #[.int .u8 54, .int .u8 92]) (.int .i64 1)).run Tryd.prog w = .ok (.int .u8 92) w := by kernel_rfl

set_option maxRecDepth 100000 in
set_option maxHeartbeats 4000000 in
theorem mac_any (vk vm : Value) (key msg : List UInt8) (w : World) (hk : Sl w 1 vk key.length (key.map Bv)) (hm : Sl w 1 vm msg.length (msg.map Bv)) (hr : key.length ≤ 140737488351232) (hr2 : msg.length + 64 ≤ 140737488351232) :
    Calls Tryd.prog 43 #[vk, vm] w fun e w' => e = .returned (.agg ((macN key msg).map Bv).toArray) ∧ Below w.heap.size w w' := by
  obtain ⟨hv, hhv⟩ : ∃ hv, hv = macN key msg := ⟨_, rfl⟩
  have hvl : hv.length = 32 := by rw [hhv]; exact macN_length _ _
  rw [← hhv]
  have hbel0 : Below w.heap.size w (w.alloc (.cells ((zB 32).map Bv).toArray 45)) := (Below.refl _ w).alloc (Nat.le_refl _) _
  have hz0 := heap_alloc_new w (.cells ((zB 32).map Bv).toArray 45)
  have hpad := pad_any vk key (w.alloc (.cells ((zB 32).map Bv).toArray 45)) (hk.below hbel0) hr
  have hkbl := keyB_length key
  unfold macN at hhv
  obtain ⟨kb, hkb⟩ : ∃ kb, kb = keyB key := ⟨_, rfl⟩
  rw [← hkb] at hpad hkbl hhv
  obtain ⟨inner, hin⟩ : ∃ inner, inner = hashN (kb.map (· ^^^ 0x36) ++ msg) := ⟨_, rfl⟩
  rw [← hin] at hhv
  have hinl : inner.length = 32 := by rw [hin]; exact hashN_length _
  have HHv := Lib.hid hhv
  have HIn := Lib.hid hin
  have HInl := Lib.hid hinl
  have HVl := Lib.hid hvl
  have HKl := Lib.hid hkbl
  have HM := Lib.hid (fun (w' : World) (hh : Below w.heap.size w w') => hm.below hh)
  have HB0 := Lib.hid hbel0
  have HZ0 := Lib.hid hz0
  have HPad := Lib.hid hpad
  have i0 := index_pads0
  have i1 := index_pads1
  clear hhv hin hinl hvl hkbl hk hm hbel0 hz0 hpad hkb
  go_enter Tryd.func43, Tryd.ntmps43
  go_wp2_with fail
  refine HPad.out.mono ?_
  rintro e w1 ⟨rfl, hb1⟩
  have HZ1 := Lib.hid ((hb1.block w.heap.size (lt_of_block HZ0.out)).trans HZ0.out)
  have HB1 := Lib.hid (HB0.out.trans (hb1.mono HB0.out.size))
  clear hb1
  go_wp2_with (refine store_b64 rfl (.tmp 5) (.tmp 11) rfl rfl rfl (heap_alloc_new _ _) rfl HKl.out ?_)
  intro w2 hg2 hf2
  have hbel2 : Below w1.heap.size w1 w2 := ((Below.refl _ w1).alloc (Nat.le_refl _) _).trans (hf2.below (by simp) (fun j hj => by omega))
  have HK2 := Lib.hid hg2
  have HZ2 := Lib.hid ((hbel2.block w.heap.size (lt_of_block HZ1.out)).trans HZ1.out)
  have HB2 := Lib.hid (HB1.out.trans (hbel2.mono HB1.out.size))
  have hw12 : w.heap.size < w1.heap.size := lt_of_block HZ1.out
  clear hg2 hf2 hbel2
  go_wp2_with fail
  refine (pads_any _).mono ?_
  rintro e w3 ⟨rfl, hb3⟩
  have hK3 := (hb3.block w1.heap.size (lt_of_block HK2.out)).trans HK2.out
  have HB3 := Lib.hid (HB2.out.trans (hb3.mono HB2.out.size))
  have HZ3 := Lib.hid ((hb3.block w.heap.size (lt_of_block HZ2.out)).trans HZ2.out)
  have hu1 := under_any 0x36 vm msg kb w1.heap.size w3 HKl.out hK3 (HM.out w3 HB3.out) hr2
  rw [← HIn.out] at hu1
  have HU1 := Lib.hid (show Calls Tryd.prog 69 #[.int .u8 54, vm, .pointer (some ⟨w1.heap.size, 0, none⟩)] w3 fun e w' => e = .returned (.agg (inner.map Bv).toArray) ∧ Below w3.heap.size w3 w' from hu1)
  have HK3 := Lib.hid hK3
  clear hb3 hK3 hu1
  go_wp2_with fail
  refine wp_loop_rounds 3 ?_
  rw [rounds_succ]
  go_wp2_with fail
  refine HU1.out.mono ?_
  rintro e w4 ⟨rfl, hb4⟩
  have HK4 := Lib.hid ((hb4.block w1.heap.size (lt_of_block HK3.out)).trans HK3.out)
  have HB4 := Lib.hid (HB3.out.trans (hb4.mono HB3.out.size))
  have HZ4 := Lib.hid ((hb4.block w.heap.size (lt_of_block HZ3.out)).trans HZ3.out)
  clear hb4
  go_wp2_with (refine store_hash rfl (.tmp 4) (.tmp 21) rfl rfl rfl HZ4.out (by simp [zB]) HInl.out ?_)
  intro w5 hg5 hf5
  have HB5 := Lib.hid (HB4.out.trans (hf5.below HB4.out.size (fun j hj => by omega)))
  have hK5 := (hf5.block w1.heap.size (lt_of_block HK4.out) (by omega)).trans HK4.out
  have hs5 : Sl w5 1 (.slice (some ⟨w.heap.size, 0, none⟩) 32 32) inner.length (inner.map Bv) := by rw [HInl.out]; exact sl_row' hg5 rfl (by simp [HInl.out])
  have hu2 := under_any 0x5C (.slice (some ⟨w.heap.size, 0, none⟩) 32 32) inner kb w1.heap.size w5 HKl.out hK5 hs5 (by rw [HInl.out]; decide)
  rw [← HHv.out] at hu2
  have HU2 := Lib.hid (show Calls Tryd.prog 69 #[.int .u8 92, .slice (some ⟨w.heap.size, 0, none⟩) 32 32, .pointer (some ⟨w1.heap.size, 0, none⟩)] w5 fun e w' => e = .returned (.agg (hv.map Bv).toArray) ∧ Below w5.heap.size w5 w' from hu2)
  have HZ5 := Lib.hid hg5
  clear hg5 hf5 hK5 hs5 hu2
  go_wp2_with fail
  rw [rounds_succ]
  go_wp2_with fail
  refine HU2.out.mono ?_
  rintro e w6 ⟨rfl, hb6⟩
  have HB6 := Lib.hid (HB5.out.trans (hb6.mono HB5.out.size))
  have HZ6 := Lib.hid ((hb6.block w.heap.size (lt_of_block HZ5.out)).trans HZ5.out)
  clear hb6
  go_wp2_with (refine store_hash rfl (.tmp 4) (.tmp 21) rfl rfl rfl HZ6.out (by simp [HInl.out]) HVl.out ?_)
  intro w7 hg7 hf7
  have HB7 := Lib.hid (HB6.out.trans (hf7.below HB6.out.size (fun j hj => by omega)))
  have HZ7 := Lib.hid hg7
  have HAt7 := Lib.hid (At.of_row hg7)
  clear hg7 hf7
  go_wp2_with fail
  rw [rounds_succ]
  go_wp2_with (first | (refine load_hash' rfl (.tmp 4) rfl rfl HAt7.out HVl.out ?_) | (refine store_hash rfl (.tmp 4) (.tmp 24) rfl rfl rfl HZ7.out (by simp [HVl.out]) HVl.out ?_; intro w8 hg8 hf8))
  exact bodyPost_ret (ret_hash1 rfl rfl hg8 HVl.out) rfl ⟨rfl, HB7.out.trans (hf8.below HB7.out.size (fun j hj => by omega))⟩
end Go.Proofs.YtdmgmpagnmmehaaDoor
