/- Walks: pool.Write. Walks: strings.Compare, slices.BinarySearchFunc over strings. Walks: sort.Search by node.Find's closure; node.Find. Walks: node.Find, the reference's Find. Plain laws: keys that rise, and where a key stands in them. Walk: banyanlaw09's great. Walks: the reference's Reader: Num, Str, Hash, End. The two Readers, each reading by one law: Str, Num, Raw, Hash; what stays of one while the other reads. -/
import Derived.Test.YtkbnkdokcmpcgaaGreatDoorB4
import Derived.Test.YtkbnkdokcmpcgaaGreatDoorB13
import Derived.Test.YtkbnkdokcmpcgaaGreatDoorB15
import Derived.Test.YtkbnkdokcmpcgaaGreatDoorB17
import Derived.Lib.Bytealg
import Derived.Deep.QuietTactic
import Derived.BigQuiet
namespace Go.Proofs.YtkbnkdokcmpcgaaGreatDoor
open Go.RowKit

/-- A node's bytes in a sector. -/
def nodeB (n : Nd) : List UInt8 := bytesN n ++ List.replicate (512 - sizeN n) 0
theorem ret_pe {fn : Func} {p u : Tmp} (h : fn.results = #[.cell p 43, .tmp u]) {tmps : Array Value} {w : World} {g : Nat} {q : Pt} {t : TypeId} (hp : tmps.getD p undef = .pointer (some ⟨g, 0, none⟩))
    (hg : w.heap[g]? = some (.cells q.arr t (0, 0))) (hl : q.Wf) :
    (results fn tmps).run Tryz.prog w = .ok (.tuple #[.agg q.arr, tmps.getD u undef]) w := by
  rw [results_cell_tmp h, hp]
  simp [asAddr, run_loadVar_row w g t 43 _ _ _ hg Tryz.underlying43 rfl (by rw [info_ptr]; simp [hl.size]), Result.andThen]

set_option maxRecDepth 100000 in
set_option maxHeartbeats 4000000 in
/-- No birth begun. -/
theorem poWrite_zero (P D S W size : Nat) (ks : List UInt8) (t : Nat → Bool) (arr : Array Value) (n : Nd) (w : World) (h : PlAt w P D S W size ks t 0) (hn : NdIs w arr n) :
    Calls Tryz.prog 19 #[.pointer (some ⟨P, 0, none⟩), .agg arr] w fun e w' => e = .returned (.tuple #[.agg Pt.zero.arr, .int .i64 2]) ∧ Fr (fun _ => False) w w' := by
  obtain ⟨ak, ck, av, cv, ap, cp, harr, hk, hv, hp⟩ := hn.get
  have HN := Lib.hid hn
  rw [harr] at HN ⊢
  clear hn
  have c66 := h.cells.2.2.2.1
  have hPl := h.lt P (Or.inl rfl)
  obtain ⟨W0, hW0⟩ : ∃ W0, W0 = (w.alloc (.cells #[.bool n.leaf, .slice ak n.keys.length ck, .slice av n.vals.length cv, .slice ap n.kids.length cp] 25)).alloc (.cells #[.int .u32 0, .int .u64 0, .int .u8 0, .int .u8 0, .int .u8 0, .int .u8 0, .int .u8 0, .int .u8 0, .int .u8 0, .int .u8 0, .int .u8 0, .int .u8 0, .int .u8 0, .int .u8 0, .int .u8 0, .int .u8 0, .int .u8 0, .int .u8 0, .int .u8 0, .int .u8 0, .int .u8 0, .int .u8 0, .int .u8 0, .int .u8 0, .int .u8 0, .int .u8 0, .int .u8 0, .int .u8 0, .int .u8 0, .int .u8 0, .int .u8 0, .int .u8 0, .int .u8 0, .int .u8 0] 43) := ⟨_, rfl⟩
  have hb0 : Below w.heap.size w W0 := by rw [hW0]; exact ((Below.refl _ w).alloc (Nat.le_refl _) _).alloc (by simp) _
  have hs0 : W0.heap.size = w.heap.size + 1 + 1 := by rw [hW0]; simp
  have hga0 : W0.heap[w.heap.size + 1]? = some (.cells Pt.zero.arr 43 (0, 0)) := by
    have h1 := heap_alloc_new (w.alloc (.cells #[.bool n.leaf, .slice ak n.keys.length ck, .slice av n.vals.length cv, .slice ap n.kids.length cp] 25)) (.cells #[.int .u32 0, .int .u64 0, .int .u8 0, .int .u8 0, .int .u8 0, .int .u8 0, .int .u8 0, .int .u8 0, .int .u8 0, .int .u8 0, .int .u8 0, .int .u8 0, .int .u8 0, .int .u8 0, .int .u8 0, .int .u8 0, .int .u8 0, .int .u8 0, .int .u8 0, .int .u8 0, .int .u8 0, .int .u8 0, .int .u8 0, .int .u8 0, .int .u8 0, .int .u8 0, .int .u8 0, .int .u8 0, .int .u8 0, .int .u8 0, .int .u8 0, .int .u8 0, .int .u8 0, .int .u8 0] 43)
    have h2 : (w.alloc (.cells #[.bool n.leaf, .slice ak n.keys.length ck, .slice av n.vals.length cv, .slice ap n.kids.length cp] 25)).heap.size = w.heap.size + 1 := by simp
    rw [h2] at h1
    rw [hW0]
    exact h1
  have HB0 := Lib.hid hb0
  have HS0 := Lib.hid hs0
  have HGA := Lib.hid hga0
  have HW0 := Lib.hid hW0
  have HH := Lib.hid h
  clear h hk hv hp harr hb0 hs0 hga0 hW0
  go_enter Tryz.func19, Tryz.ntmps19
  have HGA' := HGA
  rw [HW0.out] at HGA'
  go_wp2_with (refine store_ptr rfl (.tmp 4) (.tmp 19) rfl rfl (p := Pt.zero) rfl HGA'.out Pt.zero_wf.size Pt.zero_wf ?_; intro we hge hfe hse; have HGe := Lib.hid hge; have HFe := Lib.hid hfe; clear hge hfe hse)
  refine bodyPost_ret (ret_pe rfl rfl HGe.out Pt.zero_wf) rfl ?_
  rw [← HW0.out] at HFe
  exact ⟨rfl, (Fr.of_below (S := fun _ => False) HB0.out).step HFe.out (fun j e => Or.inr (by omega))⟩

set_option maxRecDepth 100000 in
set_option maxHeartbeats 4000000 in
/-- A node that may not be put. -/
theorem poWrite_bad (P D S W size birth : Nat) (ks : List UInt8) (t : Nat → Bool) (arr : Array Value) (n : Nd) (w : World) (h : PlAt w P D S W size ks t birth) (hn : NdIs w arr n) (h0 : 0 < birth) (hf : n.Fits) (hc : checkE n ≠ 0) :
    Calls Tryz.prog 19 #[.pointer (some ⟨P, 0, none⟩), .agg arr] w fun e w' => e = .returned (.tuple #[.agg Pt.zero.arr, .int .i64 (checkE n)]) ∧ Fr (fun _ => False) w w' := by
  obtain ⟨ak, ck, av, cv, ap, cp, harr, hk, hv, hp⟩ := hn.get
  have HN := Lib.hid hn
  rw [harr] at HN ⊢
  clear hn
  have c66 := h.cells.2.2.2.1
  have hPl := h.lt P (Or.inl rfl)
  obtain ⟨W0, hW0⟩ : ∃ W0, W0 = (w.alloc (.cells #[.bool n.leaf, .slice ak n.keys.length ck, .slice av n.vals.length cv, .slice ap n.kids.length cp] 25)).alloc (.cells #[.int .u32 0, .int .u64 0, .int .u8 0, .int .u8 0, .int .u8 0, .int .u8 0, .int .u8 0, .int .u8 0, .int .u8 0, .int .u8 0, .int .u8 0, .int .u8 0, .int .u8 0, .int .u8 0, .int .u8 0, .int .u8 0, .int .u8 0, .int .u8 0, .int .u8 0, .int .u8 0, .int .u8 0, .int .u8 0, .int .u8 0, .int .u8 0, .int .u8 0, .int .u8 0, .int .u8 0, .int .u8 0, .int .u8 0, .int .u8 0, .int .u8 0, .int .u8 0, .int .u8 0, .int .u8 0] 43) := ⟨_, rfl⟩
  have hb0 : Below w.heap.size w W0 := by rw [hW0]; exact ((Below.refl _ w).alloc (Nat.le_refl _) _).alloc (by simp) _
  have hs0 : W0.heap.size = w.heap.size + 1 + 1 := by rw [hW0]; simp
  have hga0 : W0.heap[w.heap.size + 1]? = some (.cells Pt.zero.arr 43 (0, 0)) := by
    have h1 := heap_alloc_new (w.alloc (.cells #[.bool n.leaf, .slice ak n.keys.length ck, .slice av n.vals.length cv, .slice ap n.kids.length cp] 25)) (.cells #[.int .u32 0, .int .u64 0, .int .u8 0, .int .u8 0, .int .u8 0, .int .u8 0, .int .u8 0, .int .u8 0, .int .u8 0, .int .u8 0, .int .u8 0, .int .u8 0, .int .u8 0, .int .u8 0, .int .u8 0, .int .u8 0, .int .u8 0, .int .u8 0, .int .u8 0, .int .u8 0, .int .u8 0, .int .u8 0, .int .u8 0, .int .u8 0, .int .u8 0, .int .u8 0, .int .u8 0, .int .u8 0, .int .u8 0, .int .u8 0, .int .u8 0, .int .u8 0, .int .u8 0, .int .u8 0] 43)
    have h2 : (w.alloc (.cells #[.bool n.leaf, .slice ak n.keys.length ck, .slice av n.vals.length cv, .slice ap n.kids.length cp] 25)).heap.size = w.heap.size + 1 := by simp
    rw [h2] at h1
    rw [hW0]
    exact h1
  have HB0 := Lib.hid hb0
  have HS0 := Lib.hid hs0
  have HGA := Lib.hid hga0
  have HW0 := Lib.hid hW0
  have HH := Lib.hid h
  clear h hk hv hp harr hb0 hs0 hga0 hW0
  have hbz : ((birth : Int) == 0) = false := by simp; omega
  have hcz : (checkE n != 0) = true := by simpa using hc
  have HPut := Lib.hid (put_bad _ n W0 (HN.out.below HB0.out) hf hc)
  clear h0 hf hc
  go_enter Tryz.func19, Tryz.ntmps19
  go_wp2_with fail
  rw [← HW0.out]
  refine HPut.out.mono ?_
  rintro e w1 ⟨rfl, hb1⟩
  have HB1 := Lib.hid hb1
  have HG1 := Lib.hid ((hb1.block _ (lt_of_block HGA.out)).trans HGA.out)
  clear hb1 HPut
  go_wp2_with (refine store_ptr rfl (.tmp 4) (.tmp 27) rfl rfl (p := Pt.zero) rfl HG1.out Pt.zero_wf.size Pt.zero_wf ?_; intro we hge hfe hse; have HGe := Lib.hid hge; have HFe := Lib.hid hfe; clear hge hfe hse)
  refine bodyPost_ret (ret_pe rfl rfl HGe.out Pt.zero_wf) rfl ?_
  exact ⟨rfl, (Fr.of_below (S := fun _ => False) (HB0.out.trans (HB1.out.mono HB0.out.size))).step HFe.out (fun j e => Or.inr (by omega))⟩

theorem nodeB_length {n : Nd} (h : formB n = true) (hw : ∀ p ∈ n.kids, p.Wf) (hs : sizeN n ≤ 512) : (nodeB n).length = 512 := by
  unfold nodeB; rw [List.length_append, bytesN_length h hw, List.length_replicate]; omega
theorem lowT_get {t : Nat → Bool} {size a : Nat} (h : lowT t size = some a) : 2 ≤ a ∧ a < size ∧ t a = false := by
  unfold lowT at h
  have h1 := List.mem_of_find?_eq_some h
  have h2 := List.find?_some h
  simp at h1 h2
  exact ⟨h2.1, h1, h2.2⟩

set_option maxRecDepth 100000 in
set_option maxHeartbeats 4000000 in
/-- No sector is free. -/
theorem poWrite_full (P D S W birth : Nat) (ks : List UInt8) (t : Nat → Bool) (d : Dv) (arr : Array Value) (n : Nd) (w : World) (h : PlAt w P D S W d.size ks t birth) (hn : NdIs w arr n) (hT : Tz w) (h0 : 0 < birth) (hf : n.Fits) (hfo : formB n = true) (hsz : sizeN n ≤ 512) (hl : lowT t d.size = none) :
    Calls Tryz.prog 19 #[.pointer (some ⟨P, 0, none⟩), .agg arr] w fun e w' => e = .returned (.tuple #[.agg Pt.zero.arr, .int .i64 6]) ∧ Fr (fun _ => False) w w' := by
  obtain ⟨ak, ck, av, cv, ap, cp, harr, hk, hv, hp⟩ := hn.get
  have HN := Lib.hid hn
  rw [harr] at HN ⊢
  have hkw : ∀ p ∈ n.kids, p.Wf := hp.wf
  clear hn
  have c66 := h.cells.2.2.2.1
  have hPl := h.lt P (Or.inl rfl)
  obtain ⟨W0, hW0⟩ : ∃ W0, W0 = (w.alloc (.cells #[.bool n.leaf, .slice ak n.keys.length ck, .slice av n.vals.length cv, .slice ap n.kids.length cp] 25)).alloc (.cells #[.int .u32 0, .int .u64 0, .int .u8 0, .int .u8 0, .int .u8 0, .int .u8 0, .int .u8 0, .int .u8 0, .int .u8 0, .int .u8 0, .int .u8 0, .int .u8 0, .int .u8 0, .int .u8 0, .int .u8 0, .int .u8 0, .int .u8 0, .int .u8 0, .int .u8 0, .int .u8 0, .int .u8 0, .int .u8 0, .int .u8 0, .int .u8 0, .int .u8 0, .int .u8 0, .int .u8 0, .int .u8 0, .int .u8 0, .int .u8 0, .int .u8 0, .int .u8 0, .int .u8 0, .int .u8 0] 43) := ⟨_, rfl⟩
  have hb0 : Below w.heap.size w W0 := by rw [hW0]; exact ((Below.refl _ w).alloc (Nat.le_refl _) _).alloc (by simp) _
  have hs0 : W0.heap.size = w.heap.size + 1 + 1 := by rw [hW0]; simp
  have hga0 : W0.heap[w.heap.size + 1]? = some (.cells Pt.zero.arr 43 (0, 0)) := by
    have h1 := heap_alloc_new (w.alloc (.cells #[.bool n.leaf, .slice ak n.keys.length ck, .slice av n.vals.length cv, .slice ap n.kids.length cp] 25)) (.cells #[.int .u32 0, .int .u64 0, .int .u8 0, .int .u8 0, .int .u8 0, .int .u8 0, .int .u8 0, .int .u8 0, .int .u8 0, .int .u8 0, .int .u8 0, .int .u8 0, .int .u8 0, .int .u8 0, .int .u8 0, .int .u8 0, .int .u8 0, .int .u8 0, .int .u8 0, .int .u8 0, .int .u8 0, .int .u8 0, .int .u8 0, .int .u8 0, .int .u8 0, .int .u8 0, .int .u8 0, .int .u8 0, .int .u8 0, .int .u8 0, .int .u8 0, .int .u8 0, .int .u8 0, .int .u8 0] 43)
    have h2 : (w.alloc (.cells #[.bool n.leaf, .slice ak n.keys.length ck, .slice av n.vals.length cv, .slice ap n.kids.length cp] 25)).heap.size = w.heap.size + 1 := by simp
    rw [h2] at h1
    rw [hW0]
    exact h1
  have HB0 := Lib.hid hb0
  have HS0 := Lib.hid hs0
  have HGA := Lib.hid hga0
  have HW0 := Lib.hid hW0
  have HH := Lib.hid h
  clear h hk hv hp harr hb0 hs0 hga0 hW0
  have hbz : ((birth : Int) == 0) = false := by simp; omega
  have HPut := Lib.hid (put_ok _ n W0 (HN.out.below HB0.out) hf hfo hsz)
  have HTz := Lib.hid hT
  have HLow := Lib.hid hl
  have HNl := Lib.hid (nodeB_length hfo hkw hsz)
  clear hf hfo hsz hT hl
  go_enter Tryz.func19, Tryz.ntmps19
  go_wp2_with fail
  rw [← HW0.out]
  refine HPut.out.mono ?_
  rintro e w1 ⟨aa, cc, rfl, hrow1, hb1⟩
  have HB1 := Lib.hid (HB0.out.trans (hb1.mono HB0.out.size))
  have HG1 := Lib.hid ((hb1.block _ (lt_of_block HGA.out)).trans HGA.out)
  have hrow1' : w1.ownsRow W0.heap.size 5 1 (.slice aa 512 cc) 512 ((nodeB n).map Bv) := hrow1
  have HR1 := Lib.hid hrow1'
  clear hb1 HPut hrow1 hrow1'
  have HP1 := Lib.hid (HH.out.below HB1.out)
  have c65 := HP1.out.cells.2.2.1
  have HTk := Lib.hid (spTake_any S W d.size t w1 HP1.out.sp (HTz.out.below HB1.out))
  go_wp2_with fail
  refine HTk.out.mono ?_
  rintro e w2 hpost
  unfold TkPost at hpost
  rw [HLow.out] at hpost
  obtain ⟨rfl, rfl⟩ := hpost
  go_wp2_with (refine store_ptr rfl (.tmp 4) (.tmp 39) rfl rfl (p := Pt.zero) rfl HG1.out Pt.zero_wf.size Pt.zero_wf ?_; intro we hge hfe hse; have HGe := Lib.hid hge; have HFe := Lib.hid hfe; clear hge hfe hse)
  refine bodyPost_ret (ret_pe rfl rfl HGe.out Pt.zero_wf) rfl ?_
  exact ⟨rfl, (Fr.of_below (S := fun _ => False) HB1.out).step HFe.out (fun j e => Or.inr (by omega))⟩

set_option maxRecDepth 100000 in
set_option maxHeartbeats 4000000 in
/-- All goes well. -/
theorem poWrite_ok (P D S W birth lo : Nat) (ks : List UInt8) (t : Nat → Bool) (Fd : Nat → Prop) (d : Dv) (arr : Array Value) (n : Nd) (w : World) (h : PlAt w P D S W d.size ks t birth) (hd : DvIn w lo D Fd d) (hdis : ∀ k, PlF P S W k → ¬ Fd k) (hn : NdIs w arr n) (hT : Tz w) (h0 : 0 < birth) (hf : n.Fits) (hfo : formB n = true) (hsz : sizeN n ≤ 512) (a : Nat) (hl : lowT t d.size = some a) (hdn : d.down = false) (hst : d.step.down = false) (hw : d.waits.length ≤ 1000000) :
    Calls Tryz.prog 19 #[.pointer (some ⟨P, 0, none⟩), .agg arr] w fun e w' => ∃ F', e = .returned (.tuple #[.agg (sealP ks birth a (nodeB n)).arr, .int .i64 0]) ∧ PlAt w' P D S W d.size ks (updT t a true) birth ∧ DvIn w' lo D F' (d.step.wrote a (cryptB (ks.take 32) (nonceB birth a) (nodeB n))) ∧ (∀ k, F' k → Fd k ∨ w.heap.size ≤ k) ∧ Fr (fun k => Fd k ∨ k = S ∨ k = W) w w' := by
  obtain ⟨ak, ck, av, cv, ap, cp, harr, hk, hv, hp⟩ := hn.get
  have HN := Lib.hid hn
  rw [harr] at HN ⊢
  have hkw : ∀ p ∈ n.kids, p.Wf := hp.wf
  clear hn
  have c66 := h.cells.2.2.2.1
  have hPl := h.lt P (Or.inl rfl)
  obtain ⟨W0, hW0⟩ : ∃ W0, W0 = (w.alloc (.cells #[.bool n.leaf, .slice ak n.keys.length ck, .slice av n.vals.length cv, .slice ap n.kids.length cp] 25)).alloc (.cells #[.int .u32 0, .int .u64 0, .int .u8 0, .int .u8 0, .int .u8 0, .int .u8 0, .int .u8 0, .int .u8 0, .int .u8 0, .int .u8 0, .int .u8 0, .int .u8 0, .int .u8 0, .int .u8 0, .int .u8 0, .int .u8 0, .int .u8 0, .int .u8 0, .int .u8 0, .int .u8 0, .int .u8 0, .int .u8 0, .int .u8 0, .int .u8 0, .int .u8 0, .int .u8 0, .int .u8 0, .int .u8 0, .int .u8 0, .int .u8 0, .int .u8 0, .int .u8 0, .int .u8 0, .int .u8 0] 43) := ⟨_, rfl⟩
  have hb0 : Below w.heap.size w W0 := by rw [hW0]; exact ((Below.refl _ w).alloc (Nat.le_refl _) _).alloc (by simp) _
  have hs0 : W0.heap.size = w.heap.size + 1 + 1 := by rw [hW0]; simp
  have hga0 : W0.heap[w.heap.size + 1]? = some (.cells Pt.zero.arr 43 (0, 0)) := by
    have h1 := heap_alloc_new (w.alloc (.cells #[.bool n.leaf, .slice ak n.keys.length ck, .slice av n.vals.length cv, .slice ap n.kids.length cp] 25)) (.cells #[.int .u32 0, .int .u64 0, .int .u8 0, .int .u8 0, .int .u8 0, .int .u8 0, .int .u8 0, .int .u8 0, .int .u8 0, .int .u8 0, .int .u8 0, .int .u8 0, .int .u8 0, .int .u8 0, .int .u8 0, .int .u8 0, .int .u8 0, .int .u8 0, .int .u8 0, .int .u8 0, .int .u8 0, .int .u8 0, .int .u8 0, .int .u8 0, .int .u8 0, .int .u8 0, .int .u8 0, .int .u8 0, .int .u8 0, .int .u8 0, .int .u8 0, .int .u8 0, .int .u8 0, .int .u8 0] 43)
    have h2 : (w.alloc (.cells #[.bool n.leaf, .slice ak n.keys.length ck, .slice av n.vals.length cv, .slice ap n.kids.length cp] 25)).heap.size = w.heap.size + 1 := by simp
    rw [h2] at h1
    rw [hW0]
    exact h1
  have HB0 := Lib.hid hb0
  have HS0 := Lib.hid hs0
  have HGA := Lib.hid hga0
  have HW0 := Lib.hid hW0
  have HH := Lib.hid h
  clear h hk hv hp harr hb0 hs0 hga0 hW0
  obtain ⟨Fs, hds, hFs, hFD⟩ := hd.small
  have HFs := Lib.hid hFs
  have HDs := Lib.hid hds
  have HDis := Lib.hid (show ∀ k, PlF P S W k → ¬ Fs k from fun k hk hF => hdis k hk (hFs k hF).1)
  have HLg := Lib.hid (lowT_get hl)
  have H0 := Lib.hid h0
  clear hd hds hFs hFD hdis
  have HDn := Lib.hid hdn
  have HSt := Lib.hid hst
  have HWn := Lib.hid hw
  clear hdn hst hw
  have hbz : ((birth : Int) == 0) = false := by simp; omega
  have HPut := Lib.hid (put_ok _ n W0 (HN.out.below HB0.out) hf hfo hsz)
  have HTz := Lib.hid hT
  have HLow := Lib.hid hl
  have HNl := Lib.hid (nodeB_length hfo hkw hsz)
  clear hf hfo hsz hT hl
  go_enter Tryz.func19, Tryz.ntmps19
  go_wp2_with fail
  rw [← HW0.out]
  refine HPut.out.mono ?_
  rintro e w1 ⟨aa, cc, rfl, hrow1, hb1⟩
  have HB1 := Lib.hid (HB0.out.trans (hb1.mono HB0.out.size))
  have HG1 := Lib.hid ((hb1.block _ (lt_of_block HGA.out)).trans HGA.out)
  have hrow1' : w1.ownsRow W0.heap.size 5 1 (.slice aa 512 cc) 512 ((nodeB n).map Bv) := hrow1
  have HR1 := Lib.hid hrow1'
  clear hb1 HPut hrow1 hrow1'
  have HP1 := Lib.hid (HH.out.below HB1.out)
  have c65 := HP1.out.cells.2.2.1
  have HTk := Lib.hid (spTake_any S W d.size t w1 HP1.out.sp (HTz.out.below HB1.out))
  go_wp2_with fail
  refine HTk.out.mono ?_
  rintro e w2 hpost
  unfold TkPost at hpost
  rw [HLow.out] at hpost
  obtain ⟨rfl, hsp2, hf2⟩ := hpost
  have hP2 : PlAt w2 P D S W d.size ks (updT t a true) birth := ⟨(hf2.block P (lt_of_block HP1.out.row) (by rintro (e | e); exact HP1.out.nPS e; exact HP1.out.nPW e)).trans HP1.out.row, hsp2, HP1.out.ks, HP1.out.birth, HP1.out.nPS, HP1.out.nPW⟩
  have hSl := HH.out.lt S (Or.inr (Or.inl rfl))
  have hWl := HH.out.lt W (Or.inr (Or.inr rfl))
  have hD2 : DvIn w2 lo D Fs d := (HDs.out.below HB1.out).fr hf2 (by rintro k hk (rfl | rfl); exact HDis.out _ (Or.inr (Or.inl rfl)) hk; exact HDis.out _ (Or.inr (Or.inr rfl)) hk)
  have hS2 : Sl w2 1 (.slice aa 512 cc) 512 ((nodeB n).map Bv) := by
    rcases HR1.out.2 with ⟨h1, _⟩ | ⟨g, cap, cur, h1, hge, hg, _, _, hcs, _⟩
    · cases h1
    · refine (Sl.own HR1.out).fr hf2 ?_
      intro q m c' e2
      rw [h1] at e2
      injection e2 with e3
      injection e3 with e4
      subst e4
      have := HS0.out
      rintro (e | e) <;> (dsimp only at e; omega)
  have HG2 := Lib.hid ((hf2.block _ (lt_of_block HG1.out) (by rintro (e | e) <;> omega)).trans HG1.out)
  have HF2 := Lib.hid (show Fr (fun k => k = S ∨ k = W) w w2 from ((Fr.of_below (S := fun _ => False) HB1.out).mono (fun _ _ h => h.elim)).trans hf2)
  have HPlc := Lib.hid (place_ok P D S W a birth lo ks (nodeB n) (updT t a true) Fs d (.slice aa 512 cc) w2 hP2 hD2 HDis.out ⟨HLg.out.1, HLg.out.2.1⟩ H0.out HNl.out hS2 HDn.out HSt.out HWn.out)
  have HHp := Lib.hid (⟨HP1.out.ks, HP1.out.birth, HLg.out.2.1, HH.out.sp.2.2.1⟩ : ks.length = 64 ∧ birth < 18446744073709551616 ∧ a < d.size ∧ d.size ≤ 4096)
  clear hP2 hD2 hS2 hf2 hsp2
  go_wp2_with fail
  refine HPlc.out.mono ?_
  rintro e w3 ⟨F', rfl, hp3, hd3, hf3, hfr3⟩
  have HP3 := Lib.hid hp3
  have HD3 := Lib.hid hd3
  have HF3 := Lib.hid hf3
  have HFr3 := Lib.hid hfr3
  have HG3 := Lib.hid ((hfr3.block _ (lt_of_block HG2.out) (fun hk => by have := (HFs.out _ hk).2; omega)).trans HG2.out)
  have hwf : (sealP ks birth a (nodeB n)).Wf := sealP_wf _ _ _ _ HHp.out.2.1 (by have := HHp.out; omega)
  clear hp3 hd3 hf3 hfr3 HPlc
  go_wp2_with (refine store_ptr rfl (.tmp 4) (.tmp 45) rfl rfl (p := sealP ks birth a (nodeB n)) rfl HG3.out Pt.zero_wf.size hwf ?_; intro we hge hfe hse; have HGe := Lib.hid hge; have HFe := Lib.hid hfe; clear hge hfe hse)
  refine bodyPost_ret (ret_pe rfl rfl HGe.out hwf) rfl ?_
  have hs2 := HF2.out.size
  refine ⟨F', rfl, HP3.out.fr HFe.out ?_, HD3.out.fr HFe.out ?_, ?_, ?_⟩
  · intro k hk e; have := HH.out.lt k hk; omega
  · intro k hk e
    rcases HF3.out k hk with h1 | h1
    · have := (HFs.out k h1).2; omega
    · have := lt_of_block HG2.out; omega
  · exact fun k hk => (HF3.out k hk).imp (fun h => (HFs.out k h).1) (fun h => by omega)
  · refine Fr.step (((HF2.out.mono (fun k _ h => Or.inr h)).trans (HFr3.out.mono (fun k _ h => Or.inl (HFs.out k h).1)))) HFe.out (fun j e => Or.inr (by omega))

set_option maxRecDepth 100000 in
set_option maxHeartbeats 4000000 in
/-- The device takes nothing. -/
theorem poWrite_down (P D S W birth lo : Nat) (ks : List UInt8) (t : Nat → Bool) (Fd : Nat → Prop) (d : Dv) (arr : Array Value) (n : Nd) (w : World) (h : PlAt w P D S W d.size ks t birth) (hd : DvIn w lo D Fd d) (hdis : ∀ k, PlF P S W k → ¬ Fd k) (hn : NdIs w arr n) (hT : Tz w) (h0 : 0 < birth) (hf : n.Fits) (hfo : formB n = true) (hsz : sizeN n ≤ 512) (a : Nat) (hl : lowT t d.size = some a) (hno : d.down = true ∨ d.step.down = true) :
    Calls Tryz.prog 19 #[.pointer (some ⟨P, 0, none⟩), .agg arr] w fun e w' => e = .returned (.tuple #[.agg Pt.zero.arr, .int .i64 7]) ∧ PlAt w' P D S W d.size ks t birth ∧ DvIn w' lo D Fd d.miss ∧ Fr (fun k => Fd k ∨ k = S ∨ k = W) w w' := by
  obtain ⟨ak, ck, av, cv, ap, cp, harr, hk, hv, hp⟩ := hn.get
  have HN := Lib.hid hn
  rw [harr] at HN ⊢
  have hkw : ∀ p ∈ n.kids, p.Wf := hp.wf
  clear hn
  have c66 := h.cells.2.2.2.1
  have hPl := h.lt P (Or.inl rfl)
  obtain ⟨W0, hW0⟩ : ∃ W0, W0 = (w.alloc (.cells #[.bool n.leaf, .slice ak n.keys.length ck, .slice av n.vals.length cv, .slice ap n.kids.length cp] 25)).alloc (.cells #[.int .u32 0, .int .u64 0, .int .u8 0, .int .u8 0, .int .u8 0, .int .u8 0, .int .u8 0, .int .u8 0, .int .u8 0, .int .u8 0, .int .u8 0, .int .u8 0, .int .u8 0, .int .u8 0, .int .u8 0, .int .u8 0, .int .u8 0, .int .u8 0, .int .u8 0, .int .u8 0, .int .u8 0, .int .u8 0, .int .u8 0, .int .u8 0, .int .u8 0, .int .u8 0, .int .u8 0, .int .u8 0, .int .u8 0, .int .u8 0, .int .u8 0, .int .u8 0, .int .u8 0, .int .u8 0] 43) := ⟨_, rfl⟩
  have hb0 : Below w.heap.size w W0 := by rw [hW0]; exact ((Below.refl _ w).alloc (Nat.le_refl _) _).alloc (by simp) _
  have hs0 : W0.heap.size = w.heap.size + 1 + 1 := by rw [hW0]; simp
  have hga0 : W0.heap[w.heap.size + 1]? = some (.cells Pt.zero.arr 43 (0, 0)) := by
    have h1 := heap_alloc_new (w.alloc (.cells #[.bool n.leaf, .slice ak n.keys.length ck, .slice av n.vals.length cv, .slice ap n.kids.length cp] 25)) (.cells #[.int .u32 0, .int .u64 0, .int .u8 0, .int .u8 0, .int .u8 0, .int .u8 0, .int .u8 0, .int .u8 0, .int .u8 0, .int .u8 0, .int .u8 0, .int .u8 0, .int .u8 0, .int .u8 0, .int .u8 0, .int .u8 0, .int .u8 0, .int .u8 0, .int .u8 0, .int .u8 0, .int .u8 0, .int .u8 0, .int .u8 0, .int .u8 0, .int .u8 0, .int .u8 0, .int .u8 0, .int .u8 0, .int .u8 0, .int .u8 0, .int .u8 0, .int .u8 0, .int .u8 0, .int .u8 0] 43)
    have h2 : (w.alloc (.cells #[.bool n.leaf, .slice ak n.keys.length ck, .slice av n.vals.length cv, .slice ap n.kids.length cp] 25)).heap.size = w.heap.size + 1 := by simp
    rw [h2] at h1
    rw [hW0]
    exact h1
  have HB0 := Lib.hid hb0
  have HS0 := Lib.hid hs0
  have HGA := Lib.hid hga0
  have HW0 := Lib.hid hW0
  have HH := Lib.hid h
  clear h hk hv hp harr hb0 hs0 hga0 hW0
  obtain ⟨Fs, hds, hFs, hFD⟩ := hd.small
  have HFs := Lib.hid hFs
  have HDs := Lib.hid hds
  have HDis := Lib.hid (show ∀ k, PlF P S W k → ¬ Fs k from fun k hk hF => hdis k hk (hFs k hF).1)
  have HLg := Lib.hid (lowT_get hl)
  have H0 := Lib.hid h0
  clear hd hds hFs hFD hdis
  have HNo := Lib.hid hno
  clear hno
  have hbz : ((birth : Int) == 0) = false := by simp; omega
  have HPut := Lib.hid (put_ok _ n W0 (HN.out.below HB0.out) hf hfo hsz)
  have HTz := Lib.hid hT
  have HLow := Lib.hid hl
  have HNl := Lib.hid (nodeB_length hfo hkw hsz)
  clear hf hfo hsz hT hl
  go_enter Tryz.func19, Tryz.ntmps19
  go_wp2_with fail
  rw [← HW0.out]
  refine HPut.out.mono ?_
  rintro e w1 ⟨aa, cc, rfl, hrow1, hb1⟩
  have HB1 := Lib.hid (HB0.out.trans (hb1.mono HB0.out.size))
  have HG1 := Lib.hid ((hb1.block _ (lt_of_block HGA.out)).trans HGA.out)
  have hrow1' : w1.ownsRow W0.heap.size 5 1 (.slice aa 512 cc) 512 ((nodeB n).map Bv) := hrow1
  have HR1 := Lib.hid hrow1'
  clear hb1 HPut hrow1 hrow1'
  have HP1 := Lib.hid (HH.out.below HB1.out)
  have c65 := HP1.out.cells.2.2.1
  have HTk := Lib.hid (spTake_any S W d.size t w1 HP1.out.sp (HTz.out.below HB1.out))
  go_wp2_with fail
  refine HTk.out.mono ?_
  rintro e w2 hpost
  unfold TkPost at hpost
  rw [HLow.out] at hpost
  obtain ⟨rfl, hsp2, hf2⟩ := hpost
  have hP2 : PlAt w2 P D S W d.size ks (updT t a true) birth := ⟨(hf2.block P (lt_of_block HP1.out.row) (by rintro (e | e); exact HP1.out.nPS e; exact HP1.out.nPW e)).trans HP1.out.row, hsp2, HP1.out.ks, HP1.out.birth, HP1.out.nPS, HP1.out.nPW⟩
  have hSl := HH.out.lt S (Or.inr (Or.inl rfl))
  have hWl := HH.out.lt W (Or.inr (Or.inr rfl))
  have hD2 : DvIn w2 lo D Fs d := (HDs.out.below HB1.out).fr hf2 (by rintro k hk (rfl | rfl); exact HDis.out _ (Or.inr (Or.inl rfl)) hk; exact HDis.out _ (Or.inr (Or.inr rfl)) hk)
  have hS2 : Sl w2 1 (.slice aa 512 cc) 512 ((nodeB n).map Bv) := by
    rcases HR1.out.2 with ⟨h1, _⟩ | ⟨g, cap, cur, h1, hge, hg, _, _, hcs, _⟩
    · cases h1
    · refine (Sl.own HR1.out).fr hf2 ?_
      intro q m c' e2
      rw [h1] at e2
      injection e2 with e3
      injection e3 with e4
      subst e4
      have := HS0.out
      rintro (e | e) <;> (dsimp only at e; omega)
  have HG2 := Lib.hid ((hf2.block _ (lt_of_block HG1.out) (by rintro (e | e) <;> omega)).trans HG1.out)
  have HF2 := Lib.hid (show Fr (fun k => k = S ∨ k = W) w w2 from ((Fr.of_below (S := fun _ => False) HB1.out).mono (fun _ _ h => h.elim)).trans hf2)
  have HPlc := Lib.hid (place_bad P D S W a birth lo ks (nodeB n) (updT t a true) Fs d (.slice aa 512 cc) w2 hP2 hD2 HDis.out ⟨HLg.out.1, HLg.out.2.1⟩ H0.out HNl.out hS2 HNo.out (by simp [updT]))
  clear hP2 hD2 hS2 hf2 hsp2
  go_wp2_with fail
  refine HPlc.out.mono ?_
  rw [show updT (updT t a true) a false = t from (updT_back t a true false).trans (updT_same t a false HLg.out.2.2)]
  rintro e w3 ⟨rfl, hp3, hd3, hfr3⟩
  have HP3 := Lib.hid hp3
  have HD3 := Lib.hid hd3
  have HFr3 := Lib.hid hfr3
  have HG3 := Lib.hid ((hfr3.block _ (lt_of_block HG2.out) (by rintro (hk | e | e); (· have := (HFs.out _ hk).2; omega); (· omega); (· omega))).trans HG2.out)
  clear hp3 hd3 hfr3 HPlc
  go_wp2_with (refine store_ptr rfl (.tmp 4) (.tmp 45) rfl rfl (p := Pt.zero) rfl HG3.out Pt.zero_wf.size Pt.zero_wf ?_; intro we hge hfe hse; have HGe := Lib.hid hge; have HFe := Lib.hid hfe; clear hge hfe hse)
  refine bodyPost_ret (ret_pe rfl rfl HGe.out Pt.zero_wf) rfl ?_
  have hs2 := HF2.out.size
  refine ⟨rfl, HP3.out.fr HFe.out ?_, ?_, ?_⟩
  · intro k hk e; have := HH.out.lt k hk; omega
  · obtain ⟨L, T, wv, h1, h2⟩ := HD3.out.fr HFe.out (fun k hk e => by have := (HFs.out k hk).2; omega)
    exact ⟨L, T, wv, h1, fun k hk => (HFs.out k (h2 k hk)).1⟩
  · refine Fr.step (((HF2.out.mono (fun k _ h => Or.inr h)).trans (HFr3.out.mono (fun k _ h => h.imp (fun h => (HFs.out k h).1) id)))) HFe.out (fun j e => Or.inr (by omega))

end Go.Proofs.YtkbnkdokcmpcgaaGreatDoor
namespace Go.Proofs.YtkbnkdokcmpcgaaGreatDoor
open Go.RowKit

theorem compareBytes_eq : ∀ (a b : List UInt8), Lib.compareBytes a b = if a < b then -1 else if a = b then 0 else 1
  | [], [] => by simp [Lib.compareBytes]
  | [], _ :: _ => by simp [Lib.compareBytes]
  | _ :: _, [] => by simp [Lib.compareBytes]
  | x :: a, y :: b => by
    have ih := compareBytes_eq a b
    unfold Lib.compareBytes
    simp only [List.cons_lt_cons_iff]
    by_cases h1 : x < y
    · simp [h1]
    · by_cases h2 : y < x
      · have hne : x ≠ y := fun e => UInt8.lt_irrefl x (by rw [e] at h2 ⊢; exact h2)
        simp [h1, h2, hne]
      · have he : x = y := UInt8.le_antisymm (UInt8.not_lt.1 h2) (UInt8.not_lt.1 h1)
        subst he
        simp [h1, ih]

/-- How two strings stand: less, the same, greater. -/
def cmpS (a b : ByteArray) : Int := if sLt a b then -1 else if sEq a b then 0 else 1
theorem cmpS_eq (a b : ByteArray) : Lib.compareBytes a.data.toList b.data.toList = cmpS a b := by
  rw [compareBytes_eq]
  unfold cmpS
  have h1 := sLt_iff a b
  have h2 : sEq a b = true ↔ a.data.toList = b.data.toList := by
    rw [sEq_iff]
    exact ⟨fun h => by rw [h], fun h => ByteArray.ext (Array.toList_inj.1 h)⟩
  simp only [h1, h2]
theorem cmpS_neg (a b : ByteArray) : decide (cmpS a b < 0) = sLt a b := by
  unfold cmpS; cases sLt a b
  · cases sEq a b <;> rfl
  · rfl
theorem sLt_irrefl (a : ByteArray) : sLt a a = false := by
  rw [Bool.eq_false_iff]; intro h; exact List.lt_irrefl _ ((sLt_iff a a).1 h)
theorem cmpS_zero (a b : ByteArray) : (cmpS a b == 0) = sEq a b := by
  unfold cmpS
  cases h1 : sLt a b with
  | false => cases sEq a b <;> rfl
  | true =>
    cases h2 : sEq a b with
    | false => rfl
    | true =>
      have := (sEq_iff a b).1 h2
      subst this
      rw [sLt_irrefl] at h1
      cases h1
theorem sLt_trans {a b c : ByteArray} (h1 : sLt a b = true) (h2 : sLt b c = true) : sLt a c = true :=
  (sLt_iff a c).2 (List.lt_trans ((sLt_iff a b).1 h1) ((sLt_iff b c).1 h2))

set_option maxHeartbeats 1000000 in
set_option maxRecDepth 100000 in
theorem compareString_any (a b : ByteArray) (w : World) : Calls Tryz.prog 198 #[.string a, .string b] w fun e w' => e = .returned (.int .i64 (cmpS a b)) ∧ w = w' := by
  go_enter Tryz.func198, Tryz.ntmps198
  go_wp2
  rw [run_callFunc_extern Tryz.func209 (by kernel_rfl) (by kernel_rfl) (by kernel_rfl) (e := Extern.BytealgCompare.compare) (by kernel_rfl), Lib.run_compareString]
  simp only [Result.andThen]
  rw [Oper.upon_value]
  go_wp2
  go_ret
  exact ⟨by rw [cmpS_eq]; rfl, rfl⟩

theorem compare_any (a b : ByteArray) (w : World) : Calls Tryz.prog 175 #[.string a, .string b] w fun e w' => e = .returned (.int .i64 (cmpS a b)) ∧ w = w' := by
  go_enter Tryz.func175, Tryz.ntmps175
  go_wp2_with fail
  refine (compareString_any a b _).mono ?_
  rintro e w1 ⟨rfl, rfl⟩
  go_wp2
  go_ret
  exact ⟨rfl, rfl⟩

/-- Keys that rise. -/
def Rising (l : List ByteArray) : Prop := ∀ i j (hj : j < l.length) (hij : i < j), sLt (l[i]'(by omega)) l[j] = true
/-- i parts the keys into those that are less, and the others. -/
def PartAt (p : ByteArray → Bool) (l : List ByteArray) (i : Nat) : Prop := i ≤ l.length ∧ (∀ j (h : j < l.length), j < i → p l[j] = true) ∧ (∀ j (h : j < l.length), i ≤ j → p l[j] = false)
def SearchPost (l : List ByteArray) (key : ByteArray) (w : World) (e : Ending) (w' : World) : Prop :=
  ∃ (i : Nat), e = .returned (.tuple #[.int .i64 (i : Int), .bool (decide (i < l.length) && sEq (l.getD i ⟨#[]⟩) key)]) ∧ PartAt (fun k => sLt k key) l i ∧ w = w'

set_option maxRecDepth 100000 in
set_option maxHeartbeats 2000000 in
theorem search_any (v : Value) (l : List ByteArray) (key : ByteArray) (w : World) (h : StrsIn w v l) (hr : l.length ≤ 140737488351232) (hs : Rising l) :
    Calls Tryz.prog 174 #[v, .string key, .func (.func 175) #[] #[]] w (SearchPost l key w) := by
  obtain ⟨a, cap, rfl, hel⟩ := h.open
  have HE := Lib.hid hel
  have HS := Lib.hid hs
  clear h hel hs
  go_enter Tryz.func174, Tryz.ntmps174
  go_wp2
  go_loop [9, 10] (fun x y => ∃ lo hi : Nat, lo ≤ hi ∧ hi ≤ l.length ∧ x = .int .i64 lo ∧ y = .int .i64 hi ∧ (∀ j (h : j < l.length), j < lo → sLt l[j] key = true) ∧ (∀ j (h : j < l.length), hi ≤ j → sLt l[j] key = false)) (fun x y => (intOf y).toNat - (intOf x).toNat)
  case atStart => exact ⟨0, l.length, Nat.zero_le _, Nat.le_refl _, rfl, rfl, fun j _ hj => by omega, fun j h hj => by omega⟩
  case round =>
    obtain ⟨lo, hi, hle, hhi, rfl, rfl, h1, h2⟩ := hrel
    have H1 := Lib.hid h1
    have H2 := Lib.hid h2
    clear h1 h2
    rcases Nat.lt_or_ge lo hi with hlt | hge
    · obtain ⟨m, hm⟩ : ∃ m, m = (lo + hi) / 2 := ⟨_, rfl⟩
      have em : ((lo : Int) + (hi : Int)) / 2 = (m : Int) := by omega
      have hm1 : lo ≤ m := by omega
      have hm2 : m < hi := by omega
      have hml : m < l.length := by omega
      obtain ⟨b, o, rfl, hc⟩ := HE.out m hml
      obtain ⟨s, hs⟩ : ∃ s, s = l[m]'hml := ⟨_, rfl⟩
      rw [← hs] at hc
      have HX := Lib.hid hs
      have HN := Lib.hid (cmpS_neg s key)
      clear hs hm
      go_wp2_with fail
      refine (compare_any s key _).mono ?_
      rintro e w1 ⟨rfl, rfl⟩
      cases hl : sLt s key with
      | true =>
        have hneg : cmpS s key < 0 := of_decide_eq_true (HN.out.trans hl)
        have HL := Lib.hid hl
        clear hl
        go_wp2
        go_round
        case rel =>
          refine ⟨m + 1, hi, by omega, hhi, by go_num, rfl, fun j hj hjm => ?_, H2.out⟩
          rcases Nat.lt_or_ge j m with h | h
          · have h3 := HS.out j m hml h
            rw [← HX.out] at h3
            exact sLt_trans h3 HL.out
          · obtain rfl : j = m := by omega
            rw [← HX.out]; exact HL.out
        case measure => simp [intOf]; omega
      | false =>
        have hneg : ¬ cmpS s key < 0 := of_decide_eq_false (HN.out.trans hl)
        have HL := Lib.hid hl
        clear hl
        go_wp2
        go_round
        case rel =>
          refine ⟨lo, m, hm1, by omega, rfl, rfl, H1.out, fun j hj hjm => ?_⟩
          rcases Nat.lt_or_ge m j with h | h
          · have h3 := HS.out m j hj h
            rw [← HX.out] at h3
            rw [Bool.eq_false_iff]
            intro h4
            have h5 := sLt_trans h3 h4
            rw [HL.out] at h5
            cases h5
          · obtain rfl : j = m := by omega
            rw [← HX.out]; exact HL.out
        case measure => simp [intOf]; omega
    · obtain rfl : lo = hi := by omega
      have hP : PartAt (fun k => sLt k key) l lo := ⟨hhi, H1.out, H2.out⟩
      have HP := Lib.hid hP
      clear hP
      rcases Nat.lt_or_ge lo l.length with hin | hout
      · obtain ⟨b, o, rfl, hc⟩ := HE.out lo hin
        obtain ⟨s, hs⟩ : ∃ s, s = l[lo]'hin := ⟨_, rfl⟩
        rw [← hs] at hc
        have hg : l.getD lo ⟨#[]⟩ = s := by rw [hs, List.getD_eq_getElem?_getD, List.getElem?_eq_getElem hin]; rfl
        have HG := Lib.hid hg
        have HD := Lib.hid (decide_eq_true hin)
        have HZ := Lib.hid (cmpS_zero s key)
        clear hs hg
        go_wp2_with fail
        refine (compare_any s key _).mono ?_
        rintro e w1 ⟨rfl, rfl⟩
        go_wp2
        go_ret2
        exact ⟨lo, by rw [HG.out, HD.out, ← HZ.out]; rfl, HP.out, rfl⟩
      · have HD := Lib.hid (decide_eq_false (show ¬ lo < l.length by omega))
        go_wp2
        go_ret2
        exact ⟨lo, by rw [HD.out]; rfl, HP.out, rfl⟩

end Go.Proofs.YtkbnkdokcmpcgaaGreatDoor
namespace Go.Proofs.YtkbnkdokcmpcgaaGreatDoor
open Go.RowKit

def gtS (a b : ByteArray) : Bool := !(sLt a b || sEq a b)
theorem list_tri : ∀ a b : List UInt8, a < b ∨ a = b ∨ b < a
  | [], [] => Or.inr (Or.inl rfl)
  | [], _ :: _ => Or.inl (by simp)
  | _ :: _, [] => Or.inr (Or.inr (by simp))
  | x :: a, y :: b => by
    simp only [List.cons_lt_cons_iff, List.cons.injEq]
    by_cases h1 : x < y
    · exact Or.inl (Or.inl h1)
    · by_cases h2 : y < x
      · exact Or.inr (Or.inr (Or.inl h2))
      · have he : x = y := UInt8.le_antisymm (UInt8.not_lt.1 h2) (UInt8.not_lt.1 h1)
        subst he
        rcases list_tri a b with h | h | h
        · exact Or.inl (Or.inr ⟨rfl, h⟩)
        · exact Or.inr (Or.inl ⟨rfl, h⟩)
        · exact Or.inr (Or.inr (Or.inr ⟨rfl, h⟩))
theorem gtS_eq (a b : ByteArray) : gtS a b = sLt b a := by
  unfold gtS
  cases h1 : sLt a b with
  | true =>
    cases h2 : sLt b a with
    | false => rfl
    | true => have := sLt_trans h1 h2; rw [sLt_irrefl] at this; cases this
  | false =>
    cases h2 : sEq a b with
    | true =>
      have := (sEq_iff a b).1 h2
      subst this
      rw [sLt_irrefl]; rfl
    | false =>
      cases h3 : sLt b a with
      | true => rfl
      | false =>
        exfalso
        rcases list_tri a.data.toList b.data.toList with h | h | h
        · rw [(sLt_iff a b).2 h] at h1; cases h1
        · have : a = b := ByteArray.ext (Array.toList_inj.1 h)
          rw [(sEq_iff a b).2 this] at h2; cases h2
        · rw [(sLt_iff b a).2 h] at h3; cases h3
theorem Fr_drewF (S : Nat → Prop) (w : World) (n : Nat) : Fr S w (w.drewN n) := ⟨rfl, rfl, rfl, Nat.le_refl _, fun _ _ _ => rfl⟩

set_option maxHeartbeats 1000000 in
theorem find1_any (b1 b2 : Nat) (l : List ByteArray) (key : ByteArray) (i : Nat) (v : Value) (w : World) (h : StrsIn w v l) (hi : i < l.length) (c1 : w.cell? ⟨b1, 1, none⟩ = some v) (c2 : w.cell? ⟨b2, 0, none⟩ = some (.string key)) :
    Calls Tryz.prog 177 #[.int .i64 (i : Int), .pointer (some ⟨b1, 0, none⟩), .pointer (some ⟨b2, 0, none⟩)] w fun e w' => e = .returned (.bool (gtS l[i] key)) ∧ ∃ n, w' = w.drewN n := by
  obtain ⟨a, cap, rfl, hel⟩ := h.open
  obtain ⟨b, o, rfl, hc⟩ := hel i hi
  obtain ⟨s, hs⟩ : ∃ s, s = l[i]'hi := ⟨_, rfl⟩
  rw [← hs] at hc ⊢
  have HG := Lib.hid (show gtS s key = (!Op.bytesLess s.toList key.toList && !s.toList == key.toList) by unfold gtS sLt sEq; rw [Bool.not_or])
  clear h hel hs
  go_enter Tryz.func177, Tryz.ntmps177
  go_wp2
  go_quiet (fail)
  go_wp2
  go_ret
  exact ⟨by rw [HG.out]; rfl, _, rfl⟩

def SortPost (l : List ByteArray) (key : ByteArray) (w : World) (e : Ending) (w' : World) : Prop :=
  ∃ (i : Nat), e = .returned (.int .i64 (i : Int)) ∧ PartAt (fun k => !gtS k key) l i ∧ ∃ n, w' = w.drewN n

set_option maxRecDepth 100000 in
set_option maxHeartbeats 2000000 in
theorem sortSearch_any (b1 b2 : Nat) (l : List ByteArray) (key : ByteArray) (v : Value) (w : World) (h : StrsIn w v l) (hr : l.length ≤ 140737488351232) (hs : Rising l) (c1 : w.cell? ⟨b1, 1, none⟩ = some v) (c2 : w.cell? ⟨b2, 0, none⟩ = some (.string key)) :
    Calls Tryz.prog 176 #[.int .i64 (l.length : Int), .func (.func 177) #[] #[.pointer (some ⟨b1, 0, none⟩), .pointer (some ⟨b2, 0, none⟩)]] w (SortPost l key w) := by
  have HE := Lib.hid (fun n i hi => find1_any b1 b2 l key i v (w.drewN n) (h.fr (Fr_drewF (fun _ => False) w n) (fun _ _ _ _ => id)) hi c1 c2)
  have HS := Lib.hid hs
  clear h hs c1 c2
  go_enter Tryz.func176, Tryz.ntmps176
  go_wp2
  go_loopw [5, 6] (fun x y wr => ∃ lo hi : Nat, lo ≤ hi ∧ hi ≤ l.length ∧ x = .int .i64 lo ∧ y = .int .i64 hi ∧ (∀ j (h : j < l.length), j < lo → gtS l[j] key = false) ∧ (∀ j (h : j < l.length), hi ≤ j → gtS l[j] key = true) ∧ ∃ n, wr = w.drewN n) (fun x y _ => (intOf y).toNat - (intOf x).toNat)
  case atStart => exact ⟨0, l.length, Nat.zero_le _, Nat.le_refl _, rfl, rfl, fun j _ hj => by omega, fun j h hj => by omega, 0, rfl⟩
  case round =>
    obtain ⟨lo, hi, hle, hhi, rfl, rfl, h1, h2, nd, rfl⟩ := hrel
    have H1 := Lib.hid h1
    have H2 := Lib.hid h2
    clear h1 h2
    rcases Nat.lt_or_ge lo hi with hlt | hge
    · obtain ⟨m, hm⟩ : ∃ m, m = (lo + hi) / 2 := ⟨_, rfl⟩
      have em : ((lo : Int) + (hi : Int)) / 2 = (m : Int) := by omega
      have hm1 : lo ≤ m := by omega
      have hm2 : m < hi := by omega
      have hml : m < l.length := by omega
      have hcl := HE.out nd m hml
      obtain ⟨s, hx⟩ : ∃ s, s = l[m]'hml := ⟨_, rfl⟩
      rw [← hx] at hcl
      have HX := Lib.hid hx
      have HCl := Lib.hid hcl
      clear hx hm hcl
      go_wp2_with fail
      refine HCl.out.mono ?_
      rintro e w1 ⟨rfl, n1, rfl⟩
      rw [World.drewN_drewN]
      cases hl : gtS s key with
      | true =>
        have HL := Lib.hid hl
        clear hl
        go_wp2
        go_roundw
        case rel =>
          refine ⟨lo, m, hm1, by omega, rfl, rfl, H1.out, fun j hj hjm => ?_, nd + n1, rfl⟩
          rcases Nat.lt_or_ge m j with h | h
          · have h3 := HS.out m j hj h
            rw [← HX.out] at h3
            rw [gtS_eq]
            have h4 := HL.out
            rw [gtS_eq] at h4
            exact sLt_trans h4 h3
          · obtain rfl : j = m := by omega
            rw [← HX.out]; exact HL.out
        case measure => simp [intOf]; omega
      | false =>
        have HL := Lib.hid hl
        clear hl
        go_wp2
        go_roundw
        case rel =>
          refine ⟨m + 1, hi, by omega, hhi, by go_num, rfl, fun j hj hjm => ?_, H2.out, nd + n1, rfl⟩
          rcases Nat.lt_or_ge j m with h | h
          · have h3 := HS.out j m hml h
            rw [← HX.out] at h3
            rw [gtS_eq, Bool.eq_false_iff]
            intro h5
            have h4 := HL.out
            rw [gtS_eq] at h4
            rw [sLt_trans h5 h3] at h4
            cases h4
          · obtain rfl : j = m := by omega
            rw [← HX.out]; exact HL.out
        case measure => simp [intOf]; omega
    · obtain rfl : lo = hi := by omega
      have hP : PartAt (fun k => !gtS k key) l lo := ⟨hhi, fun j h hj => by simp [H1.out j h hj], fun j h hj => by simp [H2.out j h hj]⟩
      have HP := Lib.hid hP
      clear hP
      go_wp2
      go_ret
      exact ⟨lo, rfl, HP.out, nd, rfl⟩

end Go.Proofs.YtkbnkdokcmpcgaaGreatDoor
namespace Go.Proofs.YtkbnkdokcmpcgaaGreatDoor
open Go.RowKit

theorem PartAt.count {p : ByteArray → Bool} {l : List ByteArray} {i : Nat} (h : PartAt p l i) : (l.filter p).length = i := by
  obtain ⟨h0, h1, h2⟩ := h
  have e1 : (l.take i).filter p = l.take i := List.filter_eq_self.2 fun x hx => by
    obtain ⟨j, hj, rfl⟩ := List.getElem_of_mem hx
    rw [List.length_take] at hj
    rw [List.getElem_take]
    exact h1 j (by omega) (by omega)
  have e2 : (l.drop i).filter p = [] := List.filter_eq_nil_iff.2 fun x hx => by
    obtain ⟨j, hj, rfl⟩ := List.getElem_of_mem hx
    rw [List.length_drop] at hj
    rw [List.getElem_drop, h2 (i + j) (by omega) (by omega)]
    simp
  have e : l.filter p = (l.take i).filter p ++ (l.drop i).filter p := by rw [← List.filter_append, List.take_append_drop]
  rw [e, e1, e2, List.append_nil, List.length_take]
  omega

def findIs (l : List ByteArray) (key : ByteArray) : Bool := l.any (fun k => sEq k key)
def atP (leaf : Bool) (key : ByteArray) (k : ByteArray) : Bool := sLt k key || (sEq k key && !leaf)
def findAt (n : Nd) (key : ByteArray) : Nat := (n.keys.filter (atP n.leaf key)).length

theorem found_eq {l : List ByteArray} {key : ByteArray} {i : Nat} (hr : Rising l) (h : PartAt (fun k => sLt k key) l i) : (decide (i < l.length) && sEq (l.getD i ⟨#[]⟩) key) = findIs l key := by
  obtain ⟨h0, h1, h2⟩ := h
  rw [Bool.eq_iff_iff]
  unfold findIs
  simp only [Bool.and_eq_true, decide_eq_true_iff, List.any_eq_true]
  constructor
  · rintro ⟨hi, he⟩
    refine ⟨l[i], List.getElem_mem hi, ?_⟩
    rwa [List.getD_eq_getElem?_getD, List.getElem?_eq_getElem hi] at he
  · rintro ⟨x, hx, he⟩
    obtain ⟨j, hj, rfl⟩ := List.getElem_of_mem hx
    have hk := (sEq_iff _ _).1 he
    have hji : i ≤ j := by
      rcases Nat.lt_or_ge j i with h | h
      · have := h1 j hj h
        simp only [hk, sLt_irrefl] at this
        cases this
      · exact h
    have hij : j ≤ i := by
      rcases Nat.lt_or_ge i j with h | h
      · have h3 := hr i j hj h
        have h4 := h2 i (by omega) (Nat.le_refl _)
        simp only at h4
        rw [hk] at h3
        rw [h3] at h4
        cases h4
      · exact h
    obtain rfl : i = j := by omega
    refine ⟨hj, ?_⟩
    rw [List.getD_eq_getElem?_getD, List.getElem?_eq_getElem hj]
    exact he

set_option maxHeartbeats 2000000 in
theorem find_any (arr : Array Value) (n : Nd) (key : ByteArray) (w : World) (h : NdIs w arr n) (hf : n.Fits) (hr : Rising n.keys) :
    Calls Tryz.prog 137 #[.agg arr, .string key] w fun e w' => e = .returned (.tuple #[.int .i64 (findAt n key : Int), .bool (findIs n.keys key)]) ∧ Below w.heap.size w w' := by
  obtain ⟨ak, ck, av, cv, ap, cp, rfl, hk, hv, hp⟩ := h.get
  have hb0 : Below w.heap.size w ((w.alloc (.cells #[.bool n.leaf, .slice ak n.keys.length ck, .slice av n.vals.length cv, .slice ap n.kids.length cp] 25)).alloc (.cells #[.string key] 9)) := ((Below.refl _ w).alloc (Nat.le_refl _) _).alloc (by simp) _
  have HK := Lib.hid (hk.below hb0)
  have HB := Lib.hid hb0
  have HF := Lib.hid hf
  have HR := Lib.hid hr
  have hc1 := cell_of_row _ w.heap.size 1 _ _ _ (heap_alloc2_old w (.cells #[.bool n.leaf, .slice ak n.keys.length ck, .slice av n.vals.length cv, .slice ap n.kids.length cp] 25) (.cells #[.string key] 9))
  have hc2 := cell_of_row _ (w.heap.size + 1) 0 _ _ _ (heap_alloc2_new w (.cells #[.bool n.leaf, .slice ak n.keys.length ck, .slice av n.vals.length cv, .slice ap n.kids.length cp] 25) (.cells #[.string key] 9))
  have HC1 := Lib.hid hc1
  have HC2 := Lib.hid hc2
  clear h hk hv hp hb0 hf hr hc1 hc2
  cases hl : n.leaf with
  | true =>
    rw [hl] at HK HB HC1 HC2
    have HL := Lib.hid hl
    clear hl
    go_enter Tryz.func137, Tryz.ntmps137
    go_wp2_with fail
    refine (search_any _ n.keys key _ HK.out HF.out.keys HR.out).mono ?_
    rintro e w1 ⟨i, rfl, hP, rfl⟩
    have HA := Lib.hid (show findAt n key = i by unfold findAt; rw [HL.out]; have := hP.count; rw [← this]; congr 2; funext k; unfold atP; simp)
    have HI := Lib.hid (found_eq HR.out hP)
    rw [HI.out]
    clear hP
    go_wp2
    go_ret2
    exact ⟨by rw [HA.out]; rfl, HB.out⟩
  | false =>
    rw [hl] at HK HB HC1 HC2
    have HL := Lib.hid hl
    clear hl
    go_enter Tryz.func137, Tryz.ntmps137
    go_wp2_with fail
    refine (search_any _ n.keys key _ HK.out HF.out.keys HR.out).mono ?_
    rintro e w1 ⟨i, rfl, hP, rfl⟩
    have HI := Lib.hid (found_eq HR.out hP)
    rw [HI.out]
    clear hP
    go_wp2_with fail
    refine (sortSearch_any _ _ n.keys key _ _ HK.out HF.out.keys HR.out HC1.out HC2.out).mono ?_
    rintro e w2 ⟨i2, rfl, hP2, nd, rfl⟩
    have HA := Lib.hid (show findAt n key = i2 by
      unfold findAt; rw [HL.out]; have := hP2.count; rw [← this]; congr 2; funext k; unfold atP gtS; simp)
    have HB2 := Lib.hid (HB.out.trans ((Fr_drewF (fun _ => False) _ nd).below HB.out.size (fun _ h => h.elim)))
    clear hP2
    go_wp2
    go_ret2
    exact ⟨by rw [HA.out]; rfl, HB2.out⟩

end Go.Proofs.YtkbnkdokcmpcgaaGreatDoor
namespace Go.Proofs.YtkbnkdokcmpcgaaGreatDoor
open Go.RowKit

theorem rising_of_step {l : List ByteArray} (h : ∀ j (hj : j + 1 < l.length), sLt (l[j]'(by omega)) l[j + 1] = true) : Rising l := by
  intro i j hj hij
  obtain ⟨d, rfl⟩ : ∃ d, j = i + 1 + d := ⟨j - (i + 1), by omega⟩
  induction d with
  | zero => exact h i hj
  | succ d ih => exact sLt_trans (ih (by omega) (by omega)) (h (i + 1 + d) hj)

theorem keysB_rising {l : List ByteArray} (h : keysB l = true) : Rising l := by
  refine rising_of_step fun j hj => ?_
  have h1 := List.all_eq_true.1 h (j + 1) (by simpa using hj)
  unfold keyAt at h1
  rw [List.getElem?_eq_getElem hj] at h1
  simp only [Bool.and_eq_true] at h1
  have h2 := h1.2
  rw [List.getD_eq_getElem?_getD, List.getElem?_eq_getElem (by omega)] at h2
  exact h2

theorem partAt_of_down {p : ByteArray → Bool} : ∀ {l : List ByteArray}, (∀ i j (hj : j < l.length) (hij : i < j), p l[j] = true → p (l[i]'(by omega)) = true) → PartAt p l (l.filter p).length
  | [], _ => ⟨Nat.zero_le _, fun j h _ => by simp at h, fun j h _ => by simp at h⟩
  | a :: l, h => by
    have ih := partAt_of_down (l := l) (fun i j hj hij hp => h (i + 1) (j + 1) (by simp; omega) (by omega) hp)
    obtain ⟨h0, h1, h2⟩ := ih
    cases ha : p a with
    | true =>
      rw [List.filter_cons_of_pos ha, List.length_cons]
      refine ⟨by simp; omega, fun j hj hji => ?_, fun j hj hji => ?_⟩
      · rcases j with _ | j
        · exact ha
        · exact h1 j (by simpa using hj) (by omega)
      · rcases j with _ | j
        · omega
        · exact h2 j (by simpa using hj) (by omega)
    | false =>
      have hall : ∀ j (hj : j < l.length), p l[j] = false := fun j hj => by
        rw [Bool.eq_false_iff]
        intro hp
        have := h 0 (j + 1) (by simp; omega) (by omega) hp
        rw [show (a :: l)[0] = a from rfl, ha] at this
        cases this
      have he : l.filter p = [] := List.filter_eq_nil_iff.2 fun x hx => by
        obtain ⟨j, hj, rfl⟩ := List.getElem_of_mem hx
        rw [hall j hj]; simp
      rw [List.filter_cons_of_neg (by rw [ha]; simp), he]
      refine ⟨Nat.zero_le _, fun j hj hji => by simp at hji, fun j hj hji => ?_⟩
      rcases j with _ | j
      · exact ha
      · exact hall j (by simpa using hj)

theorem sLt_asymm {a b : ByteArray} (h : sLt a b = true) : sLt b a = false := by
  rw [Bool.eq_false_iff]
  intro h2
  have := sLt_trans h h2
  rw [sLt_irrefl] at this
  cases this

theorem findAt_part {n : Nd} (key : ByteArray) (hr : Rising n.keys) : PartAt (atP n.leaf key) n.keys (findAt n key) := by
  refine partAt_of_down fun i j hj hij hp => ?_
  have h1 := hr i j hj hij
  unfold atP at hp ⊢
  simp only [Bool.or_eq_true, Bool.and_eq_true] at hp ⊢
  rcases hp with hp | ⟨hp, -⟩
  · exact Or.inl (sLt_trans h1 hp)
  · rw [sEq_iff] at hp
    rw [hp] at h1
    exact Or.inl h1

theorem findAt_own {n : Nd} (hr : Rising n.keys) (i : Nat) (hi : i < n.keys.length) : findAt n n.keys[i] = if n.leaf then i else i + 1 := by
  obtain ⟨h0, h1, h2⟩ := findAt_part n.keys[i] hr
  have hself : atP n.leaf n.keys[i] n.keys[i] = !n.leaf := by unfold atP; rw [sLt_irrefl, (sEq_iff _ _).2 rfl]; simp
  have hle : i ≤ findAt n n.keys[i] := by
    rcases Nat.lt_or_ge (findAt n n.keys[i]) i with h | h
    · have h3 := h2 _ (by omega) (Nat.le_refl _)
      have h4 := hr _ i hi h
      unfold atP at h3
      rw [h4] at h3
      simp at h3
    · exact h
  have hge : findAt n n.keys[i] ≤ i + 1 := by
    rcases Nat.lt_or_ge (i + 1) (findAt n n.keys[i]) with h | h
    · have h3 := h1 (i + 1) (by omega) h
      have h4 := hr i (i + 1) (by omega) (by omega)
      unfold atP at h3
      simp only [Bool.or_eq_true, Bool.and_eq_true] at h3
      rcases h3 with h3 | ⟨h3, -⟩
      · rw [sLt_asymm h4] at h3; cases h3
      · rw [sEq_iff] at h3; rw [h3, sLt_irrefl] at h4; cases h4
    · exact h
  cases hl : n.leaf with
  | true =>
    rw [hl] at hself
    rw [if_pos rfl]
    rcases Nat.lt_or_ge i (findAt n n.keys[i]) with h | h
    · have := h1 i hi h
      rw [hl, hself] at this; cases this
    · omega
  | false =>
    rw [hl] at hself
    rw [if_neg (by simp)]
    rcases Nat.lt_or_ge i (findAt n n.keys[i]) with h | h
    · omega
    · have := h2 i hi h
      rw [hl, hself] at this; cases this
theorem findIs_own {l : List ByteArray} (i : Nat) (hi : i < l.length) : findIs l l[i] = true :=
  List.any_eq_true.2 ⟨l[i], List.getElem_mem hi, (sEq_iff _ _).2 rfl⟩
theorem findAt_le {n : Nd} (key : ByteArray) : findAt n key ≤ n.keys.length := List.length_filter_le _ _
/-- What stands ahead isn't more. -/
theorem findAt_ahead {n : Nd} (key : ByteArray) (hr : Rising n.keys) (i : Nat) (hi : i < n.keys.length) (h : findAt n key = i + 1) : sLt key n.keys[i] = false := by
  have h3 := (findAt_part key hr).2.1 i hi (by omega)
  unfold atP at h3
  simp only [Bool.or_eq_true, Bool.and_eq_true] at h3
  rcases h3 with h3 | ⟨h3, -⟩
  · exact sLt_asymm h3
  · rw [sEq_iff] at h3; rw [h3, sLt_irrefl]
/-- What stands there isn't less. -/
theorem findAt_there {n : Nd} (key : ByteArray) (hr : Rising n.keys) (hi : findAt n key < n.keys.length) : sLt n.keys[findAt n key] key = false := by
  have h3 := (findAt_part key hr).2.2 _ hi (Nat.le_refl _)
  unfold atP at h3
  simp only [Bool.or_eq_false_iff] at h3
  exact h3.1
theorem bytesLess_nil (l : List UInt8) : Op.bytesLess l [] = false := by
  rw [bytesLess_eq]; simp
theorem findAt_first {n : Nd} (hk : keysB n.keys = true) : findAt n ⟨#[]⟩ = 0 := by
  have hr := keysB_rising hk
  rcases Nat.eq_zero_or_pos (findAt n ⟨#[]⟩) with h | h
  · exact h
  · exfalso
    have hle := findAt_le (n := n) ⟨#[]⟩
    have h3 := (findAt_part ⟨#[]⟩ hr).2.1 0 (by omega) h
    unfold atP at h3
    simp only [Bool.or_eq_true, Bool.and_eq_true] at h3
    rcases h3 with h3 | ⟨h3, -⟩
    · unfold sLt at h3
      rw [show (⟨#[]⟩ : ByteArray).toList = [] from by rw [ByteArray.toList_eq], bytesLess_nil] at h3
      cases h3
    · rw [sEq_iff] at h3
      have h4 := List.all_eq_true.1 hk 0 (by simp; omega)
      unfold keyAt at h4
      rw [List.getElem?_eq_getElem (by omega), h3] at h4
      simp at h4
      exact h4.1 rfl

end Go.Proofs.YtkbnkdokcmpcgaaGreatDoor
namespace Go.Proofs.YtkbnkdokcmpcgaaGreatDoor
open Go.RowKit

def lenS (l : List ByteArray) : Int := (l.map (fun s => (s.size : Int))).sum
theorem lenS_step (l : List ByteArray) (k : Nat) (h : k < l.length) : lenS (l.take (k + 1)) = lenS (l.take k) + (l[k].size : Int) := by
  unfold lenS
  rw [List.take_succ_eq_append_getElem h, List.map_append, List.sum_append]; simp
def costN (n : Nd) : Int := 44 * (n.kids.length : Int) + lenS n.keys + lenS n.vals
def great9 (n : Nd) : Bool := decide (6000 < wrap64 (costN n)) || decide (200 < (n.keys.length : Int)) || decide (200 < (n.vals.length : Int))
theorem wrap64_add' (a b : Int) : wrap64 (wrap64 a + b) = wrap64 (a + b) := by unfold wrap64; omega

end Go.Proofs.YtkbnkdokcmpcgaaGreatDoor
namespace Go.Proofs.YtkbnkdokcmpcgaaGreatDoor
open Go.RowKit

theorem Fr_drewN (S : Nat → Prop) (w : World) (n : Nat) : Fr S w (w.drewN n) := ⟨rfl, rfl, rfl, Nat.le_refl _, fun _ _ _ => rfl⟩

theorem getB_step' (l : List UInt8) (k : Nat) (h : k < l.length) (h8 : l.length ≤ 8) :
    Value.int .u64 (IntKind.u64.wrap ((getB (l.take k) : Int) * 256 + ((l[k].toNat : Nat) : Int))) = .int .u64 (getB (l.take (k + 1)) : Int) := by
  have h1 := getB_lt (l.take k)
  have h2 : (256 : Nat) ^ (l.take k).length ≤ 256 ^ 7 := Nat.pow_le_pow_right (by decide) (by simp; omega)
  have h3 : (256 : Nat) ^ 7 = 72057594037927936 := by decide
  have h4 := l[k].toNat_lt
  rw [getB_snoc l k h, IntKind.wrap_u64]
  congr 1
  omega

end Go.Proofs.YtkbnkdokcmpcgaaGreatDoor
namespace Go.Proofs.YtkbnkdokcmpcgaaGreatDoor
open Go.RowKit

def strOf : List UInt8 → ByteArray × Int × List UInt8
  | [] => (⟨#[]⟩, 3, [])
  | c :: xs => if xs.length < c.toNat then (⟨#[]⟩, 3, c :: xs) else (⟨(xs.take c.toNat).toArray⟩, 0, xs.drop c.toNat)
def numOf (n : Int) (xs : List UInt8) : Nat × Int × List UInt8 :=
  if n < 0 ∨ 8 < n then (0, 2, xs) else if (xs.length : Int) < n then (0, 3, xs) else (getB (xs.take n.toNat), 0, xs.drop n.toNat)
def rawOf (n : Int) (xs : List UInt8) : List UInt8 × Int × List UInt8 :=
  if n < 0 then ([], 2, xs) else if (xs.length : Int) < n then ([], 3, xs) else (xs.take n.toNat, 0, xs.drop n.toNat)
def hashOf (xs : List UInt8) : List UInt8 × Int × List UInt8 :=
  if xs.length < 32 then (List.replicate 32 0, 3, xs) else (xs.take 32, 0, xs.drop 32)

theorem hashOf_length (xs : List UInt8) : (hashOf xs).1.length = 32 := by
  unfold hashOf; split
  · simp
  · simp only [List.length_take]; omega
theorem strOf_le (xs : List UInt8) : (strOf xs).2.2.length ≤ xs.length := by
  unfold strOf; split
  · exact Nat.le_refl _
  · split
    · exact Nat.le_refl _
    · simp only [List.length_drop, List.length_cons]; omega
theorem numOf_le (n : Int) (xs : List UInt8) : (numOf n xs).2.2.length ≤ xs.length := by
  unfold numOf; split
  · exact Nat.le_refl _
  · split
    · exact Nat.le_refl _
    · simp only [List.length_drop]; omega
theorem rawOf_le (n : Int) (xs : List UInt8) : (rawOf n xs).2.2.length ≤ xs.length := by
  unfold rawOf; split
  · exact Nat.le_refl _
  · split
    · exact Nat.le_refl _
    · simp only [List.length_drop]; omega
theorem hashOf_le (xs : List UInt8) : (hashOf xs).2.2.length ≤ xs.length := by
  unfold hashOf; split
  · exact Nat.le_refl _
  · simp only [List.length_drop]; omega

theorem rStr_any (b : Nat) (xs : List UInt8) (w : World) (h : Rd w b xs) (hr : xs.length ≤ 140737488351232) :
    Calls Tryz.prog 119 #[.pointer (some ⟨b, 0, none⟩)] w fun e w' => e = .returned (.tuple #[.string (strOf xs).1, .int .i64 (strOf xs).2.1]) ∧ Rd w' b (strOf xs).2.2 ∧ Fr (fun k => k = b) w w' := by
  cases xs with
  | nil => exact (rStr_empty b w h).mono (by rintro e w' ⟨rfl, rfl⟩; exact ⟨rfl, h, Fr.refl _ _⟩)
  | cons c xs =>
    unfold strOf
    rcases Nat.lt_or_ge xs.length c.toNat with hc | hc
    · simp only [hc, if_true]
      exact (rStr_cut b c xs w h hc hr).mono (by rintro e w' ⟨rfl, rfl⟩; exact ⟨rfl, h, Fr.refl _ _⟩)
    · simp only [Nat.not_lt.2 hc, if_false]
      exact rStr_ok b c xs w h hc hr
theorem rNum_any (b : Nat) (n : Int) (xs : List UInt8) (w : World) (h : Rd w b xs) (hr : xs.length ≤ 140737488351232) :
    Calls Tryz.prog 118 #[.pointer (some ⟨b, 0, none⟩), .int .i64 n] w fun e w' => e = .returned (.tuple #[.int .u64 ((numOf n xs).1 : Int), .int .i64 (numOf n xs).2.1]) ∧ Rd w' b (numOf n xs).2.2 ∧ Fr (fun k => k = b) w w' := by
  unfold numOf
  by_cases h1 : n < 0 ∨ 8 < n
  · simp only [h1, if_true]
    exact (rNum_arg b n w h1).mono (by rintro e w' ⟨rfl, rfl⟩; exact ⟨rfl, h, Fr.refl _ _⟩)
  · simp only [h1, if_false]
    obtain ⟨k, rfl⟩ := Int.eq_ofNat_of_zero_le (show 0 ≤ n by omega)
    by_cases h2 : (xs.length : Int) < (k : Int)
    · simp only [h2, if_true]
      exact (rNum_short b xs k w h (by omega) (by omega)).mono (by rintro e w' ⟨rfl, rfl⟩; exact ⟨rfl, h, Fr.refl _ _⟩)
    · simp only [h2, if_false]
      exact rNum_ok b xs k w h (by omega) (by omega) hr
theorem rHash_any (b : Nat) (xs : List UInt8) (w : World) (h : Rd w b xs) (hr : xs.length ≤ 140737488351232) :
    Calls Tryz.prog 151 #[.pointer (some ⟨b, 0, none⟩)] w fun e w' => e = .returned (.tuple #[.agg ((hashOf xs).1.map Bv).toArray, .int .i64 (hashOf xs).2.1]) ∧ Rd w' b (hashOf xs).2.2 ∧ Fr (fun k => k = b) w w' := by
  unfold hashOf
  rcases Nat.lt_or_ge xs.length 32 with h1 | h1
  · simp only [h1, if_true]
    exact (rHash_short b xs w h h1).mono (by rintro e w' ⟨rfl, h1, h2⟩; exact ⟨rfl, h1, Fr.of_below h2⟩)
  · simp only [Nat.not_lt.2 h1, if_false]
    exact rHash_ok b xs w h h1 hr
/-- A Reader's own block holds no bytes. -/
theorem slice_notByte {w : World} {b : Nat} {a : Option Addr} {n c : Nat} {t : TypeId} (hb : w.heap[b]? = some (.cells #[.slice a n c] t (0, 0))) : ∀ p (x : UInt8), w.cell? p = some (Bv x) → p.block ≠ b := by
  intro p x hp rfl
  unfold World.cell? at hp
  rw [hb] at hp
  simp only at hp
  split at hp
  · cases hp
  · cases hq : p.off with
    | zero => rw [hq] at hp; simp [Bv] at hp
    | succ m => rw [hq] at hp; simp at hp
theorem Rd.notByte {w : World} {b : Nat} {xs : List UInt8} (h : Rd w b xs) : ∀ p (x : UInt8), w.cell? p = some (Bv x) → p.block ≠ b := by
  obtain ⟨v, hb, hs⟩ := h
  obtain ⟨a, c, rfl, _⟩ := hs.len
  exact slice_notByte hb
theorem Sl.stay {w w' : World} {S : Nat → Prop} {v : Value} {n : Nat} {ys : List UInt8} (h : Sl w 1 v n (ys.map Bv)) (hf : Fr S w w') (hs : ∀ p (x : UInt8), w.cell? p = some (Bv x) → ¬ S p.block) : Sl w' 1 v n (ys.map Bv) := by
  refine h.cells fun p u hu hp => ?_
  obtain ⟨x, _, rfl⟩ := List.mem_map.1 hu
  exact hf.cell hp (hs p x hp)

end Go.Proofs.YtkbnkdokcmpcgaaGreatDoor
