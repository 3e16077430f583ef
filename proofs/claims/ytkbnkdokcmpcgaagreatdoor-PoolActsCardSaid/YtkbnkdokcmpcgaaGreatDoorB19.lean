/- Walks: pool.Write. Walks: the reference's Reader: Num, Str, Hash, End. The two Readers, each reading by one law: Str, Num, Raw, Hash; what stays of one while the other reads. The two Readers, each reading by one law, the block of their bytes kept in sight. Walks: ptr.Get, the reference's Get of a pointer. -/
import Derived.Test.YtkbnkdokcmpcgaaGreatDoorB3
import Derived.Test.YtkbnkdokcmpcgaaGreatDoorB13
import Derived.Test.YtkbnkdokcmpcgaaGreatDoorB18
import Derived.Deep.QuietTactic
import Derived.BigQuiet
namespace Go.Proofs.YtkbnkdokcmpcgaaGreatDoor
open Go.RowKit

def nodeB (n : Nd) : List UInt8 := bytesN n ++ List.replicate (512 - sizeN n) 0
theorem ret_pe {fn : Func} {p u : Tmp} (h : fn.results = #[.cell p 43, .tmp u]) {tmps : Array Value} {w : World} {g : Nat} {q : Pt} {t : TypeId} (hp : tmps.getD p undef = .pointer (some ⟨g, 0, none⟩))
    (hg : w.heap[g]? = some (.cells q.arr t (0, 0))) (hl : q.Wf) :
    (results fn tmps).run Tryz.prog w = .ok (.tuple #[.agg q.arr, tmps.getD u undef]) w := by
  rw [results_cell_tmp h, hp]
  simp [asAddr, run_loadVar_row w g t 43 _ _ _ hg Tryz.underlying43 rfl (by rw [info_ptr]; simp [hl.size]), Result.andThen]

set_option maxRecDepth 100000 in
set_option maxHeartbeats 4000000 in
theorem poWrite_zero (P D S W size : Nat) (ks : List UInt8) (t : Nat → Bool) (arr : Array Value) (n : Nd) (w : World) (h : PlAt w P D S W size ks t 0) (hn : NdIs w arr n) :
    Calls Tryz.prog 19 #[.pointer (some ⟨P, 0, none⟩), .agg arr] w fun e w' => e = .returned (.tuple #[.agg Pt.zero.arr, .int .i64 2]) ∧ Fr (fun _ => False) w w' := by
  obtain ⟨ak, ck, av, cv, ap, cp, harr, hk, hv, hp⟩ := hn.get
  have HN := Lib.hid hn
  rw [harr] at HN ⊢
  clear hn
  have c66 := h.cells.2.2.2.1
  have hPl := h.lt P (Or.inl rfl)
  obtain ⟨W0, hW0⟩ : ∃ W0, W0 = (w.alloc (.cells #[.bool n.leaf, .slice ak n.keys.length ck, .slice av n.vals.length cv, .slice ap n.kids.length cp] 25)).alloc (.cells #[.int .u32 0, .int .u64 0, .int .u8 0, .int .u8 0, .int .u8 0, .int .u8 0, .int .u8 0, .int .u8 0, .int .u8 0, .int .u8 0, .int .u8 0, .int .u8 0, .int .u8 0, .int .u8 0, .int .u8 0, .int .u8 0, .int .u8 0, .int .u8 0, .int .u8 0, .int .u8 0, .int .u8 0, .int .u8 0, .int .u8 0, .int .u8 0, .int .u8 0, .int .u8 0, .int .u8 0, .int .u8 0, .int .u8 0, .int .u8 0, .int .u8 0, .int .u8 0, .int .u8 0, .int .u8 0] 43) := ⟨_, rfl⟩
  have hb0 : Below w.heap.size w W0 := by rw [hW0]; exact ((Below.refl _ w).alloc (Nat.le_refl _) _).alloc (by simp) _
  have hs0 : W0.heap.size = w.heap.size + 1 + 1 := by rw [hW0]; simp
  have hga0 : W0.heap[w.heap.size + 1]? = some (.cells Pt.zero.arr 43 (0, 0)) := by
    have h1 := heap_alloc_new (w.alloc (.cells #[.bool n.leaf, .slice ak n.keys.length ck, .slice av n.vals.length cv, .slice ap n.kids.length cp] 25)) (.cells #[.int .u32 0, .int .u64 0, .int .u8 0, .int .u8 0, .int .u8 0, .int .u8 0, .int .u8 0, .int .u8 0, .int .u8 0, .int .u8 0, .int .u8 0, .int .u8 0, .int .u8 0, .int .u8 0, .int .u8 0, .int .u8 0, .int .u8 0, .int .u8 0, .int .u8 0, .int .u8 0, .int .u8 0, .int .u8 0, .int .u8 0, .int .u8 0, .int .u8 0, .int .u8 0, .int .u8 0, .int .u8 0, .int .u8 0, .int .u8 0, .int .u8 0, .int .u8 0, .int .u8 0, .int .u8 0] 43)
    have h2 : (w.alloc (.cells #[.bool n.leaf, .slice ak n.keys.length ck, .slice av n.vals.length cv, .slice ap n.kids.length cp] 25)).heap.size = w.heap.size + 1 := by simp
    rw [h2] at h1
    rw [hW0]
    exact h1
  have HB0 := Lib.hid hb0
  have HS0 := Lib.hid hs0
  have HGA := Lib.hid hga0
  have HW0 := Lib.hid hW0
  have HH := Lib.hid h
  clear h hk hv hp harr hb0 hs0 hga0 hW0
  go_enter Tryz.func19, Tryz.ntmps19
  have HGA' := HGA
  rw [HW0.out] at HGA'
  go_wp2_with (refine store_ptr rfl (.tmp 4) (.tmp 19) rfl rfl (p := Pt.zero) rfl HGA'.out Pt.zero_wf.size Pt.zero_wf ?_; intro we hge hfe hse; have HGe := Lib.hid hge; have HFe := Lib.hid hfe; clear hge hfe hse)
  refine bodyPost_ret (ret_pe rfl rfl HGe.out Pt.zero_wf) rfl ?_
  rw [← HW0.out] at HFe
  exact ⟨rfl, (Fr.of_below (S := fun _ => False) HB0.out).step HFe.out (fun j e => Or.inr (by omega))⟩

set_option maxRecDepth 100000 in
set_option maxHeartbeats 4000000 in
theorem poWrite_bad (P D S W size birth : Nat) (ks : List UInt8) (t : Nat → Bool) (arr : Array Value) (n : Nd) (w : World) (h : PlAt w P D S W size ks t birth) (hn : NdIs w arr n) (h0 : 0 < birth) (hf : n.Fits) (hc : checkE n ≠ 0) :
    Calls Tryz.prog 19 #[.pointer (some ⟨P, 0, none⟩), .agg arr] w fun e w' => e = .returned (.tuple #[.agg Pt.zero.arr, .int .i64 (checkE n)]) ∧ Fr (fun _ => False) w w' := by
  obtain ⟨ak, ck, av, cv, ap, cp, harr, hk, hv, hp⟩ := hn.get
  have HN := Lib.hid hn
  rw [harr] at HN ⊢
  clear hn
  have c66 := h.cells.2.2.2.1
  have hPl := h.lt P (Or.inl rfl)
  obtain ⟨W0, hW0⟩ : ∃ W0, W0 = (w.alloc (.cells #[.bool n.leaf, .slice ak n.keys.length ck, .slice av n.vals.length cv, .slice ap n.kids.length cp] 25)).alloc (.cells #[.int .u32 0, .int .u64 0, .int .u8 0, .int .u8 0, .int .u8 0, .int .u8 0, .int .u8 0, .int .u8 0, .int .u8 0, .int .u8 0, .int .u8 0, .int .u8 0, .int .u8 0, .int .u8 0, .int .u8 0, .int .u8 0, .int .u8 0, .int .u8 0, .int .u8 0, .int .u8 0, .int .u8 0, .int .u8 0, .int .u8 0, .int .u8 0, .int .u8 0, .int .u8 0, .int .u8 0, .int .u8 0, .int .u8 0, .int .u8 0, .int .u8 0, .int .u8 0, .int .u8 0, .int .u8 0] 43) := ⟨_, rfl⟩
  have hb0 : Below w.heap.size w W0 := by rw [hW0]; exact ((Below.refl _ w).alloc (Nat.le_refl _) _).alloc (by simp) _
  have hs0 : W0.heap.size = w.heap.size + 1 + 1 := by rw [hW0]; simp
  have hga0 : W0.heap[w.heap.size + 1]? = some (.cells Pt.zero.arr 43 (0, 0)) := by
    have h1 := heap_alloc_new (w.alloc (.cells #[.bool n.leaf, .slice ak n.keys.length ck, .slice av n.vals.length cv, .slice ap n.kids.length cp] 25)) (.cells #[.int .u32 0, .int .u64 0, .int .u8 0, .int .u8 0, .int .u8 0, .int .u8 0, .int .u8 0, .int .u8 0, .int .u8 0, .int .u8 0, .int .u8 0, .int .u8 0, .int .u8 0, .int .u8 0, .int .u8 0, .int .u8 0, .int .u8 0, .int .u8 0, .int .u8 0, .int .u8 0, .int .u8 0, .int .u8 0, .int .u8 0, .int .u8 0, .int .u8 0, .int .u8 0, .int .u8 0, .int .u8 0, .int .u8 0, .int .u8 0, .int .u8 0, .int .u8 0, .int .u8 0, .int .u8 0] 43)
    have h2 : (w.alloc (.cells #[.bool n.leaf, .slice ak n.keys.length ck, .slice av n.vals.length cv, .slice ap n.kids.length cp] 25)).heap.size = w.heap.size + 1 := by simp
    rw [h2] at h1
    rw [hW0]
    exact h1
  have HB0 := Lib.hid hb0
  have HS0 := Lib.hid hs0
  have HGA := Lib.hid hga0
  have HW0 := Lib.hid hW0
  have HH := Lib.hid h
  clear h hk hv hp harr hb0 hs0 hga0 hW0
  have hbz : ((birth : Int) == 0) = false := by simp; omega
  have hcz : (checkE n != 0) = true := by simpa using hc
  have HPut := Lib.hid (put_bad _ n W0 (HN.out.below HB0.out) hf hc)
  clear h0 hf hc
  go_enter Tryz.func19, Tryz.ntmps19
  go_wp2_with fail
  rw [← HW0.out]
  refine HPut.out.mono ?_
  rintro e w1 ⟨rfl, hb1⟩
  have HB1 := Lib.hid hb1
  have HG1 := Lib.hid ((hb1.block _ (lt_of_block HGA.out)).trans HGA.out)
  clear hb1 HPut
  go_wp2_with (refine store_ptr rfl (.tmp 4) (.tmp 27) rfl rfl (p := Pt.zero) rfl HG1.out Pt.zero_wf.size Pt.zero_wf ?_; intro we hge hfe hse; have HGe := Lib.hid hge; have HFe := Lib.hid hfe; clear hge hfe hse)
  refine bodyPost_ret (ret_pe rfl rfl HGe.out Pt.zero_wf) rfl ?_
  exact ⟨rfl, (Fr.of_below (S := fun _ => False) (HB0.out.trans (HB1.out.mono HB0.out.size))).step HFe.out (fun j e => Or.inr (by omega))⟩

theorem nodeB_length {n : Nd} (h : formB n = true) (hw : ∀ p ∈ n.kids, p.Wf) (hs : sizeN n ≤ 512) : (nodeB n).length = 512 := by
  unfold nodeB; rw [List.length_append, bytesN_length h hw, List.length_replicate]; omega
theorem lowT_get {t : Nat → Bool} {size a : Nat} (h : lowT t size = some a) : 2 ≤ a ∧ a < size ∧ t a = false := by
  unfold lowT at h
  have h1 := List.mem_of_find?_eq_some h
  have h2 := List.find?_some h
  simp at h1 h2
  exact ⟨h2.1, h1, h2.2⟩

set_option maxRecDepth 100000 in
set_option maxHeartbeats 4000000 in
theorem poWrite_full (P D S W birth : Nat) (ks : List UInt8) (t : Nat → Bool) (d : Dv) (arr : Array Value) (n : Nd) (w : World) (h : PlAt w P D S W d.size ks t birth) (hn : NdIs w arr n) (hT : Tz w) (h0 : 0 < birth) (hf : n.Fits) (hfo : formB n = true) (hsz : sizeN n ≤ 512) (hl : lowT t d.size = none) :
    Calls Tryz.prog 19 #[.pointer (some ⟨P, 0, none⟩), .agg arr] w fun e w' => e = .returned (.tuple #[.agg Pt.zero.arr, .int .i64 6]) ∧ Fr (fun _ => False) w w' := by
  obtain ⟨ak, ck, av, cv, ap, cp, harr, hk, hv, hp⟩ := hn.get
  have HN := Lib.hid hn
  rw [harr] at HN ⊢
  have hkw : ∀ p ∈ n.kids, p.Wf := hp.wf
  clear hn
  have c66 := h.cells.2.2.2.1
  have hPl := h.lt P (Or.inl rfl)
  obtain ⟨W0, hW0⟩ : ∃ W0, W0 = (w.alloc (.cells #[.bool n.leaf, .slice ak n.keys.length ck, .slice av n.vals.length cv, .slice ap n.kids.length cp] 25)).alloc (.cells #[.int .u32 0, .int .u64 0, .int .u8 0, .int .u8 0, .int .u8 0, .int .u8 0, .int .u8 0, .int .u8 0, .int .u8 0, .int .u8 0, .int .u8 0, .int .u8 0, .int .u8 0, .int .u8 0, .int .u8 0, .int .u8 0, .int .u8 0, .int .u8 0, .int .u8 0, .int .u8 0, .int .u8 0, .int .u8 0, .int .u8 0, .int .u8 0, .int .u8 0, .int .u8 0, .int .u8 0, .int .u8 0, .int .u8 0, .int .u8 0, .int .u8 0, .int .u8 0, .int .u8 0, .int .u8 0] 43) := ⟨_, rfl⟩
  have hb0 : Below w.heap.size w W0 := by rw [hW0]; exact ((Below.refl _ w).alloc (Nat.le_refl _) _).alloc (by simp) _
  have hs0 : W0.heap.size = w.heap.size + 1 + 1 := by rw [hW0]; simp
  have hga0 : W0.heap[w.heap.size + 1]? = some (.cells Pt.zero.arr 43 (0, 0)) := by
    have h1 := heap_alloc_new (w.alloc (.cells #[.bool n.leaf, .slice ak n.keys.length ck, .slice av n.vals.length cv, .slice ap n.kids.length cp] 25)) (.cells #[.int .u32 0, .int .u64 0, .int .u8 0, .int .u8 0, .int .u8 0, .int .u8 0, .int .u8 0, .int .u8 0, .int .u8 0, .int .u8 0, .int .u8 0, .int .u8 0, .int .u8 0, .int .u8 0, .int .u8 0, .int .u8 0, .int .u8 0, .int .u8 0, .int .u8 0, .int .u8 0, .int .u8 0, .int .u8 0, .int .u8 0, .int .u8 0, .int .u8 0, .int .u8 0, .int .u8 0, .int .u8 0, .int .u8 0, .int .u8 0, .int .u8 0, .int .u8 0, .int .u8 0, .int .u8 0] 43)
    have h2 : (w.alloc (.cells #[.bool n.leaf, .slice ak n.keys.length ck, .slice av n.vals.length cv, .slice ap n.kids.length cp] 25)).heap.size = w.heap.size + 1 := by simp
    rw [h2] at h1
    rw [hW0]
    exact h1
  have HB0 := Lib.hid hb0
  have HS0 := Lib.hid hs0
  have HGA := Lib.hid hga0
  have HW0 := Lib.hid hW0
  have HH := Lib.hid h
  clear h hk hv hp harr hb0 hs0 hga0 hW0
  have hbz : ((birth : Int) == 0) = false := by simp; omega
  have HPut := Lib.hid (put_ok _ n W0 (HN.out.below HB0.out) hf hfo hsz)
  have HTz := Lib.hid hT
  have HLow := Lib.hid hl
  have HNl := Lib.hid (nodeB_length hfo hkw hsz)
  clear hf hfo hsz hT hl
  go_enter Tryz.func19, Tryz.ntmps19
  go_wp2_with fail
  rw [← HW0.out]
  refine HPut.out.mono ?_
  rintro e w1 ⟨aa, cc, rfl, hrow1, hb1⟩
  have HB1 := Lib.hid (HB0.out.trans (hb1.mono HB0.out.size))
  have HG1 := Lib.hid ((hb1.block _ (lt_of_block HGA.out)).trans HGA.out)
  have hrow1' : w1.ownsRow W0.heap.size 5 1 (.slice aa 512 cc) 512 ((nodeB n).map Bv) := hrow1
  have HR1 := Lib.hid hrow1'
  clear hb1 HPut hrow1 hrow1'
  have HP1 := Lib.hid (HH.out.below HB1.out)
  have c65 := HP1.out.cells.2.2.1
  have HTk := Lib.hid (spTake_any S W d.size t w1 HP1.out.sp (HTz.out.below HB1.out))
  go_wp2_with fail
  refine HTk.out.mono ?_
  rintro e w2 hpost
  unfold TkPost at hpost
  rw [HLow.out] at hpost
  obtain ⟨rfl, rfl⟩ := hpost
  go_wp2_with (refine store_ptr rfl (.tmp 4) (.tmp 39) rfl rfl (p := Pt.zero) rfl HG1.out Pt.zero_wf.size Pt.zero_wf ?_; intro we hge hfe hse; have HGe := Lib.hid hge; have HFe := Lib.hid hfe; clear hge hfe hse)
  refine bodyPost_ret (ret_pe rfl rfl HGe.out Pt.zero_wf) rfl ?_
  exact ⟨rfl, (Fr.of_below (S := fun _ => False) HB1.out).step HFe.out (fun j e => Or.inr (by omega))⟩

set_option maxRecDepth 100000 in
set_option maxHeartbeats 4000000 in
theorem poWrite_ok (P D S W birth lo : Nat) (ks : List UInt8) (t : Nat → Bool) (Fd : Nat → Prop) (d : Dv) (arr : Array Value) (n : Nd) (w : World) (h : PlAt w P D S W d.size ks t birth) (hd : DvIn w lo D Fd d) (hdis : ∀ k, PlF P S W k → ¬ Fd k) (hn : NdIs w arr n) (hT : Tz w) (h0 : 0 < birth) (hf : n.Fits) (hfo : formB n = true) (hsz : sizeN n ≤ 512) (a : Nat) (hl : lowT t d.size = some a) (hdn : d.down = false) (hst : d.step.down = false) (hw : d.waits.length ≤ 1000000) :
    Calls Tryz.prog 19 #[.pointer (some ⟨P, 0, none⟩), .agg arr] w fun e w' => ∃ F', e = .returned (.tuple #[.agg (sealP ks birth a (nodeB n)).arr, .int .i64 0]) ∧ PlAt w' P D S W d.size ks (updT t a true) birth ∧ DvIn w' lo D F' (d.step.wrote a (cryptB (ks.take 32) (nonceB birth a) (nodeB n))) ∧ (∀ k, F' k → Fd k ∨ w.heap.size ≤ k) ∧ Fr (fun k => Fd k ∨ k = S ∨ k = W) w w' := by
  obtain ⟨ak, ck, av, cv, ap, cp, harr, hk, hv, hp⟩ := hn.get
  have HN := Lib.hid hn
  rw [harr] at HN ⊢
  have hkw : ∀ p ∈ n.kids, p.Wf := hp.wf
  clear hn
  have c66 := h.cells.2.2.2.1
  have hPl := h.lt P (Or.inl rfl)
  obtain ⟨W0, hW0⟩ : ∃ W0, W0 = (w.alloc (.cells #[.bool n.leaf, .slice ak n.keys.length ck, .slice av n.vals.length cv, .slice ap n.kids.length cp] 25)).alloc (.cells #[.int .u32 0, .int .u64 0, .int .u8 0, .int .u8 0, .int .u8 0, .int .u8 0, .int .u8 0, .int .u8 0, .int .u8 0, .int .u8 0, .int .u8 0, .int .u8 0, .int .u8 0, .int .u8 0, .int .u8 0, .int .u8 0, .int .u8 0, .int .u8 0, .int .u8 0, .int .u8 0, .int .u8 0, .int .u8 0, .int .u8 0, .int .u8 0, .int .u8 0, .int .u8 0, .int .u8 0, .int .u8 0, .int .u8 0, .int .u8 0, .int .u8 0, .int .u8 0, .int .u8 0, .int .u8 0] 43) := ⟨_, rfl⟩
  have hb0 : Below w.heap.size w W0 := by rw [hW0]; exact ((Below.refl _ w).alloc (Nat.le_refl _) _).alloc (by simp) _
  have hs0 : W0.heap.size = w.heap.size + 1 + 1 := by rw [hW0]; simp
  have hga0 : W0.heap[w.heap.size + 1]? = some (.cells Pt.zero.arr 43 (0, 0)) := by
    have h1 := heap_alloc_new (w.alloc (.cells #[.bool n.leaf, .slice ak n.keys.length ck, .slice av n.vals.length cv, .slice ap n.kids.length cp] 25)) (.cells #[.int .u32 0, .int .u64 0, .int .u8 0, .int .u8 0, .int .u8 0, .int .u8 0, .int .u8 0, .int .u8 0, .int .u8 0, .int .u8 0, .int .u8 0, .int .u8 0, .int .u8 0, .int .u8 0, .int .u8 0, .int .u8 0, .int .u8 0, .int .u8 0, .int .u8 0, .int .u8 0, .int .u8 0, .int .u8 0, .int .u8 0, .int .u8 0, .int .u8 0, .int .u8 0, .int .u8 0, .int .u8 0, .int .u8 0, .int .u8 0, .int .u8 0, .int .u8 0, .int .u8 0, .int .u8 0] 43)
    have h2 : (w.alloc (.cells #[.bool n.leaf, .slice ak n.keys.length ck, .slice av n.vals.length cv, .slice ap n.kids.length cp] 25)).heap.size = w.heap.size + 1 := by simp
    rw [h2] at h1
    rw [hW0]
    exact h1
  have HB0 := Lib.hid hb0
  have HS0 := Lib.hid hs0
  have HGA := Lib.hid hga0
  have HW0 := Lib.hid hW0
  have HH := Lib.hid h
  clear h hk hv hp harr hb0 hs0 hga0 hW0
  obtain ⟨Fs, hds, hFs, hFD⟩ := hd.small
  have HFs := Lib.hid hFs
  have HDs := Lib.hid hds
  have HDis := Lib.hid (show ∀ k, PlF P S W k → ¬ Fs k from fun k hk hF => hdis k hk (hFs k hF).1)
  have HLg := Lib.hid (lowT_get hl)
  have H0 := Lib.hid h0
  clear hd hds hFs hFD hdis
  have HDn := Lib.hid hdn
  have HSt := Lib.hid hst
  have HWn := Lib.hid hw
  clear hdn hst hw
  have hbz : ((birth : Int) == 0) = false := by simp; omega
  have HPut := Lib.hid (put_ok _ n W0 (HN.out.below HB0.out) hf hfo hsz)
  have HTz := Lib.hid hT
  have HLow := Lib.hid hl
  have HNl := Lib.hid (nodeB_length hfo hkw hsz)
  clear hf hfo hsz hT hl
  go_enter Tryz.func19, Tryz.ntmps19
  go_wp2_with fail
  rw [← HW0.out]
  refine HPut.out.mono ?_
  rintro e w1 ⟨aa, cc, rfl, hrow1, hb1⟩
  have HB1 := Lib.hid (HB0.out.trans (hb1.mono HB0.out.size))
  have HG1 := Lib.hid ((hb1.block _ (lt_of_block HGA.out)).trans HGA.out)
  have hrow1' : w1.ownsRow W0.heap.size 5 1 (.slice aa 512 cc) 512 ((nodeB n).map Bv) := hrow1
  have HR1 := Lib.hid hrow1'
  clear hb1 HPut hrow1 hrow1'
  have HP1 := Lib.hid (HH.out.below HB1.out)
  have c65 := HP1.out.cells.2.2.1
  have HTk := Lib.hid (spTake_any S W d.size t w1 HP1.out.sp (HTz.out.below HB1.out))
  go_wp2_with fail
  refine HTk.out.mono ?_
  rintro e w2 hpost
  unfold TkPost at hpost
  rw [HLow.out] at hpost
  obtain ⟨rfl, hsp2, hf2⟩ := hpost
  have hP2 : PlAt w2 P D S W d.size ks (updT t a true) birth := ⟨(hf2.block P (lt_of_block HP1.out.row) (by rintro (e | e); exact HP1.out.nPS e; exact HP1.out.nPW e)).trans HP1.out.row, hsp2, HP1.out.ks, HP1.out.birth, HP1.out.nPS, HP1.out.nPW⟩
  have hSl := HH.out.lt S (Or.inr (Or.inl rfl))
  have hWl := HH.out.lt W (Or.inr (Or.inr rfl))
  have hD2 : DvIn w2 lo D Fs d := (HDs.out.below HB1.out).fr hf2 (by rintro k hk (rfl | rfl); exact HDis.out _ (Or.inr (Or.inl rfl)) hk; exact HDis.out _ (Or.inr (Or.inr rfl)) hk)
  have hS2 : Sl w2 1 (.slice aa 512 cc) 512 ((nodeB n).map Bv) := by
    rcases HR1.out.2 with ⟨h1, _⟩ | ⟨g, cap, cur, h1, hge, hg, _, _, hcs, _⟩
    · cases h1
    · refine (Sl.own HR1.out).fr hf2 ?_
      intro q m c' e2
      rw [h1] at e2
      injection e2 with e3
      injection e3 with e4
      subst e4
      have := HS0.out
      rintro (e | e) <;> (dsimp only at e; omega)
  have HG2 := Lib.hid ((hf2.block _ (lt_of_block HG1.out) (by rintro (e | e) <;> omega)).trans HG1.out)
  have HF2 := Lib.hid (show Fr (fun k => k = S ∨ k = W) w w2 from ((Fr.of_below (S := fun _ => False) HB1.out).mono (fun _ _ h => h.elim)).trans hf2)
  have HPlc := Lib.hid (place_ok P D S W a birth lo ks (nodeB n) (updT t a true) Fs d (.slice aa 512 cc) w2 hP2 hD2 HDis.out ⟨HLg.out.1, HLg.out.2.1⟩ H0.out HNl.out hS2 HDn.out HSt.out HWn.out)
  have HHp := Lib.hid (⟨HP1.out.ks, HP1.out.birth, HLg.out.2.1, HH.out.sp.2.2.1⟩ : ks.length = 64 ∧ birth < 18446744073709551616 ∧ a < d.size ∧ d.size ≤ 4096)
  clear hP2 hD2 hS2 hf2 hsp2
  go_wp2_with fail
  refine HPlc.out.mono ?_
  rintro e w3 ⟨F', rfl, hp3, hd3, hf3, hfr3⟩
  have HP3 := Lib.hid hp3
  have HD3 := Lib.hid hd3
  have HF3 := Lib.hid hf3
  have HFr3 := Lib.hid hfr3
  have HG3 := Lib.hid ((hfr3.block _ (lt_of_block HG2.out) (fun hk => by have := (HFs.out _ hk).2; omega)).trans HG2.out)
  have hwf : (sealP ks birth a (nodeB n)).Wf := sealP_wf _ _ _ _ HHp.out.2.1 (by have := HHp.out; omega)
  clear hp3 hd3 hf3 hfr3 HPlc
  go_wp2_with (refine store_ptr rfl (.tmp 4) (.tmp 45) rfl rfl (p := sealP ks birth a (nodeB n)) rfl HG3.out Pt.zero_wf.size hwf ?_; intro we hge hfe hse; have HGe := Lib.hid hge; have HFe := Lib.hid hfe; clear hge hfe hse)
  refine bodyPost_ret (ret_pe rfl rfl HGe.out hwf) rfl ?_
  have hs2 := HF2.out.size
  refine ⟨F', rfl, HP3.out.fr HFe.out ?_, HD3.out.fr HFe.out ?_, ?_, ?_⟩
  · intro k hk e; have := HH.out.lt k hk; omega
  · intro k hk e
    rcases HF3.out k hk with h1 | h1
    · have := (HFs.out k h1).2; omega
    · have := lt_of_block HG2.out; omega
  · exact fun k hk => (HF3.out k hk).imp (fun h => (HFs.out k h).1) (fun h => by omega)
  · refine Fr.step (((HF2.out.mono (fun k _ h => Or.inr h)).trans (HFr3.out.mono (fun k _ h => Or.inl (HFs.out k h).1)))) HFe.out (fun j e => Or.inr (by omega))

set_option maxRecDepth 100000 in
set_option maxHeartbeats 4000000 in
theorem poWrite_down (P D S W birth lo : Nat) (ks : List UInt8) (t : Nat → Bool) (Fd : Nat → Prop) (d : Dv) (arr : Array Value) (n : Nd) (w : World) (h : PlAt w P D S W d.size ks t birth) (hd : DvIn w lo D Fd d) (hdis : ∀ k, PlF P S W k → ¬ Fd k) (hn : NdIs w arr n) (hT : Tz w) (h0 : 0 < birth) (hf : n.Fits) (hfo : formB n = true) (hsz : sizeN n ≤ 512) (a : Nat) (hl : lowT t d.size = some a) (hno : d.down = true ∨ d.step.down = true) :
    Calls Tryz.prog 19 #[.pointer (some ⟨P, 0, none⟩), .agg arr] w fun e w' => e = .returned (.tuple #[.agg Pt.zero.arr, .int .i64 7]) ∧ PlAt w' P D S W d.size ks t birth ∧ DvIn w' lo D Fd d.miss ∧ Fr (fun k => Fd k ∨ k = S ∨ k = W) w w' := by
  obtain ⟨ak, ck, av, cv, ap, cp, harr, hk, hv, hp⟩ := hn.get
  have HN := Lib.hid hn
  rw [harr] at HN ⊢
  have hkw : ∀ p ∈ n.kids, p.Wf := hp.wf
  clear hn
  have c66 := h.cells.2.2.2.1
  have hPl := h.lt P (Or.inl rfl)
  obtain ⟨W0, hW0⟩ : ∃ W0, W0 = (w.alloc (.cells #[.bool n.leaf, .slice ak n.keys.length ck, .slice av n.vals.length cv, .slice ap n.kids.length cp] 25)).alloc (.cells #[.int .u32 0, .int .u64 0, .int .u8 0, .int .u8 0, .int .u8 0, .int .u8 0, .int .u8 0, .int .u8 0, .int .u8 0, .int .u8 0, .int .u8 0, .int .u8 0, .int .u8 0, .int .u8 0, .int .u8 0, .int .u8 0, .int .u8 0, .int .u8 0, .int .u8 0, .int .u8 0, .int .u8 0, .int .u8 0, .int .u8 0, .int .u8 0, .int .u8 0, .int .u8 0, .int .u8 0, .int .u8 0, .int .u8 0, .int .u8 0, .int .u8 0, .int .u8 0, .int .u8 0, .int .u8 0] 43) := ⟨_, rfl⟩
  have hb0 : Below w.heap.size w W0 := by rw [hW0]; exact ((Below.refl _ w).alloc (Nat.le_refl _) _).alloc (by simp) _
  have hs0 : W0.heap.size = w.heap.size + 1 + 1 := by rw [hW0]; simp
  have hga0 : W0.heap[w.heap.size + 1]? = some (.cells Pt.zero.arr 43 (0, 0)) := by
    have h1 := heap_alloc_new (w.alloc (.cells #[.bool n.leaf, .slice ak n.keys.length ck, .slice av n.vals.length cv, .slice ap n.kids.length cp] 25)) (.cells #[.int .u32 0, .int .u64 0, .int .u8 0, .int .u8 0, .int .u8 0, .int .u8 0, .int .u8 0, .int .u8 0, .int .u8 0, .int .u8 0, .int .u8 0, .int .u8 0, .int .u8 0, .int .u8 0, .int .u8 0, .int .u8 0, .int .u8 0, .int .u8 0, .int .u8 0, .int .u8 0, .int .u8 0, .int .u8 0, .int .u8 0, .int .u8 0, .int .u8 0, .int .u8 0, .int .u8 0, .int .u8 0, .int .u8 0, .int .u8 0, .int .u8 0, .int .u8 0, .int .u8 0, .int .u8 0] 43)
    have h2 : (w.alloc (.cells #[.bool n.leaf, .slice ak n.keys.length ck, .slice av n.vals.length cv, .slice ap n.kids.length cp] 25)).heap.size = w.heap.size + 1 := by simp
    rw [h2] at h1
    rw [hW0]
    exact h1
  have HB0 := Lib.hid hb0
  have HS0 := Lib.hid hs0
  have HGA := Lib.hid hga0
  have HW0 := Lib.hid hW0
  have HH := Lib.hid h
  clear h hk hv hp harr hb0 hs0 hga0 hW0
  obtain ⟨Fs, hds, hFs, hFD⟩ := hd.small
  have HFs := Lib.hid hFs
  have HDs := Lib.hid hds
  have HDis := Lib.hid (show ∀ k, PlF P S W k → ¬ Fs k from fun k hk hF => hdis k hk (hFs k hF).1)
  have HLg := Lib.hid (lowT_get hl)
  have H0 := Lib.hid h0
  clear hd hds hFs hFD hdis
  have HNo := Lib.hid hno
  clear hno
  have hbz : ((birth : Int) == 0) = false := by simp; omega
  have HPut := Lib.hid (put_ok _ n W0 (HN.out.below HB0.out) hf hfo hsz)
  have HTz := Lib.hid hT
  have HLow := Lib.hid hl
  have HNl := Lib.hid (nodeB_length hfo hkw hsz)
  clear hf hfo hsz hT hl
  go_enter Tryz.func19, Tryz.ntmps19
  go_wp2_with fail
  rw [← HW0.out]
  refine HPut.out.mono ?_
  rintro e w1 ⟨aa, cc, rfl, hrow1, hb1⟩
  have HB1 := Lib.hid (HB0.out.trans (hb1.mono HB0.out.size))
  have HG1 := Lib.hid ((hb1.block _ (lt_of_block HGA.out)).trans HGA.out)
  have hrow1' : w1.ownsRow W0.heap.size 5 1 (.slice aa 512 cc) 512 ((nodeB n).map Bv) := hrow1
  have HR1 := Lib.hid hrow1'
  clear hb1 HPut hrow1 hrow1'
  have HP1 := Lib.hid (HH.out.below HB1.out)
  have c65 := HP1.out.cells.2.2.1
  have HTk := Lib.hid (spTake_any S W d.size t w1 HP1.out.sp (HTz.out.below HB1.out))
  go_wp2_with fail
  refine HTk.out.mono ?_
  rintro e w2 hpost
  unfold TkPost at hpost
  rw [HLow.out] at hpost
  obtain ⟨rfl, hsp2, hf2⟩ := hpost
  have hP2 : PlAt w2 P D S W d.size ks (updT t a true) birth := ⟨(hf2.block P (lt_of_block HP1.out.row) (by rintro (e | e); exact HP1.out.nPS e; exact HP1.out.nPW e)).trans HP1.out.row, hsp2, HP1.out.ks, HP1.out.birth, HP1.out.nPS, HP1.out.nPW⟩
  have hSl := HH.out.lt S (Or.inr (Or.inl rfl))
  have hWl := HH.out.lt W (Or.inr (Or.inr rfl))
  have hD2 : DvIn w2 lo D Fs d := (HDs.out.below HB1.out).fr hf2 (by rintro k hk (rfl | rfl); exact HDis.out _ (Or.inr (Or.inl rfl)) hk; exact HDis.out _ (Or.inr (Or.inr rfl)) hk)
  have hS2 : Sl w2 1 (.slice aa 512 cc) 512 ((nodeB n).map Bv) := by
    rcases HR1.out.2 with ⟨h1, _⟩ | ⟨g, cap, cur, h1, hge, hg, _, _, hcs, _⟩
    · cases h1
    · refine (Sl.own HR1.out).fr hf2 ?_
      intro q m c' e2
      rw [h1] at e2
      injection e2 with e3
      injection e3 with e4
      subst e4
      have := HS0.out
      rintro (e | e) <;> (dsimp only at e; omega)
  have HG2 := Lib.hid ((hf2.block _ (lt_of_block HG1.out) (by rintro (e | e) <;> omega)).trans HG1.out)
  have HF2 := Lib.hid (show Fr (fun k => k = S ∨ k = W) w w2 from ((Fr.of_below (S := fun _ => False) HB1.out).mono (fun _ _ h => h.elim)).trans hf2)
  have HPlc := Lib.hid (place_bad P D S W a birth lo ks (nodeB n) (updT t a true) Fs d (.slice aa 512 cc) w2 hP2 hD2 HDis.out ⟨HLg.out.1, HLg.out.2.1⟩ H0.out HNl.out hS2 HNo.out (by simp [updT]))
  clear hP2 hD2 hS2 hf2 hsp2
  go_wp2_with fail
  refine HPlc.out.mono ?_
  rw [show updT (updT t a true) a false = t from (updT_back t a true false).trans (updT_same t a false HLg.out.2.2)]
  rintro e w3 ⟨rfl, hp3, hd3, hfr3⟩
  have HP3 := Lib.hid hp3
  have HD3 := Lib.hid hd3
  have HFr3 := Lib.hid hfr3
  have HG3 := Lib.hid ((hfr3.block _ (lt_of_block HG2.out) (by rintro (hk | e | e); (· have := (HFs.out _ hk).2; omega); (· omega); (· omega))).trans HG2.out)
  clear hp3 hd3 hfr3 HPlc
  go_wp2_with (refine store_ptr rfl (.tmp 4) (.tmp 45) rfl rfl (p := Pt.zero) rfl HG3.out Pt.zero_wf.size Pt.zero_wf ?_; intro we hge hfe hse; have HGe := Lib.hid hge; have HFe := Lib.hid hfe; clear hge hfe hse)
  refine bodyPost_ret (ret_pe rfl rfl HGe.out Pt.zero_wf) rfl ?_
  have hs2 := HF2.out.size
  refine ⟨rfl, HP3.out.fr HFe.out ?_, ?_, ?_⟩
  · intro k hk e; have := HH.out.lt k hk; omega
  · obtain ⟨L, T, wv, h1, h2⟩ := HD3.out.fr HFe.out (fun k hk e => by have := (HFs.out k hk).2; omega)
    exact ⟨L, T, wv, h1, fun k hk => (HFs.out k (h2 k hk)).1⟩
  · refine Fr.step (((HF2.out.mono (fun k _ h => Or.inr h)).trans (HFr3.out.mono (fun k _ h => h.imp (fun h => (HFs.out k h).1) id)))) HFe.out (fun j e => Or.inr (by omega))

end Go.Proofs.YtkbnkdokcmpcgaaGreatDoor
namespace Go.Proofs.YtkbnkdokcmpcgaaGreatDoor
open Go.RowKit

end Go.Proofs.YtkbnkdokcmpcgaaGreatDoor
namespace Go.Proofs.YtkbnkdokcmpcgaaGreatDoor
open Go.RowKit

def strOf : List UInt8 → ByteArray × Int × List UInt8
  | [] => (⟨#[]⟩, 3, [])
  | c :: xs => if xs.length < c.toNat then (⟨#[]⟩, 3, c :: xs) else (⟨(xs.take c.toNat).toArray⟩, 0, xs.drop c.toNat)
def numOf (n : Int) (xs : List UInt8) : Nat × Int × List UInt8 :=
  if n < 0 ∨ 8 < n then (0, 2, xs) else if (xs.length : Int) < n then (0, 3, xs) else (getB (xs.take n.toNat), 0, xs.drop n.toNat)
def hashOf (xs : List UInt8) : List UInt8 × Int × List UInt8 :=
  if xs.length < 32 then (List.replicate 32 0, 3, xs) else (xs.take 32, 0, xs.drop 32)

theorem strOf_le (xs : List UInt8) : (strOf xs).2.2.length ≤ xs.length := by
  unfold strOf; split
  · exact Nat.le_refl _
  · split
    · exact Nat.le_refl _
    · simp only [List.length_drop, List.length_cons]; omega
theorem numOf_le (n : Int) (xs : List UInt8) : (numOf n xs).2.2.length ≤ xs.length := by
  unfold numOf; split
  · exact Nat.le_refl _
  · split
    · exact Nat.le_refl _
    · simp only [List.length_drop]; omega
theorem Sl.stay {w w' : World} {S : Nat → Prop} {v : Value} {n : Nat} {ys : List UInt8} (h : Sl w 1 v n (ys.map Bv)) (hf : Fr S w w') (hs : ∀ p (x : UInt8), w.cell? p = some (Bv x) → ¬ S p.block) : Sl w' 1 v n (ys.map Bv) := by
  refine h.cells fun p u hu hp => ?_
  obtain ⟨x, _, rfl⟩ := List.mem_map.1 hu
  exact hf.cell hp (hs p x hp)

end Go.Proofs.YtkbnkdokcmpcgaaGreatDoor
namespace Go.Proofs.YtkbnkdokcmpcgaaGreatDoor
open Go.RowKit

set_option maxHeartbeats 400000 in
theorem rNumO_ok (b : Nat) (ob : Option Nat) (xs : List UInt8) (n : Nat) (w : World) (h : RdO w b ob xs) (h8 : n ≤ 8) (hn : n ≤ xs.length) (hr : xs.length ≤ 140737488351232) :
    Calls Tryz.prog 118 #[.pointer (some ⟨b, 0, none⟩), .int .i64 (n : Int)] w fun e w' => e = .returned (.tuple #[.int .u64 (getB (xs.take n) : Int), .int .i64 0]) ∧ RdO w' b ob (xs.drop n) ∧ Fr (fun k => k = b) w w' := by
  have HH := Lib.hid h
  have b1 : decide ((n : Int) < 0) = false := by simp
  have b2 : decide ((8 : Int) < (n : Int)) = false := by simp; omega
  clear h
  go_enter Tryz.func118, Tryz.ntmps118
  go_wp2_with fail
  refine (take_stay b ob xs 0 n _ HH.out (by omega) hr).mono ?_
  rintro e w1 ⟨aa, cc, rfl, hown, hrd, hfr⟩
  have HS := Lib.hid (Sl.own hown)
  have HR := Lib.hid hrd
  have HF := Lib.hid hfr
  clear hown hrd hfr
  go_wp2_with fail
  refine (numGet_ok _ _ n _ HS.out h8).mono ?_
  rintro e w2 ⟨rfl, rfl⟩
  go_wp2
  go_ret2
  exact ⟨by simp, by simpa using HR.out, HF.out⟩

set_option maxHeartbeats 400000 in
theorem rStrO_ok (b : Nat) (ob : Option Nat) (c : UInt8) (xs : List UInt8) (w : World) (h : RdO w b ob (c :: xs)) (hn : c.toNat ≤ xs.length) (hr : xs.length + 1 ≤ 140737488351232) :
    Calls Tryz.prog 119 #[.pointer (some ⟨b, 0, none⟩)] w fun e w' => e = .returned (.tuple #[.string ⟨(xs.take c.toNat).toArray⟩, .int .i64 0]) ∧ RdO w' b ob (xs.drop c.toNat) ∧ Fr (fun k => k = b) w w' := by
  obtain ⟨a, cap, hc, hf, hb, hs⟩ := take_pre b _ w h.rd
  obtain ⟨b', o', rfl, hc0⟩ : ∃ b' o', a = some ⟨b', o', none⟩ ∧ w.cell? ⟨b', o', none⟩ = some (.int .u8 (c.toNat : Int)) := by
    obtain ⟨_, a', cap', e, _, _, hcs⟩ := hs
    obtain ⟨b', o', rfl, h0⟩ := hcs 0 (Bv c) rfl
    simp only [Value.slice.injEq, true_and] at e
    exact ⟨b', o', e.1, h0⟩
  have HH := Lib.hid h
  have hc256 := c.toNat_lt
  clear hb hs h hf
  go_enter Tryz.func119, Tryz.ntmps119
  go_wp2_with fail
  refine (rLeft_any b _ _ HH.out.rd).mono ?_
  rintro e w1 ⟨rfl, rfl⟩
  rw [List.length_cons]
  go_wp2_with fail
  refine (take_stay b ob (c :: xs) 1 c.toNat _ HH.out (by rw [List.length_cons]; omega) (by rw [List.length_cons]; omega)).mono ?_
  rintro e w1 ⟨aa, cc, rfl, hown, hrd, hfr⟩
  have q := toStr_u8 (Sl.own hown)
  have HR := Lib.hid hrd
  have HF := Lib.hid hfr
  clear hown hrd hfr
  go_wp2
  go_ret2
  refine ⟨rfl, ?_, HF.out⟩
  have := HR.out
  rwa [Nat.add_comm, List.drop_succ_cons] at this

set_option maxRecDepth 100000 in
set_option maxHeartbeats 1000000 in
theorem rHashO_ok (b : Nat) (ob : Option Nat) (xs : List UInt8) (w : World) (h : RdO w b ob xs) (hn : 32 ≤ xs.length) (hr : xs.length ≤ 140737488351232) :
    Calls Tryz.prog 151 #[.pointer (some ⟨b, 0, none⟩)] w fun e w' => e = .returned (.tuple #[.agg ((xs.take 32).map Bv).toArray, .int .i64 0]) ∧ RdO w' b ob (xs.drop 32) ∧ Fr (fun k => k = b) w w' := by
  have hlt := h.rd.lt
  have ho := h
  have hobl := ho.lt (by intro e; subst e; simp at hn)
  have HH := Lib.hid (ho.fr ((Fr.refl (fun _ => False) w).alloc (.cells ((List.replicate 32 (0 : UInt8)).map Bv).toArray 33)) id (fun _ _ => id))
  have HOL := Lib.hid hobl
  clear h ho hobl
  go_enter Tryz.func151, Tryz.ntmps151
  go_wp2_with fail
  refine (take_stay b ob xs 0 32 _ HH.out (by omega) hr).mono ?_
  rintro e w1 ⟨aa, cc, rfl, hown, hst, hfr⟩
  have HG := Lib.hid ((hfr.block w.heap.size (by simp) (by omega)).trans (alloc_zero32 w))
  have HS := Lib.hid (Sl.own hown)
  have HR := Lib.hid hst
  have HF := Lib.hid hfr
  clear hown hst hfr
  go_wp2_with (refine copy_u8 rfl (.tmp 10) (.tmp 11) rfl HG.out HS.out rfl rfl (by simp) ?_)
  intro w2 hg2 hf2
  have hov : over [0, 0, 0, 0, 0, 0, 0, 0, 0, 0, 0, 0, 0, 0, 0, 0, 0, 0, 0, 0, 0, 0, 0, 0, 0, 0, 0, 0, 0, 0, 0, 0] 0 (List.take 32 (List.take 32 xs)) = xs.take 32 := by
    rw [List.take_take, Nat.min_self]; exact over_all _ _ (by simp; omega)
  obtain ⟨y, hy⟩ : ∃ y, y = xs.take 32 := ⟨_, rfl⟩
  rw [hov, ← hy] at hg2
  have hlen : y.length = 32 := by rw [hy]; simp; omega
  have HG2 := Lib.hid hg2
  have HLn := Lib.hid hlen
  have HY := Lib.hid hy
  have HA2 := Lib.hid (At.of_row (cs := y.map Bv) hg2)
  have hF2 : Fr (fun k => k = b) w w2 := (((Fr.refl (fun k => k = b) w).alloc (.cells ((List.replicate 32 (0 : UInt8)).map Bv).toArray 33)).trans HF.out).step hf2 (fun k hk => Or.inr (by omega))
  have HF2 := Lib.hid hF2
  have HR2 := Lib.hid (HR.out.fr hf2 (by omega) (fun k hk e => by have := HOL.out k hk; omega))
  clear hg2 hf2 hov hlen hF2 hy
  go_wp2_with (first | (refine load_hash' rfl (.tmp 2) rfl rfl HA2.out HLn.out ?_) | (refine store_hash rfl (.tmp 2) (.tmp 13) rfl rfl rfl HG2.out (by rw [List.size_toArray, List.length_map]; exact HLn.out) HLn.out ?_))
  intro w3 hg3 hf3
  have HG3 := Lib.hid hg3
  have HF3 := Lib.hid hf3
  clear hg3 hf3
  go_wp2
  refine bodyPost_ret (ret_hash rfl rfl HG3.out HLn.out) rfl ?_
  refine ⟨by rw [HY.out]; rfl, ?_, HF2.out.step HF3.out (fun k hk => Or.inr (by omega))⟩
  have := (HR2.out.fr HF3.out (by omega) (fun k hk e => by have := HOL.out k hk; omega))
  simpa using this

theorem RdO.below {w w' : World} {b : Nat} {ob : Option Nat} {xs : List UInt8} (h : RdO w b ob xs) (hb : Below w.heap.size w w') : RdO w' b ob xs := h.fr (Fr.of_below (S := fun _ => False) hb) id (fun _ _ => id)
theorem rNumO_any (b : Nat) (ob : Option Nat) (n : Int) (xs : List UInt8) (w : World) (h : RdO w b ob xs) (hr : xs.length ≤ 140737488351232) :
    Calls Tryz.prog 118 #[.pointer (some ⟨b, 0, none⟩), .int .i64 n] w fun e w' => e = .returned (.tuple #[.int .u64 ((numOf n xs).1 : Int), .int .i64 (numOf n xs).2.1]) ∧ RdO w' b ob (numOf n xs).2.2 ∧ Fr (fun k => k = b) w w' := by
  unfold numOf
  by_cases h1 : n < 0 ∨ 8 < n
  · simp only [h1, if_true]
    exact (rNum_arg b n w h1).mono (by rintro e w' ⟨rfl, rfl⟩; exact ⟨rfl, h, Fr.refl _ _⟩)
  · simp only [h1, if_false]
    obtain ⟨k, rfl⟩ := Int.eq_ofNat_of_zero_le (show 0 ≤ n by omega)
    by_cases h2 : (xs.length : Int) < (k : Int)
    · simp only [h2, if_true]
      exact (rNum_short b xs k w h.rd (by omega) (by omega)).mono (by rintro e w' ⟨rfl, rfl⟩; exact ⟨rfl, h, Fr.refl _ _⟩)
    · simp only [h2, if_false]
      exact rNumO_ok b ob xs k w h (by omega) (by omega) hr
theorem rStrO_any (b : Nat) (ob : Option Nat) (xs : List UInt8) (w : World) (h : RdO w b ob xs) (hr : xs.length ≤ 140737488351232) :
    Calls Tryz.prog 119 #[.pointer (some ⟨b, 0, none⟩)] w fun e w' => e = .returned (.tuple #[.string (strOf xs).1, .int .i64 (strOf xs).2.1]) ∧ RdO w' b ob (strOf xs).2.2 ∧ Fr (fun k => k = b) w w' := by
  cases xs with
  | nil => exact (rStr_empty b w h.rd).mono (by rintro e w' ⟨rfl, rfl⟩; exact ⟨rfl, h, Fr.refl _ _⟩)
  | cons c xs =>
    unfold strOf
    rcases Nat.lt_or_ge xs.length c.toNat with hc | hc
    · simp only [hc, if_true]
      exact (rStr_cut b c xs w h.rd hc hr).mono (by rintro e w' ⟨rfl, rfl⟩; exact ⟨rfl, h, Fr.refl _ _⟩)
    · simp only [Nat.not_lt.2 hc, if_false]
      exact rStrO_ok b ob c xs w h hc hr
theorem rHashO_any (b : Nat) (ob : Option Nat) (xs : List UInt8) (w : World) (h : RdO w b ob xs) (hr : xs.length ≤ 140737488351232) :
    Calls Tryz.prog 151 #[.pointer (some ⟨b, 0, none⟩)] w fun e w' => e = .returned (.tuple #[.agg ((hashOf xs).1.map Bv).toArray, .int .i64 (hashOf xs).2.1]) ∧ RdO w' b ob (hashOf xs).2.2 ∧ Fr (fun k => k = b) w w' := by
  unfold hashOf
  rcases Nat.lt_or_ge xs.length 32 with h1 | h1
  · simp only [h1, if_true]
    exact (rHash_short b xs w h.rd h1).mono (by rintro e w' ⟨rfl, _, h2⟩; exact ⟨rfl, h.below h2, Fr.of_below h2⟩)
  · simp only [Nat.not_lt.2 h1, if_false]
    exact rHashO_ok b ob xs w h h1 hr
end Go.Proofs.YtkbnkdokcmpcgaaGreatDoor
namespace Go.Proofs.YtkbnkdokcmpcgaaGreatDoor
open Go.RowKit

section
variable {P : Program}
theorem wpList_store_part {ops : Array Oper} {rest : List Oper} {o : Oper} {a : Act} {w : World} {Q : Exit → Act → World → Prop} (hgd : o.guard = none) (ty : TypeId) (x y : Operand) (ho : o.op = .store ty x y)
    (b off : Nat) (hx : a.eval x = .pointer (some ⟨b, off, none⟩)) (cs : List Value) (hy : a.eval y = .agg cs.toArray) (old : Array Value) (t : TypeId) (hb : w.heap[b]? = some (.cells old t (0, 0))) (hl : off + cs.length ≤ old.size)
    (h1 : ∀ u ∈ cs, u.oneCell' = true) (hi : (P.info? ty).map (·.size) = some cs.length)
    (h : ∀ w', w'.heap[b]? = some (.cells (old.toList.take off ++ cs ++ old.toList.drop (off + cs.length)).toArray t (0, 0)) → Fr (fun k => k = b) w w' → w'.heap.size = w.heap.size → wpList P ops Q rest (a.put o.dst undef) w') : wpList P ops Q (o :: rest) a w := by
  refine wpList_plain hgd fun K hK => ?_
  have hst := run_storeCells_at P b off t cs 0 old w hb (by omega) h1
  cases hq : P.info? ty with
  | none => simp [hq] at hi
  | some i =>
    have hs : i.size = cs.length := by simpa [hq] using hi
    rw [Nat.add_zero] at hst
    have hr : (Instr.storeAt ty (.pointer (some ⟨b, off, none⟩)) (.agg cs.toArray)).run P w = .ok () (w.setRow b (old.toList.take off ++ cs ++ old.toList.drop (off + cs.length)).toArray) := by
      simp [Instr.storeAt, Instr.sureAddr, storeVar, sizeOf, typeInfo, hq, hs, Value.cells, Sem.run_bind, hst]
    unfold Oper.wp execOp
    simp only [ho, hx, hy, Sem.run_bind, Sem.run_pure, Result.andThen_ok, hr]
    exact hK _ _ (h _ (setRow_heap w b old _ t _ hb) ⟨rfl, rfl, rfl, by simp, fun k _ hk => setRow_other w b k _ hk⟩ (by simp))
end

def ptrOf (xs : List UInt8) : Pt × Int × List UInt8 :=
  if xs.length < 44 then (Pt.zero, 3, xs) else (⟨getB (xs.take 4), getB ((xs.drop 4).take 8), (xs.drop 12).take 32⟩, 0, xs.drop 44)
theorem ptrOf_wf (xs : List UInt8) : (ptrOf xs).1.Wf := by
  unfold ptrOf
  split
  · exact Pt.zero_wf
  · refine ⟨?_, ?_, ?_⟩
    · have := getB_lt (xs.take 4)
      rw [List.length_take, Nat.min_eq_left (by omega)] at this
      simpa using this
    · have := getB_lt ((xs.drop 4).take 8)
      rw [List.length_take, List.length_drop, Nat.min_eq_left (by omega)] at this
      simpa using this
    · simp; omega

theorem ret_ptr {fn : Func} {p u : Tmp} (h : fn.results = #[.cell p 43, .tmp u]) {tmps : Array Value} {w : World} {g : Nat} {q : Pt} {t : TypeId} (hp : tmps.getD p undef = .pointer (some ⟨g, 0, none⟩))
    (hg : w.heap[g]? = some (.cells q.arr t (0, 0))) (hl : q.Wf) :
    (results fn tmps).run Tryz.prog w = .ok (.tuple #[.agg q.arr, tmps.getD u undef]) w := by
  rw [results_cell_tmp h, hp]
  simp [asAddr, run_loadVar_row w g t 43 _ _ _ hg Tryz.underlying43 rfl (by rw [info_ptr]; simp [hl.size]), Result.andThen]

theorem hash_part {ops : Array Oper} {rest : List Oper} {o : Oper} {a : Act} {w : World} {Q : Exit → Act → World → Prop} (hgd : o.guard = none) (x y : Operand) (ho : o.op = .store 33 x y)
    {b : Nat} (hx : a.eval x = .pointer (some ⟨b, 2, none⟩)) {h : List UInt8} (hy : a.eval y = .agg (h.map Bv).toArray) {old : Array Value} {t : TypeId} (hb : w.heap[b]? = some (.cells old t (0, 0))) (hl : h.length = 32) {p : Pt} (hs : p.sum = h)
    (ho2 : ∃ c0 c1 l, old = (c0 :: c1 :: l).toArray ∧ l.length = 32 ∧ c0 = .int .u32 (p.addr : Int) ∧ c1 = .int .u64 (p.birth : Int))
    (hK : ∀ w', w'.heap[b]? = some (.cells p.arr t (0, 0)) → Fr (fun k => k = b) w w' → w'.heap.size = w.heap.size → wpList Tryz.prog ops Q rest (a.put o.dst undef) w') : wpList Tryz.prog ops Q (o :: rest) a w := by
  obtain ⟨c0, c1, l, rfl, hll, rfl, rfl⟩ := ho2
  refine wpList_store_part hgd _ x y ho b 2 hx (h.map Bv) hy _ t hb (by simp; omega) (Bv_oneCell _) (by rw [info_hash']; simp [hl]) (fun w' h1 h2 h3 => hK w' ?_ h2 h3)
  rw [h1]
  congr 2
  apply Array.toList_inj.1
  subst hs
  rw [List.length_map, hl]
  simp [Pt.arr, Pt.cells]
  omega

theorem zero_cells (c : Array Value) (h : c = Pt.zero.arr) (a b : Value) : ∃ l, (c.setIfInBounds 0 a).setIfInBounds 1 b = (a :: b :: l).toArray ∧ l.length = 32 := by
  subst h
  exact ⟨(List.replicate 32 0).map Bv, by simp [Pt.arr, Pt.cells, Pt.zero], by simp⟩

set_option maxRecDepth 100000 in
set_option maxHeartbeats 4000000 in
theorem ptrGet_any (b : Nat) (ob : Option Nat) (xs : List UInt8) (w : World) (h : RdO w b ob xs) (hob : ∀ k, ob = some k → k < w.heap.size) (hr : xs.length ≤ 140737488351232) :
    Calls Tryz.prog 120 #[.pointer (some ⟨b, 0, none⟩)] w fun e w' => e = .returned (.tuple #[.agg (ptrOf xs).1.arr, .int .i64 (ptrOf xs).2.1]) ∧ RdO w' b ob (ptrOf xs).2.2 ∧ Fr (fun k => k = b) w w' := by
  have hlt := h.rd.lt
  have HH := Lib.hid (h.below ((Below.refl _ w).alloc (Nat.le_refl _) (.cells Pt.zero.arr 43)))
  have HOB := Lib.hid hob
  have hg0 : ∀ w1, w.alloc (.cells Pt.zero.arr 43) = w1 → w1.heap[w.heap.size]? = some (.cells Pt.zero.arr 43 (0, 0)) := fun w1 e => by rw [← e]; exact heap_alloc_new _ _
  have HG0 := Lib.hid hg0
  clear h hg0 hob
  by_cases hs : xs.length < 44
  · have HQ := Lib.hid (show ptrOf xs = (Pt.zero, 3, xs) by unfold ptrOf; rw [if_pos hs])
    have m1 : (xs.length : Int) < 44 := by omega
    clear hs
    go_enter Tryz.func120, Tryz.ntmps120
    go_wp2_with fail
    refine (rLeft_any b xs _ HH.out.rd).mono ?_
    rintro e w1 ⟨rfl, hw1⟩
    have HG1 := Lib.hid (HG0.out w1 hw1)
    have HA1 := Lib.hid (show At w1 w.heap.size 0 Pt.zero.cells from At.of_row HG1.out)
    have HR1 := Lib.hid (show RdO w1 b ob xs by rw [← hw1]; exact HH.out)
    have HF1 := Lib.hid (show Fr (fun k => k = b) w w1 by rw [← hw1]; exact (Fr.refl _ w).alloc _)
    clear hw1
    go_wp2_with (first | (refine load_ptr rfl (.tmp 2) rfl rfl HA1.out Pt.zero_wf ?_) | (refine store_ptr rfl (.tmp 2) (.tmp 14) rfl rfl rfl HG1.out Pt.zero_wf.size Pt.zero_wf ?_))
    intro w2 hg2 hf2 hs2
    have HG2 := Lib.hid hg2
    have HR2 := Lib.hid (HR1.out.fr hf2 (by omega) (fun k hk e => by have := HOB.out k hk; omega))
    have HF2 := Lib.hid (HF1.out.step hf2 (fun k hk => Or.inr (by omega)))
    clear hg2 hf2 hs2
    go_wp2
    refine bodyPost_ret (ret_ptr rfl rfl HG2.out Pt.zero_wf) rfl ?_
    rw [HQ.out]
    exact ⟨rfl, HR2.out, HF2.out⟩
  · have hq : ptrOf xs = (⟨getB (xs.take 4), getB ((xs.drop 4).take 8), (xs.drop 12).take 32⟩, 0, xs.drop 44) := by unfold ptrOf; rw [if_neg hs]
    have hwf := ptrOf_wf xs
    rw [hq] at hwf
    have m1 : ¬ (xs.length : Int) < 44 := by omega
    have HN4 := Lib.hid (show numOf 4 xs = (getB (xs.take 4), 0, xs.drop 4) by unfold numOf; rw [if_neg (by omega), if_neg (by omega)]; rfl)
    have HN8 := Lib.hid (show numOf 8 (xs.drop 4) = (getB ((xs.drop 4).take 8), 0, xs.drop 12) by unfold numOf; rw [if_neg (by omega), if_neg (by rw [List.length_drop]; omega), List.drop_drop]; rfl)
    have HHs := Lib.hid (show hashOf (xs.drop 12) = ((xs.drop 12).take 32, 0, xs.drop 44) by unfold hashOf; rw [if_neg (by rw [List.length_drop]; omega), List.drop_drop])
    have hl32 : ((xs.drop 12).take 32).length = 32 := by simp; omega
    have HL32 := Lib.hid hl32
    obtain ⟨p, hp⟩ : ∃ p : Pt, p = ⟨getB (xs.take 4), getB ((xs.drop 4).take 8), (xs.drop 12).take 32⟩ := ⟨_, rfl⟩
    rw [← hp] at hq hwf
    have HQ := Lib.hid hq
    have HW := Lib.hid hwf
    have hp0 : getB (xs.take 4) = p.addr := by rw [hp]
    have hp1 : getB ((xs.drop 4).take 8) = p.birth := by rw [hp]
    have hp2 : (xs.drop 12).take 32 = p.sum := by rw [hp]
    rw [hp0] at HN4
    rw [hp1] at HN8
    rw [hp2] at HHs HL32
    have ha := hwf.addr
    clear hs hq hwf hl32 hp hp0 hp1 hp2
    go_enter Tryz.func120, Tryz.ntmps120
    go_wp2_with fail
    refine (rLeft_any b xs _ HH.out.rd).mono ?_
    rintro e w1 ⟨rfl, hw1⟩
    have HG1 := Lib.hid (HG0.out w1 hw1)
    have HR1 := Lib.hid (show RdO w1 b ob xs by rw [← hw1]; exact HH.out)
    have HF1 := Lib.hid (show Fr (fun k => k = b) w w1 by rw [← hw1]; exact (Fr.refl _ w).alloc _)
    clear hw1
    go_wp2_with fail
    refine (rNumO_any b ob 4 xs _ HR1.out hr).mono ?_
    rw [HN4.out]
    rintro e w2 ⟨rfl, hr2, hf2⟩
    have hg2 := (hf2.block w.heap.size (lt_of_block HG1.out) (by omega)).trans HG1.out
    have HG2 := Lib.hid hg2
    have HR2 := Lib.hid hr2
    have HF2 := Lib.hid (HF1.out.trans hf2)
    have c0 : w2.cell? ⟨w.heap.size, 0, none⟩ = some (.int .u32 0) := cell_of_row _ _ 0 _ _ _ hg2
    have f0 : w2.frozen? ⟨w.heap.size, 0, none⟩ = false := by simp [World.frozen?, hg2]
    clear hr2 hf2 hg2
    go_wp2_with fail
    obtain ⟨w3, hw3⟩ : ∃ w3, w3 = w2.setCell ⟨w.heap.size, 0, none⟩ (.int .u32 (p.addr : Int)) := ⟨_, rfl⟩
    have hg3 : w3.heap[w.heap.size]? = some (.cells (Pt.zero.arr.setIfInBounds 0 (.int .u32 (p.addr : Int))) 43 (0, 0)) := by rw [hw3]; exact heap_setCell_same _ _ _ _ _ _ HG2.out
    have hr3 : RdO w3 b ob (xs.drop 4) := by
      rw [hw3]
      exact HR2.out.fr ((Fr.refl (fun k => k = w.heap.size) _).set _ 0 rfl _) (by omega) (fun k hk e => by have := HOB.out k hk; omega)
    have hF3 : Fr (fun k => k = b) w w3 := by rw [hw3]; exact HF2.out.setCell (Or.inr (Nat.le_refl _)) _
    rw [← hw3]
    have HF3 := Lib.hid hF3
    clear hw3 hF3 c0 f0
    refine (rNumO_any b ob 8 (xs.drop 4) _ hr3 (by rw [List.length_drop]; omega)).mono ?_
    rw [HN8.out]
    rintro e w4 ⟨rfl, hr4, hf4⟩
    have hg4 := (hf4.block w.heap.size (lt_of_block hg3) (by omega)).trans hg3
    have HG4 := Lib.hid hg4
    have HR4 := Lib.hid hr4
    have HF4 := Lib.hid (HF3.out.trans hf4)
    have c1 : w4.cell? ⟨w.heap.size, 1, none⟩ = some (.int .u64 0) := (cell_of_row _ _ 1 _ _ _ hg4).trans rfl
    have f1 : w4.frozen? ⟨w.heap.size, 1, none⟩ = false := by simp [World.frozen?, hg4]
    clear hr4 hf4 hg4 hg3 hr3
    go_wp2_with fail
    obtain ⟨w5, hw5⟩ : ∃ w5, w5 = w4.setCell ⟨w.heap.size, 1, none⟩ (.int .u64 (p.birth : Int)) := ⟨_, rfl⟩
    have hg5 : w5.heap[w.heap.size]? = some (.cells ((Pt.zero.arr.setIfInBounds 0 (.int .u32 (p.addr : Int))).setIfInBounds 1 (.int .u64 (p.birth : Int))) 43 (0, 0)) := by rw [hw5]; exact heap_setCell_same _ _ _ _ _ _ HG4.out
    have hr5 : RdO w5 b ob (xs.drop 12) := by
      rw [hw5]
      exact HR4.out.fr ((Fr.refl (fun k => k = w.heap.size) _).set _ 1 rfl _) (by omega) (fun k hk e => by have := HOB.out k hk; omega)
    have hF5 : Fr (fun k => k = b) w w5 := by rw [hw5]; exact HF4.out.setCell (Or.inr (Nat.le_refl _)) _
    rw [← hw5]
    have HF5 := Lib.hid hF5
    clear hw5 hF5 c1 f1
    refine (rHashO_any b ob (xs.drop 12) _ hr5 (by rw [List.length_drop]; omega)).mono ?_
    rw [HHs.out]
    rintro e w6 ⟨rfl, hr6, hf6⟩
    have hg6 := (hf6.block w.heap.size (lt_of_block hg5) (by omega)).trans hg5
    obtain ⟨l6, hl6, hl6'⟩ := zero_cells Pt.zero.arr rfl (.int .u32 (p.addr : Int)) (.int .u64 (p.birth : Int))
    rw [hl6] at hg6
    have HG6 := Lib.hid hg6
    have HO6 := Lib.hid (show ∃ c0 c1 l, (Value.int IntKind.u32 (p.addr : Int) :: Value.int IntKind.u64 (p.birth : Int) :: l6).toArray = (c0 :: c1 :: l).toArray ∧ l.length = 32 ∧ c0 = .int .u32 (p.addr : Int) ∧ c1 = .int .u64 (p.birth : Int) from ⟨_, _, l6, rfl, hl6', rfl, rfl⟩)
    have HR6 := Lib.hid hr6
    have HF6 := Lib.hid (HF5.out.trans hf6)
    clear hr6 hf6 hg6 hg5 hr5 hl6 hl6'
    go_wp2_with (refine hash_part (p := p) rfl (.tmp 34) (.tmp 32) rfl rfl rfl HG6.out HL32.out rfl HO6.out ?_)
    intro w7 hg7 hf7 hs7
    have HG7 := Lib.hid hg7
    have HA7 := Lib.hid (show At w7 w.heap.size 0 p.cells from At.of_row hg7)
    have HR7 := Lib.hid (HR6.out.fr hf7 (by omega) (fun k hk e => by have := HOB.out k hk; omega))
    have HF7 := Lib.hid (HF6.out.step hf7 (fun k hk => Or.inr (by omega)))
    clear hg7 hf7 hs7
    go_wp2_with (first | (refine load_ptr rfl (.tmp 2) rfl rfl HA7.out HW.out ?_) | (refine store_ptr rfl (.tmp 2) (.tmp 35) rfl rfl rfl HG7.out HW.out.size HW.out ?_))
    intro w8 hg8 hf8 hs8
    have HG8 := Lib.hid hg8
    have HR8 := Lib.hid (HR7.out.fr hf8 (by omega) (fun k hk e => by have := HOB.out k hk; omega))
    have HF8 := Lib.hid (HF7.out.step hf8 (fun k hk => Or.inr (by omega)))
    clear hg8 hf8 hs8
    go_wp2
    refine bodyPost_ret (ret_ptr rfl rfl HG8.out HW.out) rfl ?_
    rw [HQ.out]
    exact ⟨rfl, HR8.out, HF8.out⟩

end Go.Proofs.YtkbnkdokcmpcgaaGreatDoor

namespace Go.Proofs.YtkbnkdokcmpcgaaGreatDoor
open Go.RowKit

theorem free_row {w : World} {b i : Nat} {cs : Array Value} {t : TypeId} (hg : w.heap[b]? = some (.cells cs t (0, 0))) : w.frozen? ⟨b, i, none⟩ = false := by
  obtain ⟨g, hgg⟩ : ∃ g, g = b := ⟨_, rfl⟩
  subst hgg
  simp [World.frozen?, hg]

end Go.Proofs.YtkbnkdokcmpcgaaGreatDoor
