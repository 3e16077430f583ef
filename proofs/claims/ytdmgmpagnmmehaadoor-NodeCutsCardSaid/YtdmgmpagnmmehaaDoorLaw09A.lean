/- Walks: banyanlaw09's alive. -/
import Derived.Test.YtdmgmpagnmmehaaDoorNodeE
import Derived.Test.YtdmgmpagnmmehaaDoorNd
import Derived.Test.YtdmgmpagnmmehaaDoorBuildMany
namespace Go.Proofs.YtdmgmpagnmmehaaDoor
open Go.RowKit

theorem info_ptr2 : (Tryd.prog.info? 47).map (fun i => (i.zero.isSome, i.size)) = some (true, 34) := by kernel_rfl
theorem zero_ptr : ((Tryd.prog.info? 47).bind (·.zero)).map (·.cells.size) = some 34 := by kernel_rfl
theorem info_ptr3 : ∃ i0 z, Tryd.prog.info? 47 = some i0 ∧ i0.zero = some z ∧ i0.size = 34 ∧ z.cells.size = 34 := by
  have e1 := info_ptr2
  have e2 := zero_ptr
  cases hq : Tryd.prog.info? 47 with
  | none => rw [hq] at e1; simp at e1
  | some i =>
    rw [hq] at e1 e2
    simp only [Option.map_some, Option.some.injEq, Prod.mk.injEq, Option.isSome_iff_exists] at e1
    obtain ⟨⟨z, hz⟩, e3⟩ := e1
    simp only [Option.bind_some, hz, Option.map_some, Option.some.injEq] at e2
    exact ⟨i, z, rfl, hz, e3, e2⟩

/-- The example's pointer, and node. -/
def P0 : Pt := ⟨2, 1, List.replicate 32 0⟩
theorem P0_wf : P0.Wf := ⟨by decide, by decide, by decide⟩
def N0 : Nd := ⟨false, [⟨#[98]⟩, ⟨#[100]⟩], [], [P0, P0, P0]⟩
def E0 : Nd := ⟨true, [], [], []⟩
theorem E0_form : formB E0 = true := by decide
theorem E0_size : sizeN E0 ≤ 512 := by decide
theorem E0_fits : E0.Fits := ⟨by decide, by decide, by decide, by simp [E0], by simp [E0]⟩
theorem N0_fits : N0.Fits := ⟨by decide, by decide, by decide, by simp [N0]; decide, by simp [N0]⟩
theorem bl_bd : Op.bytesLess [98] [100] = true := by decide
theorem N0_lt : sLt (⟨#[98]⟩ : ByteArray) ⟨#[100]⟩ = true := by unfold sLt; simp only [ByteArray.toList_eq]; decide
theorem N0_rising : Rising N0.keys := by
  intro i j hj hij
  have h2 : N0.keys.length = 2 := rfl
  have e1 : i = 0 := by omega
  have e2 : j = 1 := by omega
  subst e1 e2
  exact N0_lt
theorem N0_check : checkE N0 = 0 := by
  have hf : formB N0 = true := by
    unfold formB keysB
    have h1 : (List.range N0.keys.length).all (keyAt N0.keys) = true := by
      show (List.range 2).all (keyAt N0.keys) = true
      rw [List.all_eq_true]
      intro i hi
      have : i = 0 ∨ i = 1 := by have := List.mem_range.1 hi; omega
      rcases this with rfl | rfl
      · decide
      · have e : keyAt N0.keys 1 = (decide ((⟨#[100]⟩ : ByteArray).size ≠ 0) && decide ((⟨#[100]⟩ : ByteArray).size ≤ 32) && sLt ⟨#[98]⟩ ⟨#[100]⟩) := rfl
        rw [e, N0_lt]; decide
    rw [h1]; decide
  have hs : ¬ 512 < sizeN N0 := by decide
  exact checkE_ok hf hs

theorem N0_c : findAt N0 ⟨#[99]⟩ = 1 ∧ findIs N0.keys ⟨#[99]⟩ = false := by
  unfold findAt findIs atP N0 sLt sEq
  simp only [ByteArray.toList_eq]
  decide
theorem N0_d : findAt N0 ⟨#[100]⟩ = 2 ∧ findIs N0.keys ⟨#[100]⟩ = true := by
  unfold findAt findIs atP N0 sLt sEq
  simp only [ByteArray.toList_eq]
  decide

theorem heap_alloc_k0 (w : World) (A B C : Obj) : (((w.alloc A).alloc B).alloc C).heap[w.heap.size + 1 + 1]? = some C := by
  have := heap_alloc_new ((w.alloc A).alloc B) C
  simpa using this
theorem heap_alloc_k1 (w : World) (A B C : Obj) : (((w.alloc A).alloc B).alloc C).heap[w.heap.size + 1]? = some B := by
  have h1 := heap_alloc_new (w.alloc A) B
  rw [World.size_alloc] at h1
  exact (((Below.refl _ ((w.alloc A).alloc B)).alloc (Nat.le_refl _) C).block (w.heap.size + 1) (by simp)).trans h1
theorem heap_alloc_k2 (w : World) (A B C : Obj) : (((w.alloc A).alloc B).alloc C).heap[w.heap.size]? = some A :=
  ((((Below.refl _ (w.alloc A)).alloc (Nat.le_refl _) B).alloc (by simp) C).block w.heap.size (by simp)).trans (heap_alloc_new w A)

theorem P0s_size : ∀ v ∈ [P0.arr, P0.arr, P0.arr], v.size = 34 := by
  intro v hv
  have : v = P0.arr := by simpa only [List.mem_cons, List.not_mem_nil, or_false, or_self] using hv
  subst this
  exact P0_wf.size

set_option maxRecDepth 100000 in
set_option maxHeartbeats 4000000 in
theorem alive09 (w : World) : Calls Tryd.prog 9 #[] w fun e w' => e = .returned (.bool true) ∧ Below w.heap.size w w' := by
  have HP1 := Lib.hid (fun w' : World => put_ok #[.bool true, .slice none 0 0, .slice none 0 0, .slice none 0 0] E0 w' ⟨_, _, _, rfl, Sl.nil _ _, Sl.nil _ _, ⟨Sl.nil _ _, by simp [E0]⟩⟩ E0_fits E0_form E0_size)
  go_enter Tryd.func9, Tryd.ntmps9
  go_wp2_with fail
  refine (HP1.out _).mono ?_
  rintro e w1 ⟨aa, cc, rfl, hown, hb⟩
  obtain ⟨_, a', c', e', _, _, hcs⟩ := Sl.own hown
  simp only [Value.slice.injEq, true_and] at e'
  obtain ⟨rfl, rfl⟩ := e'
  obtain ⟨b0, o0, rfl, hc0⟩ := hcs 0 (.int .u8 1) rfl
  obtain ⟨b1, o1, e1, hc1⟩ := hcs 1 (.int .u8 0) rfl
  simp only [Option.some.injEq, Addr.mk.injEq, and_true] at e1
  obtain ⟨rfl, rfl⟩ := e1
  have HC0 := Lib.hid hc0
  have HC1 := Lib.hid hc1
  have HB := Lib.hid hb
  clear hown hb hcs hc0 hc1
  go_wp2_with (refine store_ptr (p := P0) rfl (.tmp 3) (.tmp 14) rfl rfl rfl (heap_alloc_new _ _) rfl P0_wf ?_)
  intro w2 hb2 hf2 hs2
  have hbel2 : Below w1.heap.size w1 w2 := ((Below.refl _ w1).alloc (Nat.le_refl _) _).trans (hf2.below (by simp) (fun k hk => by omega))
  have hlt2 := lt_of_block hb2
  have HC0' := Lib.hid ((hbel2.cell (p := ⟨b0, o0 + 0, none⟩) (World.block_lt_of_cell? w1 _ HC0.out)).trans HC0.out)
  have HC1' := Lib.hid ((hbel2.cell (p := ⟨b0, o0 + 1, none⟩) (World.block_lt_of_cell? w1 _ HC1.out)).trans HC1.out)
  have HB2 := Lib.hid (HB.out.trans (hbel2.mono HB.out.size))
  have HAT := Lib.hid ((show At w2 w1.heap.size 0 P0.cells from At.of_row hb2).fr ((Fr.refl (fun _ => False) w2).alloc (.cells #[.string ⟨#[98]⟩, .string ⟨#[100]⟩] 9)) id)
  obtain ⟨ip, zp, hip, hzp, hsp, hzsp⟩ := info_ptr3
  clear hb2 hf2 hs2 hbel2
  go_wp2_with (first
    | (refine load_ptr rfl (.tmp 3) rfl rfl HAT.out P0_wf ?_)
    | (refine build_many rfl 23 47 3 _ rfl [P0.arr, P0.arr, P0.arr] ?_ rfl Tryd.underlying23 ip zp 34 hip hzp hsp hzsp P0s_size (by decide) (by decide) (by decide) ?_))
  intro cs hcs
  have HCS := Lib.hid hcs
  clear hcs
  go_wp2_with fail
  obtain ⟨w3, hw3⟩ : ∃ w3, w3 = (((w2.alloc (.cells #[.string ⟨#[98]⟩, .string ⟨#[100]⟩] 9)).alloc (.cells cs 47)).alloc (.cells #[.bool false, .slice (some ⟨w2.heap.size, 0, none⟩) 2 2, .slice none 0 0, .slice (some ⟨w2.heap.size + 1, 0, none⟩) 3 3] 25)) := ⟨_, rfl⟩
  have hb23 : Below w2.heap.size w2 w3 := by
    rw [hw3]
    exact (((Below.refl _ w2).alloc (Nat.le_refl _) _).alloc (by simp) _).alloc (by simp; omega) _
  have k0 : w3.heap[w2.heap.size]? = some (.cells #[.string ⟨#[98]⟩, .string ⟨#[100]⟩] 9 (0, 0)) := by
    rw [hw3]
    exact heap_alloc_k2 w2 _ _ _
  have k1 : w3.heap[w2.heap.size + 1]? = some (.cells cs 47 (0, 0)) := by
    rw [hw3]
    exact heap_alloc_k1 w2 _ _ _
  have k2 : w3.heap[w2.heap.size + 1 + 1]? = some (.cells #[.bool false, .slice (some ⟨w2.heap.size, 0, none⟩) 2 2, .slice none 0 0, .slice (some ⟨w2.heap.size + 1, 0, none⟩) 3 3] 25 (0, 0)) := by
    rw [hw3]
    exact heap_alloc_k0 w2 _ _ _
  rw [← hw3]
  have HN3 := Lib.hid (show NdIs w3 #[.bool false, .slice (some ⟨w2.heap.size, 0, none⟩) 2 2, .slice none 0 0, .slice (some ⟨w2.heap.size + 1, 0, none⟩) 3 3] N0 from
    ⟨_, _, _, rfl, Sl_row k0 rfl rfl, Sl.nil _ _, ⟨Sl_row k1 HCS.out (by have := P0_wf.len; simp [N0, this]), by intro p hp; simp [N0] at hp; subst hp; exact P0_wf⟩⟩)
  have HT3 := Lib.hid (At_nd k2)
  have HC0 := Lib.hid ((hb23.cell (p := ⟨b0, o0 + 0, none⟩) (World.block_lt_of_cell? w2 _ HC0'.out)).trans HC0'.out)
  have HC1 := Lib.hid ((hb23.cell (p := ⟨b0, o0 + 1, none⟩) (World.block_lt_of_cell? w2 _ HC1'.out)).trans HC1'.out)
  have HB3 := Lib.hid (HB2.out.trans (hb23.mono HB2.out.size))
  have HF1 := Lib.hid (fun w h => find_any #[.bool false, .slice (some ⟨w2.heap.size, 0, none⟩) 2 2, .slice none 0 0, .slice (some ⟨w2.heap.size + 1, 0, none⟩) 3 3] N0 ⟨#[99]⟩ w h N0_fits N0_rising)
  have HF2 := Lib.hid (fun w h => find_any #[.bool false, .slice (some ⟨w2.heap.size, 0, none⟩) 2 2, .slice none 0 0, .slice (some ⟨w2.heap.size + 1, 0, none⟩) 3 3] N0 ⟨#[100]⟩ w h N0_fits N0_rising)
  have HCK := Lib.hid (fun w h => check_any #[.bool false, .slice (some ⟨w2.heap.size, 0, none⟩) 2 2, .slice none 0 0, .slice (some ⟨w2.heap.size + 1, 0, none⟩) 3 3] N0 w h N0_fits)
  rw [N0_c.1, N0_c.2] at HF1
  rw [N0_d.1, N0_d.2] at HF2
  rw [N0_check] at HCK
  clear hw3 hb23 k0 k1 k2 HC0' HC1' HCS HB2 HAT HB HP1 hip hzp hsp hzsp
  refine (HF1.out _ HN3.out).mono ?_
  rintro e w4 ⟨rfl, hb4⟩
  have HN4 := Lib.hid (HN3.out.below hb4)
  have HT4 := Lib.hid (HT3.out.fr (Fr.of_below (S := fun _ => False) hb4) id)
  have HC04 := Lib.hid ((hb4.cell (p := ⟨b0, o0 + 0, none⟩) (World.block_lt_of_cell? w3 _ HC0.out)).trans HC0.out)
  have HC14 := Lib.hid ((hb4.cell (p := ⟨b0, o0 + 1, none⟩) (World.block_lt_of_cell? w3 _ HC1.out)).trans HC1.out)
  have HB4 := Lib.hid (HB3.out.trans (hb4.mono HB3.out.size))
  clear hb4
  go_wp2_with (refine load_nd rfl (.tmp 4) rfl rfl HT4.out rfl ?_)
  refine (HF2.out _ HN4.out).mono ?_
  rintro e w5 ⟨rfl, hb5⟩
  have HN5 := Lib.hid (HN4.out.below hb5)
  have HT5 := Lib.hid (HT4.out.fr (Fr.of_below (S := fun _ => False) hb5) id)
  have hc0 := ((hb5.cell (p := ⟨b0, o0 + 0, none⟩) (World.block_lt_of_cell? w4 _ HC04.out)).trans HC04.out)
  have hc1 := ((hb5.cell (p := ⟨b0, o0 + 1, none⟩) (World.block_lt_of_cell? w4 _ HC14.out)).trans HC14.out)
  rw [Nat.add_zero] at hc0
  have HB5 := Lib.hid (HB4.out.trans (hb5.mono HB4.out.size))
  clear hb5
  go_wp2_with (refine gload_nd rfl (.tmp 4) rfl rfl HT5.out rfl ?_)
  refine (HCK.out _ HN5.out).mono ?_
  rintro e w6 ⟨rfl, hb6⟩
  have HB6 := Lib.hid (HB5.out.trans (hb6.mono HB5.out.size))
  clear hb6 hc0 hc1
  go_wp2
  go_ret
  exact ⟨rfl, HB6.out⟩

end Go.Proofs.YtdmgmpagnmmehaaDoor
