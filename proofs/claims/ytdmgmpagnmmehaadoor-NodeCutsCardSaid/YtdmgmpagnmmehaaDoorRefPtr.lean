/- Walks: the reference's bytes of a number, of a pointer. -/
import Derived.Test.YtdmgmpagnmmehaaDoorNd
import Derived.Deep.RegionHeld3
namespace Go.Proofs.YtdmgmpagnmmehaaDoor
open Go.RowKit

theorem refNum_any (x n : Nat) (w : World) (h8 : n ≤ 8) (hx : x < 18446744073709551616) (hfit : x / 256 ^ n = 0) :
    Calls Tryd.prog 74 #[.int .u64 (x : Int), .int .i64 (n : Int)] w fun e w' => ∃ aa cc, e = .returned (.slice aa n cc) ∧ w'.ownsRow w.heap.size 5 1 (.slice aa n cc) n ((putB x n).map Bv) ∧ Below w.heap.size w w' := by
  have HX := Lib.hid hfit
  have HH := Lib.hid (fun w => refPut_all x n w h8 hx)
  clear hfit hx
  go_enter Tryd.func74, Tryd.ntmps74
  go_wp2_with fail
  refine (HH.out _).mono ?_
  rintro e w1 ⟨hb, h | h⟩
  · exact absurd HX.out (by have := h.1; omega)
  · obtain ⟨-, aa, cc, rfl, hown⟩ := h
    have HB := Lib.hid hb
    have HO := Lib.hid hown
    clear hb hown
    go_wp2
    go_ret
    exact ⟨aa, cc, rfl, HO.out, HB.out⟩

theorem step_append_u8 {w : World} {o : Oper} {a : Act} {K : Act → World → Prop} {Q : Exit → Act → World → Prop} (s x : Operand)
    (ho : o.op = .call { callee := .builtin .append, args := #[s, x], argTypes := #[28, 28] })
    {base : Nat} {v : Value} {n : Nat} {xs : List UInt8} (hown : w.ownsRow base 5 1 v n (xs.map Bv)) {vx : Value} {m : Nat} {news : List UInt8} (hx : Sl w 1 vx m (news.map Bv))
    (hs : a.eval s = v) (hxe : a.eval x = vx) (hr : n + m ≤ 140737488355328) (hbase : base ≤ w.heap.size)
    (h : ∀ aa cc w', w'.ownsRow base 5 1 (.slice aa (n + m) cc) (n + m) ((xs ++ news).map Bv) → Fr (fun k => v.ownBlock = some k) w w' → ((Value.slice aa (n + m) cc).ownBlock = v.ownBlock ∨ (Value.slice aa (n + m) cc).ownBlock = some w.heap.size) →
      K (a.put o.dst (.slice aa (n + m) cc)) w') : Oper.wp Tryd.prog o a w K Q := by
  obtain ⟨i0, hi, hz0, hz1, hz2⟩ := info_parts info_u8
  obtain ⟨v', w', hq, h2, h3, h4, ⟨aa, cc, rfl⟩, _⟩ := run_append_sl (P := Tryd.prog) w base 28 o.type 5 i0 (.int .u8 0) 1 1 Tryd.underlying28 hi hz0 hz1 hz2 rfl (by decide) v n _ hown vx m _ hx (Bv_oneCell _) (by unfold maxLen; omega) (by omega) hbase
  rw [← List.map_append] at h2
  unfold Oper.wp execOp
  simp only [ho, resolve, invoke, builtin, Sem.run_bind, Sem.run_pure, Result.andThen_ok, List.map_toArray, List.map_cons, List.map_nil, hs, hxe, hq]
  exact h aa cc w' h2 ((Fr.refl _ w).grown h3 (fun k hk => Or.inl hk)) h4

theorem held_step {b : Nat} {x y : Value} {w0 W wA : World} (hb : Below W.heap.size W wA) (h : W.cell? ⟨b, 0, none⟩ = some x ∧ W.cell? ⟨b, 1, none⟩ = some y ∧ Below w0.heap.size w0 W) :
    wA.cell? ⟨b, 0, none⟩ = some x ∧ wA.cell? ⟨b, 1, none⟩ = some y ∧ Below w0.heap.size w0 wA :=
  ⟨(hb.cell (World.block_lt_of_cell? W _ h.1)).trans h.1, (hb.cell (World.block_lt_of_cell? W _ h.2.1)).trans h.2.1, h.2.2.trans (hb.mono h.2.2.size)⟩
theorem held_own {b : Nat} {x y : Value} {w0 W wA : World} {e n : Nat} {v : Value} {xs : List Value} (ho : wA.ownsRow W.heap.size e 1 v n xs) (h : W.cell? ⟨b, 0, none⟩ = some x ∧ W.cell? ⟨b, 1, none⟩ = some y ∧ Below w0.heap.size w0 W) :
    wA.ownsRow w0.heap.size e 1 v n xs := ho.base h.2.2.size
theorem held_size {b : Nat} {x y : Value} {w0 W : World} (h : W.cell? ⟨b, 0, none⟩ = some x ∧ W.cell? ⟨b, 1, none⟩ = some y ∧ Below w0.heap.size w0 W) : w0.heap.size ≤ W.heap.size := h.2.2.size
theorem held_fr {b : Nat} {x y : Value} {w0 W w9 : World} {S : Nat → Prop} (hf : Fr S W w9) (hs : ∀ k, S k → w0.heap.size ≤ k) (hb : b < w0.heap.size) (h : W.cell? ⟨b, 0, none⟩ = some x ∧ W.cell? ⟨b, 1, none⟩ = some y ∧ Below w0.heap.size w0 W) :
    w9.cell? ⟨b, 0, none⟩ = some x ∧ w9.cell? ⟨b, 1, none⟩ = some y ∧ Below w0.heap.size w0 w9 :=
  ⟨hf.cell h.1 (fun k => by have := hs _ k; simp only at this; omega), hf.cell h.2.1 (fun k => by have := hs _ k; simp only at this; omega), h.2.2.trans (hf.below h.2.2.size hs)⟩

set_option maxRecDepth 100000 in
set_option maxHeartbeats 4000000 in
theorem refPtrBytes_any (p : Pt) (w : World) (h : p.Wf) :
    Calls Tryd.prog 75 #[.agg p.arr] w fun e w' => ∃ aa cc, e = .returned (.slice aa 44 cc) ∧ w'.ownsRow w.heap.size 5 1 (.slice aa 44 cc) 44 ((ptrB p).map Bv) ∧ Below w.heap.size w w' := by
  have hg := heap_alloc_new w (.cells p.arr 47)
  have hc0 : (w.alloc (.cells p.arr 47)).cell? ⟨w.heap.size, 0, none⟩ = some (.int .u32 (p.addr : Int)) := (cell_of_row _ _ 0 _ _ _ hg).trans p.get0
  have hc1 : (w.alloc (.cells p.arr 47)).cell? ⟨w.heap.size, 1, none⟩ = some (.int .u64 (p.birth : Int)) := (cell_of_row _ _ 1 _ _ _ hg).trans p.get1
  have HAT := Lib.hid (At_box w p 47)
  have HW := Lib.hid h
  have HB := Lib.hid ((Below.refl _ w).alloc (Nat.le_refl _) (.cells p.arr 47))
  have ha := h.addr
  have EW := Lib.hid (show IntKind.u64.wrap (p.addr : Int) = (p.addr : Int) by rw [IntKind.wrap_u64]; omega)
  have HA := Lib.hid (show ∀ w, Calls Tryd.prog 74 #[.int .u64 (p.addr : Int), .int .i64 4] w fun e w' => ∃ aa cc, e = .returned (.slice aa 4 cc) ∧ w'.ownsRow w.heap.size 5 1 (.slice aa 4 cc) 4 ((putB p.addr 4).map Bv) ∧ Below w.heap.size w w' from fun w => refNum_any p.addr 4 w (by omega) (by omega) (Nat.div_eq_of_lt (by omega)))
  have HBI := Lib.hid (show ∀ w, Calls Tryd.prog 74 #[.int .u64 (p.birth : Int), .int .i64 8] w fun e w' => ∃ aa cc, e = .returned (.slice aa 8 cc) ∧ w'.ownsRow w.heap.size 5 1 (.slice aa 8 cc) 8 ((putB p.birth 8).map Bv) ∧ Below w.heap.size w w' from fun w => refNum_any p.birth 8 w (by omega) h.birth (Nat.div_eq_of_lt (by have := h.birth; omega)))
  clear h hg
  obtain ⟨w0, hw0⟩ : ∃ w0, w0 = w.alloc (.cells p.arr 47) := ⟨_, rfl⟩
  have hs0 : w0.heap.size = w.heap.size + 1 := by rw [hw0]; simp
  have HW0 := Lib.hid hw0
  rw [← hw0] at hc0 hc1
  clear hw0
  go_enter Tryd.func75, Tryd.ntmps75
  go_wp2_with fail
  rw [← HW0.out] at HAT HB ⊢
  go_region_held3 (fun w' => w'.cell? ⟨w.heap.size, 0, none⟩ = some (.int .u32 (p.addr : Int)) ∧ w'.cell? ⟨w.heap.size, 1, none⟩ = some (.int .u64 (p.birth : Int)) ∧ Below w0.heap.size w0 w')
    (first | exact ⟨hc0, hc1, (Below.refl _ _).drew⟩ | assumption)
    (first
      | (go_at_call_of 74 (Value.int .u64 (IntKind.u64.wrap (p.addr : Int)))
         rw [EW.out]
         refine (HA.out _).mono ?_
         rintro e wA ⟨aA, cA, rfl, hoA, hbA⟩
         have hSA := held_step hbA (by assumption)
         replace hoA := held_own (w0 := w0) hoA (by assumption)
         try (replace hoB := hoB.fr (Fr.of_below (S := fun _ => False) hbA) (fun _ _ => id))
         clear hbA)
      | (go_at_call_of 74 (Value.int .u64 (p.birth : Int))
         refine (HBI.out _).mono ?_
         rintro e wB ⟨aB, cB, rfl, hoB, hbB⟩
         have hSB := held_step hbB (by assumption)
         replace hoB := held_own (w0 := w0) hoB (by assumption)
         try (replace hoA := hoA.fr (Fr.of_below (S := fun _ => False) hbB) (fun _ _ => id))
         clear hbB)
      | (refine step_append_u8 (.tmp 7) (.tmp 10) rfl hoA (Sl.own hoB) rfl rfl ?h1 ?h2 ?h3
         case h1 => decide
         case h2 =>
           refine held_size (b := w.heap.size) (x := .int .u32 (p.addr : Int)) (y := .int .u64 (p.birth : Int)) ?_
           assumption
         intro aC cC w9 hoC hfC h3
         have hS9 := held_fr (b := w.heap.size) (x := .int .u32 (p.addr : Int)) (y := .int .u64 (p.birth : Int)) hfC (fun k hk => (hoA.lt k hk).1) (by omega) (by assumption)
         clear hfC hoA hoB))
  all_goals
    have HOC := Lib.hid (show w9.ownsRow w0.heap.size 5 1 (.slice aC 12 cC) 12 ((putB p.addr 4 ++ putB p.birth 8).map Bv) from hoC)
    have hsum : At w9 w.heap.size 2 (p.sum.map Bv) := by simpa using (Pt.sumAt (HAT.out.fr (Fr.of_below (S := fun _ => False) hS9.2.2) id))
    have HSum := Lib.hid (show Sl w9 1 (.slice (some ⟨w.heap.size, 2, none⟩) 32 32) 32 (p.sum.map Bv) from ⟨by simp [HW.out.sum], _, _, rfl, Nat.le_refl _, fun h => (by cases h), fun i u hu => ⟨_, _, rfl, hsum i u hu⟩⟩)
    have HB9 := Lib.hid (HB.out.trans (hS9.2.2.mono HB.out.size))
    have hs9 := hS9.2.2.size
    have HS0 := Lib.hid hs0
    clear hoC hsum hS9 h3 hc0 hc1 hs0
    go_wp2_with (at_builtin; refine append_u8 rfl (.tmp 12) (.tmp 14) rfl HOC.out HSum.out rfl rfl (by decide) hs9 ?_)
    intro aD cD w10 hoD hfD h4
    have HOD := Lib.hid (hoD.base (show w.heap.size ≤ w0.heap.size by have := HS0.out; omega))
    have HBD := Lib.hid (HB9.out.trans (hfD.below (by have := HS0.out; omega) (fun k hk => by have := (HOC.out.lt k hk).1; have := HS0.out; omega)))
    clear hoD hfD h4
    go_wp2
    go_ret
    exact ⟨aD, cD, rfl, HOD.out, HBD.out⟩

end Go.Proofs.YtdmgmpagnmmehaaDoor
