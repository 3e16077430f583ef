/- 'a, b = append(a, x), append(b, y)' of structs, in whatever order: each chain is a slice literal and an append. Over any program. -/
import Derived.Test.YtkbnkdokcmpcgaaGreatDoorB11
import Derived.Test.YtkbnkdokcmpcgaaGreatDoorB25
namespace Go.Proofs.YtkbnkdokcmpcgaaGreatDoor
open Go.RowKit

/-- What one chain has done: x of its two operations; arr is the struct, s1 and s2 the slots. -/
def Sg (x : Nat) (w0 : World) (base e sz : Nat) (v : Value) (n : Nat) (xs : List Value) (arr : Array Value) (s1 s2 : Nat) (w : World) (a : Act) : Prop :=
  match x with
  | 0 => w.ownsRow base e sz v n xs
  | 1 => w.ownsRow base e sz v n xs ∧ ∃ tb, a.tmps[s1]? = some (.slice (some ⟨tb, 0, none⟩) 1 1) ∧ w.heap[tb]? = some (.cells arr e (0, 0)) ∧ w0.heap.size ≤ tb
  | _ => ∃ aa cc, a.tmps[s2]? = some (.slice aa (n + 1) cc) ∧ w.ownsRow base e sz (.slice aa (n + 1) cc) (n + 1) (xs ++ arr.toList) ∧ ∀ k, (Value.slice aa (n + 1) cc).ownBlock = some k → v.ownBlock = some k ∨ w0.heap.size ≤ k

theorem Sg.other {x : Nat} {w0 : World} {base e sz : Nat} {v : Value} {n : Nat} {xs : List Value} {arr : Array Value} {s1 s2 : Nat} {w w' : World} {a a' : Act} {S : Nat → Prop} (h : Sg x w0 base e sz v n xs arr s1 s2 w a)
    (ha : a'.tmps[s1]? = a.tmps[s1]? ∧ a'.tmps[s2]? = a.tmps[s2]?) (hf : Fr S w w') (hS : ∀ k, S k → ∀ cs fz, w.heap[k]? ≠ some (.cells cs e fz)) : Sg x w0 base e sz v n xs arr s1 s2 w' a' := by
  have hown : ∀ {v' n' xs'}, w.ownsRow base e sz v' n' xs' → w'.ownsRow base e sz v' n' xs' := fun {v' n' xs'} ho => by
    refine ho.fr hf fun k hk hk2 => ?_
    rcases ho.2 with ⟨rfl, _⟩ | ⟨g, cap, cur, rfl, _, hg, _⟩
    · cases hk
    · obtain rfl : g = k := by simpa [Value.ownBlock] using hk
      exact hS _ hk2 _ _ hg
  unfold Sg at h ⊢
  split at h
  · exact hown h
  · obtain ⟨h1, tb, h2, h3, h4⟩ := h
    exact ⟨hown h1, tb, ha.1.trans h2, (hf.block _ (lt_of_block h3) (fun hk => hS _ hk _ _ h3)).trans h3, h4⟩
  · obtain ⟨aa, cc, h1, h2, h3⟩ := h
    exact ⟨aa, cc, ha.2.trans h1, hown h2, h3⟩

/-- Slots but four are as they were. -/
def Kept (a0 a : Act) (s1 s2 s3 s4 : Nat) : Prop := a.defers = a0.defers ∧ a.tmps.size = a0.tmps.size ∧ ∀ s, s ≠ s1 → s ≠ s2 → s ≠ s3 → s ≠ s4 → a.tmps[s]? = a0.tmps[s]?
theorem Kept.put {a0 a : Act} {s1 s2 s3 s4 : Nat} (h : Kept a0 a s1 s2 s3 s4) (s : Nat) (v : Value) (hs : s = s1 ∨ s = s2 ∨ s = s3 ∨ s = s4) : Kept a0 (a.put (some s) v) s1 s2 s3 s4 := by
  obtain ⟨h1, h2, h3⟩ := h
  refine ⟨h1, by simpa [Act.put] using h2, fun t t1 t2 t3 t4 => ?_⟩
  rw [← h3 t t1 t2 t3 t4]
  have : s ≠ t := by rintro rfl; rcases hs with e | e | e | e <;> contradiction
  simp [Act.put, Array.getElem?_setIfInBounds_ne this]
theorem Kept.refl (a : Act) (s1 s2 s3 s4 : Nat) : Kept a a s1 s2 s3 s4 := ⟨rfl, rfl, fun _ _ _ _ _ => rfl⟩
theorem Kept.eq {a0 a : Act} {s1 s2 s3 s4 : Nat} (h : Kept a0 a s1 s2 s3 s4) {v1 v2 v3 v4 : Value} (e1 : a.tmps[s1]? = some v1) (e2 : a.tmps[s2]? = some v2) (e3 : a.tmps[s3]? = some v3) (e4 : a.tmps[s4]? = some v4) :
    a = (((a0.put (some s1) v1).put (some s2) v2).put (some s3) v3).put (some s4) v4 := by
  obtain ⟨h1, h2, h3⟩ := h
  obtain ⟨t, d⟩ := a
  simp only at h1 h2 h3 e1 e2 e3 e4
  subst h1
  simp only [Act.put, Act.mk.injEq, and_true]
  apply Array.ext_getElem?
  intro i
  have l1 := (Array.getElem?_eq_some_iff.1 e1).1
  have l2 := (Array.getElem?_eq_some_iff.1 e2).1
  have l3 := (Array.getElem?_eq_some_iff.1 e3).1
  have l4 := (Array.getElem?_eq_some_iff.1 e4).1
  simp only [Array.getElem?_setIfInBounds, Array.size_setIfInBounds, ← h2]
  by_cases c4 : s4 = i
  · subst c4; rw [if_pos rfl, if_pos l4]; exact e4
  by_cases c3 : s3 = i
  · subst c3; rw [if_neg c4, if_pos rfl, if_pos l3]; exact e3
  by_cases c2 : s2 = i
  · subst c2; rw [if_neg c4, if_neg c3, if_pos rfl, if_pos l2]; exact e2
  by_cases c1 : s1 = i
  · subst c1; rw [if_neg c4, if_neg c3, if_neg c2, if_pos rfl, if_pos l1]; exact e1
  rw [if_neg c4, if_neg c3, if_neg c2, if_neg c1]
  exact h3 i (Ne.symm c1) (Ne.symm c2) (Ne.symm c3) (Ne.symm c4)

section
variable {P : Program} {Q : Exit → Act → World → Prop}
theorem wp_build_one {o : Oper} {a : Act} {w : World} {K : Act → World → Prop} (t e : TypeId) (x : Operand) (ho : o.op = .buildSlice t 1 #[(0, x)])
    {arr : Array Value} (hx : a.eval x = .agg arr) (ht : P.underlying t = some (.slice e)) (i : TypeInfo) (z : Value) (n : Nat) (hi : P.info? e = some i) (hz : i.zero = some z) (hsz : i.size = n) (hzs : z.cells.size = n) (hn : arr.size = n) (h0 : 0 < n) (h24 : n < 1000)
    (hK : K (a.put o.dst (.slice (some ⟨w.heap.size, 0, none⟩) 1 1)) (w.alloc (.cells arr e))) : Oper.wp P o a w K Q := by
  have hf := fill_one (arr := arr) (zs := (Array.range (1 * n)).map (z.cells[· % z.cells.size]!)) n hn (by simp)
  have hr : (Instr.buildSlice t 1 #[(0, .agg arr)]).run P w = .ok (.slice (some ⟨w.heap.size, 0, none⟩) 1 1) (w.alloc (.cells arr e)) := by
    unfold Instr.buildSlice
    have hzv : (zeroValue e).run P w = .ok z w := by simp [zeroValue, typeInfo, hi, hz]
    have hso : (sizeOf e).run P w = .ok n w := by simp [sizeOf, typeInfo, hi, hsz]
    rw [Sem.run_bind, run_underlying ht]
    simp only [Result.andThen_ok, Sem.run_bind, hso, Nat.one_mul]
    rw [if_neg (by omega), if_neg (by omega)]
    simp only [Sem.run_bind, hzv, Result.andThen_ok, Sem.run_pure]
    rw [Nat.one_mul] at hf
    simp only [hf]
    simp [newRow]
  unfold Oper.wp execOp
  simp only [ho, List.map_toArray, List.map_cons, List.map_nil, hx, Sem.run_bind, hr, Result.andThen_ok, Sem.run_pure]
  exact hK

/-- The two operations of a chain. -/
structure ChainOps (P : Program) (ops : Array Oper) (i1 i2 : Nat) (t e sz bytes : Nat) (sv sx s1 s2 : Nat) : Prop where
  o1 : ∃ o, ops[i1]? = some o ∧ o.op = .buildSlice t 1 #[(0, .tmp sx)] ∧ o.dst = some s1 ∧ o.guard = none
  o2 : ∃ o, ops[i2]? = some o ∧ o.op = .call { callee := .builtin .append, args := #[.tmp sv, .tmp s1], argTypes := #[t, t] } ∧ o.dst = some s2 ∧ o.guard = none
  ht : P.underlying t = some (.slice e)
  hi : ∃ i z, P.info? e = some i ∧ i.zero = some z ∧ i.size = sz ∧ i.bytes = bytes ∧ z.cells.size = sz
  h0 : 0 < sz ∧ sz < 1000 ∧ bytes ≤ 1000

theorem chain_step {ops : Array Oper} {i1 i2 t e sz bytes sv sx s1 s2 : Nat} (hc : ChainOps P ops i1 i2 t e sz bytes sv sx s1 s2) {x : Nat} (hx : x < 2) {w0 w : World} {base : Nat} {v : Value} {n : Nat} {xs : List Value} {arr : Array Value} {a : Act}
    (h : Sg x w0 base e sz v n xs arr s1 s2 w a) (hb : base ≤ w0.heap.size) (hw : w0.heap.size ≤ w.heap.size) (hs1 : s1 < a.tmps.size) (hs2 : s2 < a.tmps.size) (hv : a.tmps[sv]? = some v) (hx0 : a.tmps[sx]? = some (.agg arr)) (hn : arr.size = sz) (hone : ∀ u ∈ arr.toList, u.oneCell' = true) (hr : n ≤ 1000000) :
    ∃ o, ops[[i1, i2].getD x 0]? = some o ∧ Region.wanted o (yielded ops a.tmps) = true ∧ ∀ K : Act → World → Prop, (∀ u w', Sg (x + 1) w0 base e sz v n xs arr s1 s2 w' (a.put (some ([s1, s2].getD x 0)) u) → (∃ S : Nat → Prop, Fr S w w' ∧ ∀ k, S k → v.ownBlock = some k ∧ ∃ cs fz, w.heap[k]? = some (.cells cs e fz)) → K (a.put (some ([s1, s2].getD x 0)) u) w') → Oper.wp P o a w K Q := by
  obtain ⟨i, z, hi1, hi2, hi3, hi4, hi5⟩ := hc.hi
  obtain ⟨q1, q2, q3⟩ := hc.h0
  obtain rfl | rfl : x = 0 ∨ x = 1 := by omega
  · obtain ⟨o, ho, hop, hd, hg⟩ := hc.o1
    refine ⟨o, ho, by simp [Region.wanted, hg], fun K hK => ?_⟩
    refine wp_build_one t e (.tmp sx) hop (arr := arr) (by simp [Act.eval, Array.getD_eq_getD_getElem?, hx0]) hc.ht i z sz hi1 hi2 hi3 hi5 hn q1 q2 ?_
    rw [hd]
    refine hK _ _ ⟨World.ownsRow.alloc h _, w.heap.size, ?_, heap_alloc_new _ _, hw⟩ ⟨fun _ => False, Fr.of_below ((Below.refl _ w).alloc (Nat.le_refl _) _), fun k hk => hk.elim⟩
    simp [Act.put, hs1]
  · obtain ⟨o, ho, hop, hd, hg⟩ := hc.o2
    refine ⟨o, ho, by simp [Region.wanted, hg], fun K hK => ?_⟩
    obtain ⟨hown, tb, ht1, ht2, ht3⟩ := h
    have hsl : Sl w sz (.slice (some ⟨tb, 0, none⟩) 1 1) 1 arr.toList := by
      refine ⟨by simp [hn], some ⟨tb, 0, none⟩, 1, rfl, Nat.le_refl _, fun h => (by cases h), fun j u hu => ⟨tb, 0, rfl, ?_⟩⟩
      rw [Nat.zero_add, cell_of_row _ _ j _ _ _ ht2, ← hu, Array.getElem?_toList]
    obtain ⟨v', w', hr2, h2, hg2, h4, ⟨aa, cc, rfl⟩, _⟩ := run_append_sl (P := P) w base t o.type e i z sz bytes hc.ht hi1 hi2 hi3 hi4 hi5 q1 v n xs hown _ 1 _ hsl hone (by unfold maxLen; omega) (by have := Nat.mul_le_mul (show n + 1 ≤ 1000001 by omega) q3; omega) (by omega)
    unfold Oper.wp execOp
    simp only [hop, resolve, invoke, builtin, Sem.run_bind, Sem.run_pure, Result.andThen_ok, List.map_toArray, List.map_cons, List.map_nil, Act.eval, Array.getD_eq_getD_getElem?, hv, ht1, Option.getD_some, hr2]
    show K (a.put o.dst (.slice aa (n + 1) cc)) w'
    rw [hd]
    refine hK _ _ ⟨aa, cc, by simp [Act.put, hs2], h2, fun k hk => ?_⟩ ⟨fun k => v.ownBlock = some k, (Fr.refl _ w).grown hg2 (fun k hk => Or.inl hk), fun k hk => ⟨hk, ?_⟩⟩
    · rcases h4 with e4 | e4
      · left; rw [← e4]; exact hk
      · right; rw [e4] at hk; injection hk with hk; omega
    · rcases hown.2 with ⟨rfl, _⟩ | ⟨g, cap, cur, rfl, _, hg, _⟩
      · cases hk
      · obtain rfl : g = k := by simpa [Value.ownBlock] using hk
        exact ⟨_, _, hg⟩

/-- Worlds on the way. -/
def AppC (w0 : World) (vA vB : Value) (w : World) : Prop := Fr (fun k => vA.ownBlock = some k ∨ vB.ownBlock = some k) w0 w
theorem Kept.get {a0 a : Act} {s1 s2 s3 s4 : Nat} (h : Kept a0 a s1 s2 s3 s4) {s : Nat} (h1 : s ≠ s1) (h2 : s ≠ s2) (h3 : s ≠ s3) (h4 : s ≠ s4) {v : Value} (hv : a0.tmps[s]? = some v) : a.tmps[s]? = some v := (h.2.2 s h1 h2 h3 h4).trans hv
theorem put_ne (a : Act) {s t : Nat} (v : Value) (h : s ≠ t) : (a.put (some s) v).tmps[t]? = a.tmps[t]? := by simp [Act.put, Array.getElem?_setIfInBounds_ne h]

/-- No slot twice. -/
def apart4 (s1 s2 s3 s4 x y u v : Nat) : Bool := decide (s1 ≠ s2 ∧ s1 ≠ s3 ∧ s1 ≠ s4 ∧ s2 ≠ s3 ∧ s2 ≠ s4 ∧ s3 ≠ s4) && [x, y, u, v].all fun s => decide (s ≠ s1 ∧ s ≠ s2 ∧ s ≠ s3 ∧ s ≠ s4)

theorem two_app {md : Region.Mode} {ops : Array Oper} {f : Nat} {listed : Array Bool} {w0 : World} {a0 : Act} {base : Nat} {i1 i2 tA eA szA bA svA sxA s1 s2 j1 j2 tB eB szB bB svB sxB s3 s4 : Nat}
    (cA : ChainOps P ops i1 i2 tA eA szA bA svA sxA s1 s2) (cB : ChainOps P ops j1 j2 tB eB szB bB svB sxB s3 s4) (hB : gridB md ops listed [i1, i2] [j1, j2] = true) (hne : eA ≠ eB)
    (hap : apart4 s1 s2 s3 s4 svA sxA svB sxB = true) {vA vB : Value} {nA nB : Nat} {xsA xsB : List Value} {arrA arrB : Array Value} (oA : w0.ownsRow base eA szA vA nA xsA) (oB : w0.ownsRow base eB szB vB nB xsB) (hb : base ≤ w0.heap.size)
    (hs : s1 < a0.tmps.size ∧ s2 < a0.tmps.size ∧ s3 < a0.tmps.size ∧ s4 < a0.tmps.size) (hvA : a0.tmps[svA]? = some vA) (hxA : a0.tmps[sxA]? = some (.agg arrA)) (hvB : a0.tmps[svB]? = some vB) (hxB : a0.tmps[sxB]? = some (.agg arrB))
    (hnA : arrA.size = szA) (hnB : arrB.size = szB) (h1A : ∀ u ∈ arrA.toList, u.oneCell' = true) (h1B : ∀ u ∈ arrB.toList, u.oneCell' = true) (hrA : nA ≤ 1000000) (hrB : nB ≤ 1000000)
    (hend : ∀ u1 aaA ccA u3 aaB ccB w', w'.ownsRow base eA szA (.slice aaA (nA + 1) ccA) (nA + 1) (xsA ++ arrA.toList) → w'.ownsRow base eB szB (.slice aaB (nB + 1) ccB) (nB + 1) (xsB ++ arrB.toList) →
      (∀ k, (Value.slice aaA (nA + 1) ccA).ownBlock = some k → vA.ownBlock = some k ∨ w0.heap.size ≤ k) → (∀ k, (Value.slice aaB (nB + 1) ccB).ownBlock = some k → vB.ownBlock = some k ∨ w0.heap.size ≤ k) → AppC w0 vA vB w' →
      wpAnyC P md ops (AppC w0 vA vB) Q f (gridL listed [i1, i2] [j1, j2] 2 2) ((((a0.put (some s1) u1).put (some s2) (.slice aaA (nA + 1) ccA)).put (some s3) u3).put (some s4) (.slice aaB (nB + 1) ccB)) w') :
    wpAnyC P md ops (AppC w0 vA vB) Q (f + 4) listed a0 w0 := by
  simp only [apart4, Bool.and_eq_true, decide_eq_true_eq, List.all_eq_true, List.mem_cons, List.not_mem_nil, or_false, forall_eq_or_imp, forall_eq] at hap
  obtain ⟨⟨d12, d13, d14, d23, d24, d34⟩, ⟨a1, a2, a3, a4⟩, ⟨b1, b2, b3, b4⟩, ⟨c1, c2, c3, c4⟩, ⟨e1, e2, e3, e4⟩⟩ := hap
  refine wpAnyC_grid [i1, i2] [j1, j2] hB (fun x y a w => Sg x w0 base eA szA vA nA xsA arrA s1 s2 w a ∧ Sg y w0 base eB szB vB nB xsB arrB s3 s4 w a ∧ Kept a0 a s1 s2 s3 s4 ∧ AppC w0 vA vB w) (fun _ _ _ _ h => h.2.2.2) ?_ ?_ ?_ 4 0 0 (by simp) (by simp) (by simp) a0 w0
    ⟨oA, oB, Kept.refl _ _ _ _ _, Fr.refl _ _⟩
  · intro x y a w hx hy ⟨h1, h2, h3, h4⟩
    have hx2 : x < 2 := hx
    obtain ⟨o, ho, hw, hst⟩ := chain_step cA hx2 h1 hb h4.size (by rw [h3.2.1]; exact hs.1) (by rw [h3.2.1]; exact hs.2.1) (h3.get a1 a2 a3 a4 hvA) (h3.get b1 b2 b3 b4 hxA) hnA h1A hrA
    refine ⟨o, ho, hw, fun K hK => hst K fun u w' hs1 ⟨S, hf, hS⟩ => hK _ _ ⟨hs1, h2.other ?_ hf ?_, h3.put _ _ ?_, h4.trans (hf.mono fun k _ hk => Or.inl (hS k hk).1)⟩⟩
    · obtain rfl | rfl : x = 0 ∨ x = 1 := by omega
      · exact ⟨put_ne _ _ d13, put_ne _ _ d14⟩
      · exact ⟨put_ne _ _ d23, put_ne _ _ d24⟩
    · intro k hk cs fz hh
      obtain ⟨_, cs', fz', hc⟩ := hS k hk
      rw [hc] at hh
      simp only [Option.some.injEq, Obj.cells.injEq] at hh
      exact hne hh.2.1
    · obtain rfl | rfl : x = 0 ∨ x = 1 := by omega
      · exact Or.inl rfl
      · exact Or.inr (Or.inl rfl)
  · intro x y a w hx hy ⟨h1, h2, h3, h4⟩
    have hy2 : y < 2 := hy
    obtain ⟨o, ho, hw, hst⟩ := chain_step cB hy2 h2 hb h4.size (by rw [h3.2.1]; exact hs.2.2.1) (by rw [h3.2.1]; exact hs.2.2.2) (h3.get c1 c2 c3 c4 hvB) (h3.get e1 e2 e3 e4 hxB) hnB h1B hrB
    refine ⟨o, ho, hw, fun K hK => hst K fun u w' hs1 ⟨S, hf, hS⟩ => hK _ _ ⟨h1.other ?_ hf ?_, hs1, h3.put _ _ ?_, h4.trans (hf.mono fun k _ hk => Or.inr (hS k hk).1)⟩⟩
    · obtain rfl | rfl : y = 0 ∨ y = 1 := by omega
      · exact ⟨put_ne _ _ (Ne.symm d13), put_ne _ _ (Ne.symm d23)⟩
      · exact ⟨put_ne _ _ (Ne.symm d14), put_ne _ _ (Ne.symm d24)⟩
    · intro k hk cs fz hh
      obtain ⟨_, cs', fz', hc⟩ := hS k hk
      rw [hc] at hh
      simp only [Option.some.injEq, Obj.cells.injEq] at hh
      exact hne hh.2.1.symm
    · obtain rfl | rfl : y = 0 ∨ y = 1 := by omega
      · exact Or.inr (Or.inr (Or.inl rfl))
      · exact Or.inr (Or.inr (Or.inr rfl))
  · rintro a w ⟨⟨aaA, ccA, tA2, oA2, fA⟩, ⟨aaB, ccB, tB2, oB2, fB⟩, h3, h4⟩
    obtain ⟨u1, hu1⟩ : ∃ u, a.tmps[s1]? = some u := ⟨_, Array.getElem?_eq_getElem (by rw [h3.2.1]; exact hs.1)⟩
    obtain ⟨u3, hu3⟩ : ∃ u, a.tmps[s3]? = some u := ⟨_, Array.getElem?_eq_getElem (by rw [h3.2.1]; exact hs.2.2.1)⟩
    rw [h3.eq hu1 tA2 hu3 tB2]
    exact hend u1 aaA ccA u3 aaB ccB w oA2 oB2 fA fB h4

end
end Go.Proofs.YtkbnkdokcmpcgaaGreatDoor
