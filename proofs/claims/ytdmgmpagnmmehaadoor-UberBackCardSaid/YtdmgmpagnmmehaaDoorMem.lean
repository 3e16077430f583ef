/- The walk's laws at this program's []byte: make, append. -/
import Derived.Test.YtdmgmpagnmmehaaDoorProg
import Derived.Test.YtdmgmpagnmmehaaDoorBase
import Derived.Laws.BytesArg
import Derived.Lib.AppendStr
import Derived.Lib.ConvBytes
namespace Go.Proofs.YtdmgmpagnmmehaaDoor
open Go.RowKit

theorem info_u8 : (Tryd.prog.info? 5).map (fun i => (i.zero, i.size, i.bytes)) = some (some (.int .u8 0), 1, 1) := by kernel_rfl

theorem make_u8 {w : World} {ops : Array Oper} {rest : List Oper} {o : Oper} {a : Act} {Q : Exit → Act → World → Prop}
    (hg : o.guard = none) (l c : Operand) (hop : o.op = Op.makeSlice 28 l c) (n : Nat) (hl : a.eval l = .int .i64 (n : Int)) (hc : a.eval c = .int .i64 (n : Int)) (hn : n ≤ 140737488351232)
    (hK : ∀ w', w'.ownsRow w.heap.size 5 1 (.slice (some ⟨w.heap.size, 0, none⟩) n n) n ((List.replicate n 0).map Bv) → Below w.heap.size w w' → wpList Tryd.prog ops Q rest (a.put o.dst (.slice (some ⟨w.heap.size, 0, none⟩) n n)) w') :
    wpList Tryd.prog ops Q (o :: rest) a w := by
  obtain ⟨i0, hi, hz0, hz1, hz2⟩ := info_parts info_u8
  refine wpList_make_full w hg l c 28 hop w.heap.size 5 i0 (.int .u8 0) 1 Tryd.underlying28 hi hz0 hz1 .i64 .i64 n n n hl hc rfl rfl (by rw [hz2]; omega) (by unfold maxLen; omega) (Nat.le_refl _) ?_
  intro w1 hown hg
  have e : (madeCells (Value.cells (.int .u8 0)) (n * 1)).toList = (List.replicate n (0 : UInt8)).map Bv := by
    rw [Nat.mul_one, List.map_replicate]; exact toList_madeCells_one _ n
  rw [e] at hown
  exact hK w1 hown ((Below.refl _ _).grown hg (Nat.le_refl _) (fun k h => by cases h))

/-- append onto own bytes of what some slice reads. -/
theorem append_u8 {w : World} {ops : Array Oper} {rest : List Oper} {o : Oper} {a : Act} {Q : Exit → Act → World → Prop} (hgd : o.guard = none) (s x : Operand)
    (ho : o.op = .call { callee := .builtin .append, args := #[s, x], argTypes := #[28, 28] })
    {base : Nat} {v : Value} {n : Nat} {xs : List UInt8} (hown : w.ownsRow base 5 1 v n (xs.map Bv)) {vx : Value} {m : Nat} {news : List UInt8} (hx : Sl w 1 vx m (news.map Bv))
    (hs : a.eval s = v) (hxe : a.eval x = vx) (hr : n + m ≤ 140737488355328) (hbase : base ≤ w.heap.size)
    (h : ∀ aa cc w', w'.ownsRow base 5 1 (.slice aa (n + m) cc) (n + m) ((xs ++ news).map Bv) → Fr (fun k => v.ownBlock = some k) w w' → ((Value.slice aa (n + m) cc).ownBlock = v.ownBlock ∨ (Value.slice aa (n + m) cc).ownBlock = some w.heap.size) →
      wpList Tryd.prog ops Q rest (a.put o.dst (.slice aa (n + m) cc)) w') : wpList Tryd.prog ops Q (o :: rest) a w := by
  obtain ⟨i0, hi, hz0, hz1, hz2⟩ := info_parts info_u8
  refine wpList_append_sl hgd s x 28 ho base 5 i0 (.int .u8 0) 1 1 Tryd.underlying28 hi hz0 hz1 hz2 rfl (by decide) v n _ hs hown vx m _ hxe hx (Bv_oneCell _) (by unfold maxLen; omega) (by omega) hbase ?_
  intro aa cc w' h2 hg h3
  rw [← List.map_append] at h2
  exact h aa cc w' h2 ((Fr.refl _ w).grown hg (fun k hk => Or.inl hk)) h3

theorem elem_u8 : Tryd.prog.elem 28 = 5 := by kernel_rfl
theorem und_u8 : Tryd.prog.underlying 28 = some (.slice (Tryd.prog.elem 28)) := by rw [elem_u8]; exact Tryd.underlying28
theorem size_u8 (w : World) : (sizeOf (Tryd.prog.elem 28)).run Tryd.prog w = .ok 1 w := by
  obtain ⟨i0, hi, hz0, hz1, hz2⟩ := info_parts info_u8
  rw [elem_u8]; simp [sizeOf, typeInfo, hi, hz1]

/-- A piece of bytes, as the walk meets it: the bounds both given. -/
theorem cut_u8 {w : World} {v : Value} {n : Nat} {xs : List UInt8} (h : Sl w 1 v n (xs.map Bv)) {lo hi : Nat} (hlo : lo ≤ hi) (hhi : hi ≤ n) :
    ∃ A C, (∀ w', (Instr.slice 28 v (some (.int .i64 (lo : Int))) (some (.int .i64 (hi : Int))) none).run Tryd.prog w' = .ok (.slice A (hi - lo) C) w') ∧ Sl w 1 (.slice A (hi - lo) C) (hi - lo) (((xs.drop lo).take (hi - lo)).map Bv) := by
  obtain ⟨a, cap, rfl, hc⟩ := h.len
  refine ⟨_, _, fun w' => ?_, by have := h.cut rfl hlo hhi; simp only [Nat.mul_one] at this; rw [List.map_take, List.map_drop]; exact this⟩
  rw [run_slice_lh w' _ a n cap und_u8 .i64 .i64 lo hi (by omega) (by omega) (by omega), size_u8]
  simp [Result.andThen, sliced]
theorem cut_u8_lo' {w : World} {v : Value} {n : Nat} {xs : List UInt8} (h : Sl w 1 v n (xs.map Bv)) {lo : Nat} (hlo : lo ≤ n) :
    ∃ A C, (∀ w', (Instr.slice 28 v (some (.int .i64 (lo : Int))) none none).run Tryd.prog w' = .ok (.slice A (n - lo) C) w') ∧ Sl w 1 (.slice A (n - lo) C) (n - lo) ((xs.drop lo).map Bv) ∧ (Value.slice A (n - lo) C).ownBlock = v.ownBlock := by
  obtain ⟨a, cap, rfl, hc⟩ := h.len
  have hl : xs.length = n := by simpa using h.1
  refine ⟨_, _, fun w' => ?_, by have := h.cut rfl hlo (Nat.le_refl n); simp only [Nat.mul_one] at this; rw [List.take_of_length_le (by simp [hl])] at this; rw [List.map_drop]; exact this, ?_⟩
  · rw [run_slice_l w' _ a n cap und_u8 .i64 lo (by omega) (by omega), size_u8]
    simp [Result.andThen, sliced]
  · cases a with
    | none => simp [Value.ownBlock]
    | some ad =>
      split
      · rfl
      · simp only [Option.map_some, Value.ownBlock, Addr.add]; split <;> rfl
theorem cut_u8_lo {w : World} {v : Value} {n : Nat} {xs : List UInt8} (h : Sl w 1 v n (xs.map Bv)) {lo : Nat} (hlo : lo ≤ n) :
    ∃ A C, (∀ w', (Instr.slice 28 v (some (.int .i64 (lo : Int))) none none).run Tryd.prog w' = .ok (.slice A (n - lo) C) w') ∧ Sl w 1 (.slice A (n - lo) C) (n - lo) ((xs.drop lo).map Bv) := by
  obtain ⟨A, C, h1, h2, _⟩ := cut_u8_lo' h hlo
  exact ⟨A, C, h1, h2⟩
theorem cut_u8_hi {w : World} {v : Value} {n : Nat} {xs : List UInt8} (h : Sl w 1 v n (xs.map Bv)) {hi : Nat} (hhi : hi ≤ n) :
    ∃ A C, (∀ w', (Instr.slice 28 v none (some (.int .i64 (hi : Int))) none).run Tryd.prog w' = .ok (.slice A hi C) w') ∧ Sl w 1 (.slice A hi C) hi ((xs.take hi).map Bv) := by
  obtain ⟨a, cap, rfl, hc⟩ := h.len
  refine ⟨_, _, fun w' => ?_, by have := h.cut rfl (Nat.zero_le hi) hhi; simp only [Nat.mul_one, Nat.sub_zero, List.drop_zero] at this; rw [List.map_take]; exact this⟩
  rw [run_slice_h w' _ a n cap und_u8 .i64 hi (by omega) (by omega), size_u8]
  simp [Result.andThen, sliced]

theorem toStr_u8 {w : World} {v : Value} {n : Nat} {xs : List UInt8} (h : Sl w 1 v n (xs.map Bv)) : (convert 28 9 v).run Tryd.prog w = .ok (.string ⟨xs.toArray⟩) w := by
  obtain ⟨hl, a, cap, rfl, h2, h3, h4⟩ := h
  have hl' : xs.length = n := by simpa using hl
  have e : strOfNums (xs.map fun x => (x.toNat : Int)) = ⟨xs.toArray⟩ := by
    have h1 := strOfNums_data (xs.map fun x => (x.toNat : Int))
    have h2 : (xs.map fun x => (x.toNat : Int)).map (fun n => UInt8.ofNat n.toNat) = xs := by
      rw [List.map_map]; conv => rhs; rw [← List.map_id xs]
      apply List.map_congr_left; intro x _; simp
    rw [h2] at h1
    apply ByteArray.ext
    apply Array.ext'
    simpa using h1
  cases a with
  | none =>
    have : n = 0 := by have := h3 rfl; omega
    have hx : xs = [] := List.eq_nil_of_length_eq_zero (by omega)
    subst hx
    rw [run_convert_bytes_nil (P := Tryd.prog) w 28 5 Tryd.underlying28 Tryd.underlying5 n cap 9 Tryd.underlying9]
    rfl
  | some ad =>
    cases hx : xs with
    | nil =>
      subst hx
      obtain rfl : n = 0 := by simpa using hl'.symm
      rw [run_convert_bytes_string w 28 9 5 _ 0 cap Tryd.underlying28 Tryd.underlying5 Tryd.underlying9, run_bytesToString w ad 0 cap [] (by simpa using run_loadCells_list (P := Tryd.prog) w ad [] (by intro j v hj; simp at hj))]
      rfl
    | cons x0 t =>
      obtain ⟨b, o, e0, _⟩ := h4 0 (Bv x0) (by rw [hx]; rfl)
      obtain rfl := Option.some.inj e0
      rw [← hx]
      rw [run_convert_bytes_arg (P := Tryd.prog) w 28 5 Tryd.underlying28 Tryd.underlying5 b o n cap (xs.map fun x => (x.toNat : Int)) (by simpa using hl') ?_ 9 Tryd.underlying9, e]
      intro i hi
      have hi' : i < xs.length := by omega
      obtain ⟨b', o', e', hc⟩ := h4 i (Bv xs[i]) (by simp [hi'])
      simp only [Option.some.injEq, Addr.mk.injEq, and_true] at e'
      obtain ⟨rfl, rfl⟩ := e'
      rw [hc]
      simp [Bv, List.getD, hi']

/-- append of a text's bytes onto own bytes. -/
theorem append_str {w : World} {ops : Array Oper} {rest : List Oper} {o : Oper} {a : Act} {Q : Exit → Act → World → Prop} (hgd : o.guard = none) (s x : Operand)
    (ho : o.op = .call { callee := .builtin .append, args := #[s, x], argTypes := #[28, 9] })
    {base : Nat} {v : Value} {n : Nat} {xs : List UInt8} (hown : w.ownsRow base 5 1 v n (xs.map Bv)) {t : ByteArray}
    (hs : a.eval s = v) (hxe : a.eval x = .string t) (hr : n + t.size ≤ 140737488355328) (hbase : base ≤ w.heap.size)
    (h : ∀ v' w', w'.ownsRow base 5 1 v' (n + t.size) ((xs ++ t.data.toList).map Bv) → Fr (fun k => v.ownBlock = some k) w w' →
      wpList Tryd.prog ops Q rest (a.put o.dst v') w') : wpList Tryd.prog ops Q (o :: rest) a w := by
  obtain ⟨i0, hi, hz0, hz1, hz2⟩ := info_parts info_u8
  refine Lib.wpList_append_own_string w hgd s x 28 9 ho base 5 i0 Tryd.underlying28 Tryd.underlying9 hi hz0 hz1 hz2 v n _ hs hown t hxe (by unfold maxLen; omega) hr hbase ?_
  intro v' w' h2 hg _
  have e : xs.map Bv ++ Lib.strCells t = (xs ++ t.data.toList).map Bv := by rw [List.map_append]; rfl
  rw [e] at h2
  exact h v' w' h2 ((Fr.refl _ w).grown hg (fun k hk => Or.inl hk))

/-- The empty literal. -/
theorem own_empty (w : World) : (w.alloc (.cells #[] 5)).ownsRow w.heap.size 5 1 (.slice (some ⟨w.heap.size, 0, none⟩) 0 0) 0 (([] : List UInt8).map Bv) :=
  World.ownsRow_made w #[] 0 (Nat.le_refl _) (Nat.zero_le _) rfl

#print axioms append_u8
end Go.Proofs.YtdmgmpagnmmehaaDoor
