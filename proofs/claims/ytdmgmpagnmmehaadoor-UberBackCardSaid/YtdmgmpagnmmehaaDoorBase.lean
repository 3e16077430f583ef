/- Words of memory for this seat's walks: a slice that reads as a list of bytes, and what a call leaves as it was. No program text. -/
import Derived.WalkKit
import Derived.WalkSpells
import Derived.WalkLawsBesides
import Derived.Handy
import Derived.Lib.Hide
namespace Go.Proofs.YtdmgmpagnmmehaaDoor
open Go.RowKit

/-- A byte as a cell's value. -/
def Bv (x : UInt8) : Value := .int .u8 (x.toNat : Int)

theorem Bv_oneCell (xs : List UInt8) : ∀ u ∈ xs.map Bv, u.oneCell' = true := by
  intro u hu
  obtain ⟨_, _, rfl⟩ := List.mem_map.1 hu
  rfl

/-- The slice value v, of n elements of 'size' cells each, reads, in w, as the cells xs. -/
def Sl (w : World) (size : Nat) (v : Value) (n : Nat) (xs : List Value) : Prop :=
  xs.length = n * size ∧ ∃ a cap, v = .slice a n cap ∧ n ≤ cap ∧ (a = none → cap = 0) ∧
    ∀ i u, xs[i]? = some u → ∃ b o, a = some ⟨b, o, none⟩ ∧ w.cell? ⟨b, o + i, none⟩ = some u

/-- All blocks but those of S stand as they stood. -/
structure Fr (S : Nat → Prop) (w w' : World) : Prop where
  os : w'.os = w.os
  tape : w'.tape = w.tape
  output : w'.output = w.output
  size : w.heap.size ≤ w'.heap.size
  block : ∀ k, k < w.heap.size → ¬ S k → w'.heap[k]? = w.heap[k]?

theorem Fr.refl (S : Nat → Prop) (w : World) : Fr S w w := ⟨rfl, rfl, rfl, Nat.le_refl _, fun _ _ _ => rfl⟩
theorem Fr.trans {S : Nat → Prop} {a b c : World} (h : Fr S a b) (k : Fr S b c) : Fr S a c :=
  ⟨k.os.trans h.os, k.tape.trans h.tape, k.output.trans h.output, Nat.le_trans h.size k.size,
    fun i hi hs => (k.block i (Nat.lt_of_lt_of_le hi h.size) hs).trans (h.block i hi hs)⟩
theorem Fr.mono {S T : Nat → Prop} {w w' : World} (h : Fr S w w') (hs : ∀ k, k < w.heap.size → S k → T k) : Fr T w w' :=
  ⟨h.os, h.tape, h.output, h.size, fun k hk ht => h.block k hk (fun x => ht (hs k hk x))⟩
theorem Fr.of_below {w w' : World} {S : Nat → Prop} (h : Below w.heap.size w w') : Fr S w w' := ⟨h.os, h.tape, h.output, h.size, fun k hk _ => h.block k hk⟩
theorem Fr.below {S : Nat → Prop} {w w' : World} {B : Nat} (h : Fr S w w') (hB : B ≤ w.heap.size) (hs : ∀ k, S k → B ≤ k) : Below B w w' :=
  ⟨h.os, h.tape, h.output, h.size, fun k hk => h.block k (by omega) (fun x => by have := hs k x; omega)⟩
theorem Fr.step {S T : Nat → Prop} {a b c : World} (h : Fr S a b) (k : Fr T b c) (hs : ∀ j, T j → S j ∨ a.heap.size ≤ j) : Fr S a c :=
  ⟨k.os.trans h.os, k.tape.trans h.tape, k.output.trans h.output, Nat.le_trans h.size k.size,
    fun i hi hn => (k.block i (Nat.lt_of_lt_of_le hi h.size) (fun x => (hs i x).elim hn (by omega))).trans (h.block i hi hn)⟩
theorem Fr.drew {S : Nat → Prop} {a w : World} (h : Fr S a w) : Fr S a w.drew := ⟨h.os, h.tape, h.output, h.size, h.block⟩
theorem Fr.alloc {S : Nat → Prop} {a w : World} (h : Fr S a w) (o : Obj) : Fr S a (w.alloc o) :=
  h.trans ⟨rfl, rfl, rfl, by simp, fun k hk _ => Below.heap_alloc _ _ _ hk⟩
theorem Fr.setCell {S : Nat → Prop} {a w : World} (h : Fr S a w) {p : Addr} (hp : S p.block ∨ a.heap.size ≤ p.block) (u : Value) : Fr S a (w.setCell p u) :=
  ⟨h.os, h.tape, h.output, Nat.le_trans h.size (by simp [World.setCell]), fun k hk hs => (Below.heap_setCell _ _ _ _ (fun e => by subst e; exact hp.elim hs (by omega))).trans (h.block k hk hs)⟩
theorem Fr.set {S : Nat → Prop} {a w : World} (h : Fr S a w) (b o : Nat) (hb : S b) (u : Value) : Fr S a (w.setCell ⟨b, o, none⟩ u) := h.setCell (p := ⟨b, o, none⟩) (Or.inl hb) u
theorem Fr.grown {S : Nat → Prop} {a w w' : World} {row : Option Nat} (h : Fr S a w) (hg : w.grownBy w' row) (hr : ∀ k, row = some k → S k ∨ a.heap.size ≤ k) : Fr S a w' :=
  ⟨hg.os.trans h.os, hg.tape.trans h.tape, hg.output.trans h.output, Nat.le_trans h.size hg.size,
    fun k hk hs => (hg.block k (Nat.lt_of_lt_of_le hk h.size) (fun e => (hr k e.symm).elim hs (by omega))).trans (h.block k hk hs)⟩
theorem Fr.cell {S : Nat → Prop} {w w' : World} (h : Fr S w w') {p : Addr} {u : Value} (hu : w.cell? p = some u) (hp : ¬ S p.block) : w'.cell? p = some u :=
  (World.cell?_of_block (h.block p.block (World.block_lt_of_cell? w p hu) hp)).trans hu

theorem Sl.nil (w : World) (size : Nat) : Sl w size (.slice none 0 0) 0 [] := ⟨by simp, none, 0, rfl, Nat.le_refl _, fun _ => rfl, fun i u h => by simp at h⟩
theorem Sl.len {w : World} {size n : Nat} {v : Value} {xs : List Value} (h : Sl w size v n xs) : ∃ a cap, v = .slice a n cap ∧ n ≤ cap := by
  obtain ⟨_, a, cap, h1, h2, _⟩ := h; exact ⟨a, cap, h1, h2⟩
theorem Sl.fr {S : Nat → Prop} {w w' : World} {size n : Nat} {v : Value} {xs : List Value} (h : Sl w size v n xs) (hf : Fr S w w') (hs : ∀ a m c, v = .slice (some a) m c → ¬ S a.block) : Sl w' size v n xs := by
  obtain ⟨hl, a, cap, rfl, h2, h3, h4⟩ := h
  refine ⟨hl, a, cap, rfl, h2, h3, fun i u hu => ?_⟩
  obtain ⟨b, o, rfl, hc⟩ := h4 i u hu
  exact ⟨b, o, rfl, hf.cell hc (hs ⟨b, o, none⟩ _ _ rfl)⟩
theorem Sl.below {w w' : World} {size n : Nat} {v : Value} {xs : List Value} (h : Sl w size v n xs) (hf : Below w.heap.size w w') : Sl w' size v n xs :=
  h.fr (Fr.of_below (S := fun _ => False) hf) (fun _ _ _ _ => id)
theorem Sl.cells {w w' : World} {size n : Nat} {v : Value} {xs : List Value} (h : Sl w size v n xs) (hc : ∀ p u, u ∈ xs → w.cell? p = some u → w'.cell? p = some u) : Sl w' size v n xs := by
  obtain ⟨hl, a, cap, rfl, h2, h3, h4⟩ := h
  refine ⟨hl, a, cap, rfl, h2, h3, fun i u hu => ?_⟩
  obtain ⟨b, o, rfl, hc'⟩ := h4 i u hu
  exact ⟨b, o, rfl, hc _ _ (List.mem_of_getElem? hu) hc'⟩
/-- A cell that holds another value is another cell. -/
theorem cell_set_other {w : World} {b o : Nat} {x u v : Value} {p : Addr} (h : w.cell? p = some u) (hx : w.cell? ⟨b, o, none⟩ = some x) (hne : u ≠ x) : (w.setCell ⟨b, o, none⟩ v).cell? p = some u := by
  rw [World.cell?_setCell_other]
  · exact h
  · rintro rfl
    rw [h] at hx
    exact hne (Option.some.inj hx)
/-- A piece of a slice, by whatever bounds that may be. -/
theorem Sl.cut {w : World} {size n : Nat} {v : Value} {xs : List Value} (h : Sl w size v n xs) {a : Option Addr} {cap lo hi : Nat} (hv : v = .slice a n cap) (hlo : lo ≤ hi) (hhi : hi ≤ n) :
    Sl w size (.slice (if cap = lo then a else a.map (·.add (lo * size))) (hi - lo) (cap - lo)) (hi - lo) ((xs.drop (lo * size)).take ((hi - lo) * size)) := by
  obtain ⟨hl, a', cap', e, h2, h3, h4⟩ := h
  rw [hv] at e
  simp only [Value.slice.injEq, true_and] at e
  obtain ⟨rfl, rfl⟩ := e
  have e1 : lo * size + (hi - lo) * size = hi * size := by rw [← Nat.add_mul]; congr 1; omega
  have e2 : hi * size ≤ n * size := Nat.mul_le_mul_right _ hhi
  refine ⟨by rw [List.length_take, List.length_drop, hl]; omega, _, _, rfl, by omega, fun hn => ?_, fun i u hu => ?_⟩
  · split at hn
    · have := h3 hn; omega
    · cases a with
      | none => have := h3 rfl; omega
      | some _ => simp at hn
  · rw [List.getElem?_take] at hu
    split at hu
    · rename_i hi'
      rw [List.getElem?_drop] at hu
      obtain ⟨b, o, rfl, hc⟩ := h4 _ u hu
      have hne : ¬ cap = lo := by
        intro e
        have : hi - lo = 0 := by omega
        rw [this, Nat.zero_mul] at hi'
        omega
      rw [if_neg hne]
      exact ⟨b, o + lo * size, by simp [Addr.add_lit], by rw [← hc]; congr 2; omega⟩
    · cases hu

/-- What the call owns it reads. -/
theorem Sl.own {w : World} {base e size : Nat} {v : Value} {xs : List Value} {n : Nat} (h : w.ownsRow base e size v n xs) : Sl w size v n xs := by
  refine ⟨h.1, ?_⟩
  rcases h.2 with ⟨rfl, rfl⟩ | ⟨g, cap, cur, rfl, h1, h2, h3, h4, h5, h6⟩
  · have : xs = [] := List.eq_nil_of_length_eq_zero (by simpa using h.1)
    subst this; exact (Sl.nil w size).2
  · refine ⟨some ⟨g, 0, none⟩, cap, rfl, h3, fun hh => (by cases hh), fun i u hu => ?_⟩
    refine ⟨g, 0, rfl, ?_⟩
    have := World.ownsRow.cells h (g := g) rfl i u hu
    simpa [Addr.add_lit] using this

/-- What the call owns stays its own while other blocks are turned. -/
theorem _root_.Go.World.ownsRow.fr {S : Nat → Prop} {w w' : World} {base e size : Nat} {v : Value} {xs : List Value} {n : Nat} (h : w.ownsRow base e size v n xs) (hf : Fr S w w') (hs : ∀ k, v.ownBlock = some k → ¬ S k) : w'.ownsRow base e size v n xs := by
  refine ⟨h.1, ?_⟩
  rcases h.2 with h | ⟨g, cap, cur, rfl, h1, h2, h3⟩
  · exact Or.inl h
  · exact Or.inr ⟨g, cap, cur, rfl, h1, (hf.block g (lt_of_block h2) (hs g rfl)).trans h2, h3⟩
theorem _root_.Go.World.ownsRow.setCell_other {w : World} {base e size : Nat} {v : Value} {xs : List Value} {n : Nat} (h : w.ownsRow base e size v n xs) {p : Addr} (hp : v.ownBlock ≠ some p.block) (u : Value) : (w.setCell p u).ownsRow base e size v n xs :=
  h.fr (Fr.setCell (S := fun k => k = p.block) (Fr.refl _ w) (p := p) (Or.inl rfl) u) (fun _ hk e => hp (e ▸ hk))
theorem _root_.Go.World.ownsRow.set_other {w : World} {base e size : Nat} {v : Value} {xs : List Value} {n b : Nat} (h : w.ownsRow base e size v n xs) (hp : v.ownBlock ≠ some b) (o : Nat) (u : Value) : (w.setCell ⟨b, o, none⟩ u).ownsRow base e size v n xs :=
  h.setCell_other (p := ⟨b, o, none⟩) hp u
theorem _root_.Go.World.ownsRow.base {w : World} {base base' e size : Nat} {v : Value} {xs : List Value} {n : Nat} (h : w.ownsRow base e size v n xs) (hb : base' ≤ base) : w.ownsRow base' e size v n xs := by
  refine ⟨h.1, ?_⟩
  rcases h.2 with h | ⟨g, cap, cur, rfl, h1, h3⟩
  · exact Or.inl h
  · exact Or.inr ⟨g, cap, cur, rfl, Nat.le_trans hb h1, h3⟩

/-- append of what some slice reads onto a slice that the call owns; where the new value lies. -/
theorem run_append_sl {P : Program} (w : World) (base t ty e : Nat) (i : TypeInfo) (z : Value) (size bytes : Nat) (ht : P.underlying t = some (.slice e)) (hi : P.info? e = some i) (hz : i.zero = some z)
    (hsize : i.size = size) (hby : i.bytes = bytes) (hzs : z.cells.size = size) (hsz : 0 < size)
    (v : Value) (n : Nat) (xs : List Value) (hown : w.ownsRow base e size v n xs) (vx : Value) (m : Nat) (news : List Value) (hx : Sl w size vx m news) (h1 : ∀ u ∈ news, u.oneCell' = true)
    (h63 : n + m ≤ maxLen) (hbytes : (n + m) * bytes ≤ 140737488355328) (hbase : base ≤ w.heap.size) :
    ∃ v' w', (Builtin.append_ #[t, t] ty #[v, vx]).run P w = .ok v' w' ∧ w'.ownsRow base e size v' (n + m) (xs ++ news) ∧ w.grownBy w' v.ownBlock ∧
      (v'.ownBlock = v.ownBlock ∨ v'.ownBlock = some w.heap.size) ∧ (∃ a c, v' = .slice a (n + m) c) ∧ (v' = .slice none 0 0 ↔ v = .slice none 0 0 ∧ m = 0) := by
  obtain ⟨hl, a, c, rfl, hmc, hnil, hc⟩ := hx
  have hsh : ∃ a c, v = .slice a n c := by rcases hown.2 with ⟨rfl, rfl⟩ | ⟨g, cap, cur, rfl, _⟩ <;> exact ⟨_, _, rfl⟩
  by_cases hm0 : m = 0
  · subst hm0
    have hn : news = [] := List.eq_nil_of_length_eq_zero (by simpa using hl)
    subst hn
    cases a with
    | none =>
      obtain rfl : c = 0 := hnil rfl
      refine ⟨v, w, run_append_owned_none w base t ty e i size ht hi v n xs hown, by simpa using hown, ⟨rfl, rfl, rfl, Nat.le_refl _, fun _ _ _ => rfl⟩, Or.inl rfl, hsh, by simp⟩
    | some ad =>
      obtain ⟨v', w', hr, h2, h3, h4⟩ := run_append_own (P := P) w base t ty e i z size bytes ht hi hz hsize hby hzs hsz v n xs hown ad 0 c [] hl (by intro j u hj; simp at hj) h1 h63 hbytes hbase
      have hv : v' = v := by
        subst hsize
        rcases hown.2 with ⟨rfl, rfl⟩ | ⟨g, cap, cur, rfl, hb, hg, hnc, hcm, hcs, htake⟩
        · exact h4.2 ⟨rfl, rfl⟩
        · have hq := run_append_room (P := P) w t ty e i ht hi g n cap cur hg ad 0 c [] (by simp) (by intro j u hj; simp at hj) h1 (by omega) (by simp [hcs]; exact Nat.mul_le_mul_right _ hnc)
          rw [hr] at hq
          simpa using (Result.ok.inj hq).1
      subst hv
      exact ⟨v', w', hr, h2, h3, Or.inl rfl, hsh, h4⟩
  · have hn : news ≠ [] := by intro e; subst e; simp at hl; have := Nat.mul_pos (Nat.pos_of_ne_zero hm0) hsz; omega
    obtain ⟨b, o, rfl⟩ : ∃ b o, a = some ⟨b, o, none⟩ := by
      obtain ⟨u, hu⟩ : ∃ u, news[0]? = some u := by cases news with | nil => exact absurd rfl hn | cons u l => exact ⟨u, rfl⟩
      obtain ⟨b, o, h, _⟩ := hc 0 u hu
      exact ⟨b, o, h⟩
    have hcl : ∀ j u, news[j]? = some u → w.cell? ((⟨b, o, none⟩ : Addr).add j) = some u := by
      intro j u hu
      obtain ⟨b', o', e', hc'⟩ := hc j u hu
      simp only [Option.some.injEq, Addr.mk.injEq, and_true] at e'
      obtain ⟨rfl, rfl⟩ := e'
      rw [Addr.add_lit]; exact hc'
    obtain ⟨v', w', hr, h2, h3, h4⟩ := run_append_own (P := P) w base t ty e i z size bytes ht hi hz hsize hby hzs hsz v n xs hown ⟨b, o, none⟩ m c news hl hcl h1 h63 hbytes hbase
    subst hsize
    subst hby
    have hsmall : n + m ≤ 9223372036854775807 := by simp only [maxLen] at h63; omega
    rcases hown.2 with ⟨rfl, rfl⟩ | ⟨g, cap, cur, rfl, hb, hg, hnc, hcm, hcs, htake⟩
    · have hq := run_append_nil (P := P) w t ty e i z ht hi hz ⟨b, o, none⟩ m c news hl hcl (by omega) (by omega) (by have hb := hbytes; simp only [Nat.zero_add] at hb; omega)
      rw [hr] at hq
      obtain ⟨hv, _⟩ := Result.ok.inj hq
      exact ⟨v', w', hr, h2, h3, Or.inr (by rw [hv]; rfl), ⟨_, _, by rw [hv, Nat.zero_add]⟩, h4⟩
    · by_cases hroom : n + m ≤ cap
      · have hq := run_append_room (P := P) w t ty e i ht hi g n cap cur hg ⟨b, o, none⟩ m c news hl hcl h1 hroom (by rw [hl, hcs, ← Nat.add_mul]; exact Nat.mul_le_mul_right _ hroom)
        rw [hr] at hq
        obtain ⟨hv, _⟩ := Result.ok.inj hq
        exact ⟨v', w', hr, h2, h3, Or.inl (by rw [hv]; rfl), ⟨_, _, hv⟩, h4⟩
      · have hq := run_append_grow (P := P) w t ty e i z ht hi hz ⟨g, 0, none⟩ n cap xs hown.1 (hown.cells (g := g) rfl) ⟨b, o, none⟩ m c news hl hcl (by omega) (by omega) (growslice_fits (by omega) hbytes)
        rw [hr] at hq
        obtain ⟨hv, _⟩ := Result.ok.inj hq
        exact ⟨v', w', hr, h2, h3, Or.inr (by rw [hv]; rfl), ⟨_, _, hv⟩, h4⟩

/-- The walk's law of that. -/
theorem wpList_append_sl {P : Program} {w : World} {ops : Array Oper} {rest : List Oper} {o : Oper} {a : Act} {Q : Exit → Act → World → Prop} (hgd : o.guard = none) (s x : Operand) (t : TypeId)
    (ho : o.op = .call { callee := .builtin .append, args := #[s, x], argTypes := #[t, t] })
    (base : Nat) (e : TypeId) (i : TypeInfo) (z : Value) (size bytes : Nat) (ht : P.underlying t = some (.slice e)) (hi : P.info? e = some i) (hz : i.zero = some z)
    (hsize : i.size = size) (hby : i.bytes = bytes) (hzs : z.cells.size = size) (hsz : 0 < size)
    (v : Value) (n : Nat) (xs : List Value) (hs : a.eval s = v) (hown : w.ownsRow base e size v n xs)
    (vx : Value) (m : Nat) (news : List Value) (hxe : a.eval x = vx) (hx : Sl w size vx m news) (h1 : ∀ u ∈ news, u.oneCell' = true)
    (h63 : n + m ≤ maxLen) (hbytes : (n + m) * bytes ≤ 140737488355328) (hbase : base ≤ w.heap.size)
    (h : ∀ aa cc w', w'.ownsRow base e size (.slice aa (n + m) cc) (n + m) (xs ++ news) → w.grownBy w' v.ownBlock → ((Value.slice aa (n + m) cc).ownBlock = v.ownBlock ∨ (Value.slice aa (n + m) cc).ownBlock = some w.heap.size) →
      wpList P ops Q rest (a.put o.dst (.slice aa (n + m) cc)) w') : wpList P ops Q (o :: rest) a w := by
  refine wpList_plain hgd fun K hK => ?_
  obtain ⟨v', w', hr, h2, h3, h4, ⟨aa, cc, rfl⟩, _⟩ := run_append_sl (P := P) w base t o.type e i z size bytes ht hi hz hsize hby hzs hsz v n xs hown vx m news hx h1 h63 hbytes hbase
  unfold Oper.wp execOp
  simp only [ho, resolve, invoke, builtin, Sem.run_bind, Sem.run_pure, Result.andThen_ok, List.map_toArray, List.map_cons, List.map_nil, hs, hxe, hr]
  exact hK _ _ (h aa cc w' h2 h3 h4)

#print axioms Sl.own
end Go.Proofs.YtdmgmpagnmmehaaDoor
