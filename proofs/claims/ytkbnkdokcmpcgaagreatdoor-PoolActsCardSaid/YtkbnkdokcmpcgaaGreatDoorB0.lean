/- Words of memory for this seat's walks: a slice that reads as a list of bytes, and what a call leaves as it was. No program text. The walk's laws at values of many cells (structs, arrays), and at an append of noughts. Over any program. The walk's laws at this program's []byte: make, append. Plain words: a number as bytes, bytes as a number. Nothing of the program. The document's hash and code as plain functions over numbers and bytes: roots' fractions, primes, blocks, hashes, codes. Nothing of the program. Walks: num.Turn, sha's mix. A region that draws its order, walked by hand: what is taken first, what is forced, the rest quiet and in the order of the text. Over any program. A region that draws its order, whose operations read what was there and whose callees lay new memory alone: one walk, in the order of the text. Over any program. -/
import Derived.WalkKit
import Derived.WalkSpells
import Derived.WalkLawsBesides
import Derived.Handy
import Derived.Lib.Hide
import Derived.Lib.AppendZerosOnto
import Derived.Laws.CopyRow
import Derived.Test.YtkbnkdokcmpcgaaGreatDoorProg
import Derived.Laws.BytesArg
import Derived.Lib.AppendStr
import Derived.Lib.ConvBytes
import Derived.PlainAid
import Derived.Laws.BitsAllLaws
import Derived.Deep.QuietTactic
import Derived.BigQuiet
import Derived.BigRegion
namespace Go.Proofs.YtkbnkdokcmpcgaaGreatDoor
open Go.RowKit

theorem sA {α : Type} (l : List α) (i : Nat) (a : α) : l.toArray.setIfInBounds i a = (l.set i a).toArray := List.setIfInBounds_toArray ..
theorem sB {α : Type} (x a : α) (l : List α) (i : Nat) : (x :: l).set (i + 1) a = x :: l.set i a := List.set_cons_succ ..
theorem sC {α : Type} (x a : α) (l : List α) : (x :: l).set 0 a = a :: l := List.set_cons_zero ..

def Bv (x : UInt8) : Value := .int .u8 (x.toNat : Int)

theorem Bv_oneCell (xs : List UInt8) : ∀ u ∈ xs.map Bv, u.oneCell' = true := by
  intro u hu
  obtain ⟨_, _, rfl⟩ := List.mem_map.1 hu
  rfl

def Sl (w : World) (size : Nat) (v : Value) (n : Nat) (xs : List Value) : Prop :=
  xs.length = n * size ∧ ∃ a cap, v = .slice a n cap ∧ n ≤ cap ∧ (a = none → cap = 0) ∧
    ∀ i u, xs[i]? = some u → ∃ b o, a = some ⟨b, o, none⟩ ∧ w.cell? ⟨b, o + i, none⟩ = some u

structure Fr (S : Nat → Prop) (w w' : World) : Prop where
  os : w'.os = w.os
  tape : w'.tape = w.tape
  output : w'.output = w.output
  size : w.heap.size ≤ w'.heap.size
  block : ∀ k, k < w.heap.size → ¬ S k → w'.heap[k]? = w.heap[k]?

theorem Fr.refl (S : Nat → Prop) (w : World) : Fr S w w := ⟨rfl, rfl, rfl, Nat.le_refl _, fun _ _ _ => rfl⟩
theorem Fr.trans {S : Nat → Prop} {a b c : World} (h : Fr S a b) (k : Fr S b c) : Fr S a c :=
  ⟨k.os.trans h.os, k.tape.trans h.tape, k.output.trans h.output, Nat.le_trans h.size k.size,
    fun i hi hs => (k.block i (Nat.lt_of_lt_of_le hi h.size) hs).trans (h.block i hi hs)⟩
theorem Fr.mono {S T : Nat → Prop} {w w' : World} (h : Fr S w w') (hs : ∀ k, k < w.heap.size → S k → T k) : Fr T w w' :=
  ⟨h.os, h.tape, h.output, h.size, fun k hk ht => h.block k hk (fun x => ht (hs k hk x))⟩
theorem Fr.of_below {w w' : World} {S : Nat → Prop} (h : Below w.heap.size w w') : Fr S w w' := ⟨h.os, h.tape, h.output, h.size, fun k hk _ => h.block k hk⟩
theorem Fr.below {S : Nat → Prop} {w w' : World} {B : Nat} (h : Fr S w w') (hB : B ≤ w.heap.size) (hs : ∀ k, S k → B ≤ k) : Below B w w' :=
  ⟨h.os, h.tape, h.output, h.size, fun k hk => h.block k (by omega) (fun x => by have := hs k x; omega)⟩
theorem Fr.step {S T : Nat → Prop} {a b c : World} (h : Fr S a b) (k : Fr T b c) (hs : ∀ j, T j → S j ∨ a.heap.size ≤ j) : Fr S a c :=
  ⟨k.os.trans h.os, k.tape.trans h.tape, k.output.trans h.output, Nat.le_trans h.size k.size,
    fun i hi hn => (k.block i (Nat.lt_of_lt_of_le hi h.size) (fun x => (hs i x).elim hn (by omega))).trans (h.block i hi hn)⟩
theorem Fr.drew {S : Nat → Prop} {a w : World} (h : Fr S a w) : Fr S a w.drew := ⟨h.os, h.tape, h.output, h.size, h.block⟩
theorem Fr.alloc {S : Nat → Prop} {a w : World} (h : Fr S a w) (o : Obj) : Fr S a (w.alloc o) :=
  h.trans ⟨rfl, rfl, rfl, by simp, fun k hk _ => Below.heap_alloc _ _ _ hk⟩
theorem Fr.setCell {S : Nat → Prop} {a w : World} (h : Fr S a w) {p : Addr} (hp : S p.block ∨ a.heap.size ≤ p.block) (u : Value) : Fr S a (w.setCell p u) :=
  ⟨h.os, h.tape, h.output, Nat.le_trans h.size (by simp [World.setCell]), fun k hk hs => (Below.heap_setCell _ _ _ _ (fun e => by subst e; exact hp.elim hs (by omega))).trans (h.block k hk hs)⟩
theorem Fr.set {S : Nat → Prop} {a w : World} (h : Fr S a w) (b o : Nat) (hb : S b) (u : Value) : Fr S a (w.setCell ⟨b, o, none⟩ u) := h.setCell (p := ⟨b, o, none⟩) (Or.inl hb) u
theorem Fr.grown {S : Nat → Prop} {a w w' : World} {row : Option Nat} (h : Fr S a w) (hg : w.grownBy w' row) (hr : ∀ k, row = some k → S k ∨ a.heap.size ≤ k) : Fr S a w' :=
  ⟨hg.os.trans h.os, hg.tape.trans h.tape, hg.output.trans h.output, Nat.le_trans h.size hg.size,
    fun k hk hs => (hg.block k (Nat.lt_of_lt_of_le hk h.size) (fun e => (hr k e.symm).elim hs (by omega))).trans (h.block k hk hs)⟩
theorem Fr.cell {S : Nat → Prop} {w w' : World} (h : Fr S w w') {p : Addr} {u : Value} (hu : w.cell? p = some u) (hp : ¬ S p.block) : w'.cell? p = some u :=
  (World.cell?_of_block (h.block p.block (World.block_lt_of_cell? w p hu) hp)).trans hu

theorem Sl.nil (w : World) (size : Nat) : Sl w size (.slice none 0 0) 0 [] := ⟨by simp, none, 0, rfl, Nat.le_refl _, fun _ => rfl, fun i u h => by simp at h⟩
theorem Sl.len {w : World} {size n : Nat} {v : Value} {xs : List Value} (h : Sl w size v n xs) : ∃ a cap, v = .slice a n cap ∧ n ≤ cap := by
  obtain ⟨_, a, cap, h1, h2, _⟩ := h; exact ⟨a, cap, h1, h2⟩
theorem Sl.fr {S : Nat → Prop} {w w' : World} {size n : Nat} {v : Value} {xs : List Value} (h : Sl w size v n xs) (hf : Fr S w w') (hs : ∀ a m c, v = .slice (some a) m c → ¬ S a.block) : Sl w' size v n xs := by
  obtain ⟨hl, a, cap, rfl, h2, h3, h4⟩ := h
  refine ⟨hl, a, cap, rfl, h2, h3, fun i u hu => ?_⟩
  obtain ⟨b, o, rfl, hc⟩ := h4 i u hu
  exact ⟨b, o, rfl, hf.cell hc (hs ⟨b, o, none⟩ _ _ rfl)⟩
theorem Sl.below {w w' : World} {size n : Nat} {v : Value} {xs : List Value} (h : Sl w size v n xs) (hf : Below w.heap.size w w') : Sl w' size v n xs :=
  h.fr (Fr.of_below (S := fun _ => False) hf) (fun _ _ _ _ => id)
theorem Sl.cells {w w' : World} {size n : Nat} {v : Value} {xs : List Value} (h : Sl w size v n xs) (hc : ∀ p u, u ∈ xs → w.cell? p = some u → w'.cell? p = some u) : Sl w' size v n xs := by
  obtain ⟨hl, a, cap, rfl, h2, h3, h4⟩ := h
  refine ⟨hl, a, cap, rfl, h2, h3, fun i u hu => ?_⟩
  obtain ⟨b, o, rfl, hc'⟩ := h4 i u hu
  exact ⟨b, o, rfl, hc _ _ (List.mem_of_getElem? hu) hc'⟩
theorem cell_set_other {w : World} {b o : Nat} {x u v : Value} {p : Addr} (h : w.cell? p = some u) (hx : w.cell? ⟨b, o, none⟩ = some x) (hne : u ≠ x) : (w.setCell ⟨b, o, none⟩ v).cell? p = some u := by
  rw [World.cell?_setCell_other]
  · exact h
  · rintro rfl
    rw [h] at hx
    exact hne (Option.some.inj hx)
theorem Sl.cut {w : World} {size n : Nat} {v : Value} {xs : List Value} (h : Sl w size v n xs) {a : Option Addr} {cap lo hi : Nat} (hv : v = .slice a n cap) (hlo : lo ≤ hi) (hhi : hi ≤ n) :
    Sl w size (.slice (if cap = lo then a else a.map (·.add (lo * size))) (hi - lo) (cap - lo)) (hi - lo) ((xs.drop (lo * size)).take ((hi - lo) * size)) := by
  obtain ⟨hl, a', cap', e, h2, h3, h4⟩ := h
  rw [hv] at e
  simp only [Value.slice.injEq, true_and] at e
  obtain ⟨rfl, rfl⟩ := e
  have e1 : lo * size + (hi - lo) * size = hi * size := by rw [← Nat.add_mul]; congr 1; omega
  have e2 : hi * size ≤ n * size := Nat.mul_le_mul_right _ hhi
  refine ⟨by rw [List.length_take, List.length_drop, hl]; omega, _, _, rfl, by omega, fun hn => ?_, fun i u hu => ?_⟩
  · split at hn
    · have := h3 hn; omega
    · cases a with
      | none => have := h3 rfl; omega
      | some _ => simp at hn
  · rw [List.getElem?_take] at hu
    split at hu
    · rename_i hi'
      rw [List.getElem?_drop] at hu
      obtain ⟨b, o, rfl, hc⟩ := h4 _ u hu
      have hne : ¬ cap = lo := by
        intro e
        have : hi - lo = 0 := by omega
        rw [this, Nat.zero_mul] at hi'
        omega
      rw [if_neg hne]
      exact ⟨b, o + lo * size, by simp [Addr.add_lit], by rw [← hc]; congr 2; omega⟩
    · cases hu

theorem Sl.own {w : World} {base e size : Nat} {v : Value} {xs : List Value} {n : Nat} (h : w.ownsRow base e size v n xs) : Sl w size v n xs := by
  refine ⟨h.1, ?_⟩
  rcases h.2 with ⟨rfl, rfl⟩ | ⟨g, cap, cur, rfl, h1, h2, h3, h4, h5, h6⟩
  · have : xs = [] := List.eq_nil_of_length_eq_zero (by simpa using h.1)
    subst this; exact (Sl.nil w size).2
  · refine ⟨some ⟨g, 0, none⟩, cap, rfl, h3, fun hh => (by cases hh), fun i u hu => ?_⟩
    refine ⟨g, 0, rfl, ?_⟩
    have := World.ownsRow.cells h (g := g) rfl i u hu
    simpa [Addr.add_lit] using this

theorem _root_.Go.World.ownsRow.fr {S : Nat → Prop} {w w' : World} {base e size : Nat} {v : Value} {xs : List Value} {n : Nat} (h : w.ownsRow base e size v n xs) (hf : Fr S w w') (hs : ∀ k, v.ownBlock = some k → ¬ S k) : w'.ownsRow base e size v n xs := by
  refine ⟨h.1, ?_⟩
  rcases h.2 with h | ⟨g, cap, cur, rfl, h1, h2, h3⟩
  · exact Or.inl h
  · exact Or.inr ⟨g, cap, cur, rfl, h1, (hf.block g (lt_of_block h2) (hs g rfl)).trans h2, h3⟩
theorem _root_.Go.World.ownsRow.setCell_other {w : World} {base e size : Nat} {v : Value} {xs : List Value} {n : Nat} (h : w.ownsRow base e size v n xs) {p : Addr} (hp : v.ownBlock ≠ some p.block) (u : Value) : (w.setCell p u).ownsRow base e size v n xs :=
  h.fr (Fr.setCell (S := fun k => k = p.block) (Fr.refl _ w) (p := p) (Or.inl rfl) u) (fun _ hk e => hp (e ▸ hk))
theorem _root_.Go.World.ownsRow.set_other {w : World} {base e size : Nat} {v : Value} {xs : List Value} {n b : Nat} (h : w.ownsRow base e size v n xs) (hp : v.ownBlock ≠ some b) (o : Nat) (u : Value) : (w.setCell ⟨b, o, none⟩ u).ownsRow base e size v n xs :=
  h.setCell_other (p := ⟨b, o, none⟩) hp u
theorem _root_.Go.World.ownsRow.base {w : World} {base base' e size : Nat} {v : Value} {xs : List Value} {n : Nat} (h : w.ownsRow base e size v n xs) (hb : base' ≤ base) : w.ownsRow base' e size v n xs := by
  refine ⟨h.1, ?_⟩
  rcases h.2 with h | ⟨g, cap, cur, rfl, h1, h3⟩
  · exact Or.inl h
  · exact Or.inr ⟨g, cap, cur, rfl, Nat.le_trans hb h1, h3⟩

theorem run_append_sl {P : Program} (w : World) (base t ty e : Nat) (i : TypeInfo) (z : Value) (size bytes : Nat) (ht : P.underlying t = some (.slice e)) (hi : P.info? e = some i) (hz : i.zero = some z)
    (hsize : i.size = size) (hby : i.bytes = bytes) (hzs : z.cells.size = size) (hsz : 0 < size)
    (v : Value) (n : Nat) (xs : List Value) (hown : w.ownsRow base e size v n xs) (vx : Value) (m : Nat) (news : List Value) (hx : Sl w size vx m news) (h1 : ∀ u ∈ news, u.oneCell' = true)
    (h63 : n + m ≤ maxLen) (hbytes : (n + m) * bytes ≤ 140737488355328) (hbase : base ≤ w.heap.size) :
    ∃ v' w', (Builtin.append_ #[t, t] ty #[v, vx]).run P w = .ok v' w' ∧ w'.ownsRow base e size v' (n + m) (xs ++ news) ∧ w.grownBy w' v.ownBlock ∧
      (v'.ownBlock = v.ownBlock ∨ v'.ownBlock = some w.heap.size) ∧ (∃ a c, v' = .slice a (n + m) c) ∧ (v' = .slice none 0 0 ↔ v = .slice none 0 0 ∧ m = 0) := by
  obtain ⟨hl, a, c, rfl, hmc, hnil, hc⟩ := hx
  have hsh : ∃ a c, v = .slice a n c := by rcases hown.2 with ⟨rfl, rfl⟩ | ⟨g, cap, cur, rfl, _⟩ <;> exact ⟨_, _, rfl⟩
  by_cases hm0 : m = 0
  · subst hm0
    have hn : news = [] := List.eq_nil_of_length_eq_zero (by simpa using hl)
    subst hn
    cases a with
    | none =>
      obtain rfl : c = 0 := hnil rfl
      refine ⟨v, w, run_append_owned_none w base t ty e i size ht hi v n xs hown, by simpa using hown, ⟨rfl, rfl, rfl, Nat.le_refl _, fun _ _ _ => rfl⟩, Or.inl rfl, hsh, by simp⟩
    | some ad =>
      obtain ⟨v', w', hr, h2, h3, h4⟩ := run_append_own (P := P) w base t ty e i z size bytes ht hi hz hsize hby hzs hsz v n xs hown ad 0 c [] hl (by intro j u hj; simp at hj) h1 h63 hbytes hbase
      have hv : v' = v := by
        subst hsize
        rcases hown.2 with ⟨rfl, rfl⟩ | ⟨g, cap, cur, rfl, hb, hg, hnc, hcm, hcs, htake⟩
        · exact h4.2 ⟨rfl, rfl⟩
        · have hq := run_append_room (P := P) w t ty e i ht hi g n cap cur hg ad 0 c [] (by simp) (by intro j u hj; simp at hj) h1 (by omega) (by simp [hcs]; exact Nat.mul_le_mul_right _ hnc)
          rw [hr] at hq
          simpa using (Result.ok.inj hq).1
      subst hv
      exact ⟨v', w', hr, h2, h3, Or.inl rfl, hsh, h4⟩
  · have hn : news ≠ [] := by intro e; subst e; simp at hl; have := Nat.mul_pos (Nat.pos_of_ne_zero hm0) hsz; omega
    obtain ⟨b, o, rfl⟩ : ∃ b o, a = some ⟨b, o, none⟩ := by
      obtain ⟨u, hu⟩ : ∃ u, news[0]? = some u := by cases news with | nil => exact absurd rfl hn | cons u l => exact ⟨u, rfl⟩
      obtain ⟨b, o, h, _⟩ := hc 0 u hu
      exact ⟨b, o, h⟩
    have hcl : ∀ j u, news[j]? = some u → w.cell? ((⟨b, o, none⟩ : Addr).add j) = some u := by
      intro j u hu
      obtain ⟨b', o', e', hc'⟩ := hc j u hu
      simp only [Option.some.injEq, Addr.mk.injEq, and_true] at e'
      obtain ⟨rfl, rfl⟩ := e'
      rw [Addr.add_lit]; exact hc'
    obtain ⟨v', w', hr, h2, h3, h4⟩ := run_append_own (P := P) w base t ty e i z size bytes ht hi hz hsize hby hzs hsz v n xs hown ⟨b, o, none⟩ m c news hl hcl h1 h63 hbytes hbase
    subst hsize
    subst hby
    have hsmall : n + m ≤ 9223372036854775807 := by simp only [maxLen] at h63; omega
    rcases hown.2 with ⟨rfl, rfl⟩ | ⟨g, cap, cur, rfl, hb, hg, hnc, hcm, hcs, htake⟩
    · have hq := run_append_nil (P := P) w t ty e i z ht hi hz ⟨b, o, none⟩ m c news hl hcl (by omega) (by omega) (by have hb := hbytes; simp only [Nat.zero_add] at hb; omega)
      rw [hr] at hq
      obtain ⟨hv, _⟩ := Result.ok.inj hq
      exact ⟨v', w', hr, h2, h3, Or.inr (by rw [hv]; rfl), ⟨_, _, by rw [hv, Nat.zero_add]⟩, h4⟩
    · by_cases hroom : n + m ≤ cap
      · have hq := run_append_room (P := P) w t ty e i ht hi g n cap cur hg ⟨b, o, none⟩ m c news hl hcl h1 hroom (by rw [hl, hcs, ← Nat.add_mul]; exact Nat.mul_le_mul_right _ hroom)
        rw [hr] at hq
        obtain ⟨hv, _⟩ := Result.ok.inj hq
        exact ⟨v', w', hr, h2, h3, Or.inl (by rw [hv]; rfl), ⟨_, _, hv⟩, h4⟩
      · have hq := run_append_grow (P := P) w t ty e i z ht hi hz ⟨g, 0, none⟩ n cap xs hown.1 (hown.cells (g := g) rfl) ⟨b, o, none⟩ m c news hl hcl (by omega) (by omega) (growslice_fits (by omega) hbytes)
        rw [hr] at hq
        obtain ⟨hv, _⟩ := Result.ok.inj hq
        exact ⟨v', w', hr, h2, h3, Or.inr (by rw [hv]; rfl), ⟨_, _, hv⟩, h4⟩

theorem wpList_append_sl {P : Program} {w : World} {ops : Array Oper} {rest : List Oper} {o : Oper} {a : Act} {Q : Exit → Act → World → Prop} (hgd : o.guard = none) (s x : Operand) (t : TypeId)
    (ho : o.op = .call { callee := .builtin .append, args := #[s, x], argTypes := #[t, t] })
    (base : Nat) (e : TypeId) (i : TypeInfo) (z : Value) (size bytes : Nat) (ht : P.underlying t = some (.slice e)) (hi : P.info? e = some i) (hz : i.zero = some z)
    (hsize : i.size = size) (hby : i.bytes = bytes) (hzs : z.cells.size = size) (hsz : 0 < size)
    (v : Value) (n : Nat) (xs : List Value) (hs : a.eval s = v) (hown : w.ownsRow base e size v n xs)
    (vx : Value) (m : Nat) (news : List Value) (hxe : a.eval x = vx) (hx : Sl w size vx m news) (h1 : ∀ u ∈ news, u.oneCell' = true)
    (h63 : n + m ≤ maxLen) (hbytes : (n + m) * bytes ≤ 140737488355328) (hbase : base ≤ w.heap.size)
    (h : ∀ aa cc w', w'.ownsRow base e size (.slice aa (n + m) cc) (n + m) (xs ++ news) → w.grownBy w' v.ownBlock → ((Value.slice aa (n + m) cc).ownBlock = v.ownBlock ∨ (Value.slice aa (n + m) cc).ownBlock = some w.heap.size) →
      wpList P ops Q rest (a.put o.dst (.slice aa (n + m) cc)) w') : wpList P ops Q (o :: rest) a w := by
  refine wpList_plain hgd fun K hK => ?_
  obtain ⟨v', w', hr, h2, h3, h4, ⟨aa, cc, rfl⟩, _⟩ := run_append_sl (P := P) w base t o.type e i z size bytes ht hi hz hsize hby hzs hsz v n xs hown vx m news hx h1 h63 hbytes hbase
  unfold Oper.wp execOp
  simp only [ho, resolve, invoke, builtin, Sem.run_bind, Sem.run_pure, Result.andThen_ok, List.map_toArray, List.map_cons, List.map_nil, hs, hxe, hr]
  exact hK _ _ (h aa cc w' h2 h3 h4)

end Go.Proofs.YtkbnkdokcmpcgaaGreatDoor
namespace Go.Proofs.YtkbnkdokcmpcgaaGreatDoor
open Go.RowKit

section
variable {P : Program}

def At (w : World) (b o : Nat) (cs : List Value) : Prop := ∀ i u, cs[i]? = some u → w.cell? ⟨b, o + i, none⟩ = some u

theorem At.of_row {w : World} {b : Nat} {cs : List Value} {t : TypeId} {fr : Nat × Nat} (h : w.heap[b]? = some (.cells cs.toArray t fr)) : At w b 0 cs := by
  intro i u hu
  rw [cell_of_row w b _ _ t fr h]
  simpa using hu
theorem At.part {w : World} {b o : Nat} {xs cs ys : List Value} (h : At w b o (xs ++ cs ++ ys)) : At w b (o + xs.length) cs := by
  intro i u hu
  have := h (xs.length + i) u (by rw [List.append_assoc, List.getElem?_append_right (by omega), show xs.length + i - xs.length = i by omega, List.getElem?_append_left (List.getElem?_eq_some_iff.1 hu).1]; exact hu)
  rw [← this]; congr 2; omega
theorem At.fr {S : Nat → Prop} {w w' : World} {b o : Nat} {cs : List Value} (h : At w b o cs) (hf : Fr S w w') (hs : ¬ S b) : At w' b o cs := fun i u hu => hf.cell (h i u hu) hs

theorem run_loadVar_at (w : World) (b o : Nat) (ty : TypeId) (cs : List Value) (d : TypeDesc) (hc : At w b o cs)
    (hu : P.underlying ty = some d) (hd : (match d with | .struct _ | .array _ _ => true | _ => false) = true) (hi : (P.info? ty).map (·.size) = some cs.length) :
    (loadVar ty ⟨b, o, none⟩).run P w = .ok (.agg cs.toArray) w := by
  have hl : (loadCells ⟨b, o, none⟩ cs.length).run P w = .ok cs.toArray w :=
    run_loadCells_list (P := P) w ⟨b, o, none⟩ cs (fun j v hv => by rw [Addr.add_lit]; exact hc j v hv)
  cases hq : P.info? ty with
  | none => simp [hq] at hi
  | some i =>
    have hs : i.size = cs.length := by simpa [hq] using hi
    have hagg : (isAgg ty).run P w = .ok true w := by
      unfold isAgg
      rw [Sem.run_bind, run_underlying hu w]
      cases d <;> simp_all
    simp [loadVar, Sem.run_bind, hagg, sizeOf, typeInfo, hq, hs, hl]

theorem wpList_load_at {ops : Array Oper} {rest : List Oper} {o : Oper} {a : Act} {w : World} {Q : Exit → Act → World → Prop} (hgd : o.guard = none) (ty : TypeId) (x : Operand) (ho : o.op = .load ty x)
    (b off : Nat) (hx : a.eval x = .pointer (some ⟨b, off, none⟩)) (cs : List Value) (d : TypeDesc) (hc : At w b off cs)
    (hu : P.underlying ty = some d) (hd : (match d with | .struct _ | .array _ _ => true | _ => false) = true) (hi : (P.info? ty).map (·.size) = some cs.length)
    (h : wpList P ops Q rest (a.put o.dst (.agg cs.toArray)) w) : wpList P ops Q (o :: rest) a w := by
  refine wpList_plain hgd fun K hK => ?_
  unfold Oper.wp execOp
  simp only [ho, hx, Instr.loadAt, Instr.sureAddr, Sem.run_bind, Sem.run_pure, Result.andThen_ok, run_loadVar_at w b off ty cs d hc hu hd hi]
  exact hK _ _ h

theorem wpList_store_row {ops : Array Oper} {rest : List Oper} {o : Oper} {a : Act} {w : World} {Q : Exit → Act → World → Prop} (hgd : o.guard = none) (ty : TypeId) (x y : Operand) (ho : o.op = .store ty x y)
    (b : Nat) (hx : a.eval x = .pointer (some ⟨b, 0, none⟩)) (cs : List Value) (hy : a.eval y = .agg cs.toArray) (old : Array Value) (t : TypeId) (hb : w.heap[b]? = some (.cells old t (0, 0))) (hl : old.size = cs.length)
    (h1 : ∀ u ∈ cs, u.oneCell' = true) (hi : (P.info? ty).map (·.size) = some cs.length)
    (h : ∀ w', w'.heap[b]? = some (.cells cs.toArray t (0, 0)) → Fr (fun k => k = b) w w' → w'.heap.size = w.heap.size → wpList P ops Q rest (a.put o.dst undef) w') : wpList P ops Q (o :: rest) a w := by
  refine wpList_plain hgd fun K hK => ?_
  have hst := run_storeCells_at P b 0 t cs 0 old w hb (by omega) h1
  cases hq : P.info? ty with
  | none => simp [hq] at hi
  | some i =>
    have hs : i.size = cs.length := by simpa [hq] using hi
    have he : (old.toList.take (0 + 0) ++ cs ++ old.toList.drop (0 + 0 + cs.length)).toArray = cs.toArray := by
      rw [List.drop_of_length_le (by rw [Array.length_toList]; omega)]; simp
    rw [he] at hst
    have hr : (Instr.storeAt ty (.pointer (some ⟨b, 0, none⟩)) (.agg cs.toArray)).run P w = .ok () (w.setRow b cs.toArray) := by
      simp [Instr.storeAt, Instr.sureAddr, storeVar, sizeOf, typeInfo, hq, hs, Value.cells, Sem.run_bind, hst]
    unfold Oper.wp execOp
    simp only [ho, hx, hy, Sem.run_bind, Sem.run_pure, Result.andThen_ok, hr]
    exact hK _ _ (h _ (setRow_heap w b old _ t _ hb) ⟨rfl, rfl, rfl, by simp, fun k _ hk => setRow_other w b k _ hk⟩ (by simp))

end

end Go.Proofs.YtkbnkdokcmpcgaaGreatDoor
namespace Go.Proofs.YtkbnkdokcmpcgaaGreatDoor
open Go.RowKit

theorem info_u8 : (Tryz.prog.info? 5).map (fun i => (i.zero, i.size, i.bytes)) = some (some (.int .u8 0), 1, 1) := by kernel_rfl

theorem make_u8 {w : World} {ops : Array Oper} {rest : List Oper} {o : Oper} {a : Act} {Q : Exit → Act → World → Prop}
    (hg : o.guard = none) (l c : Operand) (hop : o.op = Op.makeSlice 26 l c) (n : Nat) (hl : a.eval l = .int .i64 (n : Int)) (hc : a.eval c = .int .i64 (n : Int)) (hn : n ≤ 140737488351232)
    (hK : ∀ w', w'.ownsRow w.heap.size 5 1 (.slice (some ⟨w.heap.size, 0, none⟩) n n) n ((List.replicate n 0).map Bv) → Below w.heap.size w w' → wpList Tryz.prog ops Q rest (a.put o.dst (.slice (some ⟨w.heap.size, 0, none⟩) n n)) w') :
    wpList Tryz.prog ops Q (o :: rest) a w := by
  obtain ⟨i0, hi, hz0, hz1, hz2⟩ := info_parts info_u8
  refine wpList_make_full w hg l c 26 hop w.heap.size 5 i0 (.int .u8 0) 1 Tryz.underlying26 hi hz0 hz1 .i64 .i64 n n n hl hc rfl rfl (by rw [hz2]; omega) (by unfold maxLen; omega) (Nat.le_refl _) ?_
  intro w1 hown hg
  have e : (madeCells (Value.cells (.int .u8 0)) (n * 1)).toList = (List.replicate n (0 : UInt8)).map Bv := by
    rw [Nat.mul_one, List.map_replicate]; exact toList_madeCells_one _ n
  rw [e] at hown
  exact hK w1 hown ((Below.refl _ _).grown hg (Nat.le_refl _) (fun k h => by cases h))

theorem append_u8 {w : World} {ops : Array Oper} {rest : List Oper} {o : Oper} {a : Act} {Q : Exit → Act → World → Prop} (hgd : o.guard = none) (s x : Operand)
    (ho : o.op = .call { callee := .builtin .append, args := #[s, x], argTypes := #[26, 26] })
    {base : Nat} {v : Value} {n : Nat} {xs : List UInt8} (hown : w.ownsRow base 5 1 v n (xs.map Bv)) {vx : Value} {m : Nat} {news : List UInt8} (hx : Sl w 1 vx m (news.map Bv))
    (hs : a.eval s = v) (hxe : a.eval x = vx) (hr : n + m ≤ 140737488355328) (hbase : base ≤ w.heap.size)
    (h : ∀ aa cc w', w'.ownsRow base 5 1 (.slice aa (n + m) cc) (n + m) ((xs ++ news).map Bv) → Fr (fun k => v.ownBlock = some k) w w' → ((Value.slice aa (n + m) cc).ownBlock = v.ownBlock ∨ (Value.slice aa (n + m) cc).ownBlock = some w.heap.size) →
      wpList Tryz.prog ops Q rest (a.put o.dst (.slice aa (n + m) cc)) w') : wpList Tryz.prog ops Q (o :: rest) a w := by
  obtain ⟨i0, hi, hz0, hz1, hz2⟩ := info_parts info_u8
  refine wpList_append_sl hgd s x 26 ho base 5 i0 (.int .u8 0) 1 1 Tryz.underlying26 hi hz0 hz1 hz2 rfl (by decide) v n _ hs hown vx m _ hxe hx (Bv_oneCell _) (by unfold maxLen; omega) (by omega) hbase ?_
  intro aa cc w' h2 hg h3
  rw [← List.map_append] at h2
  exact h aa cc w' h2 ((Fr.refl _ w).grown hg (fun k hk => Or.inl hk)) h3

theorem elem_u8 : Tryz.prog.elem 26 = 5 := by kernel_rfl
theorem und_u8 : Tryz.prog.underlying 26 = some (.slice (Tryz.prog.elem 26)) := by rw [elem_u8]; exact Tryz.underlying26
theorem size_u8 (w : World) : (sizeOf (Tryz.prog.elem 26)).run Tryz.prog w = .ok 1 w := by
  obtain ⟨i0, hi, hz0, hz1, hz2⟩ := info_parts info_u8
  rw [elem_u8]; simp [sizeOf, typeInfo, hi, hz1]

theorem cut_u8 {w : World} {v : Value} {n : Nat} {xs : List UInt8} (h : Sl w 1 v n (xs.map Bv)) {lo hi : Nat} (hlo : lo ≤ hi) (hhi : hi ≤ n) :
    ∃ A C, (∀ w', (Instr.slice 26 v (some (.int .i64 (lo : Int))) (some (.int .i64 (hi : Int))) none).run Tryz.prog w' = .ok (.slice A (hi - lo) C) w') ∧ Sl w 1 (.slice A (hi - lo) C) (hi - lo) (((xs.drop lo).take (hi - lo)).map Bv) := by
  obtain ⟨a, cap, rfl, hc⟩ := h.len
  refine ⟨_, _, fun w' => ?_, by have := h.cut rfl hlo hhi; simp only [Nat.mul_one] at this; rw [List.map_take, List.map_drop]; exact this⟩
  rw [run_slice_lh w' _ a n cap und_u8 .i64 .i64 lo hi (by omega) (by omega) (by omega), size_u8]
  simp [Result.andThen, sliced]
theorem cut_u8_lo' {w : World} {v : Value} {n : Nat} {xs : List UInt8} (h : Sl w 1 v n (xs.map Bv)) {lo : Nat} (hlo : lo ≤ n) :
    ∃ A C, (∀ w', (Instr.slice 26 v (some (.int .i64 (lo : Int))) none none).run Tryz.prog w' = .ok (.slice A (n - lo) C) w') ∧ Sl w 1 (.slice A (n - lo) C) (n - lo) ((xs.drop lo).map Bv) ∧ (Value.slice A (n - lo) C).ownBlock = v.ownBlock := by
  obtain ⟨a, cap, rfl, hc⟩ := h.len
  have hl : xs.length = n := by simpa using h.1
  refine ⟨_, _, fun w' => ?_, by have := h.cut rfl hlo (Nat.le_refl n); simp only [Nat.mul_one] at this; rw [List.take_of_length_le (by simp [hl])] at this; rw [List.map_drop]; exact this, ?_⟩
  · rw [run_slice_l w' _ a n cap und_u8 .i64 lo (by omega) (by omega), size_u8]
    simp [Result.andThen, sliced]
  · cases a with
    | none => simp [Value.ownBlock]
    | some ad =>
      split
      · rfl
      · simp only [Option.map_some, Value.ownBlock, Addr.add]; split <;> rfl
theorem cut_u8_lo {w : World} {v : Value} {n : Nat} {xs : List UInt8} (h : Sl w 1 v n (xs.map Bv)) {lo : Nat} (hlo : lo ≤ n) :
    ∃ A C, (∀ w', (Instr.slice 26 v (some (.int .i64 (lo : Int))) none none).run Tryz.prog w' = .ok (.slice A (n - lo) C) w') ∧ Sl w 1 (.slice A (n - lo) C) (n - lo) ((xs.drop lo).map Bv) := by
  obtain ⟨A, C, h1, h2, _⟩ := cut_u8_lo' h hlo
  exact ⟨A, C, h1, h2⟩
theorem cut_u8_hi {w : World} {v : Value} {n : Nat} {xs : List UInt8} (h : Sl w 1 v n (xs.map Bv)) {hi : Nat} (hhi : hi ≤ n) :
    ∃ A C, (∀ w', (Instr.slice 26 v none (some (.int .i64 (hi : Int))) none).run Tryz.prog w' = .ok (.slice A hi C) w') ∧ Sl w 1 (.slice A hi C) hi ((xs.take hi).map Bv) := by
  obtain ⟨a, cap, rfl, hc⟩ := h.len
  refine ⟨_, _, fun w' => ?_, by have := h.cut rfl (Nat.zero_le hi) hhi; simp only [Nat.mul_one, Nat.sub_zero, List.drop_zero] at this; rw [List.map_take]; exact this⟩
  rw [run_slice_h w' _ a n cap und_u8 .i64 hi (by omega) (by omega), size_u8]
  simp [Result.andThen, sliced]

theorem toStr_u8 {w : World} {v : Value} {n : Nat} {xs : List UInt8} (h : Sl w 1 v n (xs.map Bv)) : (convert 26 9 v).run Tryz.prog w = .ok (.string ⟨xs.toArray⟩) w := by
  obtain ⟨hl, a, cap, rfl, h2, h3, h4⟩ := h
  have hl' : xs.length = n := by simpa using hl
  have e : strOfNums (xs.map fun x => (x.toNat : Int)) = ⟨xs.toArray⟩ := by
    have h1 := strOfNums_data (xs.map fun x => (x.toNat : Int))
    have h2 : (xs.map fun x => (x.toNat : Int)).map (fun n => UInt8.ofNat n.toNat) = xs := by
      rw [List.map_map]; conv => rhs; rw [← List.map_id xs]
      apply List.map_congr_left; intro x _; simp
    rw [h2] at h1
    apply ByteArray.ext
    apply Array.ext'
    simpa using h1
  cases a with
  | none =>
    have : n = 0 := by have := h3 rfl; omega
    have hx : xs = [] := List.eq_nil_of_length_eq_zero (by omega)
    subst hx
    rw [run_convert_bytes_nil (P := Tryz.prog) w 26 5 Tryz.underlying26 Tryz.underlying5 n cap 9 Tryz.underlying9]
    rfl
  | some ad =>
    cases hx : xs with
    | nil =>
      subst hx
      obtain rfl : n = 0 := by simpa using hl'.symm
      rw [run_convert_bytes_string w 26 9 5 _ 0 cap Tryz.underlying26 Tryz.underlying5 Tryz.underlying9, run_bytesToString w ad 0 cap [] (by simpa using run_loadCells_list (P := Tryz.prog) w ad [] (by intro j v hj; simp at hj))]
      rfl
    | cons x0 t =>
      obtain ⟨b, o, e0, _⟩ := h4 0 (Bv x0) (by rw [hx]; rfl)
      obtain rfl := Option.some.inj e0
      rw [← hx]
      rw [run_convert_bytes_arg (P := Tryz.prog) w 26 5 Tryz.underlying26 Tryz.underlying5 b o n cap (xs.map fun x => (x.toNat : Int)) (by simpa using hl') ?_ 9 Tryz.underlying9, e]
      intro i hi
      have hi' : i < xs.length := by omega
      obtain ⟨b', o', e', hc⟩ := h4 i (Bv xs[i]) (by simp [hi'])
      simp only [Option.some.injEq, Addr.mk.injEq, and_true] at e'
      obtain ⟨rfl, rfl⟩ := e'
      rw [hc]
      simp [Bv, List.getD, hi']

theorem append_str {w : World} {ops : Array Oper} {rest : List Oper} {o : Oper} {a : Act} {Q : Exit → Act → World → Prop} (hgd : o.guard = none) (s x : Operand)
    (ho : o.op = .call { callee := .builtin .append, args := #[s, x], argTypes := #[26, 9] })
    {base : Nat} {v : Value} {n : Nat} {xs : List UInt8} (hown : w.ownsRow base 5 1 v n (xs.map Bv)) {t : ByteArray}
    (hs : a.eval s = v) (hxe : a.eval x = .string t) (hr : n + t.size ≤ 140737488355328) (hbase : base ≤ w.heap.size)
    (h : ∀ v' w', w'.ownsRow base 5 1 v' (n + t.size) ((xs ++ t.data.toList).map Bv) → Fr (fun k => v.ownBlock = some k) w w' →
      wpList Tryz.prog ops Q rest (a.put o.dst v') w') : wpList Tryz.prog ops Q (o :: rest) a w := by
  obtain ⟨i0, hi, hz0, hz1, hz2⟩ := info_parts info_u8
  refine Lib.wpList_append_own_string w hgd s x 26 9 ho base 5 i0 Tryz.underlying26 Tryz.underlying9 hi hz0 hz1 hz2 v n _ hs hown t hxe (by unfold maxLen; omega) hr hbase ?_
  intro v' w' h2 hg _
  have e : xs.map Bv ++ Lib.strCells t = (xs ++ t.data.toList).map Bv := by rw [List.map_append]; rfl
  rw [e] at h2
  exact h v' w' h2 ((Fr.refl _ w).grown hg (fun k hk => Or.inl hk))

theorem own_empty (w : World) : (w.alloc (.cells #[] 5)).ownsRow w.heap.size 5 1 (.slice (some ⟨w.heap.size, 0, none⟩) 0 0) 0 (([] : List UInt8).map Bv) :=
  World.ownsRow_made w #[] 0 (Nat.le_refl _) (Nat.zero_le _) rfl

end Go.Proofs.YtkbnkdokcmpcgaaGreatDoor
namespace Go.Proofs.YtkbnkdokcmpcgaaGreatDoor

def putB (x n : Nat) : List UInt8 := (List.range n).map fun j => UInt8.ofNat (x / 256 ^ (n - 1 - j))
theorem putB_length (x n : Nat) : (putB x n).length = n := by simp [putB]
theorem putB_get (x n j : Nat) (h : j < n) : (putB x n)[j]? = some (UInt8.ofNat (x / 256 ^ (n - 1 - j))) := by simp [putB, h]
def getB (l : List UInt8) : Nat := l.foldl (fun a c => a * 256 + c.toNat) 0

def putTo (x n k : Nat) : List UInt8 := (List.range n).map fun j => if j < k then UInt8.ofNat (x / 256 ^ (n - 1 - j)) else 0
theorem putTo_zero (x n : Nat) : putTo x n 0 = List.replicate n 0 := by
  apply List.ext_getElem? ; intro j; by_cases h : j < n <;> simp [putTo, h]
theorem putTo_all (x n : Nat) : putTo x n n = putB x n := by
  apply List.ext_getElem? ; intro j; by_cases h : j < n <;> simp [putTo, putB, h]
theorem putTo_succ (x n k : Nat) (h : k < n) : (putTo x n k).set k (UInt8.ofNat (x / 256 ^ (n - 1 - k))) = putTo x n (k + 1) := by
  apply List.ext_getElem?
  intro j
  rw [List.getElem?_set]
  by_cases hj : k = j
  · subst hj
    simp [putTo, h]
  · by_cases h1 : j < k
    · by_cases h2 : j < n <;> simp [putTo, hj, h1, h2, show j < k + 1 by omega]
    · by_cases h2 : j < n <;> simp [putTo, hj, h1, h2, show ¬ j < k + 1 by omega]

theorem getB_fold (l : List UInt8) : ∀ a : Nat, l.foldl (fun a c => a * 256 + c.toNat) a = a * 256 ^ l.length + getB l := by
  induction l with
  | nil => intro a; simp [getB]
  | cons c l ih =>
    intro a
    unfold getB
    simp only [List.foldl_cons, List.length_cons]
    rw [ih, ih (0 * 256 + c.toNat), Nat.pow_succ]
    simp only [Nat.add_mul, Nat.mul_assoc, Nat.mul_comm 256, Nat.zero_mul, Nat.zero_add, Nat.add_assoc]
theorem getB_append (l r : List UInt8) : getB (l ++ r) = getB l * 256 ^ r.length + getB r := by
  unfold getB; rw [List.foldl_append]; exact getB_fold r _
theorem getB_lt (l : List UInt8) : getB l < 256 ^ l.length := by
  induction l with
  | nil => simp [getB]
  | cons c l ih =>
    have := getB_append [c] l
    rw [List.singleton_append] at this
    rw [this, List.length_cons, Nat.pow_succ, Nat.mul_comm (256 ^ l.length) 256]
    have h1 : getB [c] < 256 := by simp only [getB, List.foldl_cons, List.foldl_nil]; have := c.toNat_lt; omega
    have h2 : getB [c] * 256 ^ l.length + 256 ^ l.length ≤ 256 * 256 ^ l.length := by rw [← Nat.succ_mul]; exact Nat.mul_le_mul_right _ h1
    omega
theorem getB_putB (x n : Nat) : getB (putB x n) = x % 256 ^ n := by
  induction n generalizing x with
  | zero => simp [putB, getB, Nat.mod_one]
  | succ n ih =>
    have e : putB x (n + 1) = putB (x / 256) n ++ [UInt8.ofNat x] := by
      apply List.ext_getElem?
      intro j
      simp only [putB, List.getElem?_map, List.getElem?_append, List.length_map, List.length_range]
      by_cases h : j < n
      · simp only [h, if_true, List.getElem?_range, show j < n + 1 by omega, Option.map_some]
        congr 2
        rw [show n + 1 - 1 - j = (n - 1 - j) + 1 by omega, Nat.pow_succ, Nat.mul_comm, Nat.div_div_eq_div_mul]
      · by_cases h2 : j = n
        · subst h2; simp
        · simp [h, show ¬ j < n + 1 by omega, show j - n ≠ 0 by omega]
    rw [e, getB_append, ih]
    simp only [List.length_singleton, Nat.pow_one, getB, List.foldl_cons, List.foldl_nil, UInt8.toNat_ofNat']
    have e2 : (256 : Nat) ^ (n + 1) = 256 * 256 ^ n := by rw [Nat.pow_succ, Nat.mul_comm]
    have e3 : (2 : Nat) ^ 8 = 256 := rfl
    rw [e2, Nat.mod_mul, e3]
    omega

end Go.Proofs.YtkbnkdokcmpcgaaGreatDoor
namespace Go.Proofs.YtkbnkdokcmpcgaaGreatDoor

def rotl (x k : Nat) : Nat := (x * 2 ^ k % 4294967296) ||| (x / 2 ^ (32 - k))
theorem or_lt32 {a b : Nat} (ha : a < 4294967296) (hb : b < 4294967296) : a ||| b < 4294967296 := Nat.or_lt_two_pow (n := 32) ha hb
theorem xor_lt32 {a b : Nat} (ha : a < 4294967296) (hb : b < 4294967296) : a ^^^ b < 4294967296 := Nat.xor_lt_two_pow (n := 32) ha hb
theorem and_lt32 {a b : Nat} (ha : a < 4294967296) : a &&& b < 4294967296 := Nat.lt_of_le_of_lt Nat.and_le_left ha
theorem rotl_lt {x : Nat} (k : Nat) (hx : x < 4294967296) : rotl x k < 4294967296 :=
  or_lt32 (Nat.mod_lt _ (by decide)) (Nat.lt_of_le_of_lt (Nat.div_le_self _ _) hx)

def mixN (x a b c : Nat) : Nat := rotl x (32 - a) ^^^ rotl x (32 - b) ^^^ rotl x (32 - c)
theorem mixN_lt {x : Nat} (a b c : Nat) (hx : x < 4294967296) : mixN x a b c < 4294967296 := xor_lt32 (xor_lt32 (rotl_lt _ hx) (rotl_lt _ hx)) (rotl_lt _ hx)
def smallN (x a b c : Nat) : Nat := rotl x (32 - a) ^^^ rotl x (32 - b) ^^^ (x / 2 ^ c)
def rootTo (p k : Nat) : Nat → Nat
  | 0 => 0
  | n + 1 => if (rootTo p k n + 2 ^ (40 - n)) ^ k ≤ p * 4294967296 ^ k then rootTo p k n + 2 ^ (40 - n) else rootTo p k n
def fracN (p k : Nat) : Nat := rootTo p k 41 % 4294967296
theorem fracN_lt (p k : Nat) : fracN p k < 4294967296 := Nat.mod_lt _ (by decide)
theorem rootTo_form (p k : Nat) : ∀ n, n ≤ 41 → ∃ q, rootTo p k n = q * 2 ^ (41 - n) ∧ q < 2 ^ n
  | 0, _ => ⟨0, by simp [rootTo], by decide⟩
  | n + 1, h => by
    obtain ⟨q, e, hq⟩ := rootTo_form p k n (by omega)
    have e2 : 2 ^ (41 - n) = 2 * 2 ^ (40 - n) := by rw [show 41 - n = (40 - n) + 1 by omega, Nat.pow_succ, Nat.mul_comm]
    have e3 : 41 - (n + 1) = 40 - n := by omega
    rw [e2, ← Nat.mul_assoc] at e
    unfold rootTo
    rw [e3, Nat.pow_succ]
    split
    · exact ⟨q * 2 + 1, by rw [e, Nat.add_mul, Nat.one_mul], by omega⟩
    · exact ⟨q * 2, e, by omega⟩
theorem rootTo_lt (p k n : Nat) (h : n ≤ 41) : rootTo p k n < 2 ^ 41 := by
  obtain ⟨q, e, hq⟩ := rootTo_form p k n h
  rw [e]
  have : 2 ^ 41 = 2 ^ n * 2 ^ (41 - n) := by rw [← Nat.pow_add]; congr 1; omega
  rw [this]
  exact Nat.mul_lt_mul_of_pos_right hq (Nat.pow_pos (by decide))
theorem rootTo_next_lt (p k n : Nat) (h : n < 41) : rootTo p k n + 2 ^ (40 - n) < 2 ^ 41 := by
  obtain ⟨q, e, hq⟩ := rootTo_form p k n (by omega)
  have e2 : 2 ^ (41 - n) = 2 * 2 ^ (40 - n) := by rw [show 41 - n = (40 - n) + 1 by omega, Nat.pow_succ, Nat.mul_comm]
  have e4 : 2 ^ 41 = 2 ^ n * (2 * 2 ^ (40 - n)) := by rw [← e2, ← Nat.pow_add]; congr 1; omega
  have h5 : (q + 1) * (2 * 2 ^ (40 - n)) ≤ 2 ^ n * (2 * 2 ^ (40 - n)) := Nat.mul_le_mul_right _ hq
  have hp : 0 < 2 ^ (40 - n) := Nat.pow_pos (by decide)
  rw [e, e2, e4]
  rw [Nat.add_mul, Nat.one_mul] at h5
  omega
theorem rootTo_or (p k n : Nat) (h : n < 41) : rootTo p k n ||| 2 ^ (40 - n) = rootTo p k n + 2 ^ (40 - n) := by
  obtain ⟨q, e, hq⟩ := rootTo_form p k n (by omega)
  have hlt : 2 ^ (40 - n) < 2 ^ (41 - n) := Nat.pow_lt_pow_right (by decide) (by omega)
  rw [e, Nat.mul_comm]
  exact (Nat.two_pow_add_eq_or_of_lt hlt q).symm

def sieve : Nat → List Nat
  | 0 => []
  | n + 1 => if (sieve n).any (fun q => (n + 2) % q == 0) then sieve n else sieve n ++ [n + 2]
theorem sieve_lt : ∀ n, ∀ q ∈ sieve n, 2 ≤ q ∧ q < n + 2
  | 0 => by simp [sieve]
  | n + 1 => by
    intro q hq
    unfold sieve at hq
    split at hq
    · have := sieve_lt n q hq; omega
    · rcases List.mem_append.1 hq with h | h
      · have := sieve_lt n q h; omega
      · rw [List.mem_singleton] at h; omega
theorem sieve_310 : (sieve 310).length = 64 := by decide +kernel
theorem sieve_309 : (sieve 309).length = 63 := by decide +kernel
theorem sieve_mono : ∀ n m, n ≤ m → (sieve n).length ≤ (sieve m).length := by
  intro n m h
  induction h with
  | refl => exact Nat.le_refl _
  | step _ ih =>
    refine Nat.le_trans ih ?_
    conv => rhs; unfold sieve
    split
    · exact Nat.le_refl _
    · simp
theorem sieve_small (n : Nat) (h : (sieve n).length < 64) : n < 310 := by
  rcases Nat.lt_or_ge n 310 with h1 | h1
  · exact h1
  · have := sieve_mono 310 n h1; rw [sieve_310] at this; omega
theorem sieve_le (n : Nat) (h : n ≤ 310) : (sieve n).length ≤ 64 := by have := sieve_mono n 310 h; rwa [sieve_310] at this

def hInit : List Nat := ((sieve 310).take 8).map (fracN · 2)
def kInit : List Nat := (sieve 310).map (fracN · 3)
theorem hInit_length : hInit.length = 8 := by rw [hInit, List.length_map, List.length_take, sieve_310]; rfl
theorem kInit_length : kInit.length = 64 := by rw [kInit, List.length_map, sieve_310]
theorem hInit_lt : ∀ x ∈ hInit, x < 4294967296 := by
  intro x hx
  obtain ⟨p, _, rfl⟩ := List.mem_map.1 hx
  exact fracN_lt _ _
theorem kInit_lt : ∀ x ∈ kInit, x < 4294967296 := by
  intro x hx
  obtain ⟨p, _, rfl⟩ := List.mem_map.1 hx
  exact fracN_lt _ _

def wNext (l : List Nat) (i : Nat) : Nat := (l.getD (i - 16) 0 + l.getD (i - 7) 0 + smallN (l.getD (i - 15) 0) 7 18 3 + smallN (l.getD (i - 2) 0) 17 19 10) % 4294967296
def spreadL (b : List UInt8) : Nat → List Nat
  | 0 => []
  | k + 1 => spreadL b k ++ [if k < 16 then getB ((b.drop (4 * k)).take 4) else wNext (spreadL b k) k]
theorem spreadL_length (b : List UInt8) : ∀ k, (spreadL b k).length = k
  | 0 => rfl
  | k + 1 => by unfold spreadL; rw [List.length_append, spreadL_length b k]; rfl
theorem spreadL_lt (b : List UInt8) : ∀ k, ∀ x ∈ spreadL b k, x < 4294967296
  | 0 => by simp [spreadL]
  | k + 1 => by
    intro x hx
    unfold spreadL at hx
    rcases List.mem_append.1 hx with h | h
    · exact spreadL_lt b k x h
    · rw [List.mem_singleton] at h
      subst h
      split
      · have h1 := getB_lt ((b.drop (4 * k)).take 4)
        have h2 : ((b.drop (4 * k)).take 4).length ≤ 4 := by rw [List.length_take]; omega
        exact Nat.lt_of_lt_of_le h1 (by have := Nat.pow_le_pow_right (show 0 < 256 by decide) h2; simpa using this)
      · exact Nat.mod_lt _ (by decide)

structure St where
  a : Nat
  b : Nat
  c : Nat
  d : Nat
  e : Nat
  f : Nat
  g : Nat
  h : Nat
def St.list (s : St) : List Nat := [s.a, s.b, s.c, s.d, s.e, s.f, s.g, s.h]
structure St.Ok (s : St) : Prop where
  a : s.a < 4294967296
  b : s.b < 4294967296
  c : s.c < 4294967296
  d : s.d < 4294967296
  e : s.e < 4294967296
  f : s.f < 4294967296
  g : s.g < 4294967296
  h : s.h < 4294967296
def t1N (x : St) (k w : Nat) : Nat := (x.h + mixN x.e 6 11 25 + (x.g ^^^ (x.e &&& (x.f ^^^ x.g))) + k + w) % 4294967296
def t2N (x : St) : Nat := (mixN x.a 2 13 22 + ((x.a &&& (x.b ||| x.c)) ||| (x.b &&& x.c))) % 4294967296
def roundN (x : St) (k w : Nat) : St := ⟨(t1N x k w + t2N x) % 4294967296, x.a, x.b, x.c, (x.d + t1N x k w) % 4294967296, x.e, x.f, x.g⟩
theorem roundN_ok {x : St} (k w : Nat) (h : x.Ok) : (roundN x k w).Ok := ⟨Nat.mod_lt _ (by decide), h.a, h.b, h.c, Nat.mod_lt _ (by decide), h.e, h.f, h.g⟩
def roundsN (s : St) (k w : List Nat) : Nat → St
  | 0 => s
  | i + 1 => roundN (roundsN s k w i) (k.getD i 0) (w.getD i 0)
theorem roundsN_ok {s : St} (k w : List Nat) (h : s.Ok) : ∀ i, (roundsN s k w i).Ok
  | 0 => h
  | i + 1 => roundN_ok _ _ (roundsN_ok k w h i)
def addSt (x s : St) : St := ⟨(x.a + s.a) % 4294967296, (x.b + s.b) % 4294967296, (x.c + s.c) % 4294967296, (x.d + s.d) % 4294967296, (x.e + s.e) % 4294967296, (x.f + s.f) % 4294967296, (x.g + s.g) % 4294967296, (x.h + s.h) % 4294967296⟩
theorem addSt_ok (x s : St) : (addSt x s).Ok := ⟨Nat.mod_lt _ (by decide), Nat.mod_lt _ (by decide), Nat.mod_lt _ (by decide), Nat.mod_lt _ (by decide), Nat.mod_lt _ (by decide), Nat.mod_lt _ (by decide), Nat.mod_lt _ (by decide), Nat.mod_lt _ (by decide)⟩
def takeN (s : St) (b : List UInt8) : St := addSt (roundsN s kInit (spreadL b 64) 64) s
theorem takeN_ok (s : St) (b : List UInt8) : (takeN s b).Ok := addSt_ok _ _
def blocksN (s : St) (b : List UInt8) : Nat → St
  | 0 => s
  | k + 1 => takeN (blocksN s b k) ((b.drop (64 * k)).take 64)
theorem blocksN_ok {s : St} (b : List UInt8) (h : s.Ok) : ∀ k, (blocksN s b k).Ok
  | 0 => h
  | _ + 1 => takeN_ok _ _
theorem blocksN_take (s : St) (b : List UInt8) (n : Nat) : ∀ k, 64 * k ≤ n → blocksN s (b.take n) k = blocksN s b k
  | 0, _ => rfl
  | k + 1, h => by
    unfold blocksN
    rw [blocksN_take s b n k (by omega), List.drop_take, List.take_take]
    congr 2
    omega
theorem blocksN_append (s : St) (x y : List UInt8) (k : Nat) (h : 64 * k ≤ x.length) : blocksN s (x ++ y) k = blocksN s x k := by
  have h1 := blocksN_take s (x ++ y) x.length k h
  rw [List.take_left'] at h1
  · exact h1.symm
  · rfl
theorem blocksN_behind (s : St) (x y : List UInt8) (q : Nat) (h : x.length = 64 * q) : ∀ k, blocksN s (x ++ y) (q + k) = blocksN (blocksN s x q) y k
  | 0 => blocksN_append s x y q (by omega)
  | k + 1 => by
    show takeN (blocksN s (x ++ y) (q + k)) (((x ++ y).drop (64 * (q + k))).take 64) = takeN (blocksN (blocksN s x q) y k) ((y.drop (64 * k)).take 64)
    rw [blocksN_behind s x y q h k, List.drop_append, List.drop_of_length_le (by omega), List.nil_append, h, show 64 * (q + k) - 64 * q = 64 * k by omega]

def St.of (l : List Nat) : St := ⟨l.getD 0 0, l.getD 1 0, l.getD 2 0, l.getD 3 0, l.getD 4 0, l.getD 5 0, l.getD 6 0, l.getD 7 0⟩
theorem St.of_list (l : List Nat) (h : l.length = 8) : (St.of l).list = l := by
  match l, h with
  | [_, _, _, _, _, _, _, _], _ => rfl
theorem getD_lt32 {l : List Nat} (h : ∀ x ∈ l, x < 4294967296) (i : Nat) : l.getD i 0 < 4294967296 := by
  rw [List.getD_eq_getElem?_getD]
  cases hq : l[i]? with
  | none => decide
  | some x => exact h x (List.mem_of_getElem? hq)
theorem St.of_ok {l : List Nat} (h : ∀ x ∈ l, x < 4294967296) : (St.of l).Ok := ⟨getD_lt32 h _, getD_lt32 h _, getD_lt32 h _, getD_lt32 h _, getD_lt32 h _, getD_lt32 h _, getD_lt32 h _, getD_lt32 h _⟩
def sInit : St := St.of hInit
theorem sInit_list : sInit.list = hInit := St.of_list hInit hInit_length
theorem sInit_ok : sInit.Ok := St.of_ok hInit_lt

def padZ (n : Nat) : Nat := (119 - n % 64) % 64
theorem padZ_at (n : Nat) : (n + 1 + padZ n) % 64 = 56 := by unfold padZ; omega
theorem padZ_lt (n : Nat) : padZ n < 64 := Nat.mod_lt _ (by decide)
theorem padZ_min (n j : Nat) (h : j < padZ n) : (n + 1 + j) % 64 ≠ 56 := by unfold padZ at h; omega
def endOf (rest : List UInt8) (n : Nat) : List UInt8 := rest ++ [0x80] ++ List.replicate (padZ rest.length) 0 ++ putB (n * 8) 8
def outB (s : St) : List UInt8 := (s.list.map fun x => putB x 4).flatten
theorem outB_length (s : St) : (outB s).length = 32 := by simp [outB, St.list, putB_length]
def hashN (xs : List UInt8) : List UInt8 := outB (blocksN sInit (endOf xs xs.length) ((endOf xs xs.length).length / 64))
theorem hashN_length (xs : List UInt8) : (hashN xs).length = 32 := outB_length _
def headQ (xs : List UInt8) : Nat := xs.length / 64
def stOf (xs : List UInt8) : St := blocksN sInit xs (headQ xs)
def restOf (xs : List UInt8) : List UInt8 := xs.drop (64 * headQ xs)
theorem stOf_ok (xs : List UInt8) : (stOf xs).Ok := blocksN_ok _ sInit_ok _
theorem restOf_length (xs : List UInt8) : (restOf xs).length = xs.length % 64 := by simp only [restOf, headQ, List.length_drop]; omega
theorem hashN_of (xs : List UInt8) : hashN xs = outB (blocksN (stOf xs) (endOf (restOf xs) xs.length) ((endOf (restOf xs) xs.length).length / 64)) := by
  have hlen : (xs.take (64 * headQ xs)).length = 64 * headQ xs := by rw [List.length_take, headQ]; omega
  have e : endOf xs xs.length = xs.take (64 * headQ xs) ++ endOf (restOf xs) xs.length := by
    unfold endOf
    rw [restOf_length, show padZ (xs.length % 64) = padZ xs.length by unfold padZ; omega]
    simp only [← List.append_assoc]
    rw [restOf, List.take_append_drop]
  have el : (endOf xs xs.length).length / 64 = headQ xs + (endOf (restOf xs) xs.length).length / 64 := by
    rw [e, List.length_append, hlen, Nat.add_comm, Nat.add_mul_div_left _ _ (by decide), Nat.add_comm]
  unfold hashN
  rw [el, e, blocksN_behind _ _ _ _ hlen, blocksN_take _ _ _ _ (Nat.le_refl _)]
  rfl

def keyB (key : List UInt8) : List UInt8 := if 64 < key.length then hashN key ++ List.replicate 32 0 else key ++ List.replicate (64 - key.length) 0
theorem keyB_length (key : List UInt8) : (keyB key).length = 64 := by
  unfold keyB
  split
  · simp [hashN_length]
  · simp; omega
def macN (key msg : List UInt8) : List UInt8 := hashN ((keyB key).map (· ^^^ 0x5C) ++ hashN ((keyB key).map (· ^^^ 0x36) ++ msg))
theorem macN_length (key msg : List UInt8) : (macN key msg).length = 32 := hashN_length _

end Go.Proofs.YtkbnkdokcmpcgaaGreatDoor
namespace Go.Proofs.YtkbnkdokcmpcgaaGreatDoor
open Go.RowKit

theorem turn_any (x k : Nat) (n : Int) (w : World) (hx : x < 4294967296) (hk : bits .and .u64 (IntKind.u64.wrap n) 31 = (k : Int)) (hk2 : k < 32) :
    Calls Tryz.prog 192 #[.int .u32 (x : Int), .int .i64 n] w fun e w' => e = .returned (.int .u32 (rotl x k : Int)) ∧ w = w' := by
  have hb : (x : Int) / 2 ^ (32 - k) = ((x / 2 ^ (32 - k) : Nat) : Int) := by simp
  have ha : (x : Int) * 2 ^ k % 4294967296 = ((x * 2 ^ k % 4294967296 : Nat) : Int) := by simp
  have HR := Lib.hid (show bits .or .u32 ((x : Int) * 2 ^ k % 4294967296) ((x : Int) / 2 ^ (32 - k)) = (rotl x k : Int) by
    rw [ha, hb, u32_or_nat _ _ (Nat.mod_lt _ (by decide)) (Nat.lt_of_le_of_lt (Nat.div_le_self _ _) hx)]; rfl)
  clear ha hb
  go_enter Tryz.func192, Tryz.ntmps192
  go_wp2
  go_ret
  exact ⟨by rw [← HR.out]; rfl, rfl⟩

theorem turn_neg : ∀ a : Nat, 1 ≤ a → a ≤ 31 → bits .and .u64 (IntKind.u64.wrap (-(a : Int))) 31 = ((32 - a : Nat) : Int) := by
  intro a h1 h2
  have : ∀ a : Fin 32, 1 ≤ a.val → bits .and .u64 (IntKind.u64.wrap (-(a.val : Int))) 31 = ((32 - a.val : Nat) : Int) := by decide
  exact this ⟨a, by omega⟩ h1

theorem mix_any (x a b c : Nat) (w : World) (hx : x < 4294967296) (ha : 1 ≤ a ∧ a ≤ 31) (hb : 1 ≤ b ∧ b ≤ 31) (hc : 1 ≤ c ∧ c ≤ 31) :
    Calls Tryz.prog 162 #[.int .u32 (x : Int), .int .i64 (a : Int), .int .i64 (b : Int), .int .i64 (c : Int)] w fun e w' => e = .returned (.int .u32 (mixN x a b c : Int)) ∧ w = w' := by
  have h1 := fun w => turn_any x (32 - a) (-(a : Int)) w hx (turn_neg a ha.1 ha.2) (by omega)
  have h2 := fun w => turn_any x (32 - b) (-(b : Int)) w hx (turn_neg b hb.1 hb.2) (by omega)
  have h3 := fun w => turn_any x (32 - c) (-(c : Int)) w hx (turn_neg c hc.1 hc.2) (by omega)
  have HR := Lib.hid (show bits .xor .u32 (bits .xor .u32 (rotl x (32 - a) : Int) (rotl x (32 - b) : Int)) (rotl x (32 - c) : Int) = (mixN x a b c : Int) by
    rw [u32_xor_nat _ _ (rotl_lt _ hx) (rotl_lt _ hx), u32_xor_nat _ _ (xor_lt32 (rotl_lt _ hx) (rotl_lt _ hx)) (rotl_lt _ hx)]; rfl)
  have H1 := Lib.hid h1
  have H2 := Lib.hid h2
  have H3 := Lib.hid h3
  clear h1 h2 h3
  go_enter Tryz.func162, Tryz.ntmps162
  go_wp2_with fail
  refine (H1.out _).mono ?_
  rintro e w1 ⟨rfl, rfl⟩
  go_wp2_with fail
  refine (H2.out _).mono ?_
  rintro e w1 ⟨rfl, rfl⟩
  go_wp2_with fail
  refine (H3.out _).mono ?_
  rintro e w1 ⟨rfl, rfl⟩
  go_wp2
  go_ret
  exact ⟨by rw [← HR.out]; rfl, rfl⟩

end Go.Proofs.YtkbnkdokcmpcgaaGreatDoor
namespace Go.Proofs.YtkbnkdokcmpcgaaGreatDoor
open Go.RowKit

theorem flat_get {α : Type} (m : Nat) : ∀ (ls : List (List α)), (∀ l ∈ ls, l.length = m) → ∀ i (hi : i < ls.length) j, j < m → ls.flatten[i * m + j]? = (ls[i])[j]?
  | [], _, i, hi, _, _ => by simp at hi
  | l :: ls, h, 0, _, j, hj => by
    have hl := h l (by simp)
    rw [List.flatten_cons, Nat.zero_mul, Nat.zero_add, List.getElem?_append_left (by omega)]
    rfl
  | l :: ls, h, i + 1, hi, j, hj => by
    have hl := h l (by simp)
    rw [List.flatten_cons, List.getElem?_append_right (by rw [Nat.succ_mul]; omega)]
    have e : (i + 1) * m + j - l.length = i * m + j := by rw [Nat.succ_mul]; omega
    rw [e, flat_get m ls (fun x hx => h x (by simp [hx])) i (by simpa using hi) j hj]
    rfl

section
variable {P : Program} {md : Region.Mode} {ops : Array Oper} {Q : Exit → Act → World → Prop}

theorem wpAny_forced {fuel : Nat} {listed : Array Bool} {a : Act} {w : World} (i : Nat) {o : Oper} (hr : Region.ready md ops listed = [i]) (ho : ops[i]? = some o) (hw : Region.wanted o (yielded ops a.tmps) = true)
    (h : ∀ K' : Act → World → Prop, (∀ a w, wpAny P md ops Q fuel (listed.setIfInBounds i true) a w → K' a w) → Oper.wp P o a w K' Q) : wpAny P md ops Q (fuel + 1) listed a w :=
  wpAny_ready hr (by simp) (BigFrame.allReady_want ho hw h AllReady.nil)

theorem wpAny_rest {listed : Array Bool} {a : Act} {w : World} (k : Nat) (l : List Oper) (hs : Region.noSelect ops = true) (hl : ∀ j, l[j]? = ops[k + j]?) (hB : Region.lexFrom md ops l.length k listed = true)
    (h : wpQuiet P ops (fun w' => ∃ n, w' = w.drewN n) (fun a' => ∀ w', (∃ n, w' = w.drewN n) → Q .normal a' w') l a) : wpAny P md ops Q l.length listed a w :=
  wpAny_of_quiet (C := fun w' => ∃ n, w' = w.drewN n) (Q := fun a' => ∀ w', (∃ n, w' = w.drewN n) → Q .normal a' w') (fun _ w' hw' h => h w' hw') _ _ _ _ ⟨0, rfl⟩ (wpAnyQ_lex hs l k listed a hl hB h)

theorem wp_load_at {o : Oper} {a : Act} {w : World} {K : Act → World → Prop} (ty : TypeId) (x : Operand) (ho : o.op = .load ty x)
    (b off : Nat) (hx : a.eval x = .pointer (some ⟨b, off, none⟩)) (cs : List Value) (d : TypeDesc) (hc : At w b off cs)
    (hu : P.underlying ty = some d) (hd : (match d with | .struct _ | .array _ _ => true | _ => false) = true) (hi : (P.info? ty).map (·.size) = some cs.length)
    (h : K (a.put o.dst (.agg cs.toArray)) w) : Oper.wp P o a w K Q := by
  unfold Oper.wp execOp
  simp only [ho, hx, Instr.loadAt, Instr.sureAddr, Sem.run_bind, Sem.run_pure, Result.andThen_ok, run_loadVar_at w b off ty cs d hc hu hd hi]
  exact h
theorem gload_at {rest : List Oper} {o : Oper} {a : Act} {w : World} (hw : Region.wanted o (yielded ops a.tmps) = true) (ty : TypeId) (x : Operand) (ho : o.op = .load ty x)
    (b off : Nat) (hx : a.eval x = .pointer (some ⟨b, off, none⟩)) (cs : List Value) (d : TypeDesc) (hc : At w b off cs)
    (hu : P.underlying ty = some d) (hd : (match d with | .struct _ | .array _ _ => true | _ => false) = true) (hi : (P.info? ty).map (·.size) = some cs.length)
    (h : wpList P ops Q rest (a.put o.dst (.agg cs.toArray)) w) : wpList P ops Q (o :: rest) a w :=
  BigFrame.wpList_want hw fun _ hK => wp_load_at ty x ho b off hx cs d hc hu hd hi (hK _ _ h)
end

end Go.Proofs.YtkbnkdokcmpcgaaGreatDoor
namespace Go.Proofs.YtkbnkdokcmpcgaaGreatDoor
open Go.RowKit

structure Wd (B : Nat) (w : World) where
  to : World
  hb : Below B w to
instance (B : Nat) (w : World) : Nonempty (Wd B w) := ⟨⟨w, Below.refl B w⟩⟩

theorem Wd.cell {B : Nat} {w : World} (u : Wd B w) {p : Addr} {v : Value} (h : w.cell? p = some v) (hp : p.block < B) : u.to.cell? p = some v := (u.hb.cell hp).trans h
theorem Wd.at {w : World} (u : Wd w.heap.size w) {b o : Nat} {l : List Value} (h : At w b o l) : At u.to b o l := fun i v hi => u.cell (h i v hi) (World.block_lt_of_cell? w ⟨b, o + i, none⟩ (h i v hi))
theorem Wd.cell' {w : World} (u : Wd w.heap.size w) {p : Addr} {v : Value} (h : w.cell? p = some v) : u.to.cell? p = some v := u.cell h (World.block_lt_of_cell? w p h)

section
variable {P : Program} {ops : Array Oper}

theorem wp_region_wd {id : Nat} {Q : Exit → Act → World → Prop} {a : Act} {w : World} {l : List Oper} (B : Nat) (hm : P.follows .mixedOrders = true) (hB : Region.lexB .any l.toArray = true)
    (h : wpQuiet P l.toArray (fun w' => ∃ u : Wd B w, w' = u.to) (fun a' => ∀ w', (∃ u : Wd B w, w' = u.to) → Q .normal a' w') l a) : (Code.region id l.toArray true).wp P Q a w :=
  wp_region_quiet (C := fun w' => ∃ u : Wd B w, w' = u.to) hm hB ⟨⟨{ w with drawn := w.drawn + 1 }, (Below.refl B w).drew⟩, rfl⟩ (by simpa using h)

theorem Calls.wd {f : FuncId} {args : Array Value} {w : World} {B : Nat} {v : Value} (u : Wd B w) (hB : B ≤ w.heap.size) (h : Calls P f args u.to fun e w' => e = .returned v ∧ Below u.to.heap.size u.to w') :
    Calls P f args u.to fun e w'' => e = .returned v ∧ ∃ u' : Wd B w, w'' = u'.to :=
  h.mono fun _ w' ⟨he, hb⟩ => ⟨he, ⟨w', u.hb.trans (hb.mono (Nat.le_trans hB u.hb.size))⟩, rfl⟩
theorem Calls.wd_same {f : FuncId} {args : Array Value} {w : World} {B : Nat} {v : Value} (u : Wd B w) (h : Calls P f args u.to fun e w' => e = .returned v ∧ u.to = w') :
    Calls P f args u.to fun e w'' => e = .returned v ∧ ∃ u' : Wd B w, w'' = u'.to :=
  h.mono fun _ _ ⟨he, hb⟩ => ⟨he, u, hb.symm⟩

theorem wpQuiet_load_at {C : World → Prop} {Q : Act → Prop} {rest : List Oper} {o : Oper} {a : Act} (hw : Region.wanted o (yielded ops a.tmps) = true) (ty : TypeId) (x : Operand) (ho : o.op = .load ty x)
    (b off : Nat) (hx : a.eval x = .pointer (some ⟨b, off, none⟩)) (cs : List Value) (d : TypeDesc) (hc : ∀ w', C w' → At w' b off cs)
    (hu : P.underlying ty = some d) (hd : (match d with | .struct _ | .array _ _ => true | _ => false) = true) (hi : (P.info? ty).map (·.size) = some cs.length)
    (h : wpQuiet P ops C Q rest (a.put o.dst (.agg cs.toArray))) : wpQuiet P ops C Q (o :: rest) a :=
  BigFrame.wpQuiet_want hw fun K hK => ⟨.agg cs.toArray, fun w' hw' => by
    unfold Oper.quietAt execOp
    simp only [ho, hx, Instr.loadAt, Instr.sureAddr, Sem.run_bind, Sem.run_pure, Result.andThen_ok, run_loadVar_at w' b off ty cs d (hc w' hw') hu hd hi]
    exact ⟨rfl, rfl⟩, hK _ h⟩
end

end Go.Proofs.YtkbnkdokcmpcgaaGreatDoor
