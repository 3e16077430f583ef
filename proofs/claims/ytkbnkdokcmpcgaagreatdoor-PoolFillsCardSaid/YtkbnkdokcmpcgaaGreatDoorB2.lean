/- Walk: sha's consts. Walks of num.Put and num.Get. A region that draws its order, whose operations read and whose callees leave all as it was, but for the last ones: the first ones by the cheap walk, the last in the order of the text. Over any program. Walk: sha's spread. -/
import Derived.Test.YtkbnkdokcmpcgaaGreatDoorB0
import Derived.Test.YtkbnkdokcmpcgaaGreatDoorB1
import Derived.StillTailTactics
namespace Go.Proofs.YtkbnkdokcmpcgaaGreatDoor
open Go.RowKit


theorem info_u32 : (Tryz.prog.info? 41).map (fun i => (i.zero, i.size, i.bytes)) = some (some (.int .u32 0), 1, 4) := by kernel_rfl

/-- append onto own words of what some slice reads. -/
theorem append_u32 {w : World} {ops : Array Oper} {rest : List Oper} {o : Oper} {a : Act} {Q : Exit → Act → World → Prop} (hgd : o.guard = none) (s x : Operand)
    (ho : o.op = .call { callee := .builtin .append, args := #[s, x], argTypes := #[54, 54] })
    {base : Nat} {v : Value} {n : Nat} {xs : List Nat} (hown : w.ownsRow base 41 1 v n (xs.map U32)) {vx : Value} {m : Nat} {news : List Nat} (hx : Sl w 1 vx m (news.map U32))
    (hs : a.eval s = v) (hxe : a.eval x = vx) (hr : n + m ≤ 34359738368) (hbase : base ≤ w.heap.size)
    (h : ∀ aa cc w', w'.ownsRow base 41 1 (.slice aa (n + m) cc) (n + m) ((xs ++ news).map U32) → Fr (fun k => v.ownBlock = some k) w w' → ((Value.slice aa (n + m) cc).ownBlock = v.ownBlock ∨ (Value.slice aa (n + m) cc).ownBlock = some w.heap.size) →
      wpList Tryz.prog ops Q rest (a.put o.dst (.slice aa (n + m) cc)) w') : wpList Tryz.prog ops Q (o :: rest) a w := by
  obtain ⟨i0, hi, hz0, hz1, hz2⟩ := info_parts info_u32
  refine wpList_append_sl hgd s x 54 ho base 41 i0 (.int .u32 0) 1 4 Tryz.underlying54 hi hz0 hz1 hz2 rfl (by decide) v n _ hs hown vx m _ hxe hx (U32_one _) (by unfold maxLen; omega) (by omega) hbase ?_
  intro aa cc w' h2 hg h3
  rw [← List.map_append] at h2
  exact h aa cc w' h2 ((Fr.refl _ w).grown hg (fun k hk => Or.inl hk)) h3

theorem divides_any (q p g : Nat) (w : World) (hq : 1 ≤ q) (hc : w.cell? ⟨g, 0, none⟩ = some (U32 p)) :
    Calls Tryz.prog 159 #[.int .u32 (q : Int), .pointer (some ⟨g, 0, none⟩)] w fun e w' => e = .returned (.bool (p % q == 0)) ∧ w = w' := by
  have e : ((p : Int) % (q : Int) == 0) = (p % q == 0) := by rw [Bool.eq_iff_iff, beq_iff_eq, beq_iff_eq]; omega
  have E := Lib.hid e
  clear e
  unfold U32 at *
  go_enter Tryz.func159, Tryz.ntmps159
  go_wp2
  go_ret
  exact ⟨by rw [← E.out]; rfl, rfl⟩

def DivPost (b : Bool) (w : World) (e : Ending) (w' : World) : Prop := ∃ r : Int, e = .returned (.int .i64 r) ∧ decide (0 ≤ r) = b ∧ w = w'
def divB (l : List Nat) (p : Nat) : Bool := l.any (fun q => p % q == 0)
set_option maxHeartbeats 1000000 in
theorem indexDiv_any (v : Value) (l : List Nat) (p g : Nat) (w : World) (h : Sl w 1 v l.length (l.map U32)) (hr : l.length ≤ 100000) (hl : ∀ q ∈ l, 1 ≤ q) (hc : w.cell? ⟨g, 0, none⟩ = some (U32 p)) :
    Calls Tryz.prog 188 #[v, .func (.func 159) #[] #[.pointer (some ⟨g, 0, none⟩)]] w (DivPost (divB l p) w) := by
  obtain ⟨hlen, a, cap, rfl, hlc, hnil, hel⟩ := h
  have HE := Lib.hid hel
  have HC := Lib.hid hc
  have HL := Lib.hid hl
  clear hlen hnil hel hc hl
  go_enter Tryz.func188, Tryz.ntmps188
  go_wp2
  go_loop [8] (fun i => ∃ k : Nat, k ≤ l.length ∧ i = .int .i64 k ∧ ∀ j (hj : j < l.length), j < k → (p % l[j] == 0) = false) (fun i => l.length - (intOf i).toNat)
  case atStart => exact ⟨0, Nat.zero_le _, rfl, fun j _ hj => by omega⟩
  case round =>
    obtain ⟨k, hk, rfl, hz⟩ := hrel
    have HZ := Lib.hid hz
    clear hz
    rcases Nat.lt_or_ge k l.length with hlt | hge
    · obtain ⟨b, o, rfl, hc⟩ := HE.out k (U32 (l[k]'hlt)) (by simp [hlt])
      obtain ⟨s, hs⟩ : ∃ s, s = l[k]'hlt := ⟨_, rfl⟩
      rw [← hs] at hc
      have HS := Lib.hid hs
      have hs1 : 1 ≤ s := by rw [hs]; exact HL.out _ (List.getElem_mem hlt)
      have HD := Lib.hid (divides_any s p g w hs1 HC.out)
      unfold U32 at hc
      clear hs hs1
      go_wp2_with fail
      refine HD.out.mono ?_
      rintro e w1 ⟨rfl, rfl⟩
      cases h9 : (p % s == 0) with
      | true =>
        have HF := Lib.hid (show divB l p = true from List.any_eq_true.2 ⟨s, by rw [HS.out]; exact List.getElem_mem hlt, h9⟩)
        clear h9
        go_wp2
        go_ret
        exact ⟨k, rfl, by rw [HF.out]; simp, rfl⟩
      | false =>
        have H9 := Lib.hid h9
        clear h9
        go_wp2
        go_round
        case rel =>
          refine ⟨k + 1, by omega, by go_num, fun j hj hjk => ?_⟩
          rcases Nat.lt_or_ge j k with h | h
          · exact HZ.out j hj h
          · obtain rfl : j = k := by omega
            rw [← HS.out]; exact H9.out
        case measure => simp [intOf]; omega
    · have HF := Lib.hid (show divB l p = false from List.any_eq_false.2 fun x hx => by
        obtain ⟨j, hj, rfl⟩ := List.getElem_of_mem hx
        have := HZ.out j hj (by omega)
        rw [this]; exact Bool.false_ne_true)
      obtain rfl : k = l.length := by omega
      go_wp2
      go_ret
      exact ⟨-1, rfl, by rw [HF.out]; rfl, rfl⟩

theorem containsDiv_any (v : Value) (l : List Nat) (p g : Nat) (w : World) (h : Sl w 1 v l.length (l.map U32)) (hr : l.length ≤ 100000) (hl : ∀ q ∈ l, 1 ≤ q) (hc : w.cell? ⟨g, 0, none⟩ = some (U32 p)) :
    Calls Tryz.prog 158 #[v, .func (.func 159) #[] #[.pointer (some ⟨g, 0, none⟩)]] w fun e w' => e = .returned (.bool (divB l p)) ∧ w = w' := by
  have HH := Lib.hid (indexDiv_any v l p g w h hr hl hc)
  clear h hc hl
  go_enter Tryz.func158, Tryz.ntmps158
  go_wp2_with fail
  refine HH.out.mono ?_
  rintro e w1 ⟨r, rfl, hr, rfl⟩
  have HR := Lib.hid hr
  clear hr
  go_wp2
  go_ret
  exact ⟨by rw [← HR.out]; rfl, rfl⟩

theorem own_alloc' {w : World} {B t sz n : Nat} {v : Value} {l : List Value} (h : w.ownsRow B t sz v n l) (o : Obj) : (w.alloc o).ownsRow B t sz v n l := h.fr ((Fr.refl (fun _ => False) w).alloc _) (fun _ _ => id)
theorem sl_row' {w : World} {b : Nat} {cs : Array Value} {t : TypeId} {size n : Nat} {xs : List Value} (hb : w.heap[b]? = some (.cells cs t (0, 0))) (hcs : cs.toList = xs) (hn : xs.length = n * size) : Sl w size (.slice (some ⟨b, 0, none⟩) n n) n xs := by
  refine ⟨hn, some ⟨b, 0, none⟩, n, rfl, Nat.le_refl _, fun h => (by cases h), fun i u hu => ⟨b, 0, rfl, ?_⟩⟩
  rw [Nat.zero_add, cell_of_row _ b i cs t _ hb, ← hu, ← hcs, Array.getElem?_toList]

/-- The state of consts' loop: the words laid so far, the primes, the number that is tried. -/
structure ConstRel (w : World) (hl kl sl : List Nat) (q : Nat) (v : Value) (g : Nat) (wr : World) : Prop where
  h : wr.heap[w.heap.size]? = some (.cells (rowZ 8 hl).toArray 225 (0, 0))
  k : wr.heap[w.heap.size + 1]? = some (.cells (rowZ 64 kl).toArray 226 (0, 0))
  p : wr.heap[g]? = some (.cells #[U32 q] 41 (0, 0))
  own : wr.ownsRow (w.heap.size + 2) 41 1 v sl.length (sl.map U32)
  ne : v.ownBlock ≠ some g
  low : w.heap.size + 2 ≤ g
  below : Below w.heap.size w wr
def pOf (ptr : Value) (wr : World) : Nat := match ptr with
  | .pointer (some a) => (intOf ((wr.cell? a).getD undef)).toNat
  | _ => 0
section
variable {w wr w1 : World} {hl kl sl : List Nat} {q g : Nat} {v : Value}
theorem ConstRel.pOf (h : ConstRel w hl kl sl q v g wr) : pOf (.pointer (some ⟨g, 0, none⟩)) wr = q := by
  show (intOf ((wr.cell? ⟨g, 0, none⟩).getD undef)).toNat = q
  rw [cell_of_one h.p]
  simp [U32, intOf]
theorem ConstRel.fr {S : Nat → Prop} (h : ConstRel w hl kl sl q v g wr) (hf : Fr S wr w1) (h1 : ∀ k, S k → w.heap.size + 2 ≤ k ∧ k ≠ g ∧ v.ownBlock ≠ some k) : ConstRel w hl kl sl q v g w1 :=
  ⟨(hf.block _ (lt_of_block h.h) (fun x => by have := (h1 _ x).1; omega)).trans h.h, (hf.block _ (lt_of_block h.k) (fun x => by have := (h1 _ x).1; omega)).trans h.k, (hf.block _ (lt_of_block h.p) (fun x => (h1 _ x).2.1 rfl)).trans h.p,
    h.own.fr hf (fun k hk x => (h1 k x).2.2 hk), h.ne, h.low, h.below.trans (hf.below h.below.size (fun k x => by have := (h1 k x).1; omega))⟩
theorem ConstRel.bel (h : ConstRel w hl kl sl q v g wr) (hb : Below wr.heap.size wr w1) : ConstRel w hl kl sl q v g w1 := h.fr (Fr.of_below (S := fun _ => False) hb) (fun _ x => x.elim)
theorem ConstRel.cellP (h : ConstRel w hl kl sl q v g wr) : wr.cell? ⟨g, 0, none⟩ = some (.int .u32 (q : Int)) := cell_of_one h.p
theorem ConstRel.freeP (h : ConstRel w hl kl sl q v g wr) : wr.frozen? ⟨g, 0, none⟩ = false := free_of_one h.p
theorem ConstRel.cellH (h : ConstRel w hl kl sl q v g wr) (hn : hl.length < 8) : wr.cell? ⟨w.heap.size, hl.length, none⟩ = some (.int .u32 0) := by
  rw [cell_of_row _ _ hl.length _ _ _ h.h, List.getElem?_toArray, rowZ_get 8 hl _ (by omega) hn, List.getD_eq_getElem?_getD, List.getElem?_eq_none (Nat.le_refl _)]; rfl
theorem ConstRel.freeH (h : ConstRel w hl kl sl q v g wr) (i : Nat) : wr.frozen? ⟨w.heap.size, i, none⟩ = false := by simp [World.frozen?, h.h]
theorem ConstRel.cellK (h : ConstRel w hl kl sl q v g wr) (hn : kl.length < 64) : wr.cell? ⟨w.heap.size + 1, kl.length, none⟩ = some (.int .u32 0) := by
  rw [cell_of_row _ _ kl.length _ _ _ h.k, List.getElem?_toArray, rowZ_get 64 kl _ (by omega) hn, List.getD_eq_getElem?_getD, List.getElem?_eq_none (Nat.le_refl _)]; rfl
theorem ConstRel.freeK (h : ConstRel w hl kl sl q v g wr) (i : Nat) : wr.frozen? ⟨w.heap.size + 1, i, none⟩ = false := by simp [World.frozen?, h.k]
theorem ConstRel.setH (h : ConstRel w hl kl sl q v g wr) (hn : hl.length < 8) (x : Nat) : ConstRel w (hl ++ [x]) kl sl q v g (wr.setCell ⟨w.heap.size, hl.length, none⟩ (U32 x)) := by
  have e := heap_setCell_same wr w.heap.size hl.length _ _ (U32 x) h.h
  rw [List.setIfInBounds_toArray, rowZ_set 8 hl x hn] at e
  have hf := Fr.set (S := fun k => k = w.heap.size) (Fr.refl _ wr) w.heap.size hl.length rfl (U32 x)
  refine ⟨e, (hf.block _ (lt_of_block h.k) (by omega)).trans h.k, (hf.block _ (lt_of_block h.p) (by have := h.low; omega)).trans h.p, h.own.fr hf (fun k hk x => by have := (h.own.lt k hk).1; omega), h.ne, h.low, h.below.trans (hf.below h.below.size (fun k x => by omega))⟩
theorem ConstRel.setK (h : ConstRel w hl kl sl q v g wr) (hn : kl.length < 64) (x : Nat) : ConstRel w hl (kl ++ [x]) sl q v g (wr.setCell ⟨w.heap.size + 1, kl.length, none⟩ (U32 x)) := by
  have e := heap_setCell_same wr (w.heap.size + 1) kl.length _ _ (U32 x) h.k
  rw [List.setIfInBounds_toArray, rowZ_set 64 kl x hn] at e
  have hf := Fr.set (S := fun k => k = w.heap.size + 1) (Fr.refl _ wr) (w.heap.size + 1) kl.length rfl (U32 x)
  refine ⟨(hf.block _ (lt_of_block h.h) (by omega)).trans h.h, e, (hf.block _ (lt_of_block h.p) (by have := h.low; omega)).trans h.p, h.own.fr hf (fun k hk x => by have := (h.own.lt k hk).1; omega), h.ne, h.low, h.below.trans (hf.below h.below.size (fun k x => by omega))⟩
theorem ConstRel.bump (h : ConstRel w hl kl sl q v g wr) (y : Nat) : ConstRel w hl kl sl y v wr.heap.size (wr.alloc (.cells #[U32 y] 41)) :=
  have hb : Below wr.heap.size wr (wr.alloc (.cells #[U32 y] 41)) := (Below.refl _ wr).alloc (Nat.le_refl _) _
  have h1 := h.bel hb
  ⟨h1.h, h1.k, heap_alloc_new _ _, h1.own, fun e => by have := (h.own.lt _ e).2; omega, by have := lt_of_block h.p; have := h.low; omega, h1.below⟩
theorem ConstRel.app (h : ConstRel w hl kl sl q v g wr) {x L m : Nat} {v1 : Value} (hL : L = sl.length) (ho : w1.ownsRow (w.heap.size + 2) 41 1 v1 (L + 1) (sl.map U32 ++ [U32 x])) (hf : Fr (fun k => v.ownBlock = some k) wr w1) (hm : wr.heap.size ≤ m) (h3 : v1.ownBlock = v.ownBlock ∨ v1.ownBlock = some m) : ConstRel w hl kl (sl ++ [x]) q v1 g w1 :=
  ⟨(hf.block _ (lt_of_block h.h) (fun e => by have := (h.own.lt _ e).1; omega)).trans h.h, (hf.block _ (lt_of_block h.k) (fun e => by have := (h.own.lt _ e).1; omega)).trans h.k, (hf.block _ (lt_of_block h.p) (fun e => h.ne e)).trans h.p,
    by subst hL; rw [List.length_append, List.map_append]; exact ho, fun e => by
      rcases h3 with h3 | h3
      · rw [h3] at e; exact h.ne e
      · rw [h3] at e; have := lt_of_block h.p; simp at e; omega, h.low, h.below.trans (hf.below h.below.size (fun k e => by have := (h.own.lt _ e).1; omega))⟩
end
def hTo (n : Nat) : List Nat := ((sieve n).take 8).map (fracN · 2)
def kTo (n : Nat) : List Nat := (sieve n).map (fracN · 3)
theorem hTo_length (n : Nat) : (hTo n).length = min 8 (sieve n).length := by simp [hTo]
theorem kTo_length (n : Nat) : (kTo n).length = (sieve n).length := by simp [kTo]
theorem sieve_skip {n : Nat} (h : divB (sieve n) (n + 2) = true) : sieve (n + 1) = sieve n := by
  show (if (sieve n).any (fun q => (n + 2) % q == 0) then _ else _) = _
  unfold divB at h
  rw [if_pos h]
theorem sieve_take {n : Nat} (h : divB (sieve n) (n + 2) = false) : sieve (n + 1) = sieve n ++ [n + 2] := by
  show (if (sieve n).any (fun q => (n + 2) % q == 0) then _ else _) = _
  rw [if_neg (by unfold divB at h; rw [h]; exact Bool.false_ne_true)]
theorem hTo_take {n : Nat} (h : divB (sieve n) (n + 2) = false) (hn : (sieve n).length < 8) : hTo (n + 1) = hTo n ++ [fracN (n + 2) 2] := by
  unfold hTo
  rw [sieve_take h, List.take_of_length_le (by simp; omega), List.take_of_length_le (by omega), List.map_append]; rfl
theorem hTo_stay {n : Nat} (h : divB (sieve n) (n + 2) = false) (hn : 8 ≤ (sieve n).length) : hTo (n + 1) = hTo n := by
  unfold hTo
  rw [sieve_take h, List.take_append_of_le_length hn]
theorem kTo_take {n : Nat} (h : divB (sieve n) (n + 2) = false) : kTo (n + 1) = kTo n ++ [fracN (n + 2) 3] := by
  unfold kTo
  rw [sieve_take h, List.map_append]; rfl

theorem info_state : (Tryz.prog.info? 225).map (·.size) = some 8 := by kernel_rfl
theorem info_w64 : (Tryz.prog.info? 226).map (·.size) = some 64 := by kernel_rfl

theorem hTo_310 : hTo 310 = hInit := rfl
theorem kTo_310 : kTo 310 = kInit := rfl

set_option maxRecDepth 100000 in
set_option maxHeartbeats 8000000 in
theorem consts_any (w : World) :
    Calls Tryz.prog 124 #[] w fun e w' => e = .returned (.tuple #[.agg (hInit.map U32).toArray, .agg (kInit.map U32).toArray]) ∧ Below w.heap.size w w' := by
  obtain ⟨hs, hhs⟩ : ∃ hs, hs = hInit := ⟨_, rfl⟩
  obtain ⟨ks, hks⟩ : ∃ ks, ks = kInit := ⟨_, rfl⟩
  rw [← hhs, ← hks]
  have HHs := Lib.hid hhs
  have HKs := Lib.hid hks
  clear hhs hks
  go_enter Tryz.func124, Tryz.ntmps124
  go_wp2_with fail
  have hw0 : ConstRel w (hTo 0) (kTo 0) (sieve 0) 2 (.slice none 0 0) (w.heap.size + 2) (((w.alloc (.cells (rowZ 8 (hTo 0)).toArray 225)).alloc (.cells (rowZ 64 (kTo 0)).toArray 226)).alloc (.cells #[U32 2] 41)) := by
    have hs1 : (w.alloc (.cells (rowZ 8 (hTo 0)).toArray 225)).heap.size = w.heap.size + 1 := by simp
    have hs2 : ((w.alloc (.cells (rowZ 8 (hTo 0)).toArray 225)).alloc (.cells (rowZ 64 (kTo 0)).toArray 226)).heap.size = w.heap.size + 2 := by simp
    have a0 := heap_alloc_new w (.cells (rowZ 8 (hTo 0)).toArray 225)
    have a1 := heap_alloc_new (w.alloc (.cells (rowZ 8 (hTo 0)).toArray 225)) (.cells (rowZ 64 (kTo 0)).toArray 226)
    have a2 := heap_alloc_new ((w.alloc (.cells (rowZ 8 (hTo 0)).toArray 225)).alloc (.cells (rowZ 64 (kTo 0)).toArray 226)) (.cells #[U32 2] 41)
    rw [hs1] at a1
    rw [hs2] at a2
    exact ⟨(Below.heap_alloc _ _ _ (by simp; omega)).trans ((Below.heap_alloc _ _ _ (by simp)).trans a0), (Below.heap_alloc _ _ _ (by simp)).trans a1, a2, World.ownsRow_nil _ _ _ _, by simp [Value.ownBlock], Nat.le_refl _,
      (((Below.refl _ w).alloc (Nat.le_refl _) _).alloc (by simp) _).alloc (by simp; omega) _⟩
  have HW0 := Lib.hid hw0
  clear hw0
  go_loopw [2, 3, 4] (fun c v ptr wr => ∃ n g : Nat, n ≤ 310 ∧ c = .int .i64 ((sieve n).length : Int) ∧ ptr = .pointer (some ⟨g, 0, none⟩) ∧ ConstRel w (hTo n) (kTo n) (sieve n) (n + 2) v g wr) (fun _ _ ptr wr => 400 - pOf ptr wr)
  case atStart => exact ⟨0, w.heap.size + 2, by omega, rfl, rfl, HW0.out⟩
  case round =>
    obtain ⟨n, g, hn, rfl, rfl, hr⟩ := hrel
    obtain ⟨q, hq⟩ : ∃ q, q = n + 2 := ⟨_, rfl⟩
    rw [← hq] at hr
    have HR := Lib.hid hr
    obtain ⟨L, hL⟩ : ∃ L, L = (sieve n).length := ⟨_, rfl⟩
    have hLe := sieve_le n hn
    rw [← hL] at hLe ⊢
    rcases Nat.lt_or_ge L 64 with hlt | hge
    · have hn9 := sieve_small n (by omega)
      have hq9 : q < 350 := by rw [hq]; omega
      have hq1 : 1 ≤ q := by rw [hq]; omega
      have hpc := hr.cellP
      have HCall := Lib.hid (containsDiv_any u3 (sieve n) q g wr (Sl.own hr.own) (by omega) (fun q hq => by have := sieve_lt n q hq; omega) (cell_of_one hr.p))
      have HLn := Lib.hid hL
      have HPw := Lib.hid (fun k w hk => frac_any q k hk (by omega) (by omega) w)
      have HQ := Lib.hid hq
      clear hr hL hq
      go_wp2_with fail
      refine HCall.out.mono ?_
      rintro e w1 ⟨rfl, rfl⟩
      cases hd : divB (sieve n) q with
      | true =>
        have HD := Lib.hid (show divB (sieve n) (n + 2) = true by rw [← HQ.out]; exact hd)
        clear hd
        go_wp2
        have hnew := HR.out.bump (q + 1)
        have he : (.int .u32 (((q + 1 : Nat)) : Int) : Value) = .int .u32 ((q : Int) + 1) := by go_num
        unfold U32 at hnew
        rw [he] at hnew
        have hp1 := hnew.pOf
        have hp0 := HR.out.pOf
        go_roundw
        case rel =>
          refine ⟨n + 1, _, by omega, by rw [sieve_skip HD.out, ← HLn.out], rfl, ?_⟩
          have e1 : hTo (n + 1) = hTo n := by unfold hTo; rw [sieve_skip HD.out]
          have e2 : kTo (n + 1) = kTo n := by unfold kTo; rw [sieve_skip HD.out]
          rw [e1, e2, sieve_skip HD.out, show n + 1 + 2 = q + 1 by rw [HQ.out]]
          exact hnew
        case measure => rw [hp1, hp0]; omega
      | false =>
        have HD := Lib.hid (show divB (sieve n) (n + 2) = false by rw [← HQ.out]; exact hd)
        have hown0 := own_alloc' HR.out.own (.cells #[.int .u32 (q : Int)] 41)
        rw [← HLn.out] at hown0
        have HOwn := Lib.hid hown0
        have HLit := Lib.hid (show Sl (wr.alloc (.cells #[.int .u32 (q : Int)] 41)) 1 (.slice (some ⟨wr.heap.size, 0, none⟩) 1 1) 1 ([q].map U32) from sl_row' (heap_alloc_new _ _) rfl rfl)
        have HBase := Lib.hid (show w.heap.size + 2 ≤ (wr.alloc (.cells #[.int .u32 (q : Int)] 41)).heap.size by have := lt_of_block HR.out.p; have := HR.out.low; simp; omega)
        clear hd hown0
        go_wp2_with (at_builtin; refine append_u32 rfl (.tmp 12) (.tmp 14) rfl HOwn.out HLit.out rfl rfl (by omega) HBase.out ?_)
        intro aa cc w1 hown hf h3
        have hr1 := (HR.out.bel ((Below.refl _ wr).alloc (Nat.le_refl _) (.cells #[.int .u32 (q : Int)] 41))).app HLn.out hown hf (by simp) h3
        have hpc1 := hr1.cellP
        have HR1 := Lib.hid hr1
        clear hown hf h3 hr1 hpc
        have HE := Lib.hid (show sieve (n + 1) = sieve n ++ [q] by rw [sieve_take HD.out, HQ.out])
        rcases Nat.lt_or_ge L 8 with h8 | h8
        · go_wp2_with fail
          refine (HPw.out 2 _ (by omega)).mono ?_
          rintro e w2 ⟨rfl, hb2⟩
          have hr2 := HR1.out.bel hb2
          have hLh : (hTo n).length = L := by rw [hTo_length, ← HLn.out]; omega
          have hcH := hr2.cellH (by omega)
          have hfH := hr2.freeH L
          rw [hLh] at hcH
          have hr3 := hr2.setH (by omega) (fracN q 2)
          rw [hLh] at hr3
          have HR3 : Hid (ConstRel w (hTo (n + 1)) (kTo n) (sieve n ++ [q]) q (.slice aa (L + 1) cc) g (w2.setCell ⟨w.heap.size, L, none⟩ (.int .u32 (fracN q 2 : Int)))) := Lib.hid (by rw [hTo_take HD.out (by rw [← HLn.out]; exact h8), ← HQ.out]; exact hr3)
          have hpc3 := HR3.out.cellP
          clear hb2 hr2 hr3 hpc1 hLh
          go_wp2_with fail
          refine (HPw.out 3 _ (by omega)).mono ?_
          rintro e w4 ⟨rfl, hb4⟩
          have hr4 := HR3.out.bel hb4
          have hLk : (kTo n).length = L := by rw [kTo_length, ← HLn.out]
          have hcK := hr4.cellK (by omega)
          have hfK := hr4.freeK L
          rw [hLk] at hcK
          have hr5 := hr4.setK (by omega) (fracN q 3)
          rw [hLk] at hr5
          have HR5 : Hid (ConstRel w (hTo (n + 1)) (kTo (n + 1)) (sieve (n + 1)) q (.slice aa (L + 1) cc) g (w4.setCell ⟨w.heap.size + 1, L, none⟩ (.int .u32 (fracN q 3 : Int)))) := Lib.hid (by rw [kTo_take HD.out, ← HQ.out, HE.out]; exact hr5)
          have hpc5 := HR5.out.cellP
          clear hb4 hr4 hr5 hpc3 hLk
          go_wp2
          have hnew := HR5.out.bump (q + 1)
          have he : (.int .u32 (((q + 1 : Nat)) : Int) : Value) = .int .u32 ((q : Int) + 1) := by go_num
          unfold U32 at hnew
          rw [he] at hnew
          have hp1 := hnew.pOf
          have hp0 := HR.out.pOf
          go_roundw
          case rel =>
            refine ⟨n + 1, _, by omega, by rw [HE.out, List.length_append, ← HLn.out]; go_num, rfl, ?_⟩
            rw [show n + 1 + 2 = q + 1 by rw [HQ.out]]
            simpa using hnew
          case measure =>
            rw [show (w4.setCell ⟨w.heap.size + 1, L, none⟩ (.int .u32 (fracN q 3 : Int))).heap.size = w4.heap.size by simp] at hp1
            rw [hp1, hp0]; omega
        · have HR3 : Hid (ConstRel w (hTo (n + 1)) (kTo n) (sieve n ++ [q]) q (.slice aa (L + 1) cc) g w1) := Lib.hid (by rw [hTo_stay HD.out (by rw [← HLn.out]; exact h8)]; exact HR1.out)
          have hpc3 := HR3.out.cellP
          clear hpc1
          go_wp2_with fail
          refine (HPw.out 3 _ (by omega)).mono ?_
          rintro e w4 ⟨rfl, hb4⟩
          have hr4 := HR3.out.bel hb4
          have hLk : (kTo n).length = L := by rw [kTo_length, ← HLn.out]
          have hcK := hr4.cellK (by omega)
          have hfK := hr4.freeK L
          rw [hLk] at hcK
          have hr5 := hr4.setK (by omega) (fracN q 3)
          rw [hLk] at hr5
          have HR5 : Hid (ConstRel w (hTo (n + 1)) (kTo (n + 1)) (sieve (n + 1)) q (.slice aa (L + 1) cc) g (w4.setCell ⟨w.heap.size + 1, L, none⟩ (.int .u32 (fracN q 3 : Int)))) := Lib.hid (by rw [kTo_take HD.out, ← HQ.out, HE.out]; exact hr5)
          have hpc5 := HR5.out.cellP
          clear hb4 hr4 hr5 hpc3 hLk
          go_wp2
          have hnew := HR5.out.bump (q + 1)
          have he : (.int .u32 (((q + 1 : Nat)) : Int) : Value) = .int .u32 ((q : Int) + 1) := by go_num
          unfold U32 at hnew
          rw [he] at hnew
          have hp1 := hnew.pOf
          have hp0 := HR.out.pOf
          go_roundw
          case rel =>
            refine ⟨n + 1, _, by omega, by rw [HE.out, List.length_append, ← HLn.out]; go_num, rfl, ?_⟩
            rw [show n + 1 + 2 = q + 1 by rw [HQ.out]]
            simpa using hnew
          case measure =>
            rw [show (w4.setCell ⟨w.heap.size + 1, L, none⟩ (.int .u32 (fracN q 3 : Int))).heap.size = w4.heap.size by simp] at hp1
            rw [hp1, hp0]; omega
    · obtain rfl : L = 64 := by omega
      have h310 : n = 310 := by
        rcases Nat.lt_or_ge n 310 with h | h
        · have := sieve_mono n 309 (by omega); rw [sieve_309] at this; omega
        · omega
      have HH := Lib.hid (show wr.heap[w.heap.size]? = some (.cells (hs.map U32).toArray 225 (0, 0)) by
        rw [hr.h, h310, hTo_310, rowZ_full 8 _ hInit_length, HHs.out])
      have HK := Lib.hid (show wr.heap[w.heap.size + 1]? = some (.cells (ks.map U32).toArray 226 (0, 0)) by
        rw [hr.k, h310, kTo_310, rowZ_full 64 _ kInit_length, HKs.out])
      have HBe := Lib.hid hr.below
      have HLh := Lib.hid (show (hs.map U32).length = 8 by rw [List.length_map, HHs.out, hInit_length])
      have HLk := Lib.hid (show (ks.map U32).length = 64 by rw [List.length_map, HKs.out, kInit_length])
      clear hr hL h310 hq hn hge hLe
      go_wp2_with fail
      refine wp_region_quiet_lit (by kernel_rfl) (by kernel_rfl) ?_
      refine wpQuiet_load_at rfl 225 (.tmp 0) rfl w.heap.size 0 rfl (hs.map U32) _ (by rintro _ ⟨m, rfl⟩; exact At.of_row (by simpa using HH.out)) Tryz.underlying225 rfl (by rw [info_state, HLh.out]) ?_
      simp only [Act.put, List.setIfInBounds_toArray, List.set_cons_succ, List.set_cons_zero]
      refine wpQuiet_load_at rfl 226 (.tmp 1) rfl (w.heap.size + 1) 0 rfl (ks.map U32) _ (by rintro _ ⟨m, rfl⟩; exact At.of_row (by simpa using HK.out)) Tryz.underlying226 rfl (by rw [info_w64, HLk.out]) ?_
      simp only [Act.put, List.setIfInBounds_toArray, List.set_cons_succ, List.set_cons_zero]
      refine wpQuiet_store_self rfl 225 (.tmp 0) (.tmp 35) rfl w.heap.size rfl (hs.map U32) rfl 225 (by rintro _ ⟨m, rfl⟩; exact HH.out) (U32_one hs) (by rw [info_state, HLh.out]) ?_
      simp only [Act.put]
      refine wpQuiet_store_self rfl 226 (.tmp 1) (.tmp 36) rfl (w.heap.size + 1) rfl (ks.map U32) rfl 226 (by rintro _ ⟨m, rfl⟩; exact HK.out) (U32_one ks) (by rw [info_w64, HLk.out]) ?_
      simp only [Act.put]
      refine wpQuiet_nil ?_
      rintro _ ⟨m, rfl⟩
      go_wp2
      refine bodyPost_ret (results_cell_cell rfl rfl rfl (run_loadVar_at _ w.heap.size 0 _ (hs.map U32) _ (At.of_row (by simpa using HH.out)) Tryz.underlying225 rfl (by rw [info_state, HLh.out]))
        (run_loadVar_at _ (w.heap.size + 1) 0 _ (ks.map U32) _ (At.of_row (by simpa using HK.out)) Tryz.underlying226 rfl (by rw [info_w64, HLk.out]))) rfl ⟨rfl, belowDrewN HBe.out _⟩
end Go.Proofs.YtkbnkdokcmpcgaaGreatDoor
namespace Go.Proofs.YtkbnkdokcmpcgaaGreatDoor
open Go.RowKit

set_option maxHeartbeats 400000 in
theorem numPut_arg (x size : Int) (w : World) (h : size < 0 ∨ 8 < size) :
    Calls Tryz.prog 126 #[.int .u64 x, .int .i64 size] w fun e w' => e = .returned (.tuple #[.slice none 0 0, .int .i64 2]) ∧ w = w' := by
  rcases h with h | h
  · go_enter Tryz.func126, Tryz.ntmps126
    go_wp2
    go_ret2
    exact ⟨rfl, rfl⟩
  · have h0 : ¬ size < 0 := by omega
    go_enter Tryz.func126, Tryz.ntmps126
    go_wp2
    go_ret2
    exact ⟨rfl, rfl⟩

theorem shr_int (x n : Nat) : (x : Int) / 2 ^ (8 * n) = ((x / 256 ^ n : Nat) : Int) := by
  have e : (256 : Nat) ^ n = 2 ^ (8 * n) := by rw [Nat.pow_mul]
  rw [e, Int.natCast_ediv, Int.natCast_pow]; rfl
theorem shr_fit (x n : Nat) (h : x < 256 ^ n) : ¬ 0 < (x : Int) / 2 ^ (8 * n) := by
  rw [shr_int, Nat.div_eq_of_lt h]; simp
theorem shr_nofit (x n : Nat) (h : 256 ^ n ≤ x) : 0 < (x : Int) / 2 ^ (8 * n) := by
  rw [shr_int]
  have := Nat.div_pos h (Nat.pow_pos (by decide))
  omega

theorem u8_of (x d : Nat) : Value.int .u8 ((x : Int) / 2 ^ (8 * d) % 256) = Bv (UInt8.ofNat (x / 256 ^ d)) := by
  rw [shr_int]
  simp only [Bv, UInt8.toNat_ofNat']
  rfl

set_option maxRecDepth 100000 in
set_option maxHeartbeats 400000 in
/-- A number that has more bytes. -/
theorem numPut_great (x n : Nat) (w : World) (h8 : n < 8) (hfit : 256 ^ n ≤ x) :
    Calls Tryz.prog 126 #[.int .u64 (x : Int), .int .i64 (n : Int)] w fun e w' => e = .returned (.tuple #[.slice none 0 0, .int .i64 2]) ∧ w = w' := by
  have b1 : decide ((n : Int) < 0) = false := by simp
  have b2 : decide ((8 : Int) < (n : Int)) = false := by simp; omega
  have b3 := shr_nofit x n hfit
  clear hfit
  go_enter Tryz.func126, Tryz.ntmps126
  go_wp2
  go_ret2
  exact ⟨rfl, rfl⟩

set_option maxRecDepth 100000 in
set_option maxHeartbeats 400000 in
theorem numPut_ok (x n : Nat) (w : World) (h8 : n ≤ 8) (hfit : n = 8 ∨ x < 256 ^ n) :
    Calls Tryz.prog 126 #[.int .u64 (x : Int), .int .i64 (n : Int)] w fun e w' => ∃ aa cc, e = .returned (.tuple #[.slice aa n cc, .int .i64 0]) ∧
      w'.ownsRow w.heap.size 5 1 (.slice aa n cc) n ((putB x n).map Bv) ∧ Below w.heap.size w w' := by
  have b1 : decide ((n : Int) < 0) = false := by simp
  have b2 : decide ((8 : Int) < (n : Int)) = false := by simp; omega
  have b3 : n < 8 → ¬ 0 < (x : Int) / 2 ^ (8 * n) := fun h => shr_fit x n (hfit.resolve_left (by omega))
  clear hfit
  have B3 := Lib.hid b3
  clear b3
  rcases Nat.lt_or_ge n 8 with h9 | h9
  all_goals
    have b3 := B3.out
    go_enter Tryz.func126, Tryz.ntmps126
    go_wp2_with (at_make; refine make_u8 rfl (.tmp 26) (.tmp 26) rfl n rfl rfl (by omega) ?_)
    intro w1 hown hb
    have HO := Lib.hid hown
    have HB := Lib.hid hb
    clear hown hb
    go_wp2_with fail
    go_loopw [30] (fun i wr => ∃ k : Nat, k ≤ n ∧ i = .int .i64 k ∧ wr.ownsRow w.heap.size 5 1 (.slice (some ⟨w.heap.size, 0, none⟩) n n) n ((putTo x n k).map Bv) ∧ Below w.heap.size w wr) (fun i _ => n - (intOf i).toNat)
    case atStart => exact ⟨0, Nat.zero_le _, rfl, by rw [putTo_zero]; simpa using HO.out, HB.out⟩
    case round =>
      obtain ⟨k, hk, rfl, hown, hb⟩ := hrel
      rcases Nat.lt_or_ge k n with hlt | hge
      · have hc : wr.cell? ⟨w.heap.size, k, none⟩ = some (Bv (if k < k then UInt8.ofNat (x / 256 ^ (n - 1 - k)) else 0)) := by
          rw [hown.cellAt k (by omega)]; simp [putTo, hlt]
        have hf := hown.frozenAt k
        have HO := Lib.hid hown
        have HB := Lib.hid hb
        clear hown hb
        go_wp2
        go_roundw
        case rel =>
          refine ⟨k + 1, by omega, by go_num, ?_, HB.out.setCell (Nat.le_refl _) _⟩
          have h2 := (HO.out.stored k (.int .u8 ((x : Int) / 2 ^ (8 * (n - 1 - k)) % 256))).1
          rw [u8_of x (n - 1 - k), ← List.map_set, putTo_succ x n k hlt] at h2
          rw [u8_of x (n - 1 - k)]
          exact h2
        case measure => simp [intOf]; omega
      · obtain rfl : k = n := by omega
        have HO := Lib.hid hown
        have HB := Lib.hid hb
        clear hown hb
        go_wp2
        go_ret2
        exact ⟨_, _, rfl, by rw [← putTo_all]; exact HO.out, HB.out⟩

theorem getB_snoc (l : List UInt8) (k : Nat) (h : k < l.length) : getB (l.take (k + 1)) = getB (l.take k) * 256 + l[k].toNat := by
  rw [List.take_succ_eq_append_getElem h]; unfold getB; rw [List.foldl_append]; rfl
theorem getB_step (l : List UInt8) (k : Nat) (h : k < l.length) (h8 : l.length ≤ 8) :
    Value.int .u64 (bits .or .u64 (IntKind.u64.wrap ((getB (l.take k) : Int) * 256)) ((l[k].toNat : Nat) : Int)) = .int .u64 (getB (l.take (k + 1)) : Int) := by
  have h1 := getB_lt (l.take k)
  have h2 : (256 : Nat) ^ (l.take k).length ≤ 256 ^ 7 := Nat.pow_le_pow_right (by decide) (by simp; omega)
  have h3 : (256 : Nat) ^ 7 = 72057594037927936 := by decide
  have h4 := l[k].toNat_lt
  rw [getB_snoc l k h, IntKind.wrap_u64, show ((getB (l.take k) : Int) * 256) % 18446744073709551616 = ((getB (l.take k) * 256 : Nat) : Int) by omega, u64_or_nat _ _ (by omega) (by omega),
    nat_join 8 _ _ (by omega) (by omega)]

set_option maxHeartbeats 400000 in
theorem numGet_ok (v : Value) (l : List UInt8) (n : Nat) (w : World) (hv : Sl w 1 v n (l.map Bv)) (h8 : n ≤ 8) :
    Calls Tryz.prog 149 #[v] w fun e w' => e = .returned (.tuple #[.int .u64 (getB l : Int), .int .i64 0]) ∧ w = w' := by
  obtain ⟨hl, a, cap, rfl, hlc, hnil, hc⟩ := hv
  have hl' : l.length = n := by simpa using hl
  have HC := Lib.hid hc
  clear hl hc hnil
  go_enter Tryz.func149, Tryz.ntmps149
  go_wp2
  go_loop [2, 11] (fun x i => ∃ k : Nat, k ≤ n ∧ i = .int .i64 k ∧ x = .int .u64 (getB (l.take k) : Int)) (fun _ i => n - (intOf i).toNat)
  case atStart => exact ⟨0, Nat.zero_le _, rfl, by simp [getB]⟩
  case round =>
    obtain ⟨k, hk, rfl, rfl⟩ := hrel
    rcases Nat.lt_or_ge k n with hlt | hge
    · obtain ⟨b, o, rfl, hc⟩ := HC.out k (Bv (l[k]'(by omega))) (by simp [show k < l.length by omega])
      have hb := (l[k]'(by omega)).toNat_lt
      unfold Bv at hc
      have S := Lib.hid (getB_step l k (by omega) (by omega))
      go_wp2
      go_round
      case rel => exact ⟨k + 1, by omega, by go_num, S.out⟩
      case measure => simp [intOf]; omega
    · obtain rfl : k = n := by omega
      have e : l.take k = l := List.take_of_length_le (by omega)
      have E := Lib.hid e
      clear e hl'
      go_wp2
      go_ret2
      rw [E.out]
      exact ⟨rfl, rfl⟩
end Go.Proofs.YtkbnkdokcmpcgaaGreatDoor
namespace Go.Proofs.YtkbnkdokcmpcgaaGreatDoor
open Go.RowKit

section
variable {P : Program} {ops : Array Oper}

theorem still_of_quiet {o : Oper} {a : Act} {w : World} {K : Act → Prop} (h : o.quiet P a (fun w' => w' = w) K) : o.still P a w K := by
  obtain ⟨v, h1, h2⟩ := h
  have h3 := h1 w rfl
  unfold Oper.quietAt at h3
  unfold Oper.still
  generalize (execOp a.eval o).run P w = r at *
  cases r with
  | ok n w' =>
    cases n <;> simp only [Oper.quietUpon] at h3 <;> simp only [Oper.stillUpon]
    case value u => obtain ⟨e1, e2⟩ := h3; exact ⟨e1, by rw [e2]; exact h2⟩
    case skip => obtain ⟨e1, e2⟩ := h3; exact ⟨e1, by rw [← e2]; exact h2⟩
    case enter f args => obtain ⟨e1, hc⟩ := h3; exact ⟨e1, v, hc, h2⟩
  | halt x w' => simp only [Oper.quietUpon] at h3
theorem wpStill_of_quiet {w : World} {Q : Act → Prop} : ∀ (l : List Oper) (a : Act), wpQuiet P ops (fun w' => w' = w) Q l a → wpStill P ops w Q l a
  | [], _, h => h
  | o :: l, a, h => by
    unfold wpQuiet at h
    unfold wpStill
    split
    · rename_i hw
      rw [if_pos hw] at h
      exact Oper.still_mono (fun a' => wpStill_of_quiet l a') (still_of_quiet h)
    · rename_i hw
      rw [if_neg hw] at h
      exact wpStill_of_quiet l _ h

theorem wp_region_quiet_tail {id : Nat} {Q : Exit → Act → World → Prop} {a : Act} {w : World} {l : List Oper} (n : Nat) (hm : P.follows .mixedOrders = true) (hB : Region.lexTailB .any l.toArray n = true)
    (h : wpQuiet P l.toArray (fun w' => w' = w.drew) (fun a' => wpList P l.toArray Q (l.drop n) a' w.drew) (l.take n) a) : (Code.region id l.toArray true).wp P Q a w :=
  wp_region_still_tail n hm hB (wpStill_of_quiet _ _ h)
theorem quiet_same {f : FuncId} {args : Array Value} {v : Value} (h : ∀ w, Calls P f args w fun e w' => e = .returned v ∧ w = w') (w' : World) : Calls P f args w' fun e w'' => e = .returned v ∧ w'' = w' :=
  (h w').mono fun _ _ ⟨h1, h2⟩ => ⟨h1, h2.symm⟩
end

/- The same over a class of worlds: what stands ahead of the last operations may lay memory. -/
section
variable {P : Program} {ops : Array Oper} {md : Region.Mode} {C : World → Prop}

/-- f operations, all below n, whatever their order; then L. -/
def wpHead (P : Program) (md : Region.Mode) (ops : Array Oper) (C : World → Prop) (n : Nat) (L : Array Bool → Act → Prop) : Nat → Array Bool → Act → Prop
  | 0, listed, a => L listed a
  | f + 1, listed, a => (∃ i, i ∈ Region.ready md ops listed) ∧ ∀ i ∈ Region.ready md ops listed, i < n ∧ qOp P ops C i (wpHead P md ops C n L f (listed.setIfInBounds i true)) a

theorem wpAny_of_wpHead {n g : Nat} {L : Array Bool → Act → Prop} {Q' : Exit → Act → World → Prop} (hL : ∀ listed a w, C w → L listed a → wpAny P md ops Q' g listed a w) :
    ∀ (f : Nat) (listed : Array Bool) (a : Act) (w : World), C w → wpHead P md ops C n L f listed a → wpAny P md ops Q' (f + g) listed a w
  | 0, listed, a, w, hw, h => by rw [Nat.zero_add]; exact hL _ _ _ hw h
  | f + 1, listed, a, w, hw, h => by
    have e : f + 1 + g = (f + g) + 1 := by omega
    rw [e]
    refine ⟨fun h0 => ?_, fun i hi => wpOp_of_qOp hw (fun a' w' hw' h' => wpAny_of_wpHead hL f _ a' w' hw' h') (h.2 i hi).2⟩
    obtain ⟨i, hi⟩ := h.1
    rw [h0] at hi
    cases hi

/-- An operation of the head that is ready, and that all others are apart from, may come first. -/
theorem wpHead_first {n i : Nat} {oi : Oper} {v : Value} {L : Array Bool → Act → Prop} (hi : ops[i]? = some oi) (hsel : ∀ (j : Nat) (o : Oper) cs b, ops[j]? = some o → o.op ≠ .select cs b)
    (hs : Region.sinkB md ops n = true) (hc : Region.chainB md ops n = true) (hn : n < ops.size) (hin : i < n) (hdone : ∀ listed a, L listed a → ∀ j ∈ Region.ready md ops listed, n ≤ j) :
    ∀ (f : Nat) (listed : Array Bool) (a : Act), HeadInv md ops n listed →
      (∀ j oj, ops[j]? = some oj → j ≠ i → listed.getD j true = false → (∀ e ∈ oj.after, Region.binds md e = true → e.on ≠ i) → oi.apart ops oj = true) →
      i ∈ Region.ready md ops listed → YieldsIn P ops C oi v a → wpHead P md ops C n L f (listed.setIfInBounds i true) (a.put oi.dst v) → wpHead P md ops C n L (f + 1) listed a := by
  intro f
  induction f with
  | zero =>
    intro listed a inv _ hr hy H
    refine ⟨⟨i, hr⟩, fun j hj => ?_⟩
    have hjn : j < n := Nat.lt_of_not_le fun h => tail_waits hs hc hn inv _ i rfl hin (mem_ready.1 hr).1 j h hj
    by_cases hji : j = i
    · subst hji; exact ⟨hjn, hy.qOp hi H⟩
    · have := hdone _ _ H j (ready_mono hj hji)
      omega
  | succ f ih =>
    intro listed a inv hfree hr hy H
    have hun := (mem_ready.1 hr).1
    refine ⟨⟨i, hr⟩, fun j hj => ?_⟩
    have hjn : j < n := Nat.lt_of_not_le fun h => tail_waits hs hc hn inv _ i rfl hin hun j h hj
    by_cases hji : j = i
    · subst hji; exact ⟨hjn, hy.qOp hi H⟩
    · obtain ⟨hjun, oj, hoj, hall⟩ := mem_ready.1 hj
      have hnot : ∀ e ∈ oj.after, Region.binds md e = true → e.on ≠ i := by
        intro e he hb heq
        have h1 := hall e he hb
        rw [heq, getD_both hun] at h1
        cases h1
      have h2 := qOp_put hoj (hfree j oj hoj hji hjun hnot) (fun cs b => hsel i oi cs b hi) (fun cs b => hsel j oj cs b hoj) hy (H.2 j (ready_mono hj hji)).2
      refine ⟨hjn, qOp_mono (fun a' h3 => ih (listed.setIfInBounds j true) a' (inv.set hj hjn) ?_ (ready_mono hr (Ne.symm hji)) h3.1 ?_) h2⟩
      · intro k ok hk hki hku hno
        refine hfree k ok hk hki ?_ hno
        by_cases hjk : j = k
        · subst hjk; exact hjun
        · rwa [getD_set_ne true hjk] at hku
      · rw [Array.setIfInBounds_comm _ _ hji]
        exact h3.2

theorem wpHead_lex {n g : Nat} {Lq : Act → Prop} (hsel : Region.noSelect ops = true) (hs : Region.sinkB md ops n = true) (hc : Region.chainB md ops n = true) (hn : n < ops.size) :
    ∀ (l : List Oper) (k : Nat) (listed : Array Bool) (a : Act), (∀ j, j < l.length → l[j]? = ops[k + j]?) → k + l.length = n → HeadInv md ops n listed →
    Region.lexHead md ops g l.length k listed = true → wpQuiet P ops C Lq l a →
    wpHead P md ops C n (fun listed' a' => Region.seqB md ops g n listed' = true ∧ Lq a') l.length listed a
  | [], k, listed, a, _, hk, _, hB, h => by
    obtain rfl : k = n := by simpa using hk
    exact ⟨by simpa [Region.lexHead] using hB, h⟩
  | o :: l, k, listed, a, hl, hk, inv, hB, h => by
    have h0 : ops[k]? = some o := by simpa using (hl 0 (by simp)).symm
    simp only [List.length_cons, Region.lexHead, Bool.and_eq_true] at hB
    simp only [List.length_cons] at hk
    have hkn : k < n := by omega
    have hr : k ∈ Region.ready md ops listed := by simpa using hB.1.1
    have hq : qOp P ops C k (wpQuiet P ops C Lq l) a := by unfold qOp; simp only [h0]; exact h
    obtain ⟨v, hy, hK⟩ := yieldsIn_of_qOp h0 hq
    refine wpHead_first h0 (Region.noSelect_spec hsel) hs hc hn hkn (fun listed' a' hL => seqB_ready hL.1) l.length listed a inv (Region.free_spec h0 hB.1.2) hr hy ?_
    exact wpHead_lex hsel hs hc hn l (k + 1) _ _ (fun j hj => by have := hl (j + 1) (by simp; omega); simpa [Nat.add_assoc, Nat.add_comm 1 j] using this) (by omega) (inv.set hr hkn) hB.2 hK

theorem wpAny_class_tail {Q : Exit → Act → World → Prop} {a : Act} {w : World} {l : List Oper} (n : Nat) (hB : Region.lexTailB .any l.toArray n = true) (hC : C w)
    (h : wpQuiet P l.toArray C (fun a' => ∀ w', C w' → wpList P l.toArray Q (l.drop n) a' w') (l.take n) a) : wpAny P .any l.toArray Q l.toArray.size (Array.replicate l.toArray.size false) a w := by
  simp only [Region.lexTailB, Bool.and_eq_true, decide_eq_true_eq] at hB
  obtain ⟨⟨⟨⟨hsel, hn⟩, hs⟩, hc⟩, hlex⟩ := hB
  have htl : (l.take n).length = n := by simp at hn; simp; omega
  have hdl : (l.drop n).length = l.toArray.size - n := by simp
  have inv0 : HeadInv .any l.toArray n (Array.replicate l.toArray.size false) :=
    ⟨by simp, fun j oj _ hl => (by rw [getD_replicate_false] at hl; cases hl), fun t _ ht => getD_in (by simpa using ht) (getD_replicate_false _ _)⟩
  have H := wpHead_lex (md := .any) (g := l.toArray.size - n) hsel hs hc hn (l.take n) 0 _ a (fun j hj => by
    rw [htl] at hj
    simp [hj]) (by simpa using htl) inv0 (by rw [htl]; exact hlex) h
  have h2 := wpAny_of_wpHead (Q' := Q) (g := l.toArray.size - n) (fun listed a' w' hw' hL => by
    have h3 := wpAny_of_seq (md := .any) (Q' := Q) (l.drop n) n listed a' w' (fun j => by simp [List.getElem?_drop]) (by rw [hdl]; exact hL.1) (hL.2 w' hw')
    rwa [hdl] at h3) _ _ _ _ hC H
  rw [htl, show n + (l.toArray.size - n) = l.toArray.size by omega] at h2
  exact h2
/-- A region that draws its order: all but the last operations read, or call what leaves a world of the class; the last ones in the order of the text. -/
theorem wp_region_class_tail {id : Nat} {Q : Exit → Act → World → Prop} {a : Act} {w : World} {l : List Oper} (n : Nat) (hm : P.follows .mixedOrders = true) (hB : Region.lexTailB .any l.toArray n = true) (hC : C { w with drawn := w.drawn + 1 })
    (h : wpQuiet P l.toArray C (fun a' => ∀ w', C w' → wpList P l.toArray Q (l.drop n) a' w') (l.take n) a) : (Code.region id l.toArray true).wp P Q a w :=
  wp_region_any hm (wpAny_class_tail n hB hC h)
/-- What is left comes in the order of the text. -/
theorem wpAny_list {Q : Exit → Act → World → Prop} {fuel : Nat} {listed : Array Bool} {a : Act} {w : World} (n : Nat) (hf : fuel = (ops.toList.drop n).length) (hB : Region.seqB md ops fuel n listed = true)
    (h : wpList P ops Q (ops.toList.drop n) a w) : wpAny P md ops Q fuel listed a w := by
  subst hf
  exact wpAny_of_seq _ n listed a w (fun j => by simp) hB h
end

end Go.Proofs.YtkbnkdokcmpcgaaGreatDoor
namespace Go.Proofs.YtkbnkdokcmpcgaaGreatDoor
open Go.RowKit

theorem wnext_val {x0 x1 x9 x14 : Nat} (b1 : x1 < 4294967296) (b14 : x14 < 4294967296) :
    (Value.int .u32 (((x0 : Int) + (x9 : Int) + bits .xor .u32 (bits .xor .u32 (rotl x1 25 : Int) (rotl x1 14 : Int)) ((x1 : Int) / 8) + bits .xor .u32 (bits .xor .u32 (rotl x14 15 : Int) (rotl x14 13 : Int)) ((x14 : Int) / 1024)) % 4294967296)) =
      U32 ((x0 + x9 + smallN x1 7 18 3 + smallN x14 17 19 10) % 4294967296) := by
  have h1 : (x1 : Int) / 8 = ((x1 / 8 : Nat) : Int) := by omega
  have h2 : (x14 : Int) / 1024 = ((x14 / 1024 : Nat) : Int) := by omega
  rw [h1, h2, u32_xor_nat _ _ (rotl_lt _ b1) (rotl_lt _ b1), u32_xor_nat _ _ (xor_lt32 (rotl_lt _ b1) (rotl_lt _ b1)) (by omega), u32_xor_nat _ _ (rotl_lt _ b14) (rotl_lt _ b14), u32_xor_nat _ _ (xor_lt32 (rotl_lt _ b14) (rotl_lt _ b14)) (by omega)]
  unfold U32 smallN
  congr 1
theorem info_w64' : (Tryz.prog.info? 226).map (·.size) = some 64 := by kernel_rfl

theorem Fr_drewN' (S : Nat → Prop) (w : World) (n : Nat) : Fr S w (w.drewN n) := ⟨rfl, rfl, rfl, Nat.le_refl _, fun _ _ _ => rfl⟩
def SpreadRel (w0 : World) (R : Nat) (l : List Nat) (wr : World) : Prop := wr.heap[R]? = some (.cells (rowZ 64 l).toArray 226 (0, 0)) ∧ Fr (fun k => k = R) w0 wr

set_option maxRecDepth 100000 in
set_option maxHeartbeats 8000000 in
theorem spread_any (v : Value) (b : List UInt8) (w : World) (h : Sl w 1 v 64 (b.map Bv)) :
    Calls Tryz.prog 161 #[v] w fun e w' => e = .returned (.agg ((spreadL b 64).map U32).toArray) ∧ Below w.heap.size w w' := by
  have hl : b.length = 64 := by simpa using h.1
  obtain ⟨a, cap, rfl, _⟩ := h.len
  have HS := Lib.hid (fun (w' : World) (hh : Below w.heap.size w w') => (h.below hh : Sl w' 1 (.slice a 64 cap) 64 (b.map Bv)))
  clear h
  go_enter Tryz.func161, Tryz.ntmps161
  go_wp2_with fail
  have hR0 : SpreadRel (w.alloc (.cells (rowZ 64 []).toArray 226)) w.heap.size (spreadL b 0) (w.alloc (.cells (rowZ 64 []).toArray 226)) := ⟨heap_alloc_new _ _, Fr.refl _ _⟩
  have hB0 : Below w.heap.size w (w.alloc (.cells (rowZ 64 []).toArray 226)) := (Below.refl _ w).alloc (Nat.le_refl _) _
  obtain ⟨w0, hw0⟩ : ∃ w0, w0 = w.alloc (.cells (rowZ 64 []).toArray 226) := ⟨_, rfl⟩
  have HR0 := Lib.hid (show SpreadRel w0 w.heap.size (spreadL b 0) (w.alloc (.cells (rowZ 64 []).toArray 226)) by rw [hw0]; exact hR0)
  have HB0 := Lib.hid (show Below w.heap.size w w0 by rw [hw0]; exact hB0)
  clear hR0 hB0 hw0
  go_loopw [9, 3, 4, 5] (fun i _ _ _ wr => ∃ k : Nat, k ≤ 16 ∧ i = .int .i64 k ∧ SpreadRel w0 w.heap.size (spreadL b k) wr) (fun i _ _ _ _ => 16 - (intOf i).toNat)
  case atStart => exact ⟨0, Nat.zero_le _, rfl, HR0.out⟩
  case round =>
    obtain ⟨k, hk, rfl, hrow, hfr⟩ := hrel
    rcases Nat.lt_or_ge k 16 with hlt | hge
    · have hsl := HS.out wr (HB0.out.trans (hfr.below HB0.out.size (fun j hj => by omega)))
      obtain ⟨A, C, q, hA⟩ := cut_u8 hsl (lo := 4 * k) (hi := 4 * k + 4) (by omega) (by omega)
      have HRow := Lib.hid hrow
      have HFr := Lib.hid hfr
      have e4 : 4 * k + 4 - 4 * k = 4 := by omega
      rw [e4] at q hA
      have ec : ((4 * k : Nat) : Int) = 4 * (k : Int) := by omega
      have ec2 : ((4 * k + 4 : Nat) : Int) = 4 * (k : Int) + 4 := by omega
      rw [ec, ec2] at q
      have HA := Lib.hid hA
      clear hrow hfr hsl e4 ec ec2 hA
      have hx : spreadL b (k + 1) = spreadL b k ++ [getB ((b.drop (4 * k)).take 4)] := by
        show spreadL b k ++ [if k < 16 then getB ((b.drop (4 * k)).take 4) else wNext (spreadL b k) k] = _
        rw [if_pos hlt]
      have hx32 : getB ((b.drop (4 * k)).take 4) < 4294967296 := spreadL_lt b (k + 1) _ (by rw [hx]; simp)
      have HX := Lib.hid hx
      obtain ⟨X, hX⟩ : ∃ X, X = getB ((b.drop (4 * k)).take 4) := ⟨_, rfl⟩
      have HGet := Lib.hid (numGet_ok (.slice A 4 C) ((b.drop (4 * k)).take 4) 4 wr HA.out (by omega))
      rw [← hX] at HX HGet hx32
      have HLk := Lib.hid (spreadL_length b k)
      clear hx hX
      go_wp2_with fail
      refine HGet.out.mono ?_
      rintro e w2 ⟨rfl, rfl⟩
      have c0 : wr.cell? ⟨w.heap.size, k, none⟩ = some (.int .u32 0) := by
        rw [cell_of_row _ _ k _ _ _ HRow.out, List.getElem?_toArray]
        have h1 := rowZ_get 64 (spreadL b k) k (by rw [HLk.out]; omega) (by omega)
        rw [h1, List.getD_eq_getElem?_getD, List.getElem?_eq_none (by rw [HLk.out]; exact Nat.le_refl _)]
        rfl
      have f0 : wr.frozen? ⟨w.heap.size, k, none⟩ = false := by simp [World.frozen?, HRow.out]
      go_wp2
      go_roundw
      case rel =>
        refine ⟨k + 1, by omega, by go_num, ?_, HFr.out.set _ _ rfl _⟩
        have h1 := heap_setCell_same _ _ k _ _ (U32 X) HRow.out
        rw [HX.out]
        rw [List.setIfInBounds_toArray] at h1
        have h2 := rowZ_set 64 (spreadL b k) X (by rw [HLk.out]; omega)
        rw [HLk.out] at h2
        rw [h2] at h1
        exact h1
      case measure => simp [intOf]; omega
    · obtain rfl : k = 16 := by omega
      have HR16 := Lib.hid (show SpreadRel w0 w.heap.size (spreadL b 16) wr from ⟨hrow, hfr⟩)
      clear hrow hfr hk hge
      go_wp2_with fail
      obtain ⟨wo, hwo⟩ : ∃ wo : World, wo = wr := ⟨_, rfl⟩
      rw [← hwo] at HR16 ⊢
      clear hwo
      go_loopw [6, 7, 8] (fun i _ _ wr => ∃ m : Nat, m ≤ 48 ∧ i = .int .i64 ((m : Int) + 16) ∧ SpreadRel w0 w.heap.size (spreadL b (m + 16)) wr) (fun i _ _ _ => 64 - (intOf i).toNat)
      case atStart => exact ⟨0, by omega, rfl, HR16.out⟩
      case round =>
        obtain ⟨m, hm, rfl, hrow, hfr⟩ := hrel
        rcases Nat.lt_or_ge m 48 with hlt | hge
        · have HRow := Lib.hid hrow
          have HFr := Lib.hid hfr
          have HLk := Lib.hid (spreadL_length b (m + 16))
          have hc : ∀ j, j < 64 → wr.cell? ⟨w.heap.size, j, none⟩ = some (.int .u32 (((spreadL b (m + 16)).getD j 0 : Nat) : Int)) := fun j hj => by
            rw [cell_of_row _ _ j _ _ _ HRow.out, List.getElem?_toArray]
            exact rowZ_get 64 _ _ (by rw [HLk.out]; omega) hj
          have hlt32 : ∀ j, (spreadL b (m + 16)).getD j 0 < 4294967296 := fun j => by
            rw [List.getD_eq_getElem?_getD]
            cases hq : (spreadL b (m + 16))[j]? with
            | none => decide
            | some x => exact spreadL_lt b (m + 16) x (List.mem_of_getElem? hq)
          have d0 := hc m (by omega)
          have d1 := hc (m + 1) (by omega)
          have d9 := hc (m + 9) (by omega)
          have d14 := hc (m + 14) (by omega)
          have d16 := hc (m + 16) (by omega)
          have f16 : wr.frozen? ⟨w.heap.size, m + 16, none⟩ = false := by simp [World.frozen?, HRow.out]
          obtain ⟨x0, hx0⟩ : ∃ x0, x0 = (spreadL b (m + 16)).getD m 0 := ⟨_, rfl⟩
          obtain ⟨x1, hx1⟩ : ∃ x1, x1 = (spreadL b (m + 16)).getD (m + 1) 0 := ⟨_, rfl⟩
          obtain ⟨x9, hx9⟩ : ∃ x9, x9 = (spreadL b (m + 16)).getD (m + 9) 0 := ⟨_, rfl⟩
          obtain ⟨x14, hx14⟩ : ∃ x14, x14 = (spreadL b (m + 16)).getD (m + 14) 0 := ⟨_, rfl⟩
          have b0 : x0 < 4294967296 := by rw [hx0]; exact hlt32 _
          have b1 : x1 < 4294967296 := by rw [hx1]; exact hlt32 _
          have b9 : x9 < 4294967296 := by rw [hx9]; exact hlt32 _
          have b14 : x14 < 4294967296 := by rw [hx14]; exact hlt32 _
          rw [← hx0] at d0
          rw [← hx1] at d1
          rw [← hx9] at d9
          rw [← hx14] at d14
          have HXs := Lib.hid (And.intro hx0 (And.intro hx1 (And.intro hx9 hx14)))
          clear hrow hfr hc hlt32 hx0 hx1 hx9 hx14
          go_wp2_with fail
          go_quiet (fail)
          have t1 := Lib.hid (quiet_same (fun w => turn_any x1 25 (-7) w b1 (by decide) (by decide)))
          have t2 := Lib.hid (quiet_same (fun w => turn_any x1 14 (-18) w b1 (by decide) (by decide)))
          have t3 := Lib.hid (quiet_same (fun w => turn_any x14 15 (-17) w b14 (by decide) (by decide)))
          have t4 := Lib.hid (quiet_same (fun w => turn_any x14 13 (-19) w b14 (by decide) (by decide)))
          go_wp2_with fail
          refine wp_region_quiet_tail 29 (by kernel_rfl) (by kernel_rfl) ?_
          simp only [List.take_succ_cons, List.take_zero, List.drop_succ_cons, List.drop_zero]
          repeat (first | go_big_quiet_step (fail) | (go_big_quiet_want; go_big_quiet_op; apply Exists.intro; refine ⟨?_, ?_⟩; (focus (first | with_reducible exact t1.out _ | with_reducible exact t2.out _ | with_reducible exact t3.out _ | with_reducible exact t4.out _)); go_big_quiet_on))
          refine wpQuiet_nil ?_
          have HV := Lib.hid (wnext_val (x0 := x0) (x9 := x9) b1 b14)
          clear b0 b1 b9 b14 t1 t2 t3 t4
          go_wp2_with fail
          go_roundw
          case rel =>
            refine ⟨m + 1, by omega, by go_num, ?_, (HFr.out.trans (Fr_drewN' _ wr _)).set _ _ rfl _⟩
            have hx : spreadL b (m + 1 + 16) = spreadL b (m + 16) ++ [(x0 + x9 + smallN x1 7 18 3 + smallN x14 17 19 10) % 4294967296] := by
              rw [show m + 1 + 16 = m + 16 + 1 by omega]
              show spreadL b (m + 16) ++ [if m + 16 < 16 then getB ((b.drop (4 * (m + 16))).take 4) else wNext (spreadL b (m + 16)) (m + 16)] = _
              obtain ⟨q0, q1, q9, q14⟩ := HXs.out
              rw [if_neg (by omega), wNext, show m + 16 - 16 = m by omega, show m + 16 - 7 = m + 9 by omega, show m + 16 - 15 = m + 1 by omega, show m + 16 - 2 = m + 14 by omega, ← q0, ← q1, ← q9, ← q14]
            have h1 := heap_setCell_same (wr.drewN (nq + 1)) _ (m + 16) _ _ (U32 ((x0 + x9 + smallN x1 7 18 3 + smallN x14 17 19 10) % 4294967296)) HRow.out
            rw [List.setIfInBounds_toArray] at h1
            have h2 := rowZ_set 64 (spreadL b (m + 16)) ((x0 + x9 + smallN x1 7 18 3 + smallN x14 17 19 10) % 4294967296) (by rw [HLk.out]; omega)
            rw [HLk.out] at h2
            rw [h2, ← hx] at h1
            rw [HV.out]
            exact h1
          case measure => simp [intOf]; omega
        · obtain rfl : m = 48 := by omega
          have HRow := Lib.hid (show wr.heap[w.heap.size]? = some (.cells ((spreadL b 64).map U32).toArray 226 (0, 0)) by rw [hrow, rowZ_full 64 _ (spreadL_length b 64)])
          have HB := Lib.hid (HB0.out.trans (hfr.below HB0.out.size (fun j hj => by omega)))
          have HLn := Lib.hid (show ((spreadL b 64).map U32).length = 64 by rw [List.length_map, spreadL_length])
          clear hrow hfr hm hge
          obtain ⟨sp, hsp⟩ : ∃ sp, sp = spreadL b 64 := ⟨_, rfl⟩
          rw [← hsp] at HRow HLn
          have HSp := Lib.hid hsp
          clear hsp
          go_wp2_with (first | (refine wpList_load_at rfl 226 (.tmp 2) rfl w.heap.size 0 rfl (sp.map U32) _ (At.of_row (by simpa using HRow.out)) Tryz.underlying226 rfl (by rw [info_w64', HLn.out]) ?_) | (refine wpList_store_row rfl 226 (.tmp 2) (.tmp 69) rfl w.heap.size rfl (sp.map U32) rfl _ _ HRow.out (by rw [List.size_toArray]) (U32_one sp) (by rw [info_w64', HLn.out]) ?_; intro w9 hg9 hf9 hs9))
          have HG9 := Lib.hid hg9
          have HB9 := Lib.hid (HB.out.trans (hf9.below HB.out.size (fun j hj => by omega)))
          clear hg9 hf9 hs9
          go_wp2
          exact bodyPost_ret (results_cell_row rfl _ w9 w.heap.size _ _ _ _ rfl HG9.out Tryz.underlying226 rfl (by rw [info_w64', List.size_toArray, HLn.out])) rfl ⟨by rw [HSp.out], HB9.out⟩

end Go.Proofs.YtkbnkdokcmpcgaaGreatDoor
