/- Walk: sha's consts. -/
import Derived.Test.YtdmgmpagnmmehaaDoorShaD
import Derived.Test.YtdmgmpagnmmehaaDoorWords
namespace Go.Proofs.YtdmgmpagnmmehaaDoor
open Go.RowKit


theorem info_u32 : (Tryd.prog.info? 43).map (fun i => (i.zero, i.size, i.bytes)) = some (some (.int .u32 0), 1, 4) := by kernel_rfl

/-- append onto own words of what some slice reads. -/
theorem append_u32 {w : World} {ops : Array Oper} {rest : List Oper} {o : Oper} {a : Act} {Q : Exit → Act → World → Prop} (hgd : o.guard = none) (s x : Operand)
    (ho : o.op = .call { callee := .builtin .append, args := #[s, x], argTypes := #[126, 126] })
    {base : Nat} {v : Value} {n : Nat} {xs : List Nat} (hown : w.ownsRow base 43 1 v n (xs.map U32)) {vx : Value} {m : Nat} {news : List Nat} (hx : Sl w 1 vx m (news.map U32))
    (hs : a.eval s = v) (hxe : a.eval x = vx) (hr : n + m ≤ 34359738368) (hbase : base ≤ w.heap.size)
    (h : ∀ aa cc w', w'.ownsRow base 43 1 (.slice aa (n + m) cc) (n + m) ((xs ++ news).map U32) → Fr (fun k => v.ownBlock = some k) w w' → ((Value.slice aa (n + m) cc).ownBlock = v.ownBlock ∨ (Value.slice aa (n + m) cc).ownBlock = some w.heap.size) →
      wpList Tryd.prog ops Q rest (a.put o.dst (.slice aa (n + m) cc)) w') : wpList Tryd.prog ops Q (o :: rest) a w := by
  obtain ⟨i0, hi, hz0, hz1, hz2⟩ := info_parts info_u32
  refine wpList_append_sl hgd s x 126 ho base 43 i0 (.int .u32 0) 1 4 Tryd.underlying126 hi hz0 hz1 hz2 rfl (by decide) v n _ hs hown vx m _ hxe hx (U32_one _) (by unfold maxLen; omega) (by omega) hbase ?_
  intro aa cc w' h2 hg h3
  rw [← List.map_append] at h2
  exact h aa cc w' h2 ((Fr.refl _ w).grown hg (fun k hk => Or.inl hk)) h3

theorem divides_any (q p g : Nat) (w : World) (hq : 1 ≤ q) (hc : w.cell? ⟨g, 0, none⟩ = some (U32 p)) :
    Calls Tryd.prog 105 #[.int .u32 (q : Int), .pointer (some ⟨g, 0, none⟩)] w fun e w' => e = .returned (.bool (p % q == 0)) ∧ w = w' := by
  have e : ((p : Int) % (q : Int) == 0) = (p % q == 0) := by rw [Bool.eq_iff_iff, beq_iff_eq, beq_iff_eq]; omega
  have E := Lib.hid e
  clear e
  unfold U32 at *
  go_enter Tryd.func105, Tryd.ntmps105
  go_wp2
  go_ret
  exact ⟨by rw [← E.out]; rfl, rfl⟩

def DivPost (b : Bool) (w : World) (e : Ending) (w' : World) : Prop := ∃ r : Int, e = .returned (.int .i64 r) ∧ decide (0 ≤ r) = b ∧ w = w'
def divB (l : List Nat) (p : Nat) : Bool := l.any (fun q => p % q == 0)
set_option maxHeartbeats 1000000 in
theorem indexDiv_any (v : Value) (l : List Nat) (p g : Nat) (w : World) (h : Sl w 1 v l.length (l.map U32)) (hr : l.length ≤ 100000) (hl : ∀ q ∈ l, 1 ≤ q) (hc : w.cell? ⟨g, 0, none⟩ = some (U32 p)) :
    Calls Tryd.prog 116 #[v, .func (.func 105) #[] #[.pointer (some ⟨g, 0, none⟩)]] w (DivPost (divB l p) w) := by
  obtain ⟨hlen, a, cap, rfl, hlc, hnil, hel⟩ := h
  have HE := Lib.hid hel
  have HC := Lib.hid hc
  have HL := Lib.hid hl
  clear hlen hnil hel hc hl
  go_enter Tryd.func116, Tryd.ntmps116
  go_wp2
  go_loop [8] (fun i => ∃ k : Nat, k ≤ l.length ∧ i = .int .i64 k ∧ ∀ j (hj : j < l.length), j < k → (p % l[j] == 0) = false) (fun i => l.length - (intOf i).toNat)
  case atStart => exact ⟨0, Nat.zero_le _, rfl, fun j _ hj => by omega⟩
  case round =>
    obtain ⟨k, hk, rfl, hz⟩ := hrel
    have HZ := Lib.hid hz
    clear hz
    rcases Nat.lt_or_ge k l.length with hlt | hge
    · obtain ⟨b, o, rfl, hc⟩ := HE.out k (U32 (l[k]'hlt)) (by simp [hlt])
      obtain ⟨s, hs⟩ : ∃ s, s = l[k]'hlt := ⟨_, rfl⟩
      rw [← hs] at hc
      have HS := Lib.hid hs
      have hs1 : 1 ≤ s := by rw [hs]; exact HL.out _ (List.getElem_mem hlt)
      have HD := Lib.hid (divides_any s p g w hs1 HC.out)
      unfold U32 at hc
      clear hs hs1
      go_wp2_with fail
      refine HD.out.mono ?_
      rintro e w1 ⟨rfl, rfl⟩
      cases h9 : (p % s == 0) with
      | true =>
        have HF := Lib.hid (show divB l p = true from List.any_eq_true.2 ⟨s, by rw [HS.out]; exact List.getElem_mem hlt, h9⟩)
        clear h9
        go_wp2
        go_ret
        exact ⟨k, rfl, by rw [HF.out]; simp, rfl⟩
      | false =>
        have H9 := Lib.hid h9
        clear h9
        go_wp2
        go_round
        case rel =>
          refine ⟨k + 1, by omega, by go_num, fun j hj hjk => ?_⟩
          rcases Nat.lt_or_ge j k with h | h
          · exact HZ.out j hj h
          · obtain rfl : j = k := by omega
            rw [← HS.out]; exact H9.out
        case measure => simp [intOf]; omega
    · have HF := Lib.hid (show divB l p = false from List.any_eq_false.2 fun x hx => by
        obtain ⟨j, hj, rfl⟩ := List.getElem_of_mem hx
        have := HZ.out j hj (by omega)
        rw [this]; exact Bool.false_ne_true)
      obtain rfl : k = l.length := by omega
      go_wp2
      go_ret
      exact ⟨-1, rfl, by rw [HF.out]; rfl, rfl⟩

theorem containsDiv_any (v : Value) (l : List Nat) (p g : Nat) (w : World) (h : Sl w 1 v l.length (l.map U32)) (hr : l.length ≤ 100000) (hl : ∀ q ∈ l, 1 ≤ q) (hc : w.cell? ⟨g, 0, none⟩ = some (U32 p)) :
    Calls Tryd.prog 104 #[v, .func (.func 105) #[] #[.pointer (some ⟨g, 0, none⟩)]] w fun e w' => e = .returned (.bool (divB l p)) ∧ w = w' := by
  have HH := Lib.hid (indexDiv_any v l p g w h hr hl hc)
  clear h hc hl
  go_enter Tryd.func104, Tryd.ntmps104
  go_wp2_with fail
  refine HH.out.mono ?_
  rintro e w1 ⟨r, rfl, hr, rfl⟩
  have HR := Lib.hid hr
  clear hr
  go_wp2
  go_ret
  exact ⟨by rw [← HR.out]; rfl, rfl⟩

theorem own_alloc' {w : World} {B t sz n : Nat} {v : Value} {l : List Value} (h : w.ownsRow B t sz v n l) (o : Obj) : (w.alloc o).ownsRow B t sz v n l := h.fr ((Fr.refl (fun _ => False) w).alloc _) (fun _ _ => id)
theorem sl_row' {w : World} {b : Nat} {cs : Array Value} {t : TypeId} {size n : Nat} {xs : List Value} (hb : w.heap[b]? = some (.cells cs t (0, 0))) (hcs : cs.toList = xs) (hn : xs.length = n * size) : Sl w size (.slice (some ⟨b, 0, none⟩) n n) n xs := by
  refine ⟨hn, some ⟨b, 0, none⟩, n, rfl, Nat.le_refl _, fun h => (by cases h), fun i u hu => ⟨b, 0, rfl, ?_⟩⟩
  rw [Nat.zero_add, cell_of_row _ b i cs t _ hb, ← hu, ← hcs, Array.getElem?_toList]

/-- The state of consts' loop: the words laid so far, the primes, the number that is tried. -/
structure ConstRel (w : World) (hl kl sl : List Nat) (q : Nat) (v : Value) (g : Nat) (wr : World) : Prop where
  h : wr.heap[w.heap.size]? = some (.cells (rowZ 8 hl).toArray 145 (0, 0))
  k : wr.heap[w.heap.size + 1]? = some (.cells (rowZ 64 kl).toArray 146 (0, 0))
  p : wr.heap[g]? = some (.cells #[U32 q] 43 (0, 0))
  own : wr.ownsRow (w.heap.size + 2) 43 1 v sl.length (sl.map U32)
  ne : v.ownBlock ≠ some g
  low : w.heap.size + 2 ≤ g
  below : Below w.heap.size w wr
def pOf (ptr : Value) (wr : World) : Nat := match ptr with
  | .pointer (some a) => (intOf ((wr.cell? a).getD undef)).toNat
  | _ => 0
section
variable {w wr w1 : World} {hl kl sl : List Nat} {q g : Nat} {v : Value}
theorem ConstRel.pOf (h : ConstRel w hl kl sl q v g wr) : pOf (.pointer (some ⟨g, 0, none⟩)) wr = q := by
  show (intOf ((wr.cell? ⟨g, 0, none⟩).getD undef)).toNat = q
  rw [cell_of_one h.p]
  simp [U32, intOf]
theorem ConstRel.fr {S : Nat → Prop} (h : ConstRel w hl kl sl q v g wr) (hf : Fr S wr w1) (h1 : ∀ k, S k → w.heap.size + 2 ≤ k ∧ k ≠ g ∧ v.ownBlock ≠ some k) : ConstRel w hl kl sl q v g w1 :=
  ⟨(hf.block _ (lt_of_block h.h) (fun x => by have := (h1 _ x).1; omega)).trans h.h, (hf.block _ (lt_of_block h.k) (fun x => by have := (h1 _ x).1; omega)).trans h.k, (hf.block _ (lt_of_block h.p) (fun x => (h1 _ x).2.1 rfl)).trans h.p,
    h.own.fr hf (fun k hk x => (h1 k x).2.2 hk), h.ne, h.low, h.below.trans (hf.below h.below.size (fun k x => by have := (h1 k x).1; omega))⟩
theorem ConstRel.bel (h : ConstRel w hl kl sl q v g wr) (hb : Below wr.heap.size wr w1) : ConstRel w hl kl sl q v g w1 := h.fr (Fr.of_below (S := fun _ => False) hb) (fun _ x => x.elim)
theorem ConstRel.cellP (h : ConstRel w hl kl sl q v g wr) : wr.cell? ⟨g, 0, none⟩ = some (.int .u32 (q : Int)) := cell_of_one h.p
theorem ConstRel.freeP (h : ConstRel w hl kl sl q v g wr) : wr.frozen? ⟨g, 0, none⟩ = false := free_of_one h.p
theorem ConstRel.cellH (h : ConstRel w hl kl sl q v g wr) (hn : hl.length < 8) : wr.cell? ⟨w.heap.size, hl.length, none⟩ = some (.int .u32 0) := by
  rw [cell_of_row _ _ hl.length _ _ _ h.h, List.getElem?_toArray, rowZ_get 8 hl _ (by omega) hn, List.getD_eq_getElem?_getD, List.getElem?_eq_none (Nat.le_refl _)]; rfl
theorem ConstRel.freeH (h : ConstRel w hl kl sl q v g wr) (i : Nat) : wr.frozen? ⟨w.heap.size, i, none⟩ = false := by simp [World.frozen?, h.h]
theorem ConstRel.cellK (h : ConstRel w hl kl sl q v g wr) (hn : kl.length < 64) : wr.cell? ⟨w.heap.size + 1, kl.length, none⟩ = some (.int .u32 0) := by
  rw [cell_of_row _ _ kl.length _ _ _ h.k, List.getElem?_toArray, rowZ_get 64 kl _ (by omega) hn, List.getD_eq_getElem?_getD, List.getElem?_eq_none (Nat.le_refl _)]; rfl
theorem ConstRel.freeK (h : ConstRel w hl kl sl q v g wr) (i : Nat) : wr.frozen? ⟨w.heap.size + 1, i, none⟩ = false := by simp [World.frozen?, h.k]
theorem ConstRel.setH (h : ConstRel w hl kl sl q v g wr) (hn : hl.length < 8) (x : Nat) : ConstRel w (hl ++ [x]) kl sl q v g (wr.setCell ⟨w.heap.size, hl.length, none⟩ (U32 x)) := by
  have e := heap_setCell_same wr w.heap.size hl.length _ _ (U32 x) h.h
  rw [List.setIfInBounds_toArray, rowZ_set 8 hl x hn] at e
  have hf := Fr.set (S := fun k => k = w.heap.size) (Fr.refl _ wr) w.heap.size hl.length rfl (U32 x)
  refine ⟨e, (hf.block _ (lt_of_block h.k) (by omega)).trans h.k, (hf.block _ (lt_of_block h.p) (by have := h.low; omega)).trans h.p, h.own.fr hf (fun k hk x => by have := (h.own.lt k hk).1; omega), h.ne, h.low, h.below.trans (hf.below h.below.size (fun k x => by omega))⟩
theorem ConstRel.setK (h : ConstRel w hl kl sl q v g wr) (hn : kl.length < 64) (x : Nat) : ConstRel w hl (kl ++ [x]) sl q v g (wr.setCell ⟨w.heap.size + 1, kl.length, none⟩ (U32 x)) := by
  have e := heap_setCell_same wr (w.heap.size + 1) kl.length _ _ (U32 x) h.k
  rw [List.setIfInBounds_toArray, rowZ_set 64 kl x hn] at e
  have hf := Fr.set (S := fun k => k = w.heap.size + 1) (Fr.refl _ wr) (w.heap.size + 1) kl.length rfl (U32 x)
  refine ⟨(hf.block _ (lt_of_block h.h) (by omega)).trans h.h, e, (hf.block _ (lt_of_block h.p) (by have := h.low; omega)).trans h.p, h.own.fr hf (fun k hk x => by have := (h.own.lt k hk).1; omega), h.ne, h.low, h.below.trans (hf.below h.below.size (fun k x => by omega))⟩
theorem ConstRel.bump (h : ConstRel w hl kl sl q v g wr) (y : Nat) : ConstRel w hl kl sl y v wr.heap.size (wr.alloc (.cells #[U32 y] 43)) :=
  have hb : Below wr.heap.size wr (wr.alloc (.cells #[U32 y] 43)) := (Below.refl _ wr).alloc (Nat.le_refl _) _
  have h1 := h.bel hb
  ⟨h1.h, h1.k, heap_alloc_new _ _, h1.own, fun e => by have := (h.own.lt _ e).2; omega, by have := lt_of_block h.p; have := h.low; omega, h1.below⟩
theorem ConstRel.app (h : ConstRel w hl kl sl q v g wr) {x L m : Nat} {v1 : Value} (hL : L = sl.length) (ho : w1.ownsRow (w.heap.size + 2) 43 1 v1 (L + 1) (sl.map U32 ++ [U32 x])) (hf : Fr (fun k => v.ownBlock = some k) wr w1) (hm : wr.heap.size ≤ m) (h3 : v1.ownBlock = v.ownBlock ∨ v1.ownBlock = some m) : ConstRel w hl kl (sl ++ [x]) q v1 g w1 :=
  ⟨(hf.block _ (lt_of_block h.h) (fun e => by have := (h.own.lt _ e).1; omega)).trans h.h, (hf.block _ (lt_of_block h.k) (fun e => by have := (h.own.lt _ e).1; omega)).trans h.k, (hf.block _ (lt_of_block h.p) (fun e => h.ne e)).trans h.p,
    by subst hL; rw [List.length_append, List.map_append]; exact ho, fun e => by
      rcases h3 with h3 | h3
      · rw [h3] at e; exact h.ne e
      · rw [h3] at e; have := lt_of_block h.p; simp at e; omega, h.low, h.below.trans (hf.below h.below.size (fun k e => by have := (h.own.lt _ e).1; omega))⟩
end
def hTo (n : Nat) : List Nat := ((sieve n).take 8).map (fracN · 2)
def kTo (n : Nat) : List Nat := (sieve n).map (fracN · 3)
theorem hTo_length (n : Nat) : (hTo n).length = min 8 (sieve n).length := by simp [hTo]
theorem kTo_length (n : Nat) : (kTo n).length = (sieve n).length := by simp [kTo]
theorem sieve_skip {n : Nat} (h : divB (sieve n) (n + 2) = true) : sieve (n + 1) = sieve n := by
  show (if (sieve n).any (fun q => (n + 2) % q == 0) then _ else _) = _
  unfold divB at h
  rw [if_pos h]
theorem sieve_take {n : Nat} (h : divB (sieve n) (n + 2) = false) : sieve (n + 1) = sieve n ++ [n + 2] := by
  show (if (sieve n).any (fun q => (n + 2) % q == 0) then _ else _) = _
  rw [if_neg (by unfold divB at h; rw [h]; exact Bool.false_ne_true)]
theorem hTo_take {n : Nat} (h : divB (sieve n) (n + 2) = false) (hn : (sieve n).length < 8) : hTo (n + 1) = hTo n ++ [fracN (n + 2) 2] := by
  unfold hTo
  rw [sieve_take h, List.take_of_length_le (by simp; omega), List.take_of_length_le (by omega), List.map_append]; rfl
theorem hTo_stay {n : Nat} (h : divB (sieve n) (n + 2) = false) (hn : 8 ≤ (sieve n).length) : hTo (n + 1) = hTo n := by
  unfold hTo
  rw [sieve_take h, List.take_append_of_le_length hn]
theorem kTo_take {n : Nat} (h : divB (sieve n) (n + 2) = false) : kTo (n + 1) = kTo n ++ [fracN (n + 2) 3] := by
  unfold kTo
  rw [sieve_take h, List.map_append]; rfl

theorem info_state : (Tryd.prog.info? 145).map (·.size) = some 8 := by kernel_rfl
theorem info_w64 : (Tryd.prog.info? 146).map (·.size) = some 64 := by kernel_rfl

theorem hTo_310 : hTo 310 = hInit := rfl
theorem kTo_310 : kTo 310 = kInit := rfl

set_option maxRecDepth 100000 in
set_option maxHeartbeats 8000000 in
theorem consts_any (w : World) :
    Calls Tryd.prog 90 #[] w fun e w' => e = .returned (.tuple #[.agg (hInit.map U32).toArray, .agg (kInit.map U32).toArray]) ∧ Below w.heap.size w w' := by
  obtain ⟨hs, hhs⟩ : ∃ hs, hs = hInit := ⟨_, rfl⟩
  obtain ⟨ks, hks⟩ : ∃ ks, ks = kInit := ⟨_, rfl⟩
  rw [← hhs, ← hks]
  have HHs := Lib.hid hhs
  have HKs := Lib.hid hks
  clear hhs hks
  go_enter Tryd.func90, Tryd.ntmps90
  go_wp2_with fail
  have hw0 : ConstRel w (hTo 0) (kTo 0) (sieve 0) 2 (.slice none 0 0) (w.heap.size + 2) (((w.alloc (.cells (rowZ 8 (hTo 0)).toArray 145)).alloc (.cells (rowZ 64 (kTo 0)).toArray 146)).alloc (.cells #[U32 2] 43)) := by
    have hs1 : (w.alloc (.cells (rowZ 8 (hTo 0)).toArray 145)).heap.size = w.heap.size + 1 := by simp
    have hs2 : ((w.alloc (.cells (rowZ 8 (hTo 0)).toArray 145)).alloc (.cells (rowZ 64 (kTo 0)).toArray 146)).heap.size = w.heap.size + 2 := by simp
    have a0 := heap_alloc_new w (.cells (rowZ 8 (hTo 0)).toArray 145)
    have a1 := heap_alloc_new (w.alloc (.cells (rowZ 8 (hTo 0)).toArray 145)) (.cells (rowZ 64 (kTo 0)).toArray 146)
    have a2 := heap_alloc_new ((w.alloc (.cells (rowZ 8 (hTo 0)).toArray 145)).alloc (.cells (rowZ 64 (kTo 0)).toArray 146)) (.cells #[U32 2] 43)
    rw [hs1] at a1
    rw [hs2] at a2
    exact ⟨(Below.heap_alloc _ _ _ (by simp; omega)).trans ((Below.heap_alloc _ _ _ (by simp)).trans a0), (Below.heap_alloc _ _ _ (by simp)).trans a1, a2, World.ownsRow_nil _ _ _ _, by simp [Value.ownBlock], Nat.le_refl _,
      (((Below.refl _ w).alloc (Nat.le_refl _) _).alloc (by simp) _).alloc (by simp; omega) _⟩
  have HW0 := Lib.hid hw0
  clear hw0
  go_loopw [2, 3, 4] (fun c v ptr wr => ∃ n g : Nat, n ≤ 310 ∧ c = .int .i64 ((sieve n).length : Int) ∧ ptr = .pointer (some ⟨g, 0, none⟩) ∧ ConstRel w (hTo n) (kTo n) (sieve n) (n + 2) v g wr) (fun _ _ ptr wr => 400 - pOf ptr wr)
  case atStart => exact ⟨0, w.heap.size + 2, by omega, rfl, rfl, HW0.out⟩
  case round =>
    obtain ⟨n, g, hn, rfl, rfl, hr⟩ := hrel
    obtain ⟨q, hq⟩ : ∃ q, q = n + 2 := ⟨_, rfl⟩
    rw [← hq] at hr
    have HR := Lib.hid hr
    obtain ⟨L, hL⟩ : ∃ L, L = (sieve n).length := ⟨_, rfl⟩
    have hLe := sieve_le n hn
    rw [← hL] at hLe ⊢
    rcases Nat.lt_or_ge L 64 with hlt | hge
    · have hn9 := sieve_small n (by omega)
      have hq9 : q < 350 := by rw [hq]; omega
      have hq1 : 1 ≤ q := by rw [hq]; omega
      have hpc := hr.cellP
      have HCall := Lib.hid (containsDiv_any u3 (sieve n) q g wr (Sl.own hr.own) (by omega) (fun q hq => by have := sieve_lt n q hq; omega) (cell_of_one hr.p))
      have HLn := Lib.hid hL
      have HPw := Lib.hid (fun k w hk => frac_any q k hk (by omega) (by omega) w)
      have HQ := Lib.hid hq
      clear hr hL hq
      go_wp2_with fail
      refine HCall.out.mono ?_
      rintro e w1 ⟨rfl, rfl⟩
      cases hd : divB (sieve n) q with
      | true =>
        have HD := Lib.hid (show divB (sieve n) (n + 2) = true by rw [← HQ.out]; exact hd)
        clear hd
        go_wp2
        have hnew := HR.out.bump (q + 1)
        have he : (.int .u32 (((q + 1 : Nat)) : Int) : Value) = .int .u32 ((q : Int) + 1) := by go_num
        unfold U32 at hnew
        rw [he] at hnew
        have hp1 := hnew.pOf
        have hp0 := HR.out.pOf
        go_roundw
        case rel =>
          refine ⟨n + 1, _, by omega, by rw [sieve_skip HD.out, ← HLn.out], rfl, ?_⟩
          have e1 : hTo (n + 1) = hTo n := by unfold hTo; rw [sieve_skip HD.out]
          have e2 : kTo (n + 1) = kTo n := by unfold kTo; rw [sieve_skip HD.out]
          rw [e1, e2, sieve_skip HD.out, show n + 1 + 2 = q + 1 by rw [HQ.out]]
          exact hnew
        case measure => rw [hp1, hp0]; omega
      | false =>
        have HD := Lib.hid (show divB (sieve n) (n + 2) = false by rw [← HQ.out]; exact hd)
        have hown0 := own_alloc' HR.out.own (.cells #[.int .u32 (q : Int)] 43)
        rw [← HLn.out] at hown0
        have HOwn := Lib.hid hown0
        have HLit := Lib.hid (show Sl (wr.alloc (.cells #[.int .u32 (q : Int)] 43)) 1 (.slice (some ⟨wr.heap.size, 0, none⟩) 1 1) 1 ([q].map U32) from sl_row' (heap_alloc_new _ _) rfl rfl)
        have HBase := Lib.hid (show w.heap.size + 2 ≤ (wr.alloc (.cells #[.int .u32 (q : Int)] 43)).heap.size by have := lt_of_block HR.out.p; have := HR.out.low; simp; omega)
        clear hd hown0
        go_wp2_with (at_builtin; refine append_u32 rfl (.tmp 12) (.tmp 14) rfl HOwn.out HLit.out rfl rfl (by omega) HBase.out ?_)
        intro aa cc w1 hown hf h3
        have hr1 := (HR.out.bel ((Below.refl _ wr).alloc (Nat.le_refl _) (.cells #[.int .u32 (q : Int)] 43))).app HLn.out hown hf (by simp) h3
        have hpc1 := hr1.cellP
        have HR1 := Lib.hid hr1
        clear hown hf h3 hr1 hpc
        have HE := Lib.hid (show sieve (n + 1) = sieve n ++ [q] by rw [sieve_take HD.out, HQ.out])
        rcases Nat.lt_or_ge L 8 with h8 | h8
        · go_wp2_with fail
          refine (HPw.out 2 _ (by omega)).mono ?_
          rintro e w2 ⟨rfl, hb2⟩
          have hr2 := HR1.out.bel hb2
          have hLh : (hTo n).length = L := by rw [hTo_length, ← HLn.out]; omega
          have hcH := hr2.cellH (by omega)
          have hfH := hr2.freeH L
          rw [hLh] at hcH
          have hr3 := hr2.setH (by omega) (fracN q 2)
          rw [hLh] at hr3
          have HR3 : Hid (ConstRel w (hTo (n + 1)) (kTo n) (sieve n ++ [q]) q (.slice aa (L + 1) cc) g (w2.setCell ⟨w.heap.size, L, none⟩ (.int .u32 (fracN q 2 : Int)))) := Lib.hid (by rw [hTo_take HD.out (by rw [← HLn.out]; exact h8), ← HQ.out]; exact hr3)
          have hpc3 := HR3.out.cellP
          clear hb2 hr2 hr3 hpc1 hLh
          go_wp2_with fail
          refine (HPw.out 3 _ (by omega)).mono ?_
          rintro e w4 ⟨rfl, hb4⟩
          have hr4 := HR3.out.bel hb4
          have hLk : (kTo n).length = L := by rw [kTo_length, ← HLn.out]
          have hcK := hr4.cellK (by omega)
          have hfK := hr4.freeK L
          rw [hLk] at hcK
          have hr5 := hr4.setK (by omega) (fracN q 3)
          rw [hLk] at hr5
          have HR5 : Hid (ConstRel w (hTo (n + 1)) (kTo (n + 1)) (sieve (n + 1)) q (.slice aa (L + 1) cc) g (w4.setCell ⟨w.heap.size + 1, L, none⟩ (.int .u32 (fracN q 3 : Int)))) := Lib.hid (by rw [kTo_take HD.out, ← HQ.out, HE.out]; exact hr5)
          have hpc5 := HR5.out.cellP
          clear hb4 hr4 hr5 hpc3 hLk
          go_wp2
          have hnew := HR5.out.bump (q + 1)
          have he : (.int .u32 (((q + 1 : Nat)) : Int) : Value) = .int .u32 ((q : Int) + 1) := by go_num
          unfold U32 at hnew
          rw [he] at hnew
          have hp1 := hnew.pOf
          have hp0 := HR.out.pOf
          go_roundw
          case rel =>
            refine ⟨n + 1, _, by omega, by rw [HE.out, List.length_append, ← HLn.out]; go_num, rfl, ?_⟩
            rw [show n + 1 + 2 = q + 1 by rw [HQ.out]]
            simpa using hnew
          case measure =>
            rw [show (w4.setCell ⟨w.heap.size + 1, L, none⟩ (.int .u32 (fracN q 3 : Int))).heap.size = w4.heap.size by simp] at hp1
            rw [hp1, hp0]; omega
        · have HR3 : Hid (ConstRel w (hTo (n + 1)) (kTo n) (sieve n ++ [q]) q (.slice aa (L + 1) cc) g w1) := Lib.hid (by rw [hTo_stay HD.out (by rw [← HLn.out]; exact h8)]; exact HR1.out)
          have hpc3 := HR3.out.cellP
          clear hpc1
          go_wp2_with fail
          refine (HPw.out 3 _ (by omega)).mono ?_
          rintro e w4 ⟨rfl, hb4⟩
          have hr4 := HR3.out.bel hb4
          have hLk : (kTo n).length = L := by rw [kTo_length, ← HLn.out]
          have hcK := hr4.cellK (by omega)
          have hfK := hr4.freeK L
          rw [hLk] at hcK
          have hr5 := hr4.setK (by omega) (fracN q 3)
          rw [hLk] at hr5
          have HR5 : Hid (ConstRel w (hTo (n + 1)) (kTo (n + 1)) (sieve (n + 1)) q (.slice aa (L + 1) cc) g (w4.setCell ⟨w.heap.size + 1, L, none⟩ (.int .u32 (fracN q 3 : Int)))) := Lib.hid (by rw [kTo_take HD.out, ← HQ.out, HE.out]; exact hr5)
          have hpc5 := HR5.out.cellP
          clear hb4 hr4 hr5 hpc3 hLk
          go_wp2
          have hnew := HR5.out.bump (q + 1)
          have he : (.int .u32 (((q + 1 : Nat)) : Int) : Value) = .int .u32 ((q : Int) + 1) := by go_num
          unfold U32 at hnew
          rw [he] at hnew
          have hp1 := hnew.pOf
          have hp0 := HR.out.pOf
          go_roundw
          case rel =>
            refine ⟨n + 1, _, by omega, by rw [HE.out, List.length_append, ← HLn.out]; go_num, rfl, ?_⟩
            rw [show n + 1 + 2 = q + 1 by rw [HQ.out]]
            simpa using hnew
          case measure =>
            rw [show (w4.setCell ⟨w.heap.size + 1, L, none⟩ (.int .u32 (fracN q 3 : Int))).heap.size = w4.heap.size by simp] at hp1
            rw [hp1, hp0]; omega
    · obtain rfl : L = 64 := by omega
      have h310 : n = 310 := by
        rcases Nat.lt_or_ge n 310 with h | h
        · have := sieve_mono n 309 (by omega); rw [sieve_309] at this; omega
        · omega
      have HH := Lib.hid (show wr.heap[w.heap.size]? = some (.cells (hs.map U32).toArray 145 (0, 0)) by
        rw [hr.h, h310, hTo_310, rowZ_full 8 _ hInit_length, HHs.out])
      have HK := Lib.hid (show wr.heap[w.heap.size + 1]? = some (.cells (ks.map U32).toArray 146 (0, 0)) by
        rw [hr.k, h310, kTo_310, rowZ_full 64 _ kInit_length, HKs.out])
      have HBe := Lib.hid hr.below
      have HLh := Lib.hid (show (hs.map U32).length = 8 by rw [List.length_map, HHs.out, hInit_length])
      have HLk := Lib.hid (show (ks.map U32).length = 64 by rw [List.length_map, HKs.out, kInit_length])
      clear hr hL h310 hq hn hge hLe
      go_wp2_with fail
      refine wp_region_quiet_lit (by kernel_rfl) (by kernel_rfl) ?_
      refine wpQuiet_load_at rfl 145 (.tmp 0) rfl w.heap.size 0 rfl (hs.map U32) _ (by rintro _ ⟨m, rfl⟩; exact At.of_row (by simpa using HH.out)) Tryd.underlying145 rfl (by rw [info_state, HLh.out]) ?_
      simp only [Act.put, List.setIfInBounds_toArray, List.set_cons_succ, List.set_cons_zero]
      refine wpQuiet_load_at rfl 146 (.tmp 1) rfl (w.heap.size + 1) 0 rfl (ks.map U32) _ (by rintro _ ⟨m, rfl⟩; exact At.of_row (by simpa using HK.out)) Tryd.underlying146 rfl (by rw [info_w64, HLk.out]) ?_
      simp only [Act.put, List.setIfInBounds_toArray, List.set_cons_succ, List.set_cons_zero]
      refine wpQuiet_store_self rfl 145 (.tmp 0) (.tmp 35) rfl w.heap.size rfl (hs.map U32) rfl 145 (by rintro _ ⟨m, rfl⟩; exact HH.out) (U32_one hs) (by rw [info_state, HLh.out]) ?_
      simp only [Act.put]
      refine wpQuiet_store_self rfl 146 (.tmp 1) (.tmp 36) rfl (w.heap.size + 1) rfl (ks.map U32) rfl 146 (by rintro _ ⟨m, rfl⟩; exact HK.out) (U32_one ks) (by rw [info_w64, HLk.out]) ?_
      simp only [Act.put]
      refine wpQuiet_nil ?_
      rintro _ ⟨m, rfl⟩
      go_wp2
      refine bodyPost_ret (results_cell_cell rfl rfl rfl (run_loadVar_at _ w.heap.size 0 _ (hs.map U32) _ (At.of_row (by simpa using HH.out)) Tryd.underlying145 rfl (by rw [info_state, HLh.out]))
        (run_loadVar_at _ (w.heap.size + 1) 0 _ (ks.map U32) _ (At.of_row (by simpa using HK.out)) Tryd.underlying146 rfl (by rw [info_w64, HLk.out]))) rfl ⟨rfl, belowDrewN HBe.out _⟩
end Go.Proofs.YtdmgmpagnmmehaaDoor
