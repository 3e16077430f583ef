/- What an api.Node is, as data; the walks of node's form, by its parts. Nodes in memory: load one, lay one; rows of strings and of pointers. Walks: space.Set, Taken. Walks: mac.Derive; seal.Derive, Seal, Fits, Open. -/
import Derived.Test.YtkbnkdokcmpcgaaGreatDoorB0
import Derived.Test.YtkbnkdokcmpcgaaGreatDoorB5
import Derived.Test.YtkbnkdokcmpcgaaGreatDoorB9
import Derived.Test.YtkbnkdokcmpcgaaGreatDoorB10
import Derived.Test.YtkbnkdokcmpcgaaGreatDoorB12
namespace Go.Proofs.YtkbnkdokcmpcgaaGreatDoor
open Go.RowKit

theorem gload_ptr {ops : Array Oper} {rest : List Oper} {o : Oper} {a : Act} {w : World} {Q : Exit → Act → World → Prop} (hw : Region.wanted o (yielded ops a.tmps) = true) (x : Operand) (ho : o.op = .load 43 x)
    {b off : Nat} (hx : a.eval x = .pointer (some ⟨b, off, none⟩)) {p : Pt} (hc : At w b off p.cells) (hl : p.Wf)
    (hK : wpList Tryz.prog ops Q rest (a.put o.dst (.agg p.arr)) w) : wpList Tryz.prog ops Q (o :: rest) a w :=
  gload_at hw _ x ho b off hx p.cells _ hc Tryz.underlying43 rfl (by rw [info_ptr, hl.len]) hK

structure Nd where
  leaf : Bool
  keys : List ByteArray
  vals : List ByteArray
  kids : List Pt

structure PtsIn (w : World) (v : Value) (ps : List Pt) : Prop where
  sl : Sl w 34 v ps.length (ps.map Pt.cells).flatten
  wf : ∀ p ∈ ps, p.Wf

theorem PtsIn.below {w w' : World} {v : Value} {ps : List Pt} (h : PtsIn w v ps) (hb : Below w.heap.size w w') : PtsIn w' v ps := ⟨h.sl.below hb, h.wf⟩
theorem PtsIn.open {w : World} {v : Value} {ps : List Pt} (h : PtsIn w v ps) : ∃ a cap, v = .slice a ps.length cap ∧ ∀ i (hi : i < ps.length), ∃ b o, a = some ⟨b, o, none⟩ ∧ At w b (o + i * 34) ps[i].cells := by
  obtain ⟨⟨hl, a, cap, rfl, _, _, h4⟩, hwf⟩ := h
  refine ⟨a, cap, rfl, fun i hi => ?_⟩
  have hlen : ∀ l ∈ ps.map Pt.cells, l.length = 34 := by
    intro l hl
    obtain ⟨p, hp, rfl⟩ := List.mem_map.1 hl
    exact (hwf p hp).len
  have hg : ∀ j, j < 34 → (ps.map Pt.cells).flatten[i * 34 + j]? = (ps[i].cells)[j]? := fun j hj => by
    rw [flat_get 34 _ hlen i (by simpa using hi) j hj]; simp
  obtain ⟨b, o, e, _⟩ := h4 (i * 34 + 0) _ (hg 0 (by omega))
  refine ⟨b, o, e, fun j u hu => ?_⟩
  have hj : j < 34 := by
    have := (List.getElem?_eq_some_iff.1 hu).1
    rw [(hwf _ (List.getElem_mem hi)).len] at this
    exact this
  obtain ⟨b', o', e', hc⟩ := h4 (i * 34 + j) u ((hg j hj).trans hu)
  rw [e] at e'
  simp only [Option.some.injEq, Addr.mk.injEq, and_true] at e'
  obtain ⟨rfl, rfl⟩ := e'
  rw [← hc, Nat.add_assoc]

def NdIs (w : World) (arr : Array Value) (n : Nd) : Prop :=
  ∃ vk vv vp, arr = #[.bool n.leaf, vk, vv, vp] ∧ StrsIn w vk n.keys ∧ StrsIn w vv n.vals ∧ PtsIn w vp n.kids
theorem NdIs.below {w w' : World} {arr : Array Value} {n : Nd} (h : NdIs w arr n) (hb : Below w.heap.size w w') : NdIs w' arr n := by
  obtain ⟨vk, vv, vp, h0, h1, h2, h3⟩ := h
  exact ⟨vk, vv, vp, h0, h1.below hb, h2.below hb, h3.below hb⟩

def longB (l : List ByteArray) : Bool := l.any (fun v => decide (96 < v.size))
theorem form1_any (s : ByteArray) (w : World) : Calls Tryz.prog 154 #[.string s] w fun e w' => e = .returned (.bool (decide (96 < s.size))) ∧ w = w' := by
  have e : decide ((96 : Int) < (s.size : Int)) = decide (96 < s.size) := by rw [Bool.eq_iff_iff]; simp only [decide_eq_true_iff]; omega
  go_enter Tryz.func154, Tryz.ntmps154
  go_wp2
  go_ret
  exact ⟨by rw [← e]; rfl, rfl⟩

def IdxPost (b : Bool) (w : World) (e : Ending) (w' : World) : Prop := ∃ r : Int, e = .returned (.int .i64 r) ∧ decide (0 ≤ r) = b ∧ w = w'

set_option maxHeartbeats 1000000 in
theorem indexLong_any (v : Value) (l : List ByteArray) (w : World) (h : StrsIn w v l) (hr : l.length ≤ 140737488351232) :
    Calls Tryz.prog 186 #[v, .func (.func 154) #[] #[]] w (IdxPost (longB l) w) := by
  obtain ⟨a, cap, rfl, hel⟩ := h.open
  have HE := Lib.hid hel
  clear h hel
  go_enter Tryz.func186, Tryz.ntmps186
  go_wp2
  go_loop [8] (fun i => ∃ k : Nat, k ≤ l.length ∧ i = .int .i64 k ∧ ∀ j (hj : j < l.length), j < k → ¬ 96 < l[j].size) (fun i => l.length - (intOf i).toNat)
  case atStart => exact ⟨0, Nat.zero_le _, rfl, fun j _ hj => by omega⟩
  case round =>
    obtain ⟨k, hk, rfl, hz⟩ := hrel
    have HZ := Lib.hid hz
    clear hz
    rcases Nat.lt_or_ge k l.length with hlt | hge
    · obtain ⟨b, o, rfl, hc⟩ := HE.out k hlt
      obtain ⟨s, hs⟩ : ∃ s, s = l[k]'hlt := ⟨_, rfl⟩
      rw [← hs] at hc
      have HS := Lib.hid hs
      clear hs
      go_wp2_with fail
      refine (form1_any s _).mono ?_
      rintro e w1 ⟨rfl, rfl⟩
      by_cases h9 : 96 < s.size
      · rw [decide_eq_true h9]
        have HF := Lib.hid (show longB l = true from List.any_eq_true.2 ⟨s, by rw [HS.out]; exact List.getElem_mem hlt, decide_eq_true h9⟩)
        clear h9
        go_wp2
        go_ret
        exact ⟨k, rfl, by rw [HF.out]; simp, rfl⟩
      · rw [decide_eq_false h9]
        have H9 := Lib.hid h9
        clear h9
        go_wp2
        go_round
        case rel =>
          refine ⟨k + 1, by omega, by go_num, fun j hj hjk => ?_⟩
          rcases Nat.lt_or_ge j k with h | h
          · exact HZ.out j hj h
          · obtain rfl : j = k := by omega
            rw [← HS.out]; exact H9.out
        case measure => simp [intOf]; omega
    · have HF := Lib.hid (show longB l = false from List.any_eq_false.2 fun x hx => by
        obtain ⟨j, hj, rfl⟩ := List.getElem_of_mem hx
        simpa using HZ.out j hj (by omega))
      obtain rfl : k = l.length := by omega
      go_wp2
      go_ret
      exact ⟨-1, rfl, by rw [HF.out]; rfl, rfl⟩

theorem containsLong_any (v : Value) (l : List ByteArray) (w : World) (h : StrsIn w v l) (hr : l.length ≤ 140737488351232) :
    Calls Tryz.prog 155 #[v, .func (.func 154) #[] #[]] w fun e w' => e = .returned (.bool (longB l)) ∧ w = w' := by
  have HH := Lib.hid h
  clear h
  go_enter Tryz.func155, Tryz.ntmps155
  go_wp2_with fail
  refine (indexLong_any v l _ HH.out hr).mono ?_
  rintro e w1 ⟨r, rfl, hr, rfl⟩
  have HR := Lib.hid hr
  clear hr
  go_wp2
  go_ret
  exact ⟨by rw [← HR.out]; rfl, rfl⟩

def kidBad (p : Pt) : Bool := decide (p.addr = 0) || !ptrOk p 4096
def badB (ps : List Pt) : Bool := ps.any kidBad

theorem ptrE_ne (p : Pt) (n : Int) : (ptrE p n != 0) = !ptrOk p n := by
  unfold ptrE
  cases ptrOk p n <;> rfl

set_option maxHeartbeats 1000000 in
theorem form2_any (p : Pt) (w : World) (h : p.Wf) : Calls Tryz.prog 156 #[.agg p.arr] w fun e w' => e = .returned (.bool (kidBad p)) ∧ Below w.heap.size w w' := by
  have HAT := Lib.hid (At_box w p 43)
  have HW := Lib.hid h
  have HB := Lib.hid ((Below.refl _ w).alloc (Nat.le_refl _) (.cells p.arr 43))
  have HN := Lib.hid (fun w => ptrNull_any p w)
  have HE := Lib.hid (ptrE_ne p 4096)
  clear h
  by_cases h0 : p.addr = 0
  · rw [decide_eq_true h0] at HN
    have HQ := Lib.hid (show kidBad p = true by unfold kidBad; simp [h0])
    clear h0
    go_enter Tryz.func156, Tryz.ntmps156
    go_wp2_with (refine load_ptr rfl (.tmp 1) rfl rfl HAT.out HW.out ?_)
    refine (HN.out _).mono ?_
    rintro e w1 ⟨rfl, hb⟩
    have HB1 := Lib.hid (HB.out.trans (hb.mono HB.out.size))
    clear hb
    go_wp2
    go_ret
    exact ⟨by rw [HQ.out]; rfl, HB1.out⟩
  · rw [decide_eq_false h0] at HN
    have HQ := Lib.hid (show kidBad p = !ptrOk p 4096 by unfold kidBad; simp [h0])
    clear h0
    go_enter Tryz.func156, Tryz.ntmps156
    go_wp2_with (refine load_ptr rfl (.tmp 1) rfl rfl HAT.out HW.out ?_)
    refine (HN.out _).mono ?_
    rintro e w1 ⟨rfl, hb⟩
    have HB1 := Lib.hid (HB.out.trans (hb.mono HB.out.size))
    have HAT1 := Lib.hid (HAT.out.fr (Fr.of_below (S := fun _ => False) hb) id)
    clear hb
    go_wp2_with (refine gload_ptr rfl (.tmp 1) rfl rfl HAT1.out HW.out ?_)
    refine (ptrCheck_any p 4096 _ HW.out (by omega)).mono ?_
    rintro e w2 ⟨rfl, hb⟩
    have HB2 := Lib.hid (HB1.out.trans (hb.mono HB1.out.size))
    clear hb
    go_wp2
    go_ret
    exact ⟨by rw [HQ.out, ← HE.out]; rfl, HB2.out⟩

def IdxPostB (b : Bool) (w : World) (e : Ending) (w' : World) : Prop := ∃ r : Int, e = .returned (.int .i64 r) ∧ decide (0 ≤ r) = b ∧ Below w.heap.size w w'

set_option maxHeartbeats 1000000 in
theorem indexBad_any (v : Value) (ps : List Pt) (w : World) (h : PtsIn w v ps) (hr : ps.length ≤ 140737488351232) :
    Calls Tryz.prog 187 #[v, .func (.func 156) #[] #[]] w (IdxPostB (badB ps) w) := by
  have HWf := Lib.hid h.wf
  obtain ⟨a, cap, rfl, hel⟩ := h.open
  have HE := Lib.hid hel
  clear h hel
  go_enter Tryz.func187, Tryz.ntmps187
  go_wp2
  go_loopw [8, 5] (fun i u wr => ∃ k : Nat, k ≤ ps.length ∧ i = .int .i64 k ∧ (∀ j (hj : j < ps.length), j < k → kidBad ps[j] = false) ∧ Below w.heap.size w wr) (fun i _ _ => ps.length - (intOf i).toNat)
  case atStart => exact ⟨0, Nat.zero_le _, rfl, fun j _ hj => by omega, Below.refl _ _⟩
  case round =>
    obtain ⟨k, hk, rfl, hz, hb⟩ := hrel
    have HZ := Lib.hid hz
    have HB := Lib.hid hb
    clear hz hb
    rcases Nat.lt_or_ge k ps.length with hlt | hge
    · obtain ⟨b, o, rfl, hat⟩ := HE.out k hlt
      obtain ⟨p, hp⟩ : ∃ p, p = ps[k]'hlt := ⟨_, rfl⟩
      rw [← hp] at hat
      have HP := Lib.hid hp
      have HW := Lib.hid (show p.Wf by rw [hp]; exact HWf.out _ (List.getElem_mem hlt))
      have HAT := Lib.hid (fun i u hu => (Below.cell HB.out (p := ⟨b, o + k * 34 + i, none⟩) (World.block_lt_of_cell? w ⟨b, o + k * 34 + i, none⟩ (hat i u hu))).trans (hat i u hu) : At wr b (o + k * 34) p.cells)
      clear hp hat
      go_wp2_with (refine load_ptr rfl (.tmp 14) rfl rfl HAT.out HW.out ?_)
      refine (form2_any p _ HW.out).mono ?_
      rintro e w1 ⟨rfl, hb1⟩
      have HB1 := Lib.hid (HB.out.trans (hb1.mono HB.out.size))
      clear hb1
      cases h9 : kidBad p with
      | true =>
        have HF := Lib.hid (show badB ps = true from List.any_eq_true.2 ⟨p, by rw [HP.out]; exact List.getElem_mem hlt, h9⟩)
        clear h9
        go_wp2
        go_ret
        exact ⟨k, rfl, by rw [HF.out]; simp, HB1.out⟩
      | false =>
        have H9 := Lib.hid h9
        clear h9
        go_wp2
        go_roundw
        case rel =>
          refine ⟨k + 1, by omega, by go_num, fun j hj hjk => ?_, HB1.out⟩
          rcases Nat.lt_or_ge j k with h | h
          · exact HZ.out j hj h
          · obtain rfl : j = k := by omega
            rw [← HP.out]; exact H9.out
        case measure => simp [intOf]; omega
    · have HF := Lib.hid (show badB ps = false from List.any_eq_false.2 fun x hx => by
        obtain ⟨j, hj, rfl⟩ := List.getElem_of_mem hx
        simpa using HZ.out j hj (by omega))
      obtain rfl : k = ps.length := by omega
      go_wp2
      go_ret
      exact ⟨-1, rfl, by rw [HF.out]; rfl, HB.out⟩

theorem containsBad_any (v : Value) (ps : List Pt) (w : World) (h : PtsIn w v ps) (hr : ps.length ≤ 140737488351232) :
    Calls Tryz.prog 157 #[v, .func (.func 156) #[] #[]] w fun e w' => e = .returned (.bool (badB ps)) ∧ Below w.heap.size w w' := by
  have HH := Lib.hid h
  clear h
  go_enter Tryz.func157, Tryz.ntmps157
  go_wp2_with fail
  refine (indexBad_any v ps _ HH.out hr).mono ?_
  rintro e w1 ⟨r, rfl, hr, hb⟩
  have HR := Lib.hid hr
  have HB := Lib.hid hb
  clear hr hb
  go_wp2
  go_ret
  exact ⟨by rw [← HR.out]; rfl, HB.out⟩

end Go.Proofs.YtkbnkdokcmpcgaaGreatDoor
namespace Go.Proofs.YtkbnkdokcmpcgaaGreatDoor
open Go.RowKit

theorem Sl_row {w : World} {b : Nat} {cs : Array Value} {t : TypeId} {size n : Nat} {xs : List Value} (hb : w.heap[b]? = some (.cells cs t (0, 0))) (hcs : cs.toList = xs) (hn : xs.length = n * size) : Sl w size (.slice (some ⟨b, 0, none⟩) n n) n xs := by
  refine ⟨hn, some ⟨b, 0, none⟩, n, rfl, Nat.le_refl _, fun h => (by cases h), fun i u hu => ⟨b, 0, rfl, ?_⟩⟩
  rw [Nat.zero_add, cell_of_row _ b i cs t _ hb, ← hu, ← hcs, Array.getElem?_toList]

theorem Below_drewN {B : Nat} {a w : World} (h : Below B a w) (n : Nat) : Below B a (w.drewN n) := h.trans ⟨rfl, rfl, rfl, Nat.le_refl _, fun _ _ => rfl⟩
theorem info_nd : (Tryz.prog.info? 25).map (·.size) = some 4 := by kernel_rfl
theorem load_nd {ops : Array Oper} {rest : List Oper} {o : Oper} {a : Act} {w : World} {Q : Exit → Act → World → Prop} (hgd : o.guard = none) (x : Operand) (ho : o.op = .load 25 x)
    {b off : Nat} (hx : a.eval x = .pointer (some ⟨b, off, none⟩)) {arr : Array Value} (hc : At w b off arr.toList) (hl : arr.size = 4)
    (hK : wpList Tryz.prog ops Q rest (a.put o.dst (.agg arr)) w) : wpList Tryz.prog ops Q (o :: rest) a w :=
  wpList_load_at hgd _ x ho b off hx arr.toList _ hc Tryz.underlying25 rfl (by rw [info_nd, Array.length_toList, hl]) hK
theorem gload_nd {ops : Array Oper} {rest : List Oper} {o : Oper} {a : Act} {w : World} {Q : Exit → Act → World → Prop} (hw : Region.wanted o (yielded ops a.tmps) = true) (x : Operand) (ho : o.op = .load 25 x)
    {b off : Nat} (hx : a.eval x = .pointer (some ⟨b, off, none⟩)) {arr : Array Value} (hc : At w b off arr.toList) (hl : arr.size = 4)
    (hK : wpList Tryz.prog ops Q rest (a.put o.dst (.agg arr)) w) : wpList Tryz.prog ops Q (o :: rest) a w :=
  gload_at hw _ x ho b off hx arr.toList _ hc Tryz.underlying25 rfl (by rw [info_nd, Array.length_toList, hl]) hK

theorem NdIs.size {w : World} {arr : Array Value} {n : Nd} (h : NdIs w arr n) : arr.size = 4 := by
  obtain ⟨_, _, _, rfl, _⟩ := h
  rfl
theorem At_nd {w : World} {b : Nat} {arr : Array Value} {t : TypeId} (hb : w.heap[b]? = some (.cells arr t (0, 0))) : At w b 0 arr.toList := At.of_row (by simpa using hb)

end Go.Proofs.YtkbnkdokcmpcgaaGreatDoor
namespace Go.Proofs.YtkbnkdokcmpcgaaGreatDoor
open Go.RowKit

theorem ofL_succ (l : List Nat) (i a : Nat) (h : l[i]? = some a) : ofL (l.take (i + 1)) = updT (ofL (l.take i)) a true := by
  have hi : i < l.length := (List.getElem?_eq_some_iff.1 h).1
  have ea : l[i] = a := (List.getElem?_eq_some_iff.1 h).2
  funext c
  unfold ofL updT
  rw [List.take_succ_eq_append_getElem hi, ea]
  by_cases e : c = a
  · rw [if_pos e, e]; simp
  · rw [if_neg e]; simp [e]
theorem U32_one' (l : List Nat) : ∀ u ∈ l.map U32, u.oneCell' = true := by
  intro u hu
  obtain ⟨_, _, rfl⟩ := List.mem_map.1 hu
  rfl

def StPost (w : World) (S W size : Nat) (l : List Nat) (e : Ending) (w' : World) : Prop :=
  ((∀ a ∈ l, 2 ≤ a ∧ a < size) → e = .returned (.int .i64 0) ∧ SpAt w' S W size (ofL l) ∧ Fr (fun k => k = S ∨ k = W) w w') ∧ (¬ (∀ a ∈ l, 2 ≤ a ∧ a < size) → e = .returned (.int .i64 2) ∧ w = w')

theorem infoZ_u32 : (Tryz.prog.info? 41).map (fun i => (i.zero, i.size, i.bytes)) = some (some (.int .u32 0), 1, 4) := by kernel_rfl
theorem appendZ_u32 {w : World} {ops : Array Oper} {rest : List Oper} {o : Oper} {a : Act} {Q : Exit → Act → World → Prop} (hgd : o.guard = none) (s x : Operand)
    (ho : o.op = .call { callee := .builtin .append, args := #[s, x], argTypes := #[54, 54] })
    {base : Nat} {v : Value} {n : Nat} {xs : List Nat} (hown : w.ownsRow base 41 1 v n (xs.map U32)) {vx : Value} {m : Nat} {news : List Nat} (hx : Sl w 1 vx m (news.map U32))
    (hs : a.eval s = v) (hxe : a.eval x = vx) (hr : n + m ≤ 1000000000) (hbase : base ≤ w.heap.size)
    (h : ∀ aa cc w', w'.ownsRow base 41 1 (.slice aa (n + m) cc) (n + m) ((xs ++ news).map U32) → Fr (fun k => v.ownBlock = some k) w w' → ((Value.slice aa (n + m) cc).ownBlock = v.ownBlock ∨ (Value.slice aa (n + m) cc).ownBlock = some w.heap.size) →
      wpList Tryz.prog ops Q rest (a.put o.dst (.slice aa (n + m) cc)) w') : wpList Tryz.prog ops Q (o :: rest) a w := by
  obtain ⟨i0, hi, hz0, hz1, hz2⟩ := info_parts infoZ_u32
  refine wpList_append_sl hgd s x 54 ho base 41 i0 (.int .u32 0) 1 4 Tryz.underlying54 hi hz0 hz1 hz2 rfl (by decide) v n _ hs hown vx m _ hxe hx (U32_one' _) (by unfold maxLen; omega) (by omega) hbase ?_
  intro aa cc w' h2 hg h3
  rw [← List.map_append] at h2
  exact h aa cc w' h2 ((Fr.refl _ w).grown hg (fun k hk => Or.inl hk)) h3

theorem listT_succ (t : Nat → Bool) (n : Nat) : listT t (n + 1) = listT t n ++ if t n then [n] else [] := by
  unfold listT
  rw [List.range_succ, List.filter_append]
  cases h : t n <;> simp [h]
theorem listT_skip (t : Nat → Bool) (n : Nat) : ∀ d, (∀ j, j < d → t (n + j) = false) → listT t (n + d) = listT t n
  | 0, _ => rfl
  | d + 1, h => by rw [← Nat.add_assoc, listT_succ, h d (by omega), listT_skip t n d (fun j hj => h j (by omega))]; simp
theorem listT_length (t : Nat → Bool) (n : Nat) : (listT t n).length = cntT t n := rfl
theorem listT_size {t : Nat → Bool} {size : Nat} (h : TOk size t) (n : Nat) (hn : size ≤ n) : listT t n = listT t size := by
  have := listT_skip t size (n - size) (fun j _ => by
    cases ht : t (size + j) with
    | false => rfl
    | true => have := (h _ ht).2; omega)
  rwa [show size + (n - size) = n by omega] at this

theorem drop_bit (y : Nat) (h0 : y ≠ 0) (h : y < 2 ^ 64) : y &&& (y - 1) < y ∧ ∀ j, (y &&& (y - 1)).testBit j = (decide (Lib.ctz 64 y < j) && y.testBit j) := by
  unfold Lib.ctz
  rw [if_neg h0]
  obtain ⟨m, hm, hk⟩ := Lib.ctzFrom_spec 64 y (Nat.pos_of_ne_zero h0) h
  obtain ⟨k, hkk⟩ : ∃ k, k = Lib.ctzFrom 64 y := ⟨_, rfl⟩
  rw [← hkk] at hm hk ⊢
  have hp : 0 < 2 ^ k := Nat.two_pow_pos k
  have hbit : ∀ j, (y &&& (y - 1)).testBit j = (decide (k < j) && y.testBit j) := by
    intro j
    have e1 : y - 1 = 2 ^ k * (2 * m) + (2 ^ k - 1) := by rw [hm, Nat.mul_add, Nat.mul_one]; omega
    rw [Nat.testBit_and, e1, Nat.testBit_two_pow_mul_add _ (by omega : 2 ^ k - 1 < 2 ^ k), Nat.testBit_two_pow_sub_one]
    rcases Nat.lt_trichotomy j k with hj | hj | hj
    · rw [if_pos hj, hm, Nat.testBit_two_pow_mul]; simp [Nat.not_le.2 hj, show ¬ k < j by omega]
    · subst hj
      rw [if_neg (by omega), Nat.sub_self]; simp [Nat.testBit_zero]
    · rw [if_neg (by omega), hm, Nat.testBit_two_pow_mul]
      obtain ⟨d, rfl⟩ : ∃ d, j = k + d + 1 := ⟨j - k - 1, by omega⟩
      rw [show k + d + 1 - k = d + 1 by omega, Nat.testBit_succ, Nat.testBit_succ]
      rw [show 2 * m / 2 = m by omega, show (2 * m + 1) / 2 = m by omega]
      simp [show k ≤ k + d + 1 by omega, show k < k + d + 1 by omega]
  refine ⟨?_, hbit⟩
  apply Nat.lt_of_le_of_ne Nat.and_le_left
  intro e
  have := hbit k
  rw [e, hm, Nat.testBit_two_pow_mul] at this
  simp at this

set_option maxRecDepth 100000 in
set_option maxHeartbeats 2000000 in
theorem spTaken_any (S W size : Nat) (t : Nat → Bool) (w : World) (h : SpAt w S W size t) (hT : Tz w) :
    Calls Tryz.prog 89 #[.pointer (some ⟨S, 0, none⟩)] w fun e w' => ∃ aa cc, e = .returned (.slice aa (cntT t size) cc) ∧ w'.ownsRow w.heap.size 41 1 (.slice aa (cntT t size) cc) (cntT t size) ((listT t size).map U32) ∧ Below w.heap.size w w' := by
  obtain ⟨ws, hws, hW, c1, -, -, -, -, -⟩ := h.parts (a := 2) (by have := h.2.1; omega)
  have hle := h.2.2.1
  obtain ⟨nw, hnw⟩ : ∃ n, n = (size + 63) / 64 := ⟨_, rfl⟩
  rw [← hnw] at c1
  have hn64 : nw ≤ 64 := by omega
  have HN := Lib.hid hnw
  have HWs := Lib.hid hws
  have HW := Lib.hid hW
  have HH := Lib.hid h
  have HT := Lib.hid hT
  clear hnw hws hW h hT
  go_enter Tryz.func89, Tryz.ntmps89
  go_wp2_with fail
  go_loopw [12, 2, 3, 4] (fun ii v _ _ wr => ∃ (i m : Nat), i ≤ nw ∧ ii = .int .i64 i ∧ m = cntT t (64 * i) ∧ (∃ a c, v = .slice a m c) ∧ wr.ownsRow w.heap.size 41 1 v m ((listT t (64 * i)).map U32) ∧ Below w.heap.size w wr) (fun ii _ _ _ _ => nw - (intOf ii).toNat)
  case atStart => exact ⟨0, 0, Nat.zero_le _, rfl, rfl, ⟨_, _, rfl⟩, World.ownsRow_nil _ _ _ _, Below.refl _ _⟩
  case round =>
    obtain ⟨i, m, hi, rfl, hm, ⟨av, cv, rfl⟩, ho, hb⟩ := hrel
    have HO := Lib.hid ho
    have HB := Lib.hid hb
    have HM := Lib.hid hm
    clear ho hb hm
    rcases Nat.lt_or_ge i nw with hlt | hge
    · have cw : wr.cell? ⟨W, i, none⟩ = some (.int .u64 (ws.getD i 0 : Int)) := by
        rw [HB.out.cell (p := ⟨W, i, none⟩) (lt_of_block HW.out), cell_of_row _ _ _ _ _ _ HW.out, List.getElem?_toArray, List.getElem?_map, getD_idx (by rw [HWs.out.1, ← HN.out]; exact hlt)]; rfl
      have hbit := fun j hj => HWs.out.2.2 i j (by rw [HWs.out.1, ← HN.out]; exact hlt) hj
      have hx := getD_lt HWs.out i
      obtain ⟨x, hxx⟩ : ∃ x, x = ws.getD i 0 := ⟨_, rfl⟩
      rw [← hxx] at cw hbit hx
      have HBit := Lib.hid hbit
      have HX := Lib.hid hx
      clear hxx hbit hx
      go_wp2_with fail
      obtain ⟨wo, hwo⟩ : ∃ wo : World, wo = wr := ⟨_, rfl⟩
      rw [← hwo] at HO HB cw ⊢
      clear hwo cw
      go_loopw [4, 2] (fun yy v wr => ∃ (p y m : Nat), p ≤ 64 ∧ y < 2 ^ 64 ∧ yy = .int .u64 y ∧ (∀ j, j < 64 → y.testBit j = (decide (p ≤ j) && t (64 * i + j))) ∧ m = cntT t (64 * i + p) ∧ (∃ a c, v = .slice a m c) ∧ wr.ownsRow w.heap.size 41 1 v m ((listT t (64 * i + p)).map U32) ∧ Below w.heap.size w wr) (fun yy _ _ => (intOf yy).toNat)
      case atStart => exact ⟨0, x, m, by omega, HX.out, rfl, fun j hj => by rw [HBit.out j hj]; simp, HM.out, ⟨_, _, rfl⟩, HO.out, HB.out⟩
      case round =>
        clear HO HB HM HBit HX
        obtain ⟨p, y, m, hp, hy, rfl, hbit, hm, ⟨av, cv, rfl⟩, ho, hb⟩ := hrel
        have HO := Lib.hid ho
        have HB := Lib.hid hb
        have HM := Lib.hid hm
        have HBit := Lib.hid hbit
        have HY := Lib.hid hy
        clear ho hb hm hbit hy
        rcases Nat.eq_zero_or_pos y with hy0 | hy0
        · have bz : ((y : Int) != 0) = false := by simp [hy0]
          have hfull : listT t (64 * i + 64) = listT t (64 * i + p) := by
            have := listT_skip t (64 * i + p) (64 - p) (fun j hj => by
              have := HBit.out (p + j) (by omega)
              rw [hy0, Nat.zero_testBit] at this
              simp only [show p ≤ p + j by omega, decide_true, Bool.true_and] at this
              rw [Nat.add_assoc]; exact this.symm)
            rwa [show 64 * i + p + (64 - p) = 64 * i + 64 by omega] at this
          have HFull := Lib.hid hfull
          clear hfull hy0
          go_wp2_with fail
          refine ⟨⟨i + 1, m, by omega, by go_num, ?_, ⟨_, _, rfl⟩, ?_, HB.out⟩, by simp [intOf]; omega⟩
          · rw [HM.out, ← listT_length, ← listT_length, ← HFull.out]; rfl
          · rw [show 64 * (i + 1) = 64 * i + 64 by omega, HFull.out]; exact HO.out
        · have bz : ((y : Int) != 0) = true := by simp; omega
          obtain ⟨hk64, hk1, hk0⟩ := ctz_spec y (by omega) HY.out
          obtain ⟨hdl, hdb⟩ := drop_bit y (by omega) HY.out
          have htz := fun u hu => tz_any y HY.out u hu
          obtain ⟨k, hk⟩ : ∃ k, k = Lib.ctz 64 y := ⟨_, rfl⟩
          rw [← hk] at htz hk64 hk1 hk0 hdb
          have hkb := HBit.out k hk64
          rw [hk1] at hkb
          have hkb2 := (Bool.and_eq_true_iff.1 hkb.symm)
          have hpk : p ≤ k := by simpa using hkb2.1
          have hlist : listT t (64 * i + (k + 1)) = listT t (64 * i + p) ++ [64 * i + k] := by
            have := listT_skip t (64 * i + p) (k - p) (fun j hj => by
              have h1 := HBit.out (p + j) (by omega)
              rw [hk0 _ (by omega)] at h1
              simp only [show p ≤ p + j by omega, decide_true, Bool.true_and] at h1
              rw [Nat.add_assoc]; exact h1.symm)
            rw [show 64 * i + p + (k - p) = 64 * i + k by omega] at this
            rw [← Nat.add_assoc, listT_succ, hkb2.2, this]; rfl
          have hand := u64_and_nat y (y - 1) HY.out (by have := HY.out; omega)
          obtain ⟨z, hz⟩ : ∃ z, z = y &&& (y - 1) := ⟨_, rfl⟩
          rw [← hz] at hdl hdb hand
          rw [show ((y - 1 : Nat) : Int) = (y : Int) - 1 by omega] at hand
          have hor := i64_or_nat (64 * i) k (by omega) (by omega)
          rw [or64 i k hk64] at hor
          obtain ⟨a, ha⟩ : ∃ a, a = 64 * i + k := ⟨_, rfl⟩
          have hal : a < 4294967296 := by omega
          rw [← ha] at hor hlist
          have HOr := Lib.hid (show bits .or .i64 ((i : Int) * 64) (k : Int) % 4294967296 = (a : Int) by rw [show (i : Int) * 64 = ((64 * i : Nat) : Int) by omega, hor]; omega)
          have HList := Lib.hid hlist
          have HZ := Lib.hid (show ∀ j, j < 64 → z.testBit j = (decide (k + 1 ≤ j) && t (64 * i + j)) from fun j hj => by
            rw [hdb j, HBit.out j hj]
            by_cases hc : k < j
            · simp [hc, show p ≤ j by omega, show k + 1 ≤ j by omega]
            · simp [hc, show ¬ k + 1 ≤ j by omega])
          have HTz := Lib.hid (htz wr (HT.out.below HB.out))
          have HMl := Lib.hid (show m ≤ 4096 + 64 by
            rw [HM.out]
            have := cntT_le t (64 * i + p)
            omega)
          have HDl := Lib.hid hdl
          have HAnd := Lib.hid hand
          clear htz hk hk1 hk0 hdb hkb hkb2 hlist hz hor ha hand hdl
          have hyb : y < 18446744073709551616 := HY.out
          have HSl := Lib.hid (show Sl (wr.alloc (.cells #[.int .u32 (bits .or .i64 ((i : Int) * 64) (k : Int) % 4294967296)] 41)) 1 (.slice (some ⟨wr.heap.size, 0, none⟩) 1 1) 1 ([a].map U32) from
            Sl_row (heap_alloc_new _ _) (by rw [HOr.out]; rfl) rfl)
          have hszb := HB.out.size
          go_wp2_with fail
          refine HTz.out.mono ?_
          rintro e w3 ⟨rfl, rfl⟩
          go_wp2_with (refine appendZ_u32 rfl (.tmp 23) (.tmp 30) rfl (HO.out.alloc _) HSl.out rfl rfl (by have := HMl.out; omega) (by simp; omega) ?_; intro aa cc w4 hown4 hf4 _; have HO4 := Lib.hid hown4; have HF4 := Lib.hid hf4; clear hown4 hf4)
          rw [HAnd.out]
          refine ⟨⟨k + 1, z, m + 1, by omega, by have := HDl.out; have := HY.out; omega, rfl, HZ.out, ?_, ⟨_, _, rfl⟩, ?_, ?_⟩, ?_⟩
          · rw [HM.out, ← listT_length, ← listT_length, HList.out, List.length_append]; rfl
          · rw [HList.out]; exact HO4.out
          · have ha := HB.out.alloc (o := .cells #[.int .u32 (bits .or .i64 ((i : Int) * 64) (k : Int) % 4294967296)] 41) HB.out.size
            exact ha.trans (HF4.out.below ha.size (fun b hb => (HO.out.lt b hb).1))
          · simp [intOf]; have := HDl.out; omega
    · obtain rfl : i = nw := by omega
      have hsz := HN.out
      have e1 := listT_size HH.out.2.2.2.1 (64 * i) (by omega)
      have e2 : m = cntT t size := by rw [HM.out, ← listT_length, e1, listT_length]
      subst e2
      have ho := HO.out
      rw [e1] at ho
      have HO2 := Lib.hid ho
      clear ho e1 hsz HO
      go_wp2
      go_ret
      exact ⟨_, _, rfl, HO2.out, HB.out⟩

end Go.Proofs.YtkbnkdokcmpcgaaGreatDoor
namespace Go.Proofs.YtkbnkdokcmpcgaaGreatDoor
open Go.RowKit

theorem sl_bytesWorld (w : World) (s : ByteArray) : Sl (Lib.bytesWorld w 5 s) 1 (.slice (some ⟨w.heap.size, 0, none⟩) s.size (grownCap w s.size 0 5)) s.data.toList.length (s.data.toList.map Bv) := by
  have hsz : s.data.toList.length = s.size := by simp
  refine ⟨by simp, some ⟨w.heap.size, 0, none⟩, _, by rw [hsz], by rw [hsz]; exact grownCap_ge _ _ _ _, fun h => (by cases h), fun i u hu => ⟨w.heap.size, 0, rfl, ?_⟩⟩
  rw [List.getElem?_map] at hu
  cases hq : s.data.toList[i]? with
  | none => rw [hq] at hu; cases hu
  | some x =>
    rw [hq] at hu
    obtain rfl := Option.some.inj hu
    have hi : i < s.size := by
      have := (List.getElem?_eq_some_iff.1 hq).1
      simpa using this
    rw [Nat.zero_add, Lib.bytesWorld_cell w _ s i hi, List.getD_eq_getElem?_getD, hq]; rfl

theorem conv_str {ops : Array Oper} {rest : List Oper} {o : Oper} {a : Act} {w : World} {Q : Exit → Act → World → Prop} (hgd : o.guard = none) (x : Operand) (ho : o.op = .convert 9 26 x) {s : ByteArray} (hx : a.eval x = .string s)
    (hK : ∀ w' C, Sl w' 1 (.slice (some ⟨w.heap.size, 0, none⟩) s.size C) s.data.toList.length (s.data.toList.map Bv) → Below w.heap.size w w' → wpList Tryz.prog ops Q rest (a.put o.dst (.slice (some ⟨w.heap.size, 0, none⟩) s.size C)) w') : wpList Tryz.prog ops Q (o :: rest) a w := by
  refine wpList_plain hgd fun K hKK => ?_
  unfold Oper.wp execOp
  simp only [ho, hx, Sem.run_bind, Lib.run_convert_string_bytes (P := Tryz.prog) w 9 26 5 s Tryz.underlying9 Tryz.underlying26 Tryz.underlying5, Result.andThen_ok]
  exact hKK _ _ (hK _ _ (sl_bytesWorld w s) ⟨rfl, rfl, rfl, by rw [Lib.bytesWorld_size]; omega, fun j hj => Lib.bytesWorld_at_old _ _ s j hj⟩)

set_option maxRecDepth 100000 in
set_option maxHeartbeats 1000000 in
theorem derive1_any (vk : Value) (key : List UInt8) (s : ByteArray) (w : World) (hk : Sl w 1 vk key.length (key.map Bv)) (hr : key.length ≤ 140737488351232) (hs : s.size ≤ 100) :
    Calls Tryz.prog 65 #[vk, .string s] w fun e w' => e = .returned (.agg ((macN key s.data.toList).map Bv).toArray) ∧ Below w.heap.size w w' := by
  have HB1 := Lib.hid (show Below w.heap.size w (w.alloc (.cells ((zB 32).map Bv).toArray 33)) from (Below.refl _ w).alloc (Nat.le_refl _) _)
  have HZ1 := Lib.hid (heap_alloc_new w (.cells ((zB 32).map Bv).toArray 33))
  have HK := Lib.hid hk
  have hsl : s.data.toList.length = s.size := by simp
  have HSl := Lib.hid (show s.data.toList.length + 64 ≤ 140737488351232 by omega)
  clear hk hsl
  go_enter Tryz.func65, Tryz.ntmps65
  go_wp2_with (refine conv_str rfl (.tmp 6) rfl rfl ?_; intro w2 C hsl2 hb2)
  rw [World.size_alloc] at hsl2 hb2
  have hm := mac_any vk _ key s.data.toList w2 (HK.out.below (HB1.out.trans (hb2.mono (by simp)))) hsl2 hr HSl.out
  obtain ⟨hv, hhv⟩ : ∃ hv, hv = macN key s.data.toList := ⟨_, rfl⟩
  rw [← hhv] at hm
  have HHl := Lib.hid (show hv.length = 32 by rw [hhv]; exact macN_length _ _)
  have HHv := Lib.hid hhv
  have HM := Lib.hid hm
  have HZ2 := Lib.hid ((hb2.block _ (by simp)).trans HZ1.out)
  have HB2 := Lib.hid (HB1.out.trans (hb2.mono (by simp)))
  clear hm hhv hsl2 hb2 HK HB1 HZ1
  go_wp2_with fail
  refine HM.out.mono ?_
  rintro e w3 ⟨rfl, hb3⟩
  have HZ3 := Lib.hid ((hb3.block _ (lt_of_block HZ2.out)).trans HZ2.out)
  have HB3 := Lib.hid (HB2.out.trans (hb3.mono HB2.out.size))
  clear hb3 HM HZ2 HB2
  go_wp2_with (refine store_hash rfl (.tmp 4) (.tmp 8) rfl rfl rfl HZ3.out rfl HHl.out ?_; intro w5 hg5 hf5)
  exact bodyPost_ret (ret_hash1 rfl rfl hg5 HHl.out) rfl ⟨by rw [HHv.out], HB3.out.trans (hf5.below HB3.out.size (fun j hj => by omega))⟩

def keysOf (master : List UInt8) : List UInt8 := macN master [101, 110, 99] ++ macN master [109, 97, 99]
theorem keysOf_length (m : List UInt8) : (keysOf m).length = 64 := by simp [keysOf, macN_length]
theorem keysOf_take (m : List UInt8) : (keysOf m).take 32 = macN m [101, 110, 99] := by unfold keysOf; rw [List.take_left' (macN_length _ _)]
theorem info_keys : (Tryz.prog.info? 35).map (·.size) = some 64 := by kernel_rfl
theorem und_keys : Tryz.prog.underlying 35 = some (.struct (Tryz.prog.fieldsOf 35)) := by
  unfold Program.fieldsOf; rw [Tryz.underlying35]
theorem zero_keys (w : World) : (zeroValue 35).run Tryz.prog w = .ok (.agg ((zB 64).map Bv).toArray) w := by kernel_rfl
theorem places_keys (w : World) : (placesOf (Tryz.prog.fieldsOf 35)).run Tryz.prog w = .ok #[(0, 32), (32, 32)] w := by kernel_rfl
theorem build_keys {ops : Array Oper} {rest : List Oper} {o : Oper} {a : Act} {w : World} {Q : Exit → Act → World → Prop} (hgd : o.guard = none) (x y : Operand) (ho : o.op = .build 35 #[(0, x), (1, y)])
    {h1 h2 : List UInt8} (hx : a.eval x = .agg (h1.map Bv).toArray) (hy : a.eval y = .agg (h2.map Bv).toArray) (l1 : h1.length = 32) (l2 : h2.length = 32)
    (hK : wpList Tryz.prog ops Q rest (a.put o.dst (.agg ((h1 ++ h2).map Bv).toArray)) w) : wpList Tryz.prog ops Q (o :: rest) a w := by
  have e1 : (h1.map Bv).toArray.size = 32 := by simp [l1]
  have e2 : (h2.map Bv).toArray.size = 32 := by simp [l2]
  refine build_first hgd 35 _ ho [.agg (h1.map Bv).toArray, .agg (h2.map Bv).toArray] (by simp [hx, hy]) _ und_keys _ (zero_keys w) _ (places_keys w) ?_ ?_ ?_
  · simp only [List.map_cons, List.map_nil, Value.cells, e1, e2]; exact ⟨[], rfl⟩
  · simp only [List.map_cons, List.map_nil, Value.cells, e1, e2]; decide
  · simp only [List.map_cons, List.map_nil, Value.cells, e1, e2]
    rw [show (((zB 64).map Bv).toArray.toList.drop (sumL [32, 32])) = [] from rfl, List.append_nil]
    simpa [flatL, Value.cells] using hK

set_option maxRecDepth 100000 in
set_option maxHeartbeats 1000000 in
theorem derive_any (vk : Value) (key : List UInt8) (w : World) (hk : Sl w 1 vk key.length (key.map Bv)) (hr : key.length ≤ 140737488351232) :
    Calls Tryz.prog 20 #[vk] w fun e w' => e = .returned (.agg ((keysOf key).map Bv).toArray) ∧ Below w.heap.size w w' := by
  have HB1 := Lib.hid (show Below w.heap.size w (w.alloc (.cells ((zB 64).map Bv).toArray 35)) from (Below.refl _ w).alloc (Nat.le_refl _) _)
  have HZ1 := Lib.hid (heap_alloc_new w (.cells ((zB 64).map Bv).toArray 35))
  have hd1 := fun u hu => derive1_any vk key ⟨#[101, 110, 99]⟩ u hu hr (by decide)
  have hd2 := fun u hu => derive1_any vk key ⟨#[109, 97, 99]⟩ u hu hr (by decide)
  obtain ⟨h1, hh1⟩ : ∃ h, h = macN key [101, 110, 99] := ⟨_, rfl⟩
  obtain ⟨h2, hh2⟩ : ∃ h, h = macN key [109, 97, 99] := ⟨_, rfl⟩
  rw [show macN key (ByteArray.mk #[101, 110, 99]).data.toList = h1 from hh1.symm] at hd1
  rw [show macN key (ByteArray.mk #[109, 97, 99]).data.toList = h2 from hh2.symm] at hd2
  have L1 := Lib.hid (show h1.length = 32 by rw [hh1]; exact macN_length _ _)
  have L2 := Lib.hid (show h2.length = 32 by rw [hh2]; exact macN_length _ _)
  have HK := Lib.hid (show keysOf key = h1 ++ h2 by rw [hh1, hh2]; rfl)
  have HD1 := Lib.hid hd1
  have HD2 := Lib.hid hd2
  have HV := Lib.hid hk
  clear hd1 hd2 hh1 hh2 hk
  go_enter Tryz.func20, Tryz.ntmps20
  go_wp2_with fail
  refine (HD1.out _ (HV.out.below HB1.out)).mono ?_
  rintro e w2 ⟨rfl, hb2⟩
  have HB2 := Lib.hid (HB1.out.trans (hb2.mono (by simp)))
  have HZ2 := Lib.hid ((hb2.block _ (by simp)).trans HZ1.out)
  clear hb2 HB1 HZ1
  go_wp2_with fail
  refine (HD2.out _ (HV.out.below HB2.out)).mono ?_
  rintro e w3 ⟨rfl, hb3⟩
  have HB3 := Lib.hid (HB2.out.trans (hb3.mono HB2.out.size))
  have HZ3 := Lib.hid ((hb3.block _ (lt_of_block HZ2.out)).trans HZ2.out)
  have HL := Lib.hid (show (h1 ++ h2).length = 64 by rw [List.length_append, L1.out, L2.out])
  clear hb3 HB2 HZ2
  go_wp2_with (first | (refine build_keys rfl (.tmp 4) (.tmp 6) rfl rfl rfl L1.out L2.out ?_) | (refine wpList_store_row rfl _ (.tmp 2) (.tmp 7) rfl w.heap.size rfl ((h1 ++ h2).map Bv) rfl _ _ HZ3.out (by rw [List.length_map, HL.out]; rfl) (Bv_oneCell _) (by rw [info_keys, List.length_map, HL.out]) ?_; intro w8 hg8 hf8 _))
  exact bodyPost_ret (results_cell_row rfl _ _ _ _ _ _ _ rfl hg8 Tryz.underlying35 rfl (by rw [info_keys, List.size_toArray, List.length_map, HL.out])) rfl ⟨by rw [HK.out], HB3.out.trans (hf8.below HB3.out.size (fun j hj => by omega))⟩

theorem wpQuiet_eql_hash {ops : Array Oper} {C : World → Prop} {Q : Act → Prop} {rest : List Oper} {o : Oper} {a : Act} (hw : Region.wanted o (yielded ops a.tmps) = true) (x y : Operand) (yt : TypeId) (ho : o.op = .binOp .eql 33 x y yt)
    {xs ys : List UInt8} (hx : a.eval x = .agg (xs.map Bv).toArray) (hy : a.eval y = .agg (ys.map Bv).toArray) (h1 : xs.length = 32) (h2 : ys.length = 32)
    (h : wpQuiet Tryz.prog ops C Q rest (a.put o.dst (.bool (decide (xs = ys))))) : wpQuiet Tryz.prog ops C Q (o :: rest) a :=
  BigFrame.wpQuiet_want hw fun K hK => ⟨.bool (decide (xs = ys)), fun w' _ => by
    unfold Oper.quietAt execOp
    simp only [ho, hx, hy, Sem.run_bind, run_eqGuard_agg w' _ _ _ _ _ _ guard_hash, Result.andThen_ok, run_eql_hash xs ys h1 h2 w']
    exact ⟨rfl, rfl⟩, hK _ h⟩

theorem places_ptr (w : World) : (placesOf (Tryz.prog.fieldsOf 43)).run Tryz.prog w = .ok #[(0, 1), (1, 1), (2, 32)] w := by kernel_rfl
theorem zero_ptrV (w : World) : (zeroValue 43).run Tryz.prog w = .ok (.agg Pt.zero.arr) w := by kernel_rfl
theorem build_ptr {ops : Array Oper} {rest : List Oper} {o : Oper} {a : Act} {w : World} {Q : Exit → Act → World → Prop} (hgd : o.guard = none) (x y z : Operand) (ho : o.op = .build 43 #[(0, x), (1, y), (2, z)])
    {p : Pt} (hx : a.eval x = .int .u32 (p.addr : Int)) (hy : a.eval y = .int .u64 (p.birth : Int)) (hz : a.eval z = .agg (p.sum.map Bv).toArray) (hl : p.sum.length = 32)
    (hK : wpList Tryz.prog ops Q rest (a.put o.dst (.agg p.arr)) w) : wpList Tryz.prog ops Q (o :: rest) a w := by
  have e1 : (p.sum.map Bv).toArray.size = 32 := by simp [hl]
  refine build_first hgd 43 _ ho [.int .u32 (p.addr : Int), .int .u64 (p.birth : Int), .agg (p.sum.map Bv).toArray] (by simp [hx, hy, hz]) _ und_ptr _ (zero_ptrV w) _ (places_ptr w) ?_ ?_ ?_
  · simp only [List.map_cons, List.map_nil, Value.cells, e1]; exact ⟨[], rfl⟩
  · simp only [List.map_cons, List.map_nil, Value.cells, e1]; exact Nat.le_refl 34
  · simp only [List.map_cons, List.map_nil, Value.cells, e1]
    rw [show (Pt.zero.arr.toList.drop (sumL [(#[Value.int .u32 (p.addr : Int)] : Array Value).size, (#[Value.int .u64 (p.birth : Int)] : Array Value).size, 32])) = [] from rfl, List.append_nil]
    simpa [flatL, Value.cells, Pt.arr, Pt.cells] using hK

theorem ret_tct {P : Program} {fn : Func} {u p v : Tmp} {ty : TypeId} (h : fn.results = #[.tmp u, .cell p ty, .tmp v]) {tmps : Array Value} {w : World} {g : Nat} {cs : List Value} {d : TypeDesc} (hp : tmps.getD p undef = .pointer (some ⟨g, 0, none⟩))
    (hc : At w g 0 cs) (hu : P.underlying ty = some d) (hd : (match d with | .struct _ | .array _ _ => true | _ => false) = true) (hi : (P.info? ty).map (·.size) = some cs.length) :
    (results fn tmps).run P w = .ok (.tuple #[tmps.getD u undef, .agg cs.toArray, tmps.getD v undef]) w := by
  have hl := run_loadVar_at w g 0 ty cs d hc hu hd hi
  simp only [Array.getD_eq_getD_getElem?] at hp
  simp only [results, h]
  simp [Result.andThen, hp, asAddr, hl]

def sealP (ks : List UInt8) (birth addr : Nat) (b : List UInt8) : Pt := ⟨addr, birth, hashN (cryptB (ks.take 32) (nonceB birth addr) b)⟩
theorem sealP_wf (ks : List UInt8) (birth addr : Nat) (b : List UInt8) (h1 : birth < 18446744073709551616) (h2 : addr < 4294967296) : (sealP ks birth addr b).Wf := ⟨h2, h1, hashN_length _⟩

set_option maxRecDepth 100000 in
set_option maxHeartbeats 2000000 in
theorem seal_any (ks b : List UInt8) (birth addr : Nat) (v : Value) (w : World) (hk : ks.length = 64) (hb : b.length = 512) (hv : Sl w 1 v 512 (b.map Bv)) (h0 : 0 < birth) (h1 : birth < 18446744073709551616) (h2 : 2 ≤ addr) (h3 : addr < 4096) :
    Calls Tryz.prog 112 #[.agg (ks.map Bv).toArray, .int .u64 (birth : Int), .int .u32 (addr : Int), v] w fun e w' => ∃ aa cc, e = .returned (.tuple #[.slice aa 512 cc, .agg (sealP ks birth addr b).arr, .int .i64 0]) ∧
      Sl w' 1 (.slice aa 512 cc) 512 ((cryptB (ks.take 32) (nonceB birth addr) b).map Bv) ∧ (∀ k, (Value.slice aa 512 cc).ownBlock = some k → w.heap.size ≤ k) ∧ Below w.heap.size w w' := by
  have HKl := Lib.hid hk
  have HBl := Lib.hid hb
  have HA := Lib.hid (al2_0 w (.cells (ks.map Bv).toArray 35) (.cells Pt.zero.arr 43))
  have HP := Lib.hid (al2_1 w (.cells (ks.map Bv).toArray 35) (.cells Pt.zero.arr 43))
  have HB := Lib.hid (show Below w.heap.size w ((w.alloc (.cells (ks.map Bv).toArray 35)).alloc (.cells Pt.zero.arr 43)) from ((Below.refl _ w).alloc (Nat.le_refl _) _).alloc (by simp) _)
  obtain ⟨av, cv, rfl, _⟩ := hv.len
  have HV := Lib.hid (hv.below HB.out)
  have H1 := Lib.hid h1
  have hbb : birth ≠ 0 := by omega
  have c1 : ((birth : Int) == 0) = false := by simp; omega
  have c2 : decide ((addr : Int) < 2) = false := by simp; omega
  have c3 : decide ((4096 : Int) ≤ (addr : Int)) = false := by simp; omega
  clear hk hb hv h1
  go_enter Tryz.func112, Tryz.ntmps112
  go_wp2_with fail
  generalize hW : World.alloc _ _ = W
  have HAW := Lib.hid (show W.heap[w.heap.size]? = some (.cells (ks.map Bv).toArray 35 (0, 0)) by rw [← hW]; exact HA.out)
  have HPW := Lib.hid (show W.heap[w.heap.size + 1]? = some (.cells Pt.zero.arr 43 (0, 0)) by rw [← hW]; exact HP.out)
  have HBW := Lib.hid (show Below w.heap.size w W by rw [← hW]; exact HB.out)
  have HVW := Lib.hid (show Sl W 1 (.slice av 512 cv) 512 (b.map Bv) by rw [← hW]; exact HV.out)
  clear hW HA HP HB HV
  have hEl : (ks.take 32).length = 32 := by rw [List.length_take, HKl.out]; rfl
  have hpt := At_part8 HAW.out 0 32
  rw [List.drop_zero] at hpt
  have HSP := Lib.hid (show sealP ks birth addr b = ⟨addr, birth, hashN (cryptB (ks.take 32) (nonceB birth addr) b)⟩ from rfl)
  obtain ⟨en, hen⟩ : ∃ en, en = ks.take 32 := ⟨_, rfl⟩
  rw [← hen] at hEl hpt HSP
  have HEn := Lib.hid hen
  have HEl := Lib.hid hEl
  have HEat := Lib.hid (fun w' (hw : ∃ u : Wd W.heap.size W, w' = u.to) => (by obtain ⟨u, rfl⟩ := hw; exact u.at hpt : At w' w.heap.size 0 (en.map Bv)))
  have HMade := Lib.hid (fun (u : Wd W.heap.size W) => Calls.wd u (Nat.le_refl _) (made_nonce_any birth addr u.to))
  obtain ⟨nc, hnc⟩ : ∃ nc, nc = nonceB birth addr := ⟨_, rfl⟩
  rw [← hnc] at HMade HSP
  have HNc := Lib.hid hnc
  have HNl := Lib.hid (show nc.length = 12 by rw [hnc]; exact nonceB_length _ _)
  clear hEl hpt hen hnc
  refine wp_region_class_one 6 (C := fun w' => ∃ u : Wd W.heap.size W, w' = u.to) (by kernel_rfl) (by kernel_rfl) ⟨⟨{ W with drawn := W.drawn + 1 }, (Below.refl _ W).drew⟩, rfl⟩ rfl ?_
  simp only [List.take_succ_cons, List.take_zero, List.drop_succ_cons, List.drop_zero]
  repeat (first | (refine wpQuiet_load_at rfl 32 (.tmp 30) rfl w.heap.size 0 rfl _ _ HEat.out Tryz.underlying32 rfl (by rw [info_key]; simp [HEl.out]) ?_; simp only [Act.put, sA, sB, sC]) | go_big_quiet_step (with_reducible exact HMade.out _))
  refine wpQuiet_nil ?_
  refine ⟨rfl, ?_⟩
  rintro w3 ⟨⟨_, hb3⟩, rfl⟩ KK hKK
  have HP3 := Lib.hid ((hb3.block _ (lt_of_block HPW.out)).trans HPW.out)
  have HB3 := Lib.hid (HBW.out.trans (hb3.mono HBW.out.size))
  have hcr := crypt_any en nc b (.slice av 512 cv) w3 HEl.out HNl.out (by rw [HBl.out]; decide) (by rw [HBl.out]; exact HVW.out.below hb3)
  rw [HBl.out] at hcr
  have HCr := Lib.hid hcr
  have HKK := Lib.hid hKK
  clear hcr hb3 HAW HPW HBW HVW HMade HEat hKK
  unfold Oper.wp execOp
  go_simp
  refine HCr.out.mono ?_
  rintro e w4 ⟨aa, cc, rfl, hown, hb4⟩
  have HGe := Lib.hid (show ∀ k, (Value.slice aa 512 cc).ownBlock = some k → w.heap.size ≤ k from fun k hk => Nat.le_trans HB3.out.size (hown.lt k hk).1)
  have HNo := Lib.hid (show ∀ a m c, Value.slice aa 512 cc = .slice (some a) m c → ¬ a.block = w.heap.size + 1 from fun a m c e => by
    have h1 := hown.lt a.block (by rw [e]; rfl)
    have h2 := lt_of_block HP3.out
    omega)
  have HS4 := Lib.hid (Sl.own hown)
  have HP4 := Lib.hid ((hb4.block _ (lt_of_block HP3.out)).trans HP3.out)
  have HB4 := Lib.hid (HB3.out.trans (hb4.mono HB3.out.size))
  obtain ⟨c, hc⟩ : ∃ c, c = cryptB en nc b := ⟨_, rfl⟩
  rw [← hc] at HS4 HSP
  have HCv := Lib.hid hc
  have HCl := Lib.hid (show c.length = 512 by rw [hc, cryptB_length _ _ _ HEl.out HNl.out, HBl.out])
  clear hown hb4 HP3 HB3 HCr hc
  refine HKK.out _ _ ?_
  clear HKK
  repeat (go_big_quiet_step (fail))
  refine wpQuiet_nil ?_
  rintro _ ⟨nq, rfl⟩
  obtain ⟨wq, hwq⟩ : ∃ wq, wq = w4.drewN nq := ⟨_, rfl⟩
  have HSq := Lib.hid (show Sl wq 1 (.slice aa 512 cc) 512 (c.map Bv) by rw [hwq]; exact HS4.out.below (belowDrewN (Below.refl _ _) _))
  have HPq := Lib.hid (show wq.heap[w.heap.size + 1]? = some (.cells Pt.zero.arr 43 (0, 0)) by rw [hwq]; exact HP4.out)
  have HBq := Lib.hid (show Below w.heap.size w wq by rw [hwq]; exact belowDrewN HB4.out _)
  rw [← hwq]
  clear HS4 HP4 HB4 hwq
  go_wp2_with fail
  have hsum := shaSum_any (.slice aa 512 cc) c wq (by rw [HCl.out]; exact HSq.out) (by rw [HCl.out]; decide)
  refine hsum.mono ?_
  clear hsum
  rintro e w5 ⟨rfl, hb5⟩
  have HS5 := Lib.hid (HSq.out.below hb5)
  have HP5 := Lib.hid ((hb5.block _ (lt_of_block HPq.out)).trans HPq.out)
  have HB5 := Lib.hid (HBq.out.trans (hb5.mono HBq.out.size))
  obtain ⟨p, hp⟩ : ∃ p, p = sealP ks birth addr b := ⟨_, rfl⟩
  rw [← hp] at HSP
  have HPv := Lib.hid hp
  have HPs := Lib.hid (show p.addr = addr ∧ p.birth = birth ∧ p.sum = hashN c by rw [HSP.out]; exact ⟨rfl, rfl, rfl⟩)
  have HPw := Lib.hid (show p.Wf by rw [hp]; exact sealP_wf ks birth addr b H1.out (by omega))
  clear hb5 HSq HPq HBq hp
  rw [← HPs.out.2.2]
  go_wp2_with (first | (refine build_ptr rfl (.tmp 44) (.tmp 45) (.tmp 47) rfl (p := p) (by rw [HPs.out.1]; rfl) (by rw [HPs.out.2.1]; rfl) rfl HPw.out.sum ?_) | (refine store_ptr rfl (.tmp 9) (.tmp 48) rfl rfl rfl HP5.out rfl HPw.out ?_; intro w6 hg6 hf6 _))
  refine bodyPost_ret (ret_tct rfl rfl (cs := p.cells) (At.of_row (by simpa [Pt.arr] using hg6)) Tryz.underlying43 rfl (by rw [info_ptr, HPw.out.len])) rfl ⟨aa, cc, by rw [← HPv.out]; rfl, ?_, HGe.out, ?_⟩
  · rw [← HEn.out, ← HNc.out, ← HCv.out]
    exact HS5.out.fr hf6 (fun a m c e => HNo.out a m c e)
  · exact HB5.out.trans (hf6.below HB5.out.size (fun j hj => by omega))

set_option maxRecDepth 100000 in
set_option maxHeartbeats 1000000 in
theorem fits_any (p : Pt) (xs : List UInt8) (v : Value) (w : World) (hp : p.Wf) (hx : xs.length = 512) (hv : Sl w 1 v 512 (xs.map Bv)) :
    Calls Tryz.prog 114 #[.agg p.arr, v] w fun e w' => e = .returned (.bool (decide (hashN xs = p.sum))) ∧ Below w.heap.size w w' := by
  obtain ⟨av, cv, rfl, _⟩ := hv.len
  have hb : Below w.heap.size w (w.alloc (.cells p.arr 43)) := (Below.refl _ w).alloc (Nat.le_refl _) _
  have hat := Pt.sumAt (At_box w p 43)
  have hv1 := hv.below hb
  obtain ⟨W, hW⟩ : ∃ W, W = w.alloc (.cells p.arr 43) := ⟨_, rfl⟩
  rw [← hW] at hb hat hv1
  have HB := Lib.hid hb
  have HAt := Lib.hid (fun w' (hw : ∃ u : Wd W.heap.size W, w' = u.to) => (by obtain ⟨u, rfl⟩ := hw; exact u.at hat : At w' w.heap.size (0 + 2) (p.sum.map Bv)))
  have HSum := Lib.hid (fun (u : Wd W.heap.size W) => Calls.wd u (Nat.le_refl _) (shaSum_any (.slice av 512 cv) xs u.to (by rw [hx]; exact hv1.below u.hb) (by rw [hx]; decide)))
  obtain ⟨hs, hhs⟩ : ∃ h, h = hashN xs := ⟨_, rfl⟩
  rw [← hhs] at HSum ⊢
  have HHl := Lib.hid (show hs.length = 32 by rw [hhs]; exact hashN_length _)
  have HW := Lib.hid hW
  have HPl := Lib.hid hp.sum
  have hsz : W.heap.size = w.heap.size + 1 := by rw [hW]; simp
  have HSz := Lib.hid hsz
  clear hb hat hv1 hv hx hp hhs hsz hW
  go_enter Tryz.func114, Tryz.ntmps114
  go_wp2_with fail
  rw [← HW.out]
  refine wp_region_wd W.heap.size (by kernel_rfl) (by kernel_rfl) ?_
  repeat (first | (refine wpQuiet_load_at rfl 33 (.tmp 11) rfl w.heap.size (0 + 2) rfl _ _ HAt.out Tryz.underlying33 rfl (by rw [info_hash']; simp [HPl.out]) ?_; simp only [Act.put, sA, sB, sC]) | (refine wpQuiet_eql_hash rfl (.tmp 10) (.tmp 12) _ rfl rfl rfl HHl.out HPl.out ?_; simp only [Act.put, sA, sB, sC]) | go_big_quiet_step (with_reducible exact HSum.out _))
  refine wpQuiet_nil ?_
  rintro w3 ⟨⟨_, hb3⟩, rfl⟩
  have HB3 := Lib.hid (HB.out.trans (hb3.mono (by rw [HSz.out]; omega)))
  clear hb3
  go_wp2
  go_ret
  exact ⟨rfl, HB3.out⟩

set_option maxRecDepth 100000 in
set_option maxHeartbeats 1000000 in
theorem open_no (ks xs : List UInt8) (p : Pt) (v : Value) (w : World) (hp : p.Wf) (hx : xs.length = 512) (hv : Sl w 1 v 512 (xs.map Bv)) (hs : hashN xs ≠ p.sum) :
    Calls Tryz.prog 69 #[.agg (ks.map Bv).toArray, .agg p.arr, v] w fun e w' => e = .returned (.tuple #[.slice none 0 0, .int .i64 5]) ∧ Below w.heap.size w w' := by
  obtain ⟨av, cv, rfl, _⟩ := hv.len
  have hb : Below w.heap.size w ((w.alloc (.cells (ks.map Bv).toArray 35)).alloc (.cells p.arr 43)) := ((Below.refl _ w).alloc (Nat.le_refl _) _).alloc (by simp) _
  have hat : At ((w.alloc (.cells (ks.map Bv).toArray 35)).alloc (.cells p.arr 43)) (w.heap.size + 1) 0 p.cells := by
    have h := At_box (w.alloc (.cells (ks.map Bv).toArray 35)) p 43
    rwa [World.size_alloc] at h
  have hf := fits_any p xs (.slice av 512 cv) _ hp hx (hv.below hb)
  rw [show decide (hashN xs = p.sum) = false by simp [hs]] at hf
  have HF := Lib.hid hf
  have HB := Lib.hid hb
  have HAt := Lib.hid hat
  have HP := Lib.hid hp
  clear hf hb hat hv hx hp hs
  go_enter Tryz.func69, Tryz.ntmps69
  go_wp2_with (refine load_ptr rfl (.tmp 4) rfl rfl HAt.out HP.out ?_)
  refine HF.out.mono ?_
  rintro e w3 ⟨rfl, hb3⟩
  have HB3 := Lib.hid (HB.out.trans (hb3.mono (by simp; omega)))
  clear hb3
  go_wp2
  go_ret2
  exact ⟨rfl, HB3.out⟩

set_option maxRecDepth 100000 in
set_option maxHeartbeats 1000000 in
theorem open_yes (ks xs : List UInt8) (p : Pt) (v : Value) (w : World) (hk : ks.length = 64) (hp : p.Wf) (hx : xs.length = 512) (hv : Sl w 1 v 512 (xs.map Bv)) (hs : hashN xs = p.sum) :
    Calls Tryz.prog 69 #[.agg (ks.map Bv).toArray, .agg p.arr, v] w fun e w' => ∃ aa cc, e = .returned (.tuple #[.slice aa 512 cc, .int .i64 0]) ∧
      Sl w' 1 (.slice aa 512 cc) 512 ((cryptB (ks.take 32) (nonceB p.birth p.addr) xs).map Bv) ∧ Below w.heap.size w w' := by
  obtain ⟨av, cv, rfl, _⟩ := hv.len
  have hb : Below w.heap.size w ((w.alloc (.cells (ks.map Bv).toArray 35)).alloc (.cells p.arr 43)) := ((Below.refl _ w).alloc (Nat.le_refl _) _).alloc (by simp) _
  have hat : At ((w.alloc (.cells (ks.map Bv).toArray 35)).alloc (.cells p.arr 43)) (w.heap.size + 1) 0 p.cells := by
    have h := At_box (w.alloc (.cells (ks.map Bv).toArray 35)) p 43
    rwa [World.size_alloc] at h
  have hka := al2_0 w (.cells (ks.map Bv).toArray 35) (.cells p.arr 43)
  have hvb := hv.below hb
  have hf := fits_any p xs (.slice av 512 cv) _ hp hx hvb
  rw [show decide (hashN xs = p.sum) = true by simp [hs]] at hf
  have HF := Lib.hid hf
  have HB := Lib.hid hb
  have HAt := Lib.hid hat
  have HKa := Lib.hid hka
  have HVb := Lib.hid hvb
  have HP := Lib.hid hp
  have HXl := Lib.hid hx
  have HKl := Lib.hid hk
  clear hf hb hat hka hvb hv hx hp hs hk
  go_enter Tryz.func69, Tryz.ntmps69
  go_wp2_with (refine load_ptr rfl (.tmp 4) rfl rfl HAt.out HP.out ?_)
  refine HF.out.mono ?_
  rintro e W ⟨rfl, hb3⟩
  have HBW := Lib.hid (HB.out.trans (hb3.mono (by simp; omega)))
  have HVW := Lib.hid (HVb.out.below hb3)
  have hkp := At_part8 ((hb3.block _ (lt_of_block HKa.out)).trans HKa.out) 0 32
  rw [List.drop_zero] at hkp
  have hpp : At W (w.heap.size + 1) 0 p.cells := fun i u hi => (hb3.cell (World.block_lt_of_cell? _ _ (HAt.out i u hi))).trans (HAt.out i u hi)
  have cA := hpp 0 (.int .u32 (p.addr : Int)) rfl
  have cB := hpp 1 (.int .u64 (p.birth : Int)) rfl
  have hEl : (ks.take 32).length = 32 := by rw [List.length_take, HKl.out]; rfl
  obtain ⟨en, hen⟩ : ∃ en, en = ks.take 32 := ⟨_, rfl⟩
  rw [← hen] at hEl hkp
  have HEn := Lib.hid hen
  have HEl := Lib.hid hEl
  have HEat := Lib.hid (fun w' (hw : ∃ u : Wd W.heap.size W, w' = u.to) => (by obtain ⟨u, rfl⟩ := hw; exact u.at hkp : At w' w.heap.size 0 (en.map Bv)))
  have uA := fun (u : Wd W.heap.size W) => u.cell' cA
  have uB := fun (u : Wd W.heap.size W) => u.cell' cB
  have HMade := Lib.hid (fun (u : Wd W.heap.size W) => Calls.wd u (Nat.le_refl _) (made_nonce_any p.birth p.addr u.to))
  obtain ⟨nc, hnc⟩ : ∃ nc, nc = nonceB p.birth p.addr := ⟨_, rfl⟩
  rw [← hnc] at HMade
  have HNc := Lib.hid hnc
  have HNl := Lib.hid (show nc.length = 12 by rw [hnc]; exact nonceB_length _ _)
  clear hEl hkp hen hnc hb3 HF HB HAt HKa HVb hpp cA cB
  go_wp2_with fail
  refine wp_region_class_one 8 (C := fun w' => ∃ u : Wd W.heap.size W, w' = u.to) (by kernel_rfl) (by kernel_rfl) ⟨⟨{ W with drawn := W.drawn + 1 }, (Below.refl _ W).drew⟩, rfl⟩ rfl ?_
  simp only [List.take_succ_cons, List.take_zero, List.drop_succ_cons, List.drop_zero]
  repeat (first | (refine wpQuiet_load_at rfl 32 (.tmp 17) rfl w.heap.size 0 rfl _ _ HEat.out Tryz.underlying32 rfl (by rw [info_key]; simp [HEl.out]) ?_; simp only [Act.put, sA, sB, sC]) | go_big_quiet_step (with_reducible exact HMade.out _))
  refine wpQuiet_nil ?_
  refine ⟨rfl, ?_⟩
  rintro w3 ⟨⟨_, hb3⟩, rfl⟩ KK hKK
  have HB3 := Lib.hid (HBW.out.trans (hb3.mono HBW.out.size))
  have hcr := crypt_any en nc xs (.slice av 512 cv) w3 HEl.out HNl.out (by rw [HXl.out]; decide) (by rw [HXl.out]; exact HVW.out.below hb3)
  rw [HXl.out] at hcr
  have HCr := Lib.hid hcr
  have HKK := Lib.hid hKK
  clear hcr hb3 HBW HVW HMade HEat hKK uA uB
  unfold Oper.wp execOp
  go_simp
  refine HCr.out.mono ?_
  rintro e w4 ⟨aa, cc, rfl, hown, hb4⟩
  have HS4 := Lib.hid (Sl.own hown)
  have HB4 := Lib.hid (HB3.out.trans (hb4.mono HB3.out.size))
  clear hown hb4 HCr HB3
  refine HKK.out _ _ ?_
  clear HKK
  repeat (go_big_quiet_step (fail))
  refine wpQuiet_nil ?_
  rintro _ ⟨nq, rfl⟩
  go_wp2
  go_ret2
  exact ⟨aa, cc, rfl, by rw [← HEn.out, ← HNc.out]; exact HS4.out.below (belowDrewN (Below.refl _ _) _), belowDrewN HB4.out _⟩

end Go.Proofs.YtkbnkdokcmpcgaaGreatDoor
