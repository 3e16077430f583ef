/- What an api.Node is, as data; the walks of node's form, by its parts. -/
import Derived.Test.YtdmgmpagnmmehaaDoorStrs
import Derived.Test.YtdmgmpagnmmehaaDoorPtr
import Derived.Test.YtdmgmpagnmmehaaDoorRegion
namespace Go.Proofs.YtdmgmpagnmmehaaDoor
open Go.RowKit

theorem gload_ptr {ops : Array Oper} {rest : List Oper} {o : Oper} {a : Act} {w : World} {Q : Exit → Act → World → Prop} (hw : Region.wanted o (yielded ops a.tmps) = true) (x : Operand) (ho : o.op = .load 47 x)
    {b off : Nat} (hx : a.eval x = .pointer (some ⟨b, off, none⟩)) {p : Pt} (hc : At w b off p.cells) (hl : p.Wf)
    (hK : wpList Tryd.prog ops Q rest (a.put o.dst (.agg p.arr)) w) : wpList Tryd.prog ops Q (o :: rest) a w :=
  gload_at hw _ x ho b off hx p.cells _ hc Tryd.underlying47 rfl (by rw [info_ptr, hl.len]) hK

structure Nd where
  leaf : Bool
  keys : List ByteArray
  vals : List ByteArray
  kids : List Pt

/-- A slice of pointers. -/
structure PtsIn (w : World) (v : Value) (ps : List Pt) : Prop where
  sl : Sl w 34 v ps.length (ps.map Pt.cells).flatten
  wf : ∀ p ∈ ps, p.Wf

theorem PtsIn.below {w w' : World} {v : Value} {ps : List Pt} (h : PtsIn w v ps) (hb : Below w.heap.size w w') : PtsIn w' v ps := ⟨h.sl.below hb, h.wf⟩
theorem PtsIn.open {w : World} {v : Value} {ps : List Pt} (h : PtsIn w v ps) : ∃ a cap, v = .slice a ps.length cap ∧ ∀ i (hi : i < ps.length), ∃ b o, a = some ⟨b, o, none⟩ ∧ At w b (o + i * 34) ps[i].cells := by
  obtain ⟨⟨hl, a, cap, rfl, _, _, h4⟩, hwf⟩ := h
  refine ⟨a, cap, rfl, fun i hi => ?_⟩
  have hlen : ∀ l ∈ ps.map Pt.cells, l.length = 34 := by
    intro l hl
    obtain ⟨p, hp, rfl⟩ := List.mem_map.1 hl
    exact (hwf p hp).len
  have hg : ∀ j, j < 34 → (ps.map Pt.cells).flatten[i * 34 + j]? = (ps[i].cells)[j]? := fun j hj => by
    rw [flat_get 34 _ hlen i (by simpa using hi) j hj]; simp
  obtain ⟨b, o, e, _⟩ := h4 (i * 34 + 0) _ (hg 0 (by omega))
  refine ⟨b, o, e, fun j u hu => ?_⟩
  have hj : j < 34 := by
    have := (List.getElem?_eq_some_iff.1 hu).1
    rw [(hwf _ (List.getElem_mem hi)).len] at this
    exact this
  obtain ⟨b', o', e', hc⟩ := h4 (i * 34 + j) u ((hg j hj).trans hu)
  rw [e] at e'
  simp only [Option.some.injEq, Addr.mk.injEq, and_true] at e'
  obtain ⟨rfl, rfl⟩ := e'
  rw [← hc, Nat.add_assoc]

/-- A node's cells. -/
def NdIs (w : World) (arr : Array Value) (n : Nd) : Prop :=
  ∃ vk vv vp, arr = #[.bool n.leaf, vk, vv, vp] ∧ StrsIn w vk n.keys ∧ StrsIn w vv n.vals ∧ PtsIn w vp n.kids
theorem NdIs.below {w w' : World} {arr : Array Value} {n : Nd} (h : NdIs w arr n) (hb : Below w.heap.size w w') : NdIs w' arr n := by
  obtain ⟨vk, vv, vp, h0, h1, h2, h3⟩ := h
  exact ⟨vk, vv, vp, h0, h1.below hb, h2.below hb, h3.below hb⟩

/-- Too long, for a value. -/
def longB (l : List ByteArray) : Bool := l.any (fun v => decide (96 < v.size))
theorem form1_any (s : ByteArray) (w : World) : Calls Tryd.prog 58 #[.string s] w fun e w' => e = .returned (.bool (decide (96 < s.size))) ∧ w = w' := by
  have e : decide ((96 : Int) < (s.size : Int)) = decide (96 < s.size) := by rw [Bool.eq_iff_iff]; simp only [decide_eq_true_iff]; omega
  go_enter Tryd.func58, Tryd.ntmps58
  go_wp2
  go_ret
  exact ⟨by rw [← e]; rfl, rfl⟩

def IdxPost (b : Bool) (w : World) (e : Ending) (w' : World) : Prop := ∃ r : Int, e = .returned (.int .i64 r) ∧ decide (0 ≤ r) = b ∧ w = w'

set_option maxHeartbeats 1000000 in
theorem indexLong_any (v : Value) (l : List ByteArray) (w : World) (h : StrsIn w v l) (hr : l.length ≤ 140737488351232) :
    Calls Tryd.prog 80 #[v, .func (.func 58) #[] #[]] w (IdxPost (longB l) w) := by
  obtain ⟨a, cap, rfl, hel⟩ := h.open
  have HE := Lib.hid hel
  clear h hel
  go_enter Tryd.func80, Tryd.ntmps80
  go_wp2
  go_loop [8] (fun i => ∃ k : Nat, k ≤ l.length ∧ i = .int .i64 k ∧ ∀ j (hj : j < l.length), j < k → ¬ 96 < l[j].size) (fun i => l.length - (intOf i).toNat)
  case atStart => exact ⟨0, Nat.zero_le _, rfl, fun j _ hj => by omega⟩
  case round =>
    obtain ⟨k, hk, rfl, hz⟩ := hrel
    have HZ := Lib.hid hz
    clear hz
    rcases Nat.lt_or_ge k l.length with hlt | hge
    · obtain ⟨b, o, rfl, hc⟩ := HE.out k hlt
      obtain ⟨s, hs⟩ : ∃ s, s = l[k]'hlt := ⟨_, rfl⟩
      rw [← hs] at hc
      have HS := Lib.hid hs
      clear hs
      go_wp2_with fail
      refine (form1_any s _).mono ?_
      rintro e w1 ⟨rfl, rfl⟩
      by_cases h9 : 96 < s.size
      · rw [decide_eq_true h9]
        have HF := Lib.hid (show longB l = true from List.any_eq_true.2 ⟨s, by rw [HS.out]; exact List.getElem_mem hlt, decide_eq_true h9⟩)
        clear h9
        go_wp2
        go_ret
        exact ⟨k, rfl, by rw [HF.out]; simp, rfl⟩
      · rw [decide_eq_false h9]
        have H9 := Lib.hid h9
        clear h9
        go_wp2
        go_round
        case rel =>
          refine ⟨k + 1, by omega, by go_num, fun j hj hjk => ?_⟩
          rcases Nat.lt_or_ge j k with h | h
          · exact HZ.out j hj h
          · obtain rfl : j = k := by omega
            rw [← HS.out]; exact H9.out
        case measure => simp [intOf]; omega
    · have HF := Lib.hid (show longB l = false from List.any_eq_false.2 fun x hx => by
        obtain ⟨j, hj, rfl⟩ := List.getElem_of_mem hx
        simpa using HZ.out j hj (by omega))
      obtain rfl : k = l.length := by omega
      go_wp2
      go_ret
      exact ⟨-1, rfl, by rw [HF.out]; rfl, rfl⟩

theorem containsLong_any (v : Value) (l : List ByteArray) (w : World) (h : StrsIn w v l) (hr : l.length ≤ 140737488351232) :
    Calls Tryd.prog 59 #[v, .func (.func 58) #[] #[]] w fun e w' => e = .returned (.bool (longB l)) ∧ w = w' := by
  have HH := Lib.hid h
  clear h
  go_enter Tryd.func59, Tryd.ntmps59
  go_wp2_with fail
  refine (indexLong_any v l _ HH.out hr).mono ?_
  rintro e w1 ⟨r, rfl, hr, rfl⟩
  have HR := Lib.hid hr
  clear hr
  go_wp2
  go_ret
  exact ⟨by rw [← HR.out]; rfl, rfl⟩

/-- May a kid not be? -/
def kidBad (p : Pt) : Bool := decide (p.addr = 0) || !ptrOk p 4096
def badB (ps : List Pt) : Bool := ps.any kidBad

theorem ptrE_ne (p : Pt) (n : Int) : (ptrE p n != 0) = !ptrOk p n := by
  unfold ptrE
  cases ptrOk p n <;> rfl

set_option maxHeartbeats 1000000 in
theorem form2_any (p : Pt) (w : World) (h : p.Wf) : Calls Tryd.prog 60 #[.agg p.arr] w fun e w' => e = .returned (.bool (kidBad p)) ∧ Below w.heap.size w w' := by
  have HAT := Lib.hid (At_box w p 47)
  have HW := Lib.hid h
  have HB := Lib.hid ((Below.refl _ w).alloc (Nat.le_refl _) (.cells p.arr 47))
  have HN := Lib.hid (fun w => ptrNull_any p w)
  have HE := Lib.hid (ptrE_ne p 4096)
  clear h
  by_cases h0 : p.addr = 0
  · rw [decide_eq_true h0] at HN
    have HQ := Lib.hid (show kidBad p = true by unfold kidBad; simp [h0])
    clear h0
    go_enter Tryd.func60, Tryd.ntmps60
    go_wp2_with (refine load_ptr rfl (.tmp 1) rfl rfl HAT.out HW.out ?_)
    refine (HN.out _).mono ?_
    rintro e w1 ⟨rfl, hb⟩
    have HB1 := Lib.hid (HB.out.trans (hb.mono HB.out.size))
    clear hb
    go_wp2
    go_ret
    exact ⟨by rw [HQ.out]; rfl, HB1.out⟩
  · rw [decide_eq_false h0] at HN
    have HQ := Lib.hid (show kidBad p = !ptrOk p 4096 by unfold kidBad; simp [h0])
    clear h0
    go_enter Tryd.func60, Tryd.ntmps60
    go_wp2_with (refine load_ptr rfl (.tmp 1) rfl rfl HAT.out HW.out ?_)
    refine (HN.out _).mono ?_
    rintro e w1 ⟨rfl, hb⟩
    have HB1 := Lib.hid (HB.out.trans (hb.mono HB.out.size))
    have HAT1 := Lib.hid (HAT.out.fr (Fr.of_below (S := fun _ => False) hb) id)
    clear hb
    go_wp2_with (refine gload_ptr rfl (.tmp 1) rfl rfl HAT1.out HW.out ?_)
    refine (ptrCheck_any p 4096 _ HW.out (by omega)).mono ?_
    rintro e w2 ⟨rfl, hb⟩
    have HB2 := Lib.hid (HB1.out.trans (hb.mono HB1.out.size))
    clear hb
    go_wp2
    go_ret
    exact ⟨by rw [HQ.out, ← HE.out]; rfl, HB2.out⟩

def IdxPostB (b : Bool) (w : World) (e : Ending) (w' : World) : Prop := ∃ r : Int, e = .returned (.int .i64 r) ∧ decide (0 ≤ r) = b ∧ Below w.heap.size w w'

set_option maxHeartbeats 1000000 in
theorem indexBad_any (v : Value) (ps : List Pt) (w : World) (h : PtsIn w v ps) (hr : ps.length ≤ 140737488351232) :
    Calls Tryd.prog 81 #[v, .func (.func 60) #[] #[]] w (IdxPostB (badB ps) w) := by
  have HWf := Lib.hid h.wf
  obtain ⟨a, cap, rfl, hel⟩ := h.open
  have HE := Lib.hid hel
  clear h hel
  go_enter Tryd.func81, Tryd.ntmps81
  go_wp2
  go_loopw [8, 5] (fun i u wr => ∃ k : Nat, k ≤ ps.length ∧ i = .int .i64 k ∧ (∀ j (hj : j < ps.length), j < k → kidBad ps[j] = false) ∧ Below w.heap.size w wr) (fun i _ _ => ps.length - (intOf i).toNat)
  case atStart => exact ⟨0, Nat.zero_le _, rfl, fun j _ hj => by omega, Below.refl _ _⟩
  case round =>
    obtain ⟨k, hk, rfl, hz, hb⟩ := hrel
    have HZ := Lib.hid hz
    have HB := Lib.hid hb
    clear hz hb
    rcases Nat.lt_or_ge k ps.length with hlt | hge
    · obtain ⟨b, o, rfl, hat⟩ := HE.out k hlt
      obtain ⟨p, hp⟩ : ∃ p, p = ps[k]'hlt := ⟨_, rfl⟩
      rw [← hp] at hat
      have HP := Lib.hid hp
      have HW := Lib.hid (show p.Wf by rw [hp]; exact HWf.out _ (List.getElem_mem hlt))
      have HAT := Lib.hid (fun i u hu => (Below.cell HB.out (p := ⟨b, o + k * 34 + i, none⟩) (World.block_lt_of_cell? w ⟨b, o + k * 34 + i, none⟩ (hat i u hu))).trans (hat i u hu) : At wr b (o + k * 34) p.cells)
      clear hp hat
      go_wp2_with (refine load_ptr rfl (.tmp 14) rfl rfl HAT.out HW.out ?_)
      refine (form2_any p _ HW.out).mono ?_
      rintro e w1 ⟨rfl, hb1⟩
      have HB1 := Lib.hid (HB.out.trans (hb1.mono HB.out.size))
      clear hb1
      cases h9 : kidBad p with
      | true =>
        have HF := Lib.hid (show badB ps = true from List.any_eq_true.2 ⟨p, by rw [HP.out]; exact List.getElem_mem hlt, h9⟩)
        clear h9
        go_wp2
        go_ret
        exact ⟨k, rfl, by rw [HF.out]; simp, HB1.out⟩
      | false =>
        have H9 := Lib.hid h9
        clear h9
        go_wp2
        go_roundw
        case rel =>
          refine ⟨k + 1, by omega, by go_num, fun j hj hjk => ?_, HB1.out⟩
          rcases Nat.lt_or_ge j k with h | h
          · exact HZ.out j hj h
          · obtain rfl : j = k := by omega
            rw [← HP.out]; exact H9.out
        case measure => simp [intOf]; omega
    · have HF := Lib.hid (show badB ps = false from List.any_eq_false.2 fun x hx => by
        obtain ⟨j, hj, rfl⟩ := List.getElem_of_mem hx
        simpa using HZ.out j hj (by omega))
      obtain rfl : k = ps.length := by omega
      go_wp2
      go_ret
      exact ⟨-1, rfl, by rw [HF.out]; rfl, HB.out⟩

theorem containsBad_any (v : Value) (ps : List Pt) (w : World) (h : PtsIn w v ps) (hr : ps.length ≤ 140737488351232) :
    Calls Tryd.prog 62 #[v, .func (.func 60) #[] #[]] w fun e w' => e = .returned (.bool (badB ps)) ∧ Below w.heap.size w w' := by
  have HH := Lib.hid h
  clear h
  go_enter Tryd.func62, Tryd.ntmps62
  go_wp2_with fail
  refine (indexBad_any v ps _ HH.out hr).mono ?_
  rintro e w1 ⟨r, rfl, hr, hb⟩
  have HR := Lib.hid hr
  have HB := Lib.hid hb
  clear hr hb
  go_wp2
  go_ret
  exact ⟨by rw [← HR.out]; rfl, HB.out⟩

end Go.Proofs.YtdmgmpagnmmehaaDoor
