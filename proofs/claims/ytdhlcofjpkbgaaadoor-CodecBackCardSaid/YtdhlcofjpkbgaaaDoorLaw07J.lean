/- Walk: banyanlaw07's CodecBack. -/
import Derived.Test.YtdhlcofjpkbgaaaDoorLaw07I
import Derived.Test.YtdhlcofjpkbgaaaDoorHashEq
import Derived.Test.YtdhlcofjpkbgaaaDoorBuild
namespace Go.Proofs.YtdhlcofjpkbgaaaDoor
open Go.RowKit

theorem info_act4 : (Tryd.prog.info? 48).map (fun i => (i.zero.isSome, i.size, i.bytes)) = some (true, 37, 96) := by kernel_rfl
theorem zero_act : ((Tryd.prog.info? 48).bind (·.zero)).map (·.cells.size) = some 37 := by kernel_rfl

theorem gload_act {ops : Array Oper} {rest : List Oper} {o : Oper} {a : Act} {w : World} {Q : Exit → Act → World → Prop} (hw : Region.wanted o (yielded ops a.tmps) = true) (x : Operand) (ho : o.op = .load 48 x)
    {b off : Nat} (hx : a.eval x = .pointer (some ⟨b, off, none⟩)) {arr : Array Value} (hc : At w b off arr.toList) (hl : arr.size = 37)
    (hK : wpList Tryd.prog ops Q rest (a.put o.dst (.agg arr)) w) : wpList Tryd.prog ops Q (o :: rest) a w :=
  gload_at hw _ x ho b off hx arr.toList _ hc Tryd.underlying48 rfl (by rw [info_act]; simp [hl]) (by simpa using hK)

theorem info_act5 : ∃ i0 z, Tryd.prog.info? 48 = some i0 ∧ i0.zero = some z ∧ i0.size = 37 ∧ i0.bytes = 96 ∧ z.cells.size = 37 := by
  have e1 := info_act4
  have e2 := zero_act
  cases hq : Tryd.prog.info? 48 with
  | none => rw [hq] at e1; simp at e1
  | some i =>
    rw [hq] at e1 e2
    simp only [Option.map_some, Option.some.injEq, Prod.mk.injEq, Option.isSome_iff_exists] at e1
    obtain ⟨⟨z, hz⟩, e3, e4⟩ := e1
    simp only [Option.bind_some, hz, Option.map_some, Option.some.injEq] at e2
    exact ⟨i, z, rfl, hz, e3, e4, e2⟩
theorem build_act {ops : Array Oper} {rest : List Oper} {o : Oper} {a : Act} {w : World} {Q : Exit → Act → World → Prop} (hgd : o.guard = none) (x : Operand) (ho : o.op = .buildSlice 40 1 #[(0, x)])
    {arr : Array Value} (hx : a.eval x = .agg arr) (hn : arr.size = 37)
    (hK : wpList Tryd.prog ops Q rest (a.put o.dst (.slice (some ⟨w.heap.size, 0, none⟩) 1 1)) (w.alloc (.cells arr 48))) : wpList Tryd.prog ops Q (o :: rest) a w := by
  obtain ⟨i0, z, hi, hz, h2, h3, h4⟩ := info_act5
  exact build_one hgd _ _ x ho hx Tryd.underlying40 i0 z 37 hi hz h2 h4 hn (by decide) (by decide) hK

/-- append onto own acts of what some slice reads. -/
theorem append_act {w : World} {ops : Array Oper} {rest : List Oper} {o : Oper} {a : Act} {Q : Exit → Act → World → Prop} (hgd : o.guard = none) (s x : Operand)
    (ho : o.op = .call { callee := .builtin .append, args := #[s, x], argTypes := #[40, 40] })
    {base : Nat} {v : Value} {n : Nat} {xs : List Value} (hown : w.ownsRow base 48 37 v n xs) {vx : Value} {m : Nat} {news : List Value} (hx : Sl w 37 vx m news) (h1 : ∀ u ∈ news, u.oneCell' = true)
    (hs : a.eval s = v) (hxe : a.eval x = vx) (hr : n + m ≤ 1000) (hbase : base ≤ w.heap.size)
    (h : ∀ aa cc w', w'.ownsRow base 48 37 (.slice aa (n + m) cc) (n + m) (xs ++ news) → Fr (fun k => v.ownBlock = some k) w w' → ((Value.slice aa (n + m) cc).ownBlock = v.ownBlock ∨ (Value.slice aa (n + m) cc).ownBlock = some w.heap.size) →
      wpList Tryd.prog ops Q rest (a.put o.dst (.slice aa (n + m) cc)) w') : wpList Tryd.prog ops Q (o :: rest) a w := by
  obtain ⟨i0, z, hi, hz, h2, h3, h4⟩ := info_act5
  refine wpList_append_sl hgd s x 40 ho base 48 i0 z 37 96 Tryd.underlying40 hi hz h2 h3 h4 (by decide) v n _ hs hown vx m _ hxe hx h1 (by unfold maxLen; omega) (by omega) hbase ?_
  intro aa cc w' h2 hg h3
  exact h aa cc w' h2 ((Fr.refl _ w).grown hg (fun k hk => Or.inl hk)) h3

/-- Own acts; what they lead to stood there in w0 already. -/
def ActsOwn (w0 w : World) (base : Nat) (v : Value) (l : List Ac) : Prop :=
  ∃ arrs : List (Array Value), arrs.length = l.length ∧ w.ownsRow base 48 37 v l.length (arrs.map Array.toList).flatten ∧ ∀ i (h : i < l.length) (h' : i < arrs.length), AcIs w0 arrs[i] l[i]

theorem ActsOwn.fr {w0 w w' : World} {S : Nat → Prop} {base : Nat} {v : Value} {l : List Ac} (h : ActsOwn w0 w base v l) (hf : Fr S w w') (hs : ∀ k, v.ownBlock = some k → ¬ S k) : ActsOwn w0 w' base v l := by
  obtain ⟨arrs, h1, h2, h3⟩ := h
  exact ⟨arrs, h1, h2.fr hf hs, h3⟩
theorem ActsOwn.lt {w0 w : World} {base : Nat} {v : Value} {l : List Ac} (h : ActsOwn w0 w base v l) : ∀ k, v.ownBlock = some k → base ≤ k ∧ k < w.heap.size := by
  obtain ⟨arrs, h1, h2, h3⟩ := h
  exact h2.lt
theorem ActsOwn.in {w0 w : World} {base : Nat} {v : Value} {l : List Ac} (h : ActsOwn w0 w base v l) (hb : Below w0.heap.size w0 w) : ActsIn w v l := by
  obtain ⟨arrs, h1, h2, h3⟩ := h
  obtain ⟨hl, a, cap, rfl, _, _, h4⟩ := Sl.own h2
  refine ⟨a, cap, rfl, fun i hi => ?_⟩
  have hi' : i < arrs.length := by omega
  have hac := h3 i hi hi'
  have hlen : ∀ x ∈ arrs.map Array.toList, x.length = 37 := by
    intro x hx
    obtain ⟨arr, ha, rfl⟩ := List.mem_map.1 hx
    obtain ⟨j, hj, rfl⟩ := List.getElem_of_mem ha
    have := (h3 j (by omega) hj).size
    simpa using this
  have hg : ∀ j, j < 37 → (arrs.map Array.toList).flatten[i * 37 + j]? = (arrs[i].toList)[j]? := fun j hj => by
    rw [flat_get 37 _ hlen i (by simpa using hi') j hj]; simp
  have hsz := hac.size
  obtain ⟨b, o, e, _⟩ := h4 (i * 37 + 0) (arrs[i].toList[0]'(by simp; omega)) ((hg 0 (by omega)).trans (by simp [hsz]))
  refine ⟨b, o, arrs[i], e, fun j u hu => ?_, hac.fr (fun v hv => hv.below hb)⟩
  have hj : j < 37 := by
    have := (List.getElem?_eq_some_iff.1 hu).1
    simpa [hsz] using this
  obtain ⟨b', o', e', hc⟩ := h4 (i * 37 + j) u ((hg j hj).trans hu)
  rw [e] at e'
  simp only [Option.some.injEq, Addr.mk.injEq, and_true] at e'
  obtain ⟨rfl, rfl⟩ := e'
  rw [← hc, Nat.add_assoc]
theorem ActsOwn.snoc {w0 w : World} {base : Nat} {v : Value} {l : List Ac} {arrs : List (Array Value)} {arr : Array Value} {a : Ac} (h1 : arrs.length = l.length) (h3 : ∀ i (h : i < l.length) (h' : i < arrs.length), AcIs w0 arrs[i] l[i])
    (h2 : w.ownsRow base 48 37 v (l.length + 1) ((arrs.map Array.toList).flatten ++ arr.toList)) (ha : AcIs w0 arr a) : ActsOwn w0 w base v (l ++ [a]) := by
  refine ⟨arrs ++ [arr], by simp [h1], ?_, fun i hi hi' => ?_⟩
  · rw [List.length_append, List.map_append, List.flatten_append]
    simpa using h2
  · rcases Nat.lt_or_ge i l.length with h | h
    · rw [List.getElem_append_left h, List.getElem_append_left (by omega)]
      exact h3 i h (by omega)
    · have e : i = l.length := by simp at hi; omega
      subst e
      rw [List.getElem_append_right (Nat.le_refl _), List.getElem_append_right (by omega)]
      simpa [h1] using ha

def Apart2 (v : Value) (b : Nat) (row : Option Nat) : Prop := ∀ j, v.ownBlock = some j → j ≠ b ∧ row ≠ some j
/-- What the first loop has made. -/
def BackRel (w : World) (acs : List Ac) (B : Nat) (k : Nat) (v : Value) (wr : World) : Prop :=
  ∃ row, Wr wr B B row (laidG (acs.take k)) ∧ ActsOwn w wr B v (goods (acs.take k)) ∧ Apart2 v B row ∧ Below w.heap.size w wr

/-- What is yet to be read, behind j acts. -/
def restG (gs : List Ac) (n j : Nat) : List UInt8 := (gs.drop j).flatMap bytesA ++ List.replicate n 0
theorem restG_step (gs : List Ac) (n j : Nat) (h : j < gs.length) : restG gs n j = bytesA gs[j] ++ restG gs n (j + 1) := by
  unfold restG
  rw [List.drop_eq_getElem_cons h, List.flatMap_cons, List.append_assoc]
theorem restG_len (gs : List Ac) (n : Nat) : restG gs n gs.length = List.replicate n 0 := by
  unfold restG
  rw [List.drop_length]; simp
theorem restG_le (gs : List Ac) (n : Nat) : ∀ j, (restG gs n j).length ≤ (restG gs n 0).length := by
  intro j
  induction j with
  | zero => exact Nat.le_refl _
  | succ j ih =>
    rcases Nat.lt_or_ge j gs.length with h | h
    · have := restG_step gs n j h
      rw [this, List.length_append] at ih
      omega
    · have e : restG gs n (j + 1) = restG gs n j := by
        unfold restG; rw [List.drop_of_length_le (by omega), List.drop_of_length_le (by omega)]
      rw [e]; exact ih
theorem bytesA_kinds (a : Ac) (h4 : a.kind ≠ 4) (hE : layE [] a = 0) :
    (a.kind = 1 ∧ a.s.size ≤ 255 ∧ bytesA a = strB a.s) ∨ (a.kind = 2 ∧ bytesA a = a.h) ∨ (a.kind = 3 ∧ bytesA a = a.b) ∨
      (a.kind ≠ 1 ∧ a.kind ≠ 2 ∧ a.kind ≠ 3 ∧ ∃ m : Nat, a.size = (m : Int) ∧ m ≤ 8 ∧ a.n / 256 ^ m = 0 ∧ bytesA a = putB a.n m) := by
  unfold bytesA layB
  unfold layE at hE
  by_cases h1 : a.kind = 1
  · rw [if_pos h1] at hE
    rw [if_pos h1]
    split at hE
    · omega
    · rename_i hs
      rw [if_neg hs]
      exact Or.inl ⟨h1, by omega, by simp⟩
  rw [if_neg h1] at hE ⊢
  by_cases h2 : a.kind = 2
  · rw [if_pos h2]; exact Or.inr (Or.inl ⟨h2, by simp⟩)
  rw [if_neg h2] at hE ⊢
  by_cases h3 : a.kind = 3
  · rw [if_pos h3]; exact Or.inr (Or.inr (Or.inl ⟨h3, by simp⟩))
  rw [if_neg h3, if_neg h4] at hE ⊢
  split at hE
  · omega
  · rename_i hs
    rw [if_neg hs]
    obtain ⟨m, hm⟩ := Int.eq_ofNat_of_zero_le (show 0 ≤ a.size by omega)
    refine Or.inr (Or.inr (Or.inr ⟨h1, h2, h3, m, hm, by omega, ?_, by rw [hm]; simp⟩))
    rw [hm, Int.toNat_natCast] at hs
    exact Nat.eq_zero_of_not_pos (fun hp => hs (Or.inr (Or.inr hp)))

set_option maxHeartbeats 2000000 in
theorem codecBack_great (v : Value) (acs : List Ac) (n : Nat) (w : World) (h : ActsIn w v acs) (hr : acs.length ≤ 140737488351232) (hb : ∀ a ∈ acs, a.b.length ≤ 140737488351232 ∧ a.s.size ≤ 140737488351232 ∧ -9223372036854775808 ≤ a.size ∧ a.size ≤ 9223372036854775807)
    (hg : (decide (100 < (acs.length : Int)) || decide (9000 < wrap64 (cost acs))) = true) :
    Calls Tryd.prog 6 #[v, .int .u8 (n : Int)] w fun e w' => e = .returned (.bool true) ∧ Below w.heap.size w w' := by
  have hA := fun (w' : World) (hbl : Below w.heap.size w w') => (h.below hbl : ActsIn w' v acs)
  have HA := Lib.hid hA
  have HB := Lib.hid hb
  have HG := Lib.hid hg
  clear h hA hb hg
  go_enter Tryd.func6, Tryd.ntmps6
  go_wp2_with fail
  refine (alive07 _).mono ?_
  rintro e w0 ⟨rfl, hb0⟩
  have HB0 := Lib.hid hb0
  have hs0 := hb0.size
  clear hb0
  go_wp2_with fail
  refine (great_any v acs _ (HA.out _ HB0.out) hr HB.out).mono ?_
  rw [HG.out]
  rintro e w1 ⟨rfl, hb1⟩
  have HB1 := Lib.hid (HB0.out.trans (hb1.mono hs0))
  clear hb1
  go_wp2
  go_ret
  exact ⟨rfl, HB1.out⟩

set_option maxRecDepth 100000 in
set_option maxHeartbeats 4000000 in
theorem codecBack_any (v : Value) (acs : List Ac) (n : Nat) (w : World) (h : ActsIn w v acs) (hr : acs.length ≤ 140737488351232) (hn : n < 256) (hb : ∀ a ∈ acs, a.b.length ≤ 140737488351232 ∧ a.s.size ≤ 140737488351232 ∧ -9223372036854775808 ≤ a.size ∧ a.size ≤ 9223372036854775807)
    (hg : (decide (100 < (acs.length : Int)) || decide (9000 < wrap64 (cost acs))) = false) :
    Calls Tryd.prog 6 #[v, .int .u8 (n : Int)] w fun e w' => e = .returned (.bool true) ∧ Below w.heap.size w w' := by
  have hg' := hg
  simp only [Bool.or_eq_false_iff, decide_eq_false_iff_not] at hg'
  have hcb := cost_bounds acs hb
  have hlen : acs.length ≤ 100 := by omega
  have hcost : cost acs ≤ 9000 := by
    have h2 := hg'.2
    rw [wrap64_of (cost acs) (by omega) (by omega)] at h2
    omega
  have hsmall : ∀ a ∈ acs, a.b.length ≤ 9000 := fun a ha => by have := hcb.2.2 a ha; omega
  have hall : ∀ i (hi : i < acs.length), acs[i].h.length = 32 := by
    obtain ⟨a, cap, _, hel⟩ := h
    intro i hi
    obtain ⟨_, _, _, _, _, hA⟩ := hel i hi
    exact hA.hash
  have hlaid : ∀ k, k ≤ acs.length → (laidG (acs.take k)).length ≤ 34600 := by
    intro k hk
    have h1 := laidG_mono acs (acs.length - k) k (by omega)
    have h2 := laidG_le acs (fun a ha => by obtain ⟨i, hi, rfl⟩ := List.getElem_of_mem ha; exact hall i hi)
    have h3 := sum_b_le acs hb
    omega
  have HA := Lib.hid (fun (w' : World) (hbl : Below w.heap.size w w') => (h.below hbl : ActsIn w' v acs))
  have hacw : ∀ (w1 : World) arr a, AcIs w1 arr a → AcIs w1 arr a := fun _ _ _ h => h
  obtain ⟨a, cap, rfl, hel⟩ := h
  have HE := Lib.hid hel
  have HSm := Lib.hid hsmall
  have HLd := Lib.hid hlaid
  have HB := Lib.hid hb
  have HG := Lib.hid hg
  clear hel hb hg hg' hcb hsmall hall hlaid hacw hcost
  go_enter Tryd.func6, Tryd.ntmps6
  go_wp2_with fail
  refine (alive07 _).mono ?_
  rintro e w0 ⟨rfl, hb0⟩
  have HB0 := Lib.hid hb0
  have hs0 := hb0.size
  clear hb0
  go_wp2_with fail
  refine (great_any _ acs _ (HA.out _ HB0.out) hr HB.out).mono ?_
  rw [HG.out]
  rintro e w1 ⟨rfl, hb1⟩
  have hb1' := HB0.out.trans (hb1.mono hs0)
  have hs1 := hb1'.size
  have HB1 := Lib.hid hb1'
  clear hb1 hb1'
  go_wp2_with fail
  go_loopw [6, 27] (fun v i wr => ∃ k : Nat, k ≤ acs.length ∧ i = .int .i64 k ∧ BackRel w acs w1.heap.size k v wr) (fun _ i _ => acs.length - (intOf i).toNat)
  case atStart =>
    exact ⟨0, Nat.zero_le _, rfl, none, Wr.new _ _, ⟨[], rfl, World.ownsRow_nil _ _ _ _, fun i hi => by simp [goods] at hi⟩, fun j hj => by simp [Value.ownBlock] at hj, HB1.out.alloc hs1 _⟩
  case round =>
    obtain ⟨k, hk, rfl, row, hwr, hown, hap, hbel⟩ := hrel
    rcases Nat.lt_or_ge k acs.length with hlt | hge
    · obtain ⟨b, o, arr, rfl, hat, hA⟩ := HE.out k hlt
      have hsz := hA.size
      obtain ⟨vb, g0, -, -, -, -, -, -⟩ := hA.get
      have HAT := Lib.hid (fun i u hu => (Below.cell hbel (p := ⟨b, o + k * 37 + i, none⟩) (World.block_lt_of_cell? w ⟨b, o + k * 37 + i, none⟩ (hat i u hu))).trans (hat i u hu) : At wr b (o + k * 37) arr.toList)
      have HS := Lib.hid hsz
      have HON := Lib.hid hA.one
      have HAc := Lib.hid hA
      have HBl := Lib.hid hbel
      have HW := Lib.hid hwr
      have HO := Lib.hid hown
      have HAp := Lib.hid hap
      have HX := Lib.hid (HLd.out k (by omega))
      have HX2 := Lib.hid (HSm.out _ (List.getElem_mem hlt))
      have hws := hwr.lt.1
      have hbs := hbel.size
      have hLS := laidG_step acs k hlt
      have hGS := goods_step acs k hlt
      clear hat hA hsz hbel hwr hown hap
      go_wp2_with (first | (refine load_act rfl (.tmp 29) rfl rfl HAT.out HS.out ?_) | (refine store_act rfl (.tmp 8) (.tmp 30) rfl rfl rfl (heap_alloc_new _ _) rfl HS.out HON.out ?_))
      intro w3 hb3 hf3 hs3
      have hfr3 : Fr (fun _ => False) wr w3 := by
        refine ⟨hf3.os, hf3.tape, hf3.output, by rw [hs3]; simp, fun k hk _ => ?_⟩
        exact (hf3.block k (Nat.lt_of_lt_of_le hk (by simp)) (by omega)).trans (Below.heap_alloc _ _ _ hk)
      have c0 : w3.cell? ⟨wr.heap.size, 0, none⟩ = some (.int .i64 acs[k].kind) := (cell_of_row w3 _ 0 _ _ _ hb3).trans g0
      have hs3' : w3.heap.size = wr.heap.size + 1 := by rw [hs3]
      have HB3 := Lib.hid hb3
      have HAT3 := Lib.hid (At.of_row (cs := arr.toList) (by simpa using hb3) : At w3 wr.heap.size 0 arr.toList)
      have HW3 := Lib.hid (HW.out.fr hfr3 id (fun _ _ => id))
      have HO3 := Lib.hid (HO.out.fr hfr3 (fun _ _ => id))
      have HBl3 := Lib.hid (HBl.out.trans (hfr3.below HBl.out.size (fun _ h => h.elim)))
      clear hb3 hf3 hs3 hfr3 g0
      by_cases h4 : acs[k].kind = 4
      · have hg : good acs[k] = false := by unfold good; simp [h4]
        rw [hg] at hLS hGS
        simp only [Bool.false_eq_true, if_false, List.append_nil] at hLS hGS
        have HLS := Lib.hid hLS
        have HGS := Lib.hid hGS
        rw [h4] at c0
        clear h4 hg hLS hGS
        go_wp2
        go_roundw
        case rel => exact ⟨k + 1, by omega, by go_num, row, by rw [HLS.out]; exact HW3.out, by rw [HGS.out]; exact HO3.out, HAp.out, HBl3.out⟩
        case measure => simp [intOf]; omega
      · have hle := layE_eq (laidG (acs.take k)) acs[k] h4
        have hlb := laidG_lay acs k hlt h4
        have b4 : (acs[k].kind != 4) = true := by simpa using h4
        have HLB := Lib.hid hlb
        have hgd : good acs[k] = decide (layE [] acs[k] = 0) := by unfold good; simp [h4]
        clear h4 hlb
        go_wp2_with (refine gload_act rfl (.tmp 8) rfl rfl HAT3.out HS.out ?_)
        refine (lay_any arr acs[k] _ w1.heap.size w1.heap.size row _ HW3.out (by omega) (HAc.out.fr (fun v hv => hv.below HBl3.out)) (by have := HX.out; omega) (by have := HX2.out; omega)).mono ?_
        rw [hle]
        rintro e w4 ⟨rfl, row4, hW4, hf4, hr4⟩
        rw [HLB.out] at hW4
        have hb4 : w4.heap[wr.heap.size]? = some (.cells arr 48 (0, 0)) := (hf4.block _ (by omega) (fun e => by
          rcases e with e | e
          · omega
          · have := (HW.out.lt.2 _ e).2; omega)).trans HB3.out
        have HAT4 := Lib.hid (At.of_row (cs := arr.toList) (by simpa using hb4) : At w4 wr.heap.size 0 arr.toList)
        have hO4 := HO3.out.fr hf4 (fun j hj e => by rcases e with e | e; (· exact (HAp.out j hj).1 e); (· exact (HAp.out j hj).2 e))
        have hap4 : Apart2 _ w1.heap.size row4 := fun j hj => by
          refine ⟨(HAp.out j hj).1, fun e => ?_⟩
          rcases hr4 j e with h | h
          · exact (HAp.out j hj).2 h
          · have := (HO3.out.lt j hj).2; omega
        have hbl4 := HBl3.out.trans (hf4.below HBl3.out.size (fun j hj => by rcases hj with e | e; (· omega); (· have := (HW.out.lt.2 j e).1; omega)))
        have hs4 := hf4.size
        have HW4 := Lib.hid hW4
        have HO4 := Lib.hid hO4
        have HAp4 := Lib.hid hap4
        have HBl4 := Lib.hid hbl4
        clear hW4 hf4 hr4 hb4 hO4 hap4 hbl4
        by_cases he : layE [] acs[k] = 0
        · rw [decide_eq_true he] at hgd
          rw [hgd] at hGS
          have HGS := Lib.hid hGS
          rw [he]
          clear he hgd hLS hGS hle
          obtain ⟨arrs, ha1, ha2, ha3⟩ := HO4.out
          have hS5 : Sl (w4.alloc (.cells arr 48)) 37 (.slice (some ⟨w4.heap.size, 0, none⟩) 1 1) 1 arr.toList := by
            refine ⟨by simp [HS.out], _, _, rfl, Nat.le_refl _, fun h => (by cases h), fun i u hu => ⟨_, 0, rfl, ?_⟩⟩
            rw [Nat.zero_add, cell_of_row _ w4.heap.size i _ 48 (0, 0) (heap_alloc_new _ _)]
            simpa using hu
          have HA2 := Lib.hid (ha2.fr ((Fr.refl (fun _ => False) w4).alloc (.cells arr 48)) (fun _ _ => id))
          have HS5 := Lib.hid hS5
          have HA1 := Lib.hid ha1
          have HA3 := Lib.hid ha3
          have hgl : (goods (acs.take k)).length ≤ 100 := by
            have := List.length_filter_le good (acs.take k)
            have h2 : (acs.take k).length ≤ k := by simp [List.length_take]; omega
            unfold goods; omega
          have HW5 := Lib.hid (HW4.out.fr ((Fr.refl (fun _ => False) w4).alloc (.cells arr 48)) id (fun _ _ => id))
          have HLT := Lib.hid HO4.out.lt
          clear ha1 ha2 ha3 hS5
          go_wp2_with (first | (refine load_act rfl (.tmp 8) rfl rfl HAT4.out HS.out ?_) | (refine build_act rfl (.tmp 40) rfl rfl HS.out ?_) | (refine append_act rfl (.tmp 39) (.tmp 41) rfl HA2.out HS5.out HON.out rfl rfl (by omega) (by simp; omega) ?_))
          intro aa cc w6 hown6 hf6 hat6
          have hO6 : ActsOwn w w6 w1.heap.size (.slice aa ((goods (acs.take k)).length + 1) cc) (goods (acs.take (k + 1))) := by
            rw [HGS.out]
            exact ActsOwn.snoc HA1.out HA3.out hown6 HAc.out
          have hW6 : Wr w6 w1.heap.size w1.heap.size row4 (laidG (acs.take (k + 1))) := HW5.out.fr hf6 (fun e => (HAp4.out _ e).1 rfl) (fun j hj e => (HAp4.out _ e).2 hj)
          have hap6 : Apart2 (.slice aa ((goods (acs.take k)).length + 1) cc) w1.heap.size row4 := fun j hj => by
            rcases hat6 with h | h
            · exact HAp4.out j (h ▸ hj)
            · have e1 := Option.some.inj (h.symm.trans hj)
              have h4 := HW4.out.lt
              refine ⟨by omega, fun e => ?_⟩
              have := (h4.2 _ e).2
              omega
          have hbl6 : Below w.heap.size w w6 := (HBl4.out.alloc HBl4.out.size _).trans (hf6.below (by have := HBl4.out.size; simp; omega) (fun j hj => by have := (HLT.out j hj).1; omega))
          have HO6 := Lib.hid hO6
          have HW6 := Lib.hid hW6
          have HAp6 := Lib.hid hap6
          have HBl6 := Lib.hid hbl6
          clear hown6 hf6 hat6 hO6 hW6 hap6 hbl6
          go_wp2
          go_roundw
          case rel => exact ⟨k + 1, by omega, by go_num, row4, HW6.out, HO6.out, HAp6.out, HBl6.out⟩
          case measure => simp [intOf]; omega
        · rw [decide_eq_false he] at hgd
          rw [hgd] at hGS
          simp only [Bool.false_eq_true, if_false, List.append_nil] at hGS
          have HGS := Lib.hid hGS
          have be : (layE [] acs[k] == 0) = false := by simpa using he
          clear he hgd hLS hGS hle
          go_wp2
          go_roundw
          case rel => exact ⟨k + 1, by omega, by go_num, row4, HW4.out, by rw [HGS.out]; exact HO4.out, HAp4.out, HBl4.out⟩
          case measure => simp [intOf]; omega
    · obtain rfl : k = acs.length := by omega
      have hX := HLd.out acs.length (Nat.le_refl _)
      rw [List.take_length] at hwr hown hX
      have hgE : ∀ a ∈ goods acs, a.kind ≠ 4 ∧ layE [] a = 0 := fun a ha => (goods_mem ha).2
      have hr0 : restG (goods acs) n 0 = laidG acs ++ List.replicate n 0 := rfl
      obtain ⟨gs, hgs⟩ : ∃ gs, gs = goods acs := ⟨_, rfl⟩
      obtain ⟨xs, hxs⟩ : ∃ xs, xs = laidG acs := ⟨_, rfl⟩
      have hgl : gs.length ≤ 100 := by
        have := List.length_filter_le good acs
        rw [hgs]; unfold goods; omega
      have hrl : ∀ j, (restG gs n j).length ≤ 40000 := fun j => by
        have h1 := restG_le gs n j
        rw [hgs, hr0, List.length_append, List.length_replicate] at h1
        rw [hgs]; omega
      rw [← hxs] at hX hwr hr0
      rw [← hgs] at hown hgE hr0
      obtain ⟨av, cv, rfl, _⟩ : ∃ av cv, _ = Value.slice av gs.length cv ∧ True := by
        obtain ⟨arrs, _, ha2, _⟩ := hown
        obtain ⟨av, cv, e, _⟩ := (Sl.own ha2).len
        exact ⟨av, cv, e, trivial⟩
      have hpad := fun w' h h2 => wPad_ok w1.heap.size w1.heap.size (xs.length + n) row xs w' h h2 (by omega) (by omega)
      rw [Nat.add_sub_cancel_left, ← hr0] at hpad
      simp only [Int.natCast_add] at hpad
      have HPAD := Lib.hid hpad
      have HX := Lib.hid hX
      have HRL := Lib.hid hrl
      have HW := Lib.hid hwr
      have HO := Lib.hid hown
      have HAp := Lib.hid hap
      have HBl := Lib.hid hbel
      have HGE := Lib.hid hgE
      have hws := hwr.lt.1
      have hbs := hbel.size
      clear hpad hrl hwr hown hap hbel hgE hr0 hgs hxs hge
      go_wp2_with fail
      refine (wBytes_ok w1.heap.size w1.heap.size row _ _ HW.out (by have := HX.out; omega)).mono ?_
      rintro e w2 ⟨a2, c2, rfl, -, hb2⟩
      have HW2 := Lib.hid (HW.out.fr (Fr.of_below (S := fun _ => False) hb2) id (fun _ _ => id))
      have HO2 := Lib.hid (HO.out.fr (Fr.of_below (S := fun _ => False) hb2) (fun _ _ => id))
      have HB2 := Lib.hid (HBl.out.trans (hb2.mono hbs))
      clear hb2
      go_wp2_with fail
      refine (HPAD.out _ HW2.out (by have := HW2.out.lt.1; omega)).mono ?_
      rintro e w3 ⟨rfl, row3, hW3, hf3, hr3⟩
      have HO3 := Lib.hid (HO2.out.fr hf3 (fun j hj e => by rcases e with e | e; (· exact (HAp.out j hj).1 e); (· exact (HAp.out j hj).2 e)))
      have HB3 := Lib.hid (HB2.out.trans (hf3.below HB2.out.size (fun j hj => by rcases hj with e | e; (· omega); (· have := (HW2.out.lt.2 j e).1; omega))))
      have HW3 := Lib.hid hW3
      clear hW3 hf3 hr3
      go_wp2_with fail
      refine (wBytes_ok w1.heap.size w1.heap.size row3 _ _ HW3.out (by have := HRL.out 0; omega)).mono ?_
      rintro e w4 ⟨a4, c4, rfl, hown4, hb4⟩
      have HS4 := Lib.hid (Sl.own hown4)
      have HO4 := Lib.hid (HO3.out.fr (Fr.of_below (S := fun _ => False) hb4) (fun _ _ => id))
      have HB4 := Lib.hid (HB3.out.trans (hb4.mono HB3.out.size))
      clear hown4 hb4
      go_wp2_with fail
      refine (read_any _ _ _ HS4.out (by have := HRL.out 0; omega)).mono ?_
      rintro e w5 ⟨br, hbr, rfl, hrd, hb5⟩
      have HO5 := Lib.hid (HO4.out.fr (Fr.of_below (S := fun _ => False) hb5) (fun _ _ => id))
      have HB5 := Lib.hid (HB4.out.trans (hb5.mono HB4.out.size))
      have HR5 := Lib.hid hrd
      have HLT5 := Lib.hid HO4.out.lt
      clear hrd hb5
      go_wp2_with fail
      go_loopw [56, 12] (fun i u wz => ∃ j : Nat, j ≤ gs.length ∧ i = .int .i64 j ∧ Rd wz br (restG gs n j) ∧ Fr (fun k => k = br) w5 wz) (fun i _ _ => gs.length - (intOf i).toNat)
      case atStart => exact ⟨0, Nat.zero_le _, rfl, HR5.out, Fr.refl _ _⟩
      case round =>
        obtain ⟨j, hj, rfl, hrd, hfr⟩ := hrel
        have hbz : Below w.heap.size w wr := HB5.out.trans (hfr.below HB5.out.size (fun k hk => by have := HB4.out.size; omega))
        have hoz := HO5.out.fr hfr (fun k hk e => by have := (HLT5.out k hk).2; omega)
        have HFR := Lib.hid hfr
        have HBZ := Lib.hid hbz
        rcases Nat.lt_or_ge j gs.length with hjl | hjl
        · obtain ⟨a', cap', e', hel⟩ := hoz.in hbz
          simp only [Value.slice.injEq, true_and] at e'
          obtain ⟨rfl, rfl⟩ := e'
          obtain ⟨b, o, arr, rfl, hat, hA⟩ := hel j hjl
          rw [restG_step gs n j hjl] at hrd
          have hE2 := HGE.out gs[j] (List.getElem_mem hjl)
          have hk := bytesA_kinds gs[j] hE2.1 hE2.2
          have hrl := HRL.out j
          rw [restG_step gs n j hjl] at hrl
          obtain ⟨ac, hac⟩ : ∃ ac, ac = gs[j]'hjl := ⟨_, rfl⟩
          rw [← hac] at hrd hk hA hrl
          obtain ⟨R, hR⟩ : ∃ R, R = restG gs n (j + 1) := ⟨_, rfl⟩
          rw [← hR] at hrd hrl
          obtain ⟨vb, g0, g1, g2, g3, g36, hsl, hh⟩ := hA.get
          have HHs := Lib.hid hh
          have HHl := Lib.hid hA.hash
          have HAT := Lib.hid hat
          have HS := Lib.hid hA.size
          have HON := Lib.hid hA.one
          have HSL := Lib.hid hsl
          have HRd := Lib.hid hrd
          have HK := Lib.hid hk
          have HRE := Lib.hid hR
          have hbrl := hrd.lt
          obtain ⟨vba, vbc, rfl, _⟩ := hsl.len
          clear hat hA hrd hfr hbz hoz hel hE2 hk hac hR hsl hh
          go_wp2_with (first | (refine load_act rfl (.tmp 58) rfl rfl HAT.out HS.out ?_) | (refine store_act rfl (.tmp 12) (.tmp 59) rfl rfl rfl (heap_alloc_new _ _) rfl HS.out HON.out ?_))
          intro w6 hb6 hf6 hs6
          have hbel6 : Below wr.heap.size wr w6 := ((Below.refl _ wr).alloc (Nat.le_refl _) _).trans (hf6.below (by simp) (fun k hk => by omega))
          have c0 : w6.cell? ⟨wr.heap.size, 0, none⟩ = some (.int .i64 ac.kind) := (cell_of_row w6 _ 0 _ _ _ hb6).trans g0
          have hlt6 : wr.heap.size < w6.heap.size := lt_of_block hb6
          have HB6 := Lib.hid hb6
          have HR6 := Lib.hid (HRd.out.below hbel6)
          have HF6 := Lib.hid (HFR.out.trans (Fr.of_below (S := fun k => k = br) hbel6))
          have HSL6 := Lib.hid (HSL.out.below hbel6)
          clear hb6 hf6 hs6 hbel6
          rcases HK.out with ⟨k1, ks, kb⟩ | ⟨k2, kb⟩ | ⟨k3, kb⟩ | ⟨k1, k2, k3, m, hm, h8, hx, kb⟩
          · rw [kb] at HR6 hrl
            rw [k1] at c0
            have HKS := Lib.hid ks
            clear k1 kb HK ks
            go_wp2_with fail
            refine (rStr_any br _ _ HR6.out (by omega)).mono ?_
            rw [read_str _ _ HKS.out]
            rintro e w7 ⟨rfl, hr7, hf7⟩
            have c3 : w7.cell? ⟨wr.heap.size, 3, none⟩ = some (.string ac.s) := (cell_of_row w7 _ 3 _ _ _ ((hf7.block _ hlt6 (by omega)).trans HB6.out)).trans g3
            have HR7 := Lib.hid hr7
            have HF7 := Lib.hid (HF6.out.trans hf7)
            clear hr7 hf7 c0
            go_wp2
            go_roundw
            case rel => exact ⟨j + 1, by omega, by go_num, by rw [← HRE.out]; exact HR7.out, HF7.out⟩
            case measure => simp [intOf]; omega
          · rw [kb] at HR6 hrl
            rw [k2] at c0
            clear k2 kb HK
            go_wp2_with fail
            refine (rHash_any br _ _ HR6.out (by omega)).mono ?_
            rw [read_hash _ _ HHl.out]
            rintro e w7 ⟨rfl, hr7, hf7⟩
            have hb7 := (hf7.block _ hlt6 (by omega)).trans HB6.out
            have HB7 := Lib.hid hb7
            have HR7 := Lib.hid hr7
            have HF7 := Lib.hid (HF6.out.trans hf7)
            have hlt7 := lt_of_block hb7
            clear hr7 hf7 c0 hb7
            go_wp2_with (refine store_hash rfl (.tmp 15) (.tmp 97) rfl rfl rfl (alloc_zero32 w7) (by simp) HHl.out ?_)
            intro w8 hg8 hf8
            have hb8 : Below w7.heap.size w7 w8 := ((Below.refl _ w7).alloc (Nat.le_refl _) _).trans (hf8.below (by simp) (fun k hk => by omega))
            have HR8 := Lib.hid (HR7.out.below hb8)
            have HF8 := Lib.hid (HF7.out.trans (Fr.of_below (S := fun k => k = br) hb8))
            have HA8 := Lib.hid (At.of_row (cs := ac.h.map Bv) hg8)
            have HA9 := Lib.hid (show At w8 wr.heap.size 4 (ac.h.map Bv) from fun i u hu => (cell_of_row w8 _ (4 + i) _ _ _ ((hb8.block _ hlt7).trans HB7.out)).trans (HHs.out i u hu))
            clear hg8 hf8 hb8
            go_wp2_with (first | (refine load_hash' rfl (.tmp 15) rfl rfl HA8.out HHl.out ?_) | (refine load_hash' rfl (.tmp 100) rfl rfl HA9.out HHl.out ?_) | (refine neq_hash rfl (.tmp 99) (.tmp 101) _ rfl rfl rfl HHl.out HHl.out ?_))
            go_roundw
            case rel => exact ⟨j + 1, by omega, by go_num, by rw [← HRE.out]; exact HR8.out, HF8.out⟩
            case measure => simp [intOf]; omega
          · rw [kb] at HR6 hrl
            rw [k3] at c0
            clear k3 kb HK
            have c36 : w6.cell? ⟨wr.heap.size, 36, none⟩ = some (.slice vba ac.b.length vbc) := (cell_of_row w6 _ 36 _ _ _ HB6.out).trans g36
            go_wp2_with fail
            refine (rRaw_any br _ _ _ HR6.out (by omega)).mono ?_
            rw [read_raw]
            rintro e w7 ⟨v7, rfl, ho7, hr7, hf7⟩
            have c37 : w7.cell? ⟨wr.heap.size, 36, none⟩ = some (.slice vba ac.b.length vbc) := (cell_of_row w7 _ 36 _ _ _ ((hf7.block _ hlt6 (by omega)).trans HB6.out)).trans g36
            have HS7 := Lib.hid (Sl.own ho7)
            have HSL7 := Lib.hid (HSL6.out.stay hf7 (fun p x hp => HR6.out.notByte p x hp))
            have HR7 := Lib.hid hr7
            have HF7 := Lib.hid (HF6.out.trans hf7)
            clear hr7 hf7 ho7 c0 c36
            go_wp2_with fail
            refine (same_any _ _ _ _ _ _ _ HS7.out HSL7.out).mono ?_
            rintro e w8 ⟨rfl, rfl⟩
            rw [decide_eq_true (rfl : ac.b = ac.b)]
            go_wp2
            go_roundw
            case rel => exact ⟨j + 1, by omega, by go_num, by rw [← HRE.out]; exact HR7.out, HF7.out⟩
            case measure => simp [intOf]; omega
          · rw [kb] at HR6 hrl
            have b1 : (ac.kind == 1) = false := by simpa using k1
            have b2 : (ac.kind == 2) = false := by simpa using k2
            have b3 : (ac.kind == 3) = false := by simpa using k3
            have c1 : w6.cell? ⟨wr.heap.size, 1, none⟩ = some (.int .i64 (m : Int)) := by rw [← hm]; exact (cell_of_row w6 _ 1 _ _ _ HB6.out).trans g1
            have HX8 := Lib.hid hx
            clear k1 k2 k3 kb HK hx hm
            go_wp2_with fail
            refine (rNum_any br _ _ _ HR6.out (by omega)).mono ?_
            rw [read_num _ _ _ h8 HX8.out]
            rintro e w7 ⟨rfl, hr7, hf7⟩
            have c2 : w7.cell? ⟨wr.heap.size, 2, none⟩ = some (.int .u64 (ac.n : Int)) := (cell_of_row w7 _ 2 _ _ _ ((hf7.block _ hlt6 (by omega)).trans HB6.out)).trans g2
            have HR7 := Lib.hid hr7
            have HF7 := Lib.hid (HF6.out.trans hf7)
            clear hr7 hf7 c0 c1
            go_wp2
            go_roundw
            case rel => exact ⟨j + 1, by omega, by go_num, by rw [← HRE.out]; exact HR7.out, HF7.out⟩
            case measure => simp [intOf]; omega
        · obtain rfl : j = gs.length := by omega
          rw [restG_len] at hrd
          have hE : endE (List.replicate n (0 : UInt8)) = 0 := endE_zero (fun y hy => (List.mem_replicate.1 hy).2)
          have HE0 := Lib.hid hE
          obtain ⟨zs, hzs⟩ : ∃ zs, zs = List.replicate n (0 : UInt8) := ⟨_, rfl⟩
          have hzl : zs.length = n := by rw [hzs]; simp
          rw [← hzs] at hrd HE0
          have HRd := Lib.hid hrd
          have HZL := Lib.hid hzl
          clear hrd hfr hbz hoz hE hzs hzl
          go_wp2_with fail
          refine (rLeft_any br zs _ HRd.out).mono ?_
          rw [HZL.out]
          rintro e w6 ⟨rfl, rfl⟩
          go_wp2_with fail
          refine (rEnd_any br zs _ HRd.out (by rw [HZL.out]; omega)).mono ?_
          rw [HE0.out]
          rintro e w7 ⟨rfl, -, hb7⟩
          have HB7 := Lib.hid (HBZ.out.trans (hb7.mono HBZ.out.size))
          clear hb7
          go_wp2
          go_ret
          exact ⟨by simp, HB7.out⟩

end Go.Proofs.YtdhlcofjpkbgaaaDoor
