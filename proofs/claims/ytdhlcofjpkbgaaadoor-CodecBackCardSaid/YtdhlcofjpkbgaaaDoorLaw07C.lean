/- Slices of acts; the walk of banyanlaw07's great. -/
import Derived.Test.YtdhlcofjpkbgaaaDoorActs
import Derived.Test.YtdhlcofjpkbgaaaDoorLaw07
namespace Go.Proofs.YtdhlcofjpkbgaaaDoor
open Go.RowKit

/-- A slice of acts. -/
def ActsIn (w : World) (v : Value) (acs : List Ac) : Prop :=
  ∃ a cap, v = .slice a acs.length cap ∧ ∀ i (h : i < acs.length), ∃ b o arr, a = some ⟨b, o, none⟩ ∧ At w b (o + i * 37) arr.toList ∧ AcIs w arr acs[i]

theorem ActsIn.below {w w' : World} {v : Value} {acs : List Ac} (h : ActsIn w v acs) (hb : Below w.heap.size w w') : ActsIn w' v acs := by
  obtain ⟨a, cap, rfl, hel⟩ := h
  refine ⟨a, cap, rfl, fun i hi => ?_⟩
  obtain ⟨b, o, arr, rfl, hat, hA⟩ := hel i hi
  exact ⟨b, o, arr, rfl, hat.fr (Fr.of_below (S := fun _ => False) hb) id, hA.fr (fun v hv => hv.below hb)⟩

/-- What an act counts in great. -/
def costOf (a : Ac) : Int := (a.b.length + a.s.size : Int) + (if a.kind = 4 ∧ a.size ≤ 65536 then max 0 a.size else 0)
def cost (acs : List Ac) : Int := (acs.map costOf).sum

theorem info_act : (Tryd.prog.info? 48).map (·.size) = some 37 := by kernel_rfl

theorem load_act {ops : Array Oper} {rest : List Oper} {o : Oper} {a : Act} {w : World} {Q : Exit → Act → World → Prop} (hgd : o.guard = none) (x : Operand) (ho : o.op = .load 48 x)
    {b off : Nat} (hx : a.eval x = .pointer (some ⟨b, off, none⟩)) {arr : Array Value} (hc : At w b off arr.toList) (hl : arr.size = 37)
    (hK : wpList Tryd.prog ops Q rest (a.put o.dst (.agg arr)) w) : wpList Tryd.prog ops Q (o :: rest) a w :=
  wpList_load_at hgd _ x ho b off hx arr.toList _ hc Tryd.underlying48 rfl (by rw [info_act]; simp [hl]) (by simpa using hK)

theorem store_act {ops : Array Oper} {rest : List Oper} {o : Oper} {a : Act} {w : World} {Q : Exit → Act → World → Prop} (hgd : o.guard = none) (x y : Operand) (ho : o.op = .store 48 x y)
    {b : Nat} (hx : a.eval x = .pointer (some ⟨b, 0, none⟩)) {arr : Array Value} (hy : a.eval y = .agg arr) {old : Array Value} (hb : w.heap[b]? = some (.cells old 48 (0, 0))) (ho2 : old.size = 37) (hl : arr.size = 37)
    (h1 : ∀ u ∈ arr.toList, u.oneCell' = true)
    (hK : ∀ w', w'.heap[b]? = some (.cells arr 48 (0, 0)) → Fr (fun k => k = b) w w' → w'.heap.size = w.heap.size → wpList Tryd.prog ops Q rest (a.put o.dst undef) w') : wpList Tryd.prog ops Q (o :: rest) a w :=
  wpList_store_row hgd _ x y ho b hx arr.toList (by simpa using hy) old _ hb (by simp [ho2, hl]) h1 (by rw [info_act]; simp [hl]) (fun w' h1 h2 h3 => hK w' (by simpa using h1) h2 h3)

theorem AcIs.one {w : World} {arr : Array Value} {a : Ac} (h : AcIs w arr a) : ∀ u ∈ arr.toList, u.oneCell' = true := by
  obtain ⟨⟨v, h1, h2⟩, h3, h4⟩ := h
  obtain ⟨aa, cc, rfl, _⟩ := h2.len
  rw [h1]
  intro u hu
  simp only [List.mem_append, List.mem_cons, List.mem_map, List.not_mem_nil, or_false] at hu
  rcases hu with ((rfl | rfl | rfl | rfl) | ⟨x, _, rfl⟩) | rfl <;> rfl

theorem wrap64_add (a b : Int) : wrap64 (wrap64 a + b) = wrap64 (a + b) := by unfold wrap64; omega
theorem wrap64_wrap64 (a : Int) : wrap64 (wrap64 a) = wrap64 a := by unfold wrap64; omega
theorem cost_step (acs : List Ac) (k : Nat) (h : k < acs.length) : cost (acs.take (k + 1)) = cost (acs.take k) + ((acs[k].b.length + acs[k].s.size : Int) + (if acs[k].kind = 4 ∧ acs[k].size ≤ 65536 then max 0 acs[k].size else 0)) := by
  unfold cost
  rw [List.take_succ_eq_append_getElem h, List.map_append, List.sum_append]
  simp [costOf]

set_option maxHeartbeats 1000000 in
theorem great_any (v : Value) (acs : List Ac) (w : World) (h : ActsIn w v acs) (hr : acs.length ≤ 140737488351232) (hb : ∀ a ∈ acs, a.b.length ≤ 140737488351232 ∧ a.s.size ≤ 140737488351232 ∧ -9223372036854775808 ≤ a.size ∧ a.size ≤ 9223372036854775807) :
    Calls Tryd.prog 24 #[v] w fun e w' => e = .returned (.bool (decide (100 < (acs.length : Int)) || decide (9000 < wrap64 (cost acs)))) ∧ Below w.heap.size w w' := by
  obtain ⟨a, cap, rfl, hel⟩ := h
  have HE := Lib.hid hel
  have HB := Lib.hid hb
  clear hel hb
  go_enter Tryd.func24, Tryd.ntmps24
  go_wp2_with fail
  go_loopw [3, 8] (fun n i wr => ∃ k : Nat, k ≤ acs.length ∧ i = .int .i64 k ∧ n = .int .i64 (wrap64 (cost (acs.take k))) ∧ Below w.heap.size w wr) (fun _ i _ => acs.length - (intOf i).toNat)
  case atStart => exact ⟨0, Nat.zero_le _, rfl, by simp [cost, wrap64], Below.refl _ _⟩
  case round =>
    obtain ⟨k, hk, rfl, rfl, hbel⟩ := hrel
    rcases Nat.lt_or_ge k acs.length with hlt | hge
    · obtain ⟨b, o, arr, rfl, hat, hA⟩ := HE.out k hlt
      obtain ⟨vb, g0, g1, g2, g3, g36, hsl, hh⟩ := hA.get
      have hsz := hA.size
      have HAT := Lib.hid (fun i u hu => (Below.cell hbel (p := ⟨b, o + k * 37 + i, none⟩) (World.block_lt_of_cell? w ⟨b, o + k * 37 + i, none⟩ (hat i u hu))).trans (hat i u hu) : At wr b (o + k * 37) arr.toList)
      have HS := Lib.hid hsz
      have HON := Lib.hid hA.one
      have HBl := Lib.hid hbel
      have hsl' := hsl
      clear hat hh hA hsl hsz hbel
      obtain ⟨ab, as_, al, ah⟩ := HB.out _ (List.getElem_mem hlt)
      obtain ⟨va, vc, rfl, _⟩ := hsl'.len
      have HL := Lib.hid (cost_step acs k hlt)
      clear hsl'
      go_wp2_with (first | (refine load_act rfl (.tmp 10) rfl rfl HAT.out HS.out ?_) | (refine store_act rfl (.tmp 5) (.tmp 11) rfl rfl rfl (heap_alloc_new _ _) rfl HS.out HON.out ?_))
      intro w1 hb1 hf hs1
      have c0 : w1.cell? ⟨wr.heap.size, 0, none⟩ = some (.int .i64 acs[k].kind) := (cell_of_row w1 _ 0 _ _ _ hb1).trans g0
      have c1 : w1.cell? ⟨wr.heap.size, 1, none⟩ = some (.int .i64 acs[k].size) := (cell_of_row w1 _ 1 _ _ _ hb1).trans g1
      have c3 : w1.cell? ⟨wr.heap.size, 3, none⟩ = some (.string acs[k].s) := (cell_of_row w1 _ 3 _ _ _ hb1).trans g3
      have c36 : w1.cell? ⟨wr.heap.size, 36, none⟩ = some (.slice va acs[k].b.length vc) := (cell_of_row w1 _ 36 _ _ _ hb1).trans g36
      have hB1 : Below w.heap.size w w1 := (HBl.out.alloc HBl.out.size _).trans (hf.below (by simp; have := HBl.out.size; omega) (fun j hj => by have := HBl.out.size; omega))
      have HB1 := Lib.hid hB1
      clear hb1 hf hs1 hB1 g0 g1 g2 g3 g36
      by_cases h4 : acs[k].kind = 4
      · rw [h4] at c0
        by_cases h5 : acs[k].size ≤ 65536
        · rcases Int.lt_or_le 0 acs[k].size with h6 | h6
          · rw [if_pos ⟨h4, h5⟩, Int.max_eq_right (by omega)] at HL
            clear h4
            go_wp2
            go_roundw
            case rel => exact ⟨k + 1, by omega, by go_num, by rw [HL.out]; simp only [wrap64_add, wrap64_wrap64, Int.add_assoc, Int.add_zero], HB1.out⟩
            case measure => simp [intOf]; omega
          · rw [if_pos ⟨h4, h5⟩, Int.max_eq_left (by omega)] at HL
            clear h4
            go_wp2
            go_roundw
            case rel => exact ⟨k + 1, by omega, by go_num, by rw [HL.out]; simp only [wrap64_add, wrap64_wrap64, Int.add_assoc, Int.add_zero], HB1.out⟩
            case measure => simp [intOf]; omega
        · rw [if_neg (fun h => h5 h.2)] at HL
          clear h4
          go_wp2
          go_roundw
          case rel => exact ⟨k + 1, by omega, by go_num, by rw [HL.out]; simp only [wrap64_add, wrap64_wrap64, Int.add_assoc, Int.add_zero], HB1.out⟩
          case measure => simp [intOf]; omega
      · rw [if_neg (fun h => h4 h.1)] at HL
        have h4' : (acs[k].kind == 4) = false := by simp [h4]
        clear h4
        go_wp2
        go_roundw
        case rel => exact ⟨k + 1, by omega, by go_num, by rw [HL.out]; simp only [wrap64_add, wrap64_wrap64, Int.add_assoc, Int.add_zero], HB1.out⟩
        case measure => simp [intOf]; omega
    · obtain rfl : k = acs.length := by omega
      have e := List.take_length (l := acs)
      have E := Lib.hid e
      have HBl := Lib.hid hbel
      clear e hbel
      rcases Nat.lt_or_ge 100 acs.length with h | h
      · go_wp2
        go_ret
        exact ⟨by simp [h], HBl.out⟩
      · rw [E.out]
        go_wp2
        go_ret
        exact ⟨by simp [show ¬ 100 < acs.length by omega], HBl.out⟩

theorem wrap64_of (x : Int) (h0 : -9223372036854775808 ≤ x) (h1 : x ≤ 9223372036854775807) : wrap64 x = x := by unfold wrap64; omega

theorem costOf_bounds (a : Ac) (h : a.b.length ≤ 140737488351232 ∧ a.s.size ≤ 140737488351232 ∧ -9223372036854775808 ≤ a.size ∧ a.size ≤ 9223372036854775807) : 0 ≤ costOf a ∧ costOf a ≤ 300000000000000 ∧ (a.b.length : Int) ≤ costOf a := by
  unfold costOf
  split
  · rename_i h4
    have : max 0 a.size ≤ 65536 := by omega
    omega
  · omega
theorem cost_bounds (acs : List Ac) (hb : ∀ a ∈ acs, a.b.length ≤ 140737488351232 ∧ a.s.size ≤ 140737488351232 ∧ -9223372036854775808 ≤ a.size ∧ a.size ≤ 9223372036854775807) :
    0 ≤ cost acs ∧ cost acs ≤ acs.length * 300000000000000 ∧ ∀ a ∈ acs, (a.b.length : Int) ≤ cost acs := by
  induction acs with
  | nil => simp [cost]
  | cons a l ih =>
    have h1 := ih (fun x hx => hb x (by simp [hx]))
    have h2 := costOf_bounds a (hb a (by simp))
    have e : cost (a :: l) = costOf a + cost l := by simp [cost]
    rw [e, List.length_cons]
    refine ⟨by omega, by omega, fun x hx => ?_⟩
    rcases List.mem_cons.1 hx with rfl | hx
    · omega
    · have := h1.2.2 x hx; omega

/-- All that is laid by acts, one behind the other. -/
def layAll (acs : List Ac) : List UInt8 := acs.foldl layB []
theorem layB_length (xs : List UInt8) (a : Ac) (hh : a.h.length = 32) (hb : a.b.length ≤ 9000) : (layB xs a).length ≤ xs.length + 65536 := by
  unfold layB
  split
  · split
    · omega
    · rw [List.length_append, strB_length]; omega
  split
  · rw [List.length_append]; omega
  split
  · rw [List.length_append]; omega
  split
  · split
    · omega
    · rw [List.length_append, List.length_replicate]; omega
  split
  · omega
  · rw [List.length_append, putB_length]; omega

end Go.Proofs.YtdhlcofjpkbgaaaDoor
