/- Walks: banyanlaw10's UberSizes and UberNewer. -/
import Derived.Test.YtdmgmpagnmmehaaDoorUberA
namespace Go.Proofs.YtdmgmpagnmmehaaDoor
open Go.RowKit

theorem qeql_ub {ops : Array Oper} {C : World → Prop} {Q : Act → Prop} {rest : List Oper} {o : Oper} {a : Act} (hw : Region.wanted o (yielded ops a.tmps) = true) (x y : Operand) (yt : TypeId) (ho : o.op = .binOp .eql 49 x y yt)
    {u v : Ub} (hx : a.eval x = .agg u.arr) (hy : a.eval y = .agg v.arr) (h1 : u.Wf) (h2 : v.Wf) (h : wpQuiet Tryd.prog ops C Q rest (a.put o.dst (.bool (decide (u = v))))) : wpQuiet Tryd.prog ops C Q (o :: rest) a :=
  BigFrame.wpQuiet_want hw fun K hK => ⟨.bool (decide (u = v)), fun w _ => by
    unfold Oper.quietAt execOp
    simp only [ho, hx, hy, Sem.run_bind, run_eqGuard_agg w _ _ _ _ _ _ guard_ub, Result.andThen_ok, run_eql_struct, run_equalIn_ub u v h1 h2 w]
    exact ⟨rfl, rfl⟩, hK _ h⟩
theorem gneq_ub {ops : Array Oper} {rest : List Oper} {o : Oper} {a : Act} {w : World} {Q : Exit → Act → World → Prop} (hw : Region.wanted o (yielded ops a.tmps) = true) (x y : Operand) (yt : TypeId) (ho : o.op = .binOp .neq 49 x y yt)
    {u v : Ub} (hx : a.eval x = .agg u.arr) (hy : a.eval y = .agg v.arr) (h1 : u.Wf) (h2 : v.Wf)
    (hK : wpList Tryd.prog ops Q rest (a.put o.dst (.bool (!decide (u = v)))) w) : wpList Tryd.prog ops Q (o :: rest) a w := by
  refine BigFrame.wpList_want hw fun K hKK => ?_
  unfold Oper.wp execOp
  simp only [ho, hx, hy, Sem.run_bind, run_eqGuard_agg w _ _ _ _ _ _ guard_ub, Result.andThen_ok, run_neq_struct, run_equalIn_ub u v h1 h2 w]
  exact hKK _ _ hK
theorem gload_ub {ops : Array Oper} {rest : List Oper} {o : Oper} {a : Act} {w : World} {Q : Exit → Act → World → Prop} (hw : Region.wanted o (yielded ops a.tmps) = true) (x : Operand) (ho : o.op = .load 49 x)
    {b off : Nat} (hx : a.eval x = .pointer (some ⟨b, off, none⟩)) {u : Ub} (hc : At w b off u.cells) (hl : u.Wf)
    (hK : wpList Tryd.prog ops Q rest (a.put o.dst (.agg u.arr)) w) : wpList Tryd.prog ops Q (o :: rest) a w :=
  gload_at hw _ x ho b off hx u.cells _ hc Tryd.underlying49 rfl (by rw [info_ub, hl.len]) hK

/-- The same uber, of a later number, on a greater device. -/
def laterU (u : Ub) (k : Nat) : Ub := ⟨u.txg + k, min 4096 (u.size + k), u.root⟩
theorem laterU_wf {u : Ub} {k : Nat} (h : u.Wf) (ht : u.txg + k < 18446744073709551616) : (laterU u k).Wf := ⟨ht, (show min 4096 (u.size + k) < 4294967296 by omega), h.root⟩
theorem laterU_ok {u : Ub} {k : Nat} (hc : ubE u = 0) : ubE (laterU u k) = 0 := by
  rw [ubE_split] at hc ⊢
  unfold ubOk at hc ⊢
  simp only [Bool.and_eq_true, decide_eq_true_eq] at hc ⊢
  obtain ⟨⟨⟨h0, h1⟩, h2⟩, h3⟩ := hc
  refine ⟨⟨⟨?_, ?_⟩, ?_⟩, ?_⟩
  · show u.txg + k ≠ 0; omega
  · show 16 ≤ min 4096 (u.size + k); omega
  · show min 4096 (u.size + k) ≤ 4096; omega
  · show ptrOk u.root ((min 4096 (u.size + k) : Nat) : Int) = true
    unfold ptrOk at h3 ⊢
    split
    · rename_i h; rw [if_pos h] at h3; exact h3
    · rename_i h
      rw [if_neg h] at h3
      simp only [Bool.and_eq_true, decide_eq_true_eq] at h3 ⊢
      exact ⟨⟨h3.1.1, by omega⟩, h3.2⟩

theorem qeql_same {ops : Array Oper} {C : World → Prop} {Q : Act → Prop} {rest : List Oper} {o : Oper} {a : Act} (hw : Region.wanted o (yielded ops a.tmps) = true) (x y : Operand) (yt : TypeId) (ho : o.op = .binOp .eql 49 x y yt)
    {u : Ub} (hx : a.eval x = .agg u.arr) (hy : a.eval y = .agg u.arr) (h1 : u.Wf) (h : wpQuiet Tryd.prog ops C Q rest (a.put o.dst (.bool true))) : wpQuiet Tryd.prog ops C Q (o :: rest) a :=
  qeql_ub hw x y yt ho hx hy h1 h1 (by rw [decide_eq_true rfl]; exact h)
theorem even_low (a : Nat) (h : a < 18446744073709551616) : ∃ a' : Nat, bits .andNot .u64 (a : Int) 1 = (a' : Int) ∧ a' % 2 = 0 ∧ a' < 18446744073709551616 := by
  have e := u64_andNot_nat a 1 h (by decide)
  rw [show ((1 : Nat) : Int) = 1 from rfl] at e
  refine ⟨_, e, ?_, Nat.lt_of_le_of_lt Nat.and_le_left h⟩
  rw [← Nat.and_one_is_mod, Nat.and_assoc, show (18446744073709551615 - 1) &&& 1 = 0 from by decide, Nat.and_zero]
theorem odd_low (b : Nat) (h : b < 18446744073709551616) : ∃ b' : Nat, bits .or .u64 (b : Int) 1 = (b' : Int) ∧ b' % 2 = 1 ∧ b' < 18446744073709551616 := by
  have e := u64_or_nat b 1 h (by decide)
  rw [show ((1 : Nat) : Int) = 1 from rfl] at e
  refine ⟨_, e, ?_, Nat.or_lt_two_pow (n := 64) h (by decide)⟩
  rw [← Nat.and_one_is_mod, Nat.and_or_distrib_right, Nat.and_one_is_mod]
  rcases Nat.mod_two_eq_zero_or_one b with h | h <;> rw [h] <;> rfl
theorem ubGet' (vk v : Value) (n m : Nat) (key xs : List UInt8) (w : World) (hk : Sl w 1 vk n (key.map Bv)) (hr : n ≤ 140737488351232) (h : Sl w 1 v m (xs.map Bv)) :
    Calls Tryd.prog 23 #[vk, v] w fun e w' => e = .returned (.tuple #[.agg (getU key xs).arr, .int .i64 (errU key xs)]) ∧ Below w.heap.size w w' := by
  have e1 : key.length = n := by simpa using hk.1
  have e2 : xs.length = m := by simpa using h.1
  subst e1 e2
  exact ubGet_any vk v key xs w hk hr h
theorem chS_no {s : Ub × Int} {k : Nat} {g : Ub × Int} (h : ¬ (g.2 = 0 ∧ g.1.txg % 2 = k)) : chS s k g = s := by unfold chS; rw [if_neg (fun hh => h ⟨hh.1, hh.2.1⟩)]
theorem chS_yes {s : Ub × Int} {k : Nat} {g : Ub × Int} (h : g.2 = 0 ∧ g.1.txg % 2 = k ∧ s.1.txg < g.1.txg) : chS s k g = (g.1, 0) := by unfold chS; rw [if_pos h]
theorem chN_first {key xa r : List UInt8} {u : Ub} (ha : errU key xa = 0) (hu : getU key xa = u) (h0 : u.txg % 2 = 0) (hp : 0 < u.txg) (hr : ¬ errU key r = 0) : chN key xa r 2 = (u, 0) := by
  unfold chN; simp only [ha, hu]
  rw [chS_no (k := 1) (fun h => hr h.1), chS_yes ⟨rfl, h0, hp⟩]
theorem chN_second {key r xb : List UInt8} {v : Ub} (hb : errU key xb = 0) (hv : getU key xb = v) (h1 : v.txg % 2 = 1) (hr : ¬ errU key r = 0) : chN key r xb 2 = (v, 0) := by
  unfold chN; simp only [hb, hv]
  rw [chS_no (k := 0) (fun h => hr h.1), chS_yes ⟨rfl, h1, (by show 0 < v.txg; omega)⟩]
theorem chN_none {key xa xb : List UInt8} (h0 : ¬ (errU key xa = 0 ∧ (getU key xa).txg % 2 = 0)) (h1 : ¬ (errU key xb = 0 ∧ (getU key xb).txg % 2 = 1)) : chN key xa xb 2 = (Ub.zero, 8) := by
  exact (chS_no h1).trans (chS_no h0)

set_option maxRecDepth 100000 in
set_option maxHeartbeats 8000000 in
theorem uberNewer_any (vk vr : Value) (a b : Nat) (key r : List UInt8) (w : World) (hk : Sl w 1 vk key.length (key.map Bv)) (hr : Sl w 1 vr r.length (r.map Bv)) (ha : a < 18446744073709551616) (hb : b < 18446744073709551616) :
    Calls Tryd.prog 7 #[.agg #[vk, .int .u64 (a : Int), .int .u64 (b : Int), vr]] w fun e w' => e = .returned (.bool true) ∧ Below w.heap.size w w' := by
  obtain ⟨ka, kc, rfl, -⟩ := hk.len
  obtain ⟨ra, rc, rfl, -⟩ := hr.len
  have hb0 : Below w.heap.size w (w.alloc (.cells #[.slice ka key.length kc, .int .u64 (a : Int), .int .u64 (b : Int), .slice ra r.length rc] 61)) := (Below.refl _ w).alloc (Nat.le_refl _) _
  have hg0 := heap_alloc_new w (.cells #[.slice ka key.length kc, .int .u64 (a : Int), .int .u64 (b : Int), .slice ra r.length rc] 61)
  obtain ⟨a', ea, a2, a64⟩ := even_low a ha
  obtain ⟨b', eb, b2, b64⟩ := odd_low b hb
  have HB := Lib.hid hb0
  have HG := Lib.hid hg0
  have HK := Lib.hid (fun (w' : World) (hh : Below w.heap.size w w') => (hk.below hh : Sl w' 1 (.slice ka key.length kc) key.length (key.map Bv)))
  have HRb := Lib.hid (fun (w' : World) (hh : Below w.heap.size w w') => (hr.below hh : Sl w' 1 (.slice ra r.length rc) r.length (r.map Bv)))
  obtain ⟨n, hn⟩ : ∃ n, n = key.length := ⟨_, rfl⟩
  obtain ⟨nr, hnr⟩ : ∃ nr, nr = r.length := ⟨_, rfl⟩
  rw [← hn] at HB HG HK ⊢
  rw [← hnr] at HB HG HRb ⊢
  have HA := Lib.hid (And.intro a2 a64)
  have HBb := Lib.hid (And.intro b2 b64)
  clear hk hr hb0 hg0 a2 a64 b2 b64 hn hnr
  have HEa := Lib.hid ea
  have HEb := Lib.hid eb
  have HA0 := Lib.hid ha
  have HB0 := Lib.hid hb
  clear ea eb ha hb
  go_enter Tryd.func7, Tryd.ntmps7
  go_wp2_with fail
  refine (alive10 _).mono ?_
  rintro e w1 ⟨rfl, hb1⟩
  have hg1 := (hb1.block w.heap.size (lt_of_block HG.out)).trans HG.out
  have HB1 := Lib.hid (HB.out.trans (hb1.mono HB.out.size))
  have c0 : w1.cell? ⟨w.heap.size, 0, none⟩ = some (.slice ka n kc) := cell_of_row _ _ 0 _ _ _ hg1
  have c1 : w1.cell? ⟨w.heap.size, 1, none⟩ = some (.int .u64 (a : Int)) := cell_of_row _ _ 1 _ _ _ hg1
  have c2 : w1.cell? ⟨w.heap.size, 2, none⟩ = some (.int .u64 (b : Int)) := cell_of_row _ _ 2 _ _ _ hg1
  have c3 : w1.cell? ⟨w.heap.size, 3, none⟩ = some (.slice ra nr rc) := cell_of_row _ _ 3 _ _ _ hg1
  clear hb1 hg1
  go_wp2_with fail
  go_quiet (fail)
  have HB2 := Lib.hid (belowDrewN HB1.out nq)
  obtain ⟨w2, hw2⟩ : ∃ w2, w2 = w1.drewN nq := ⟨_, rfl⟩
  rw [← hw2] at HB2 ⊢
  clear hw2 c0 c1 c2 c3
  have ea := HEa.out
  have eb := HEb.out
  by_cases h200 : 200 < n
  · have m1 : (200 : Int) < (n : Int) := by omega
    clear h200
    go_wp2
    go_ret
    exact ⟨rfl, HB2.out⟩
  · have m1 : ¬ (200 : Int) < (n : Int) := by omega
    by_cases h600 : 600 < nr
    · have m2 : (600 : Int) < (nr : Int) := by omega
      clear h200 h600
      go_wp2
      go_ret
      exact ⟨rfl, HB2.out⟩
    · have m2 : ¬ (600 : Int) < (nr : Int) := by omega
      by_cases ha0 : a' = 0
      · have m3 : ((a' : Int) == 0) = true := by rw [ha0]; rfl
        clear h200 h600 ha0
        go_wp2
        go_ret
        exact ⟨rfl, HB2.out⟩
      · have m3 : ((a' : Int) == 0) = false := by rw [beq_eq_false_iff_ne]; omega
        have hn47 : n ≤ 140737488351232 := by omega
        have hb0' : b' ≠ 0 := by have := HBb.out.1; omega
        have HN47 := Lib.hid hn47
        have haw := ub16_wf HA.out.2
        have hbw := ub16_wf HBb.out.2
        have hae := ub16_E ha0
        have hbe := ub16_E hb0'
        have hoa := fun w => of_any a' w HA.out.2
        have hob := fun w => of_any b' w HBb.out.2
        -- what the five calls of Choose answer
        obtain ⟨xa, hxa⟩ : ∃ xa, xa = ubS key (ub16 a') := ⟨_, rfl⟩
        obtain ⟨xb, hxb⟩ : ∃ xb, xb = ubS key (ub16 b') := ⟨_, rfl⟩
        have hEa : errU key xa = 0 := by rw [hxa]; exact errU_put key haw hae
        have hEb : errU key xb = 0 := by rw [hxb]; exact errU_put key hbw hbe
        have hGa : getU key xa = ub16 a' := by rw [hxa]; exact getU_put key haw hae
        have hGb : getU key xb = ub16 b' := by rw [hxb]; exact getU_put key hbw hbe
        have hap : 0 < a' := by omega
        obtain ⟨m, hm, hm64, hm2⟩ : ∃ m : Nat, max (a' : Int) (b' : Int) = (m : Int) ∧ m < 18446744073709551616 ∧ (if a' < b' then ub16 b' else ub16 a') = ub16 m := by
          by_cases h : a' < b'
          · exact ⟨b', by omega, HBb.out.2, by rw [if_pos h]⟩
          · exact ⟨a', by omega, HA.out.2, by rw [if_neg h]⟩
        have hom := fun w => of_any m w hm64
        have hmw := ub16_wf hm64
        have hC1 : chN key xa xb 2 = (ub16 m, 0) := by rw [chN_two hEa hEb hGa hGb HA.out.1 HBb.out.1 hap, ← hm2]; rfl
        have hC4 : chN key xb xa 2 = (Ub.zero, 8) := chN_none (by rw [hGb]; intro h; have h1 := HBb.out.1; have h2 : b' % 2 = 0 := h.2; omega) (by rw [hGa]; intro h; have h1 := HA.out.1; have h2 : a' % 2 = 1 := h.2; omega)
        have hC2 : ¬ errU key r = 0 → chN key xa r 2 = (ub16 a', 0) := fun hr => chN_first hEa hGa HA.out.1 hap hr
        have hC3 : ¬ errU key r = 0 → chN key r xb 2 = (ub16 b', 0) := fun hr => chN_second hEb hGb HBb.out.1 hr
        have hC5 : ¬ errU key r = 0 → chN key r r 2 = (Ub.zero, 8) := fun hr => chN_none (fun h => hr h.1) (fun h => hr h.1)
        have hput := fun (t : Nat) (ht : t < 18446744073709551616) (h0 : t ≠ 0) (w' : World) (h : Sl w' 1 (.slice ka n kc) n (key.map Bv)) => ubPut_ok' (.slice ka n kc) key n (by simpa using h.1.symm) (ub16 t) w' h hn47 (ub16_wf ht) (ub16_E h0)
        have hpa := hput a' HA.out.2 ha0
        have hpb := hput b' HBb.out.2 hb0'
        rw [← hxa] at hpa
        rw [← hxb] at hpb
        have hsa : ∀ w', Calls Tryd.prog 22 #[.int .u64 (a' : Int)] w' fun e w'' => e = .returned (.int .u32 0) ∧ w' = w'' := fun w' => by
          have := ubSlot_any a' w' HA.out.2
          rw [HA.out.1] at this
          exact this
        have hsb : ∀ w', Calls Tryd.prog 22 #[.int .u64 (b' : Int)] w' fun e w'' => e = .returned (.int .u32 1) ∧ w' = w'' := fun w' => by
          have := ubSlot_any b' w' HBb.out.2
          rw [HBb.out.1] at this
          exact this
        obtain ⟨ua, hua⟩ : ∃ ua, ua = ub16 a' := ⟨_, rfl⟩
        obtain ⟨uv, huv⟩ : ∃ uv, uv = ub16 b' := ⟨_, rfl⟩
        obtain ⟨um, hum⟩ : ∃ um, um = ub16 m := ⟨_, rfl⟩
        rw [← hua] at hoa haw hC2 hpa
        rw [← huv] at hob hbw hC3 hpb
        rw [← hum] at hom hmw hC1
        have HOa := Lib.hid hoa
        have HOb := Lib.hid hob
        have HOm := Lib.hid hom
        have HAw := Lib.hid haw
        have HBw := Lib.hid hbw
        have HMw := Lib.hid hmw
        have HC1 := Lib.hid hC1
        have HC2 := Lib.hid hC2
        have HC3 := Lib.hid hC3
        have HC4 := Lib.hid hC4
        have HC5 := Lib.hid hC5
        have HPa := Lib.hid hpa
        have HPb := Lib.hid hpb
        have HSa := Lib.hid hsa
        have HSb := Lib.hid hsb
        have HN47 := Lib.hid hn47
        have HMax := Lib.hid hm
        clear h200 h600 ha0 hn47 hb0' haw hbw hae hbe hoa hob hxa hxb hEa hEb hGa hGb hap hm hm64 hm2 hom hmw hC1 hC2 hC3 hC4 hC5 hput hpa hpb hsa hsb hua huv hum
        go_wp2_with fail
        refine (HOa.out _).mono ?_
        rintro e w3 ⟨rfl, hb3⟩
        have HB3 := Lib.hid (HB2.out.trans (hb3.mono HB2.out.size))
        clear hb3 ea eb
        go_wp2_with fail
        refine (HPa.out _ (HK.out _ HB3.out)).mono ?_
        rintro e w4 ⟨a4, c4, rfl, hs4, hb4⟩
        have HB4 := Lib.hid (HB3.out.trans (hb4.mono HB3.out.size))
        have HS4 := Lib.hid hs4
        clear hs4 hb4
        go_wp2_with fail
        refine (HOb.out _).mono ?_
        rintro e w5 ⟨rfl, hb5⟩
        have HB5 := Lib.hid (HB4.out.trans (hb5.mono HB4.out.size))
        have HS5 := Lib.hid (HS4.out.below hb5)
        clear hb5
        go_wp2_with fail
        refine (HPb.out _ (HK.out _ HB5.out)).mono ?_
        rintro e w6 ⟨a6, c6, rfl, hs6, hb6⟩
        have HB6 := Lib.hid (HB5.out.trans (hb6.mono HB5.out.size))
        have HXa6 := Lib.hid (HS5.out.below hb6)
        have HXb6 := Lib.hid hs6
        clear hs6 hb6
        go_wp2_with fail
        have hget := ubGet' (.slice ka n kc) (.slice ra nr rc) n nr key r w6 (HK.out _ HB6.out) HN47.out (HRb.out _ HB6.out)
        rcases errU_or key r with h0 | ⟨h0, hz⟩
        · rw [h0] at hget
          have HGet := Lib.hid hget
          have HGw := Lib.hid (getU_wf key r)
          obtain ⟨ug, hug⟩ : ∃ ug, ug = getU key r := ⟨_, rfl⟩
          rw [← hug] at HGet HGw
          clear hget h0 hug
          refine HGet.out.mono ?_
          rintro e w7 ⟨rfl, hb7⟩
          have HB7 := Lib.hid (HB6.out.trans (hb7.mono HB6.out.size))
          clear hb7
          go_wp2_with (refine store_ub rfl (.tmp 11) (.tmp 73) rfl rfl rfl (heap_alloc_new _ _) rfl HGw.out ?_)
          intro w8 hg8 hf8 hs8
          have HB8 := Lib.hid (HB7.out.trans ((((Below.refl _ w7).alloc (Nat.le_refl _) _).trans (hf8.below (by simp) (fun k hk => by omega))).mono HB7.out.size))
          clear hg8 hf8 hs8
          go_wp2
          go_ret
          exact ⟨rfl, HB8.out⟩
        · have hne : ¬ errU key r = 0 := by rcases h0 with h | h | h <;> (rw [h]; decide)
          rw [hz] at hget
          have hC2 := HC2.out hne
          have hC3 := HC3.out hne
          have hC5 := HC5.out hne
          obtain ⟨er, her⟩ : ∃ er, er = errU key r := ⟨_, rfl⟩
          rw [← her] at hget hne
          have e0 : (er == 0) = false := by rw [beq_eq_false_iff_ne]; exact hne
          have HGet := Lib.hid hget
          have HC2 := Lib.hid hC2
          have HC3 := Lib.hid hC3
          have HC5 := Lib.hid hC5
          clear hget h0 hz hne her hC2 hC3 hC5
          refine HGet.out.mono ?_
          rintro e w7 ⟨rfl, hb7⟩
          have HB7 := Lib.hid (HB6.out.trans (hb7.mono HB6.out.size))
          have HXa7 := Lib.hid (HXa6.out.below hb7)
          have HXb7 := Lib.hid (HXb6.out.below hb7)
          clear hb7
          go_wp2_with (refine store_ub rfl (.tmp 11) (.tmp 73) rfl rfl rfl (heap_alloc_new _ _) rfl Ub.zero_wf ?_)
          intro w8 hg8 hf8 hs8
          have hbel8 : Below w7.heap.size w7 w8 := ((Below.refl _ w7).alloc (Nat.le_refl _) _).trans (hf8.below (by simp) (fun k hk => by omega))
          have HB8 := Lib.hid (HB7.out.trans (hbel8.mono HB7.out.size))
          have HXa8 := Lib.hid (HXa7.out.below hbel8)
          have HXb8 := Lib.hid (HXb7.out.below hbel8)
          clear hg8 hf8 hs8 hbel8
          go_wp2_with fail
          refine (ubChoose' _ _ _ n 512 512 key xa xb _ (HK.out _ HB8.out) HN47.out HXa8.out HXb8.out).mono ?_
          rw [HC1.out]
          rintro e w9 ⟨rfl, hb9⟩
          have HB9 := Lib.hid (HB8.out.trans (hb9.mono HB8.out.size))
          have HXa9 := Lib.hid (HXa8.out.below hb9)
          have HXb9 := Lib.hid (HXb8.out.below hb9)
          clear hb9
          go_wp2_with (refine store_ub rfl (.tmp 13) (.tmp 82) rfl rfl rfl (heap_alloc_new _ _) rfl HMw.out ?_)
          intro w10 hg10 hf10 hs10
          have hbel10 : Below w9.heap.size w9 w10 := ((Below.refl _ w9).alloc (Nat.le_refl _) _).trans (hf10.below (by simp) (fun k hk => by omega))
          have HB10 := Lib.hid (HB9.out.trans (hbel10.mono HB9.out.size))
          have HXa10 := Lib.hid (HXa9.out.below hbel10)
          have HXb10 := Lib.hid (HXb9.out.below hbel10)
          have HT13_10 := Lib.hid hg10
          clear hg10 hf10 hs10 hbel10
          go_wp2_with fail
          refine (ubChoose' _ _ _ n 512 nr key xa r _ (HK.out _ HB10.out) HN47.out HXa10.out (HRb.out _ HB10.out)).mono ?_
          rw [HC2.out]
          rintro e w11 ⟨rfl, hb11⟩
          have HB11 := Lib.hid (HB10.out.trans (hb11.mono HB10.out.size))
          have HXa11 := Lib.hid (HXa10.out.below hb11)
          have HXb11 := Lib.hid (HXb10.out.below hb11)
          have HT13_11 := Lib.hid ((hb11.block _ (lt_of_block HT13_10.out)).trans HT13_10.out)
          clear hb11
          go_wp2_with (refine store_ub rfl (.tmp 15) (.tmp 89) rfl rfl rfl (heap_alloc_new _ _) rfl HAw.out ?_)
          intro w12 hg12 hf12 hs12
          have hbel12 : Below w11.heap.size w11 w12 := ((Below.refl _ w11).alloc (Nat.le_refl _) _).trans (hf12.below (by simp) (fun k hk => by omega))
          have HB12 := Lib.hid (HB11.out.trans (hbel12.mono HB11.out.size))
          have HXa12 := Lib.hid (HXa11.out.below hbel12)
          have HXb12 := Lib.hid (HXb11.out.below hbel12)
          have HT13_12 := Lib.hid ((hbel12.block _ (lt_of_block HT13_11.out)).trans HT13_11.out)
          have HT15_12 := Lib.hid hg12
          clear hg12 hf12 hs12 hbel12
          go_wp2_with fail
          refine (ubChoose' _ _ _ n nr 512 key r xb _ (HK.out _ HB12.out) HN47.out (HRb.out _ HB12.out) HXb12.out).mono ?_
          rw [HC3.out]
          rintro e w13 ⟨rfl, hb13⟩
          have HB13 := Lib.hid (HB12.out.trans (hb13.mono HB12.out.size))
          have HXa13 := Lib.hid (HXa12.out.below hb13)
          have HXb13 := Lib.hid (HXb12.out.below hb13)
          have HT13_13 := Lib.hid ((hb13.block _ (lt_of_block HT13_12.out)).trans HT13_12.out)
          have HT15_13 := Lib.hid ((hb13.block _ (lt_of_block HT15_12.out)).trans HT15_12.out)
          clear hb13
          go_wp2_with (refine store_ub rfl (.tmp 17) (.tmp 96) rfl rfl rfl (heap_alloc_new _ _) rfl HBw.out ?_)
          intro w14 hg14 hf14 hs14
          have hbel14 : Below w13.heap.size w13 w14 := ((Below.refl _ w13).alloc (Nat.le_refl _) _).trans (hf14.below (by simp) (fun k hk => by omega))
          have HB14 := Lib.hid (HB13.out.trans (hbel14.mono HB13.out.size))
          have HXa14 := Lib.hid (HXa13.out.below hbel14)
          have HXb14 := Lib.hid (HXb13.out.below hbel14)
          have HT13_14 := Lib.hid ((hbel14.block _ (lt_of_block HT13_13.out)).trans HT13_13.out)
          have HT15_14 := Lib.hid ((hbel14.block _ (lt_of_block HT15_13.out)).trans HT15_13.out)
          have HT17_14 := Lib.hid hg14
          clear hg14 hf14 hs14 hbel14
          go_wp2_with fail
          refine (ubChoose' _ _ _ n 512 512 key xb xa _ (HK.out _ HB14.out) HN47.out HXb14.out HXa14.out).mono ?_
          rw [HC4.out]
          rintro e w15 ⟨rfl, hb15⟩
          have HB15 := Lib.hid (HB14.out.trans (hb15.mono HB14.out.size))
          have HXa15 := Lib.hid (HXa14.out.below hb15)
          have HXb15 := Lib.hid (HXb14.out.below hb15)
          have HT13_15 := Lib.hid ((hb15.block _ (lt_of_block HT13_14.out)).trans HT13_14.out)
          have HT15_15 := Lib.hid ((hb15.block _ (lt_of_block HT15_14.out)).trans HT15_14.out)
          have HT17_15 := Lib.hid ((hb15.block _ (lt_of_block HT17_14.out)).trans HT17_14.out)
          clear hb15
          go_wp2_with (refine store_ub rfl (.tmp 19) (.tmp 103) rfl rfl rfl (heap_alloc_new _ _) rfl Ub.zero_wf ?_)
          intro w16 hg16 hf16 hs16
          have hbel16 : Below w15.heap.size w15 w16 := ((Below.refl _ w15).alloc (Nat.le_refl _) _).trans (hf16.below (by simp) (fun k hk => by omega))
          have HB16 := Lib.hid (HB15.out.trans (hbel16.mono HB15.out.size))
          have HXa16 := Lib.hid (HXa15.out.below hbel16)
          have HXb16 := Lib.hid (HXb15.out.below hbel16)
          have HT13_16 := Lib.hid ((hbel16.block _ (lt_of_block HT13_15.out)).trans HT13_15.out)
          have HT15_16 := Lib.hid ((hbel16.block _ (lt_of_block HT15_15.out)).trans HT15_15.out)
          have HT17_16 := Lib.hid ((hbel16.block _ (lt_of_block HT17_15.out)).trans HT17_15.out)
          clear hg16 hf16 hs16 hbel16
          go_wp2_with fail
          refine (ubChoose' _ _ _ n nr nr key r r _ (HK.out _ HB16.out) HN47.out (HRb.out _ HB16.out) (HRb.out _ HB16.out)).mono ?_
          rw [HC5.out]
          rintro e w17 ⟨rfl, hb17⟩
          have HB17 := Lib.hid (HB16.out.trans (hb17.mono HB16.out.size))
          have HXa17 := Lib.hid (HXa16.out.below hb17)
          have HXb17 := Lib.hid (HXb16.out.below hb17)
          have HT13_17 := Lib.hid ((hb17.block _ (lt_of_block HT13_16.out)).trans HT13_16.out)
          have HT15_17 := Lib.hid ((hb17.block _ (lt_of_block HT15_16.out)).trans HT15_16.out)
          have HT17_17 := Lib.hid ((hb17.block _ (lt_of_block HT17_16.out)).trans HT17_16.out)
          clear hb17
          go_wp2_with (refine store_ub rfl (.tmp 21) (.tmp 110) rfl rfl rfl (heap_alloc_new _ _) rfl Ub.zero_wf ?_)
          intro w18 hg18 hf18 hs18
          have hbel18 : Below w17.heap.size w17 w18 := ((Below.refl _ w17).alloc (Nat.le_refl _) _).trans (hf18.below (by simp) (fun k hk => by omega))
          have HB18 := Lib.hid (HB17.out.trans (hbel18.mono HB17.out.size))
          have HXa18 := Lib.hid (HXa17.out.below hbel18)
          have HXb18 := Lib.hid (HXb17.out.below hbel18)
          have HT13_18 := Lib.hid ((hbel18.block _ (lt_of_block HT13_17.out)).trans HT13_17.out)
          have HT15_18 := Lib.hid ((hbel18.block _ (lt_of_block HT15_17.out)).trans HT15_17.out)
          have HT17_18 := Lib.hid ((hbel18.block _ (lt_of_block HT17_17.out)).trans HT17_17.out)
          clear hg18 hf18 hs18 hbel18
          have hzHT13_ := HT13_18.out
          have HT13_U := Lib.hid (fun w' (hw : ∃ x : Wd w18.heap.size w18, w' = x.to) => (by obtain ⟨x, rfl⟩ := hw; exact x.at (At.of_row hzHT13_) : At w' w9.heap.size 0 um.cells))
          clear hzHT13_
          have hzHT15_ := HT15_18.out
          have HT15_U := Lib.hid (fun w' (hw : ∃ x : Wd w18.heap.size w18, w' = x.to) => (by obtain ⟨x, rfl⟩ := hw; exact x.at (At.of_row hzHT15_) : At w' w11.heap.size 0 ua.cells))
          clear hzHT15_
          have hzHT17_ := HT17_18.out
          have HT17_U := Lib.hid (fun w' (hw : ∃ x : Wd w18.heap.size w18, w' = x.to) => (by obtain ⟨x, rfl⟩ := hw; exact x.at (At.of_row hzHT17_) : At w' w13.heap.size 0 uv.cells))
          clear hzHT17_
          have HQa := Lib.hid (fun (x : Wd w18.heap.size w18) => Calls.wd x (Nat.le_refl _) (HOa.out x.to))
          have HQb := Lib.hid (fun (x : Wd w18.heap.size w18) => Calls.wd x (Nat.le_refl _) (HOb.out x.to))
          have HQm := Lib.hid (fun (x : Wd w18.heap.size w18) => Calls.wd x (Nat.le_refl _) (HOm.out x.to))
          have HQsa := Lib.hid (fun (x : Wd w18.heap.size w18) => Calls.wd_same x (HSa.out x.to))
          have HQsb := Lib.hid (fun (x : Wd w18.heap.size w18) => Calls.wd_same x (HSb.out x.to))
          have hmax := HMax.out
          go_wp2_with fail
          refine wp_region_wd w18.heap.size (by kernel_rfl) (by kernel_rfl) ?_
          repeat (first
            | (refine wpQuiet_load_at rfl 49 (.tmp 13) rfl w9.heap.size 0 rfl _ _ HT13_U.out Tryd.underlying49 rfl (by rw [info_ub, HMw.out.len]) ?_; simp only [Act.put, List.setIfInBounds_toArray, List.set_cons_succ, List.set_cons_zero])
            | (refine wpQuiet_load_at rfl 49 (.tmp 15) rfl w11.heap.size 0 rfl _ _ HT15_U.out Tryd.underlying49 rfl (by rw [info_ub, HAw.out.len]) ?_; simp only [Act.put, List.setIfInBounds_toArray, List.set_cons_succ, List.set_cons_zero])
            | (refine wpQuiet_load_at rfl 49 (.tmp 17) rfl w13.heap.size 0 rfl _ _ HT17_U.out Tryd.underlying49 rfl (by rw [info_ub, HBw.out.len]) ?_; simp only [Act.put, List.setIfInBounds_toArray, List.set_cons_succ, List.set_cons_zero])
            | (refine qeql_same (u := um) rfl (.tmp 115) (.tmp 119) _ rfl rfl rfl HMw.out ?_; simp only [Act.put, List.setIfInBounds_toArray, List.set_cons_succ, List.set_cons_zero])
            | (refine qeql_same (u := ua) rfl (.tmp 127) (.tmp 129) _ rfl rfl rfl HAw.out ?_; simp only [Act.put, List.setIfInBounds_toArray, List.set_cons_succ, List.set_cons_zero])
            | (refine qeql_same (u := uv) rfl (.tmp 137) (.tmp 139) _ rfl rfl rfl HBw.out ?_; simp only [Act.put, List.setIfInBounds_toArray, List.set_cons_succ, List.set_cons_zero])
            | go_big_quiet_step (first | with_reducible exact HQm.out _ | with_reducible exact HQa.out _ | with_reducible exact HQb.out _ | with_reducible exact HQsa.out _ | with_reducible exact HQsb.out _))
          refine wpQuiet_nil ?_
          rintro w50 ⟨⟨_, hb50⟩, rfl⟩
          have HB50 := Lib.hid (HB18.out.trans (hb50.mono HB18.out.size))
          clear hb50
          go_wp2
          go_ret
          exact ⟨rfl, HB50.out⟩
end Go.Proofs.YtdmgmpagnmmehaaDoor
