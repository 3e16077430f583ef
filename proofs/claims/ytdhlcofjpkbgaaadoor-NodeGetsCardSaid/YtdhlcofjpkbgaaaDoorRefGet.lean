/- Walk: the reference's told. -/
import Derived.Test.YtdhlcofjpkbgaaaDoorTellB
import Derived.Test.YtdhlcofjpkbgaaaDoorBuildMany
import Derived.Test.YtdhlcofjpkbgaaaDoorLaw09A
import Derived.Test.YtdhlcofjpkbgaaaDoorTellD
import Derived.Test.YtdhlcofjpkbgaaaDoorRefNode
namespace Go.Proofs.YtdhlcofjpkbgaaaDoor
open Go.RowKit

/-- A node whose rows are the call's own. -/
def NdOwn (w : World) (base : Nat) (arr : Array Value) (n : Nd) : Prop :=
  ∃ vk vv vp, arr = #[.bool n.leaf, vk, vv, vp] ∧ w.ownsRow base 9 1 vk n.keys.length (n.keys.map Value.string) ∧ w.ownsRow base 9 1 vv n.vals.length (n.vals.map Value.string) ∧ w.ownsRow base 78 34 vp n.kids.length (n.kids.map Pt.cells).flatten ∧ (∀ p ∈ n.kids, p.Wf)
theorem NdOwn.is {w : World} {base : Nat} {arr : Array Value} {n : Nd} (h : NdOwn w base arr n) : NdIs w arr n := by
  obtain ⟨vk, vv, vp, h0, h1, h2, h3, h4⟩ := h
  exact ⟨vk, vv, vp, h0, Sl.own h1, Sl.own h2, ⟨Sl.own h3, h4⟩⟩
theorem NdOwn.fr {S : Nat → Prop} {w w' : World} {base : Nat} {arr : Array Value} {n : Nd} (h : NdOwn w base arr n) (hf : Fr S w w') (hs : ∀ k, base ≤ k → k < w.heap.size → ¬ S k) : NdOwn w' base arr n := by
  obtain ⟨vk, vv, vp, h0, h1, h2, h3, h4⟩ := h
  exact ⟨vk, vv, vp, h0, h1.fr hf (fun k hk => hs k (h1.lt k hk).1 (h1.lt k hk).2), h2.fr hf (fun k hk => hs k (h2.lt k hk).1 (h2.lt k hk).2), h3.fr hf (fun k hk => hs k (h3.lt k hk).1 (h3.lt k hk).2), h4⟩
theorem NodeRel.ownN {w : World} {B0 N base : Nat} {leaf : Bool} {keys vals : List ByteArray} {kids : List Pt} {vk vv vp : Value} (h : NodeRel w B0 N leaf keys vals kids vk vv vp) (hb : base ≤ B0) : NdOwn w base #[.bool leaf, vk, vv, vp] ⟨leaf, keys, vals, kids⟩ := by
  obtain ⟨h1, h2, h3, h4, _, _, _, h5⟩ := h
  exact ⟨vk, vv, vp, rfl, h2.base hb, h3.base hb, h4.base hb, h5⟩
def ToldPost (xs : List UInt8) (w : World) (e : Ending) (w' : World) : Prop := ∃ arr, e = .returned (.agg arr) ∧ NdOwn w' w.heap.size arr (toldN xs) ∧ Below w.heap.size w w'
theorem ret_nd1 {fn : Func} {p : Tmp} (h : fn.results = #[.cell p 64]) {tmps : Array Value} {w : World} {g : Nat} {arr : Array Value} {t : TypeId} (hp : tmps.getD p undef = .pointer (some ⟨g, 0, none⟩))
    (hg : w.heap[g]? = some (.cells arr t (0, 0))) (hl : arr.size = 4) :
    (results fn tmps).run Tryd.prog w = .ok (.agg arr) w :=
  results_cell_row h tmps w g t arr _ _ hp hg Tryd.underlying64 rfl (by rw [info_nd, hl])
theorem kind_le' (xs : List UInt8) : (numOf 1 xs).1 ≤ 255 := kind_le xs
theorem own_block_lt {w : World} {v : Value} {n : Nat} {xs : List UInt8} (h : Sl w 1 v n (xs.map Bv)) (hx : xs ≠ []) : ∀ k, v.ownBlock = some k → k < w.heap.size := by
  obtain ⟨_, a, c, rfl, _, _, h4⟩ := h
  obtain ⟨x, l, rfl⟩ : ∃ x l, xs = x :: l := by cases xs with | nil => exact absurd rfl hx | cons x l => exact ⟨x, l, rfl⟩
  obtain ⟨b', o', rfl, hc⟩ := h4 0 (Bv x) rfl
  intro k hk
  simp only [Value.ownBlock, Option.some.injEq] at hk
  subst hk
  exact World.block_lt_of_cell? w _ hc
theorem Q1_size {p : Pt} (h : p.Wf) : ∀ v ∈ [p.arr], v.size = 34 := by
  intro v hv
  rw [List.mem_singleton] at hv
  subst hv
  exact h.size

set_option maxRecDepth 100000 in
set_option maxHeartbeats 8000000 in
theorem told_leaf (v : Value) (xs : List UInt8) (w : World) (h : Sl w 1 v 512 (xs.map Bv)) (hkind : kind xs = 1) :
    Calls Tryd.prog 63 #[v] w (ToldPost xs w) := by
  have hl : xs.length = 512 := by simpa using h.1
  have hobl := own_block_lt h (by intro e; rw [e] at hl; simp at hl)
  obtain ⟨a, cap, rfl, _⟩ := h.len
  obtain ⟨ob, hob⟩ : ∃ ob, ob = (Value.slice a 512 cap).ownBlock := ⟨_, rfl⟩
  rw [← hob] at hobl
  have hbw : Below w.heap.size w ((w.alloc (.cells zeroArr 64)).alloc (.cells #[.slice a 512 cap] 43)) := ((Below.refl _ w).alloc (Nat.le_refl _) _).alloc (by simp) _
  have hR0 := heap_alloc2_old w (.cells zeroArr 64) (.cells #[.slice a 512 cap] 43)
  have hr0 : RfO ((w.alloc (.cells zeroArr 64)).alloc (.cells #[.slice a 512 cap] 43)) (w.heap.size + 1) ob xs :=
    ⟨_, heap_alloc2_new w (.cells zeroArr 64) (.cells #[.slice a 512 cap] 43), by rw [hl]; exact h.below hbw, hob.symm⟩
  have HR0 := Lib.hid hR0
  have Hr0 := Lib.hid hr0
  have HB0 := Lib.hid hbw
  have hk1 : (numOf 1 xs).1 = 1 := hkind
  obtain ⟨ys, hys⟩ : ∃ ys, ys = (numOf 1 xs).2.2 := ⟨_, rfl⟩
  obtain ⟨zs, hzs⟩ : ∃ zs, zs = (numOf 1 ys).2.2 := ⟨_, rfl⟩
  obtain ⟨c, hc⟩ : ∃ c, c = (numOf 1 ys).1 := ⟨_, rfl⟩
  obtain ⟨E1, hE1⟩ : ∃ E1, E1 = (numOf 1 xs).2.1 := ⟨_, rfl⟩
  obtain ⟨E2, hE2⟩ : ∃ E2, E2 = (numOf 1 ys).2.1 := ⟨_, rfl⟩
  have hyl : ys.length ≤ 512 := by rw [hys, ← hl]; exact numOf_le 1 xs
  have hzl : zs.length ≤ 512 := by have := numOf_le 1 ys; rw [← hzs] at this; omega
  have hc255 : c ≤ 255 := by rw [hc]; exact kind_le ys
  have HN1 := Lib.hid (fun b ob w h => fNumO_any b ob 1 xs w h (by omega))
  have HN2 := Lib.hid (fun b ob w h => fNumO_any b ob 1 ys w h (by omega))
  rw [hk1, ← hE1, ← hys] at HN1
  rw [← hc, ← hE2, ← hzs] at HN2
  rw [hys] at hzs hc
  obtain ⟨T, hT⟩ : ∃ T : Nat → Tk, T = fun k => tellKV true k (⟨[], [], zs, kind xs == 1 || kind xs == 2⟩ : Tk) := ⟨_, rfl⟩
  have hkk : (kind xs == 1) = true := by simpa using hkind
  have hT1 : tell1 xs = T c := by
    unfold tell1
    rw [hT, ← hzs, hc, hkk]
    rfl
  have hTold : toldN xs = ⟨true, (T c).keys, (T c).vals, (tell2 xs).kids⟩ := by
    unfold toldN; rw [hT1, hkk]
  have hcc : count xs = c := hc.symm
  have HT1 := Lib.hid (show tell1 xs = T c ∧ toldN xs = ⟨true, (T c).keys, (T c).vals, (tell2 xs).kids⟩ ∧ count xs = c ∧ (kind xs == 1) = true from ⟨hT1, hTold, hcc, hkk⟩)
  have HT0 := Lib.hid (show (T 0).keys = [] ∧ (T 0).vals = [] ∧ (T 0).rest = zs by rw [hT]; exact ⟨rfl, rfl, rfl⟩)
  have HTS := Lib.hid (show ∀ k, T (k + 1) = stepKV true (T k) by intro k; rw [hT]; rfl)
  have HTr := Lib.hid (show ∀ k, (T k).rest.length ≤ 512 ∧ (T k).keys.length = k ∧ (T k).vals.length = k by
    intro k
    rw [hT]
    refine ⟨Nat.le_trans (tellKV_rest _ _ k) hzl, by rw [tellKV_keys]; simp, by rw [tellKV_vals]; simp⟩)
  have HOl := Lib.hid hobl
  clear h hT hT1 hTold hcc hkk hkind hk1 hys hzs hc hE1 hE2 hbw hR0 hr0 hob hobl 
  go_enter Tryd.func63, Tryd.ntmps63
  go_wp2_with fail
  refine (HN1.out _ ob _ Hr0.out).mono ?_
  rintro e w2 ⟨rfl, hr2, hf2⟩
  have HR2 := Lib.hid ((hf2.block w.heap.size (by simp; omega) (by omega)).trans HR0.out)
  have HB2 := Lib.hid (HB0.out.trans (hf2.below HB0.out.size (fun k hk => by omega)))
  have HRd2 := Lib.hid hr2
  have hs2 := hf2.size
  rw [World.size_alloc, World.size_alloc] at hs2
  clear hr2 hf2
  go_wp2_with fail
  refine (HN2.out _ ob _ HRd2.out).mono ?_
  rintro e w3 ⟨rfl, hr3, hf3⟩
  have hs3 := hf3.size
  have hR3 := (hf3.block w.heap.size (lt_of_block HR2.out) (by omega)).trans HR2.out
  have hB3 := HB2.out.trans (hf3.below HB2.out.size (fun k hk => by omega))
  have HPl := Lib.hid (show Places w (w3.heap.size + 1) w3.heap.size (w.heap.size + 1) w.heap.size ob from ⟨by omega, by omega, by omega, fun k hk => by
    have := HOl.out k hk
    omega, by omega, by omega, by omega, by omega, by omega, by omega⟩)
  have HG0 := Lib.hid (show GRel (fun w' ys => RfO w' (w.heap.size + 1) ob ys) w (w3.alloc (.cells #[.bool true, .slice none 0 0, .slice none 0 0, .slice none 0 0] 64)) (w3.heap.size + 1) w3.heap.size w.heap.size true [] [] [] (.slice none 0 0) (.slice none 0 0) (.slice none 0 0) zs from
    ⟨⟨heap_alloc_new _ _, ⟨rfl, Or.inl ⟨rfl, rfl⟩⟩, ⟨rfl, Or.inl ⟨rfl, rfl⟩⟩, ⟨rfl, Or.inl ⟨rfl, rfl⟩⟩, fun j hj => (by cases hj), fun j hj => (by cases hj), fun j hj => (by cases hj), fun p hp => (by cases hp)⟩, hr3.below ((Below.refl _ w3).alloc (Nat.le_refl _) _), (((Below.refl _ w3).alloc (Nat.le_refl _) _).block w.heap.size (lt_of_block hR3)).trans hR3, hB3.alloc hB3.size _, by simp⟩)
  clear hr3 hf3 hR3 hB3
  go_wp2_with fail
  obtain ⟨N, hN⟩ : ∃ N, N = w3.heap.size := ⟨_, rfl⟩
  obtain ⟨B0, hB0⟩ : ∃ B0, B0 = w3.heap.size + 1 := ⟨_, rfl⟩
  rw [← hB0, ← hN] at HPl HG0
  rw [← hN]
  clear hB0 hN
  go_loopw [9, 10, 11, 12, 13] (fun i _ _ _ _ wr => ∃ k : Nat, k ≤ c ∧ i = .int .u64 (k : Int) ∧ ∃ vk vv, GRel (fun w' ys => RfO w' (w.heap.size + 1) ob ys) w wr B0 N w.heap.size true (T k).keys (T k).vals [] vk vv (.slice none 0 0) (T k).rest) (fun i _ _ _ _ _ => c - (intOf i).toNat)
  case atStart => exact ⟨0, Nat.zero_le _, rfl, _, _, by rw [HT0.out.1, HT0.out.2.1, HT0.out.2.2]; exact HG0.out⟩
  case round =>
    obtain ⟨k, hk, rfl, vk, vv, hG⟩ := hrel
    have htr := HTr.out k
    rcases Nat.lt_or_ge k c with hlt | hge
    · obtain ⟨S, hS⟩ : ∃ S, S = T k := ⟨_, rfl⟩
      have hT1 := HTS.out k
      rw [← hS] at hG htr hT1
      obtain ⟨ks, vs, yk, ok⟩ := S
      simp only at hG htr
      obtain ⟨ak, ck, rfl⟩ := own_shape hG.1.2.1
      obtain ⟨av, cv, rfl⟩ := own_shape hG.1.2.2.1
      obtain ⟨htr1, htr2, htr3⟩ := htr
      have hkl : ks.length ≤ 255 := by omega
      have hvl : vs.length ≤ 255 := by omega
      clear htr2 htr3
      obtain ⟨q, hq⟩ : ∃ q, q = strOf yk := ⟨_, rfl⟩
      have hstr := fStrO_any (w.heap.size + 1) ob yk wr hG.2.1 (by omega)
      have hql := strOf_le yk
      rw [← hq] at hstr hql
      obtain ⟨q2, hq2⟩ : ∃ q2, q2 = strOf q.2.2 := ⟨_, rfl⟩
      have hstr2 := fun w' h => fStrO_any (w.heap.size + 1) ob q.2.2 w' h (by omega)
      rw [← hq2] at hstr2
      have hT2 : (T (k + 1)).keys = ks ++ [q.1] ∧ (T (k + 1)).vals = vs ++ [q2.1] ∧ (T (k + 1)).rest = q2.2.2 := by rw [hT1, hq2, hq]; exact ⟨rfl, rfl, rfl⟩
      obtain ⟨a1, e1, y1⟩ := q
      obtain ⟨a2, e2, y2⟩ := q2
      simp only at hstr hstr2 hT2 hql
      have HT2 := Lib.hid hT2
      have HStr := Lib.hid hstr
      have HStr2 := Lib.hid hstr2
      have HGk := Lib.hid hG
      clear hG hT1 hT2 hstr hstr2 hS hq hq2
      go_wp2_with fail
      refine HStr.out.mono ?_
      rintro e w4 ⟨rfl, hr4, hf4⟩
      have hG4 := HGk.out.read HPl.out hf4 hr4
      have c1 := hG4.cells.2.1
      have hNl := hG4.cells.2.2.2.2
      have HO4 := Lib.hid (own_alloc hG4.1.2.1 (.cells #[.string a1] 9))
      have HSl := Lib.hid (one_lit w4 a1)
      have hbase : B0 ≤ (w4.alloc (.cells #[.string a1] 9)).heap.size := by have := hG4.2.2.2.2; simp; omega
      have HBase := Lib.hid hbase
      have HG4 := Lib.hid hG4
      clear hG4 hr4 hf4 hbase
      go_wp2_with (at_builtin; refine append_strs rfl (.tmp 44) (.tmp 46) rfl HO4.out HSl.out rfl rfl (by omega) HBase.out ?_)
      intro aa cc w5 hown hf h3
      have hkept := HG4.out.kept HPl.out HG4.out.own.1 rfl hf
      have c1 := (cell_of_row _ _ 1 _ _ _ hkept).trans rfl
      have f1 := free_row (i := 1) hkept
      have hG5 := HG4.out.key HPl.out (isRdr_rf (w.heap.size + 1) ob) rfl (by rw [List.map_append]; first | exact hown | (simpa using hown)) hf (by rw [World.size_alloc]; exact h3)
      have c0 := (cell_of_row _ _ 0 _ _ _ hkept).trans rfl
      have HG5 := Lib.hid hG5
      clear hown hf h3 hkept hG5
      go_wp2_with fail
      refine (HStr2.out _ HG5.out.2.1).mono ?_
      rintro e w6 ⟨rfl, hr6, hf6⟩
      have hG6 := HG5.out.read HPl.out hf6 hr6
      have d2 := hG6.cells.2.2.1
      have hNl6 := hG6.cells.2.2.2.2
      have HO6 := Lib.hid (own_alloc hG6.1.2.2.1 (.cells #[.string a2] 9))
      have HSl6 := Lib.hid (one_lit w6 a2)
      have hbase : B0 ≤ (w6.alloc (.cells #[.string a2] 9)).heap.size := by have := hG6.2.2.2.2; simp; omega
      have HBase6 := Lib.hid hbase
      have HG6 := Lib.hid hG6
      clear hG6 hr6 hf6 hbase c1 c0 f1
      go_wp2_with (at_builtin; refine append_strs rfl (.tmp 57) (.tmp 59) rfl HO6.out HSl6.out rfl rfl (by omega) HBase6.out ?_)
      intro aa6 cc6 w7 hown hf h3
      have hkept := HG6.out.kept HPl.out HG6.out.own.2.1 rfl hf
      have d2 := (cell_of_row _ _ 2 _ _ _ hkept).trans rfl
      have g2 := free_row (i := 2) hkept
      have hG7 := HG6.out.val HPl.out (isRdr_rf (w.heap.size + 1) ob) rfl (by rw [List.map_append]; first | exact hown | (simpa using hown)) hf (by rw [World.size_alloc]; exact h3)
      have HG7 := Lib.hid hG7
      clear hown hf h3 hkept hG7
      go_wp2
      go_roundw
      case rel => exact ⟨k + 1, by omega, by first | rfl | simp, _, _, by rw [HT2.out.1, HT2.out.2.1, HT2.out.2.2]; exact HG7.out⟩
      case measure => simp [intOf]; omega
    · obtain rfl : k = c := by omega
      have ht1 := HT1.out
      obtain ⟨S, hS⟩ : ∃ S, S = T k := ⟨_, rfl⟩
      rw [← hS] at hG ht1
      have hkid : (tell2 xs).kids = [] := by unfold tell2; rw [ht1.2.2.2, if_pos rfl]
      have hTold := ht1.2.1
      rw [hkid] at hTold
      have HTold := Lib.hid hTold
      have c0 := hG.cells.1
      have hNl := hG.cells.2.2.2.2
      have HGr := Lib.hid hG
      clear hG hkid hTold ht1 htr hS
      go_wp2_with fail
      obtain ⟨wo, hwo⟩ : ∃ wo : World, wo = wr := ⟨_, rfl⟩
      rw [← hwo] at HGr c0 hNl ⊢
      clear hwo
      go_loopw [14, 15, 16] (fun i _ _ wr => i = .int .u64 0 ∧ wr = wo) (fun _ _ _ _ => 0)
      case atStart => exact ⟨rfl, rfl⟩
      case round =>
        obtain ⟨rfl, rfl⟩ := hrel
        have HT8 := Lib.hid (At_nd HGr.out.1.1)
        have HN8 := Lib.hid HGr.out.1.is
        go_wp2_with (first | (refine load_nd rfl (.tmp 8) rfl rfl HT8.out rfl ?_) | (refine store_nd rfl (.tmp 2) (.tmp 83) rfl rfl rfl HGr.out.2.2.1 rfl rfl HN8.out.one ?_))
        intro w9 hg9 hf9 hs9
        have HG9 := Lib.hid hg9
        have HN9 := Lib.hid ((HGr.out.1.fr hf9 HPl.out.nr (fun k h1 _ e => by have := HPl.out.pr; omega)).ownN (show w.heap.size ≤ B0 by have := HPl.out.pn; have := HPl.out.wn; omega))
        have HB9 := Lib.hid (HGr.out.2.2.2.1.trans (hf9.below HGr.out.2.2.2.1.size (fun k hk => by have := HPl.out.wr; omega)))
        clear hg9 hf9 hs9
        go_wp2
        refine bodyPost_ret (ret_nd1 rfl rfl HG9.out rfl) rfl ?_
        exact ⟨_, rfl, by rw [HTold.out]; exact HN9.out, HB9.out⟩

set_option maxRecDepth 100000 in
set_option maxHeartbeats 8000000 in
theorem told_inner (v : Value) (xs : List UInt8) (w : World) (h : Sl w 1 v 512 (xs.map Bv)) (hkind : ¬ kind xs = 1) :
    Calls Tryd.prog 63 #[v] w (ToldPost xs w) := by
  have hl : xs.length = 512 := by simpa using h.1
  have hobl := own_block_lt h (by intro e; rw [e] at hl; simp at hl)
  obtain ⟨a, cap, rfl, _⟩ := h.len
  obtain ⟨ob, hob⟩ : ∃ ob, ob = (Value.slice a 512 cap).ownBlock := ⟨_, rfl⟩
  rw [← hob] at hobl
  have hbw : Below w.heap.size w ((w.alloc (.cells zeroArr 64)).alloc (.cells #[.slice a 512 cap] 43)) := ((Below.refl _ w).alloc (Nat.le_refl _) _).alloc (by simp) _
  have hR0 := heap_alloc2_old w (.cells zeroArr 64) (.cells #[.slice a 512 cap] 43)
  have hr0 : RfO ((w.alloc (.cells zeroArr 64)).alloc (.cells #[.slice a 512 cap] 43)) (w.heap.size + 1) ob xs :=
    ⟨_, heap_alloc2_new w (.cells zeroArr 64) (.cells #[.slice a 512 cap] 43), by rw [hl]; exact h.below hbw, hob.symm⟩
  have HR0 := Lib.hid hR0
  have Hr0 := Lib.hid hr0
  have HB0 := Lib.hid hbw
  obtain ⟨q0, hq0⟩ : ∃ q0, q0 = (numOf 1 xs).1 := ⟨_, rfl⟩
  have e1 : ((q0 : Int) == 1) = false := by have := beq_nat q0 1; rw [decide_eq_false (by rw [hq0]; exact hkind)] at this; exact this
  have hk1 : (numOf 1 xs).1 = q0 := hq0.symm
  obtain ⟨ys, hys⟩ : ∃ ys, ys = (numOf 1 xs).2.2 := ⟨_, rfl⟩
  obtain ⟨zs, hzs⟩ : ∃ zs, zs = (numOf 1 ys).2.2 := ⟨_, rfl⟩
  obtain ⟨c, hc⟩ : ∃ c, c = (numOf 1 ys).1 := ⟨_, rfl⟩
  obtain ⟨E1, hE1⟩ : ∃ E1, E1 = (numOf 1 xs).2.1 := ⟨_, rfl⟩
  obtain ⟨E2, hE2⟩ : ∃ E2, E2 = (numOf 1 ys).2.1 := ⟨_, rfl⟩
  have hyl : ys.length ≤ 512 := by rw [hys, ← hl]; exact numOf_le 1 xs
  have hzl : zs.length ≤ 512 := by have := numOf_le 1 ys; rw [← hzs] at this; omega
  have hc255 : c ≤ 255 := by rw [hc]; exact kind_le ys
  have HN1 := Lib.hid (fun b ob w h => fNumO_any b ob 1 xs w h (by omega))
  have HN2 := Lib.hid (fun b ob w h => fNumO_any b ob 1 ys w h (by omega))
  rw [hk1, ← hE1, ← hys] at HN1
  rw [← hc, ← hE2, ← hzs] at HN2
  rw [hys] at hzs hc
  obtain ⟨T, hT⟩ : ∃ T : Nat → Tk, T = fun k => tellKV false k (⟨[], [], zs, kind xs == 1 || kind xs == 2⟩ : Tk) := ⟨_, rfl⟩
  have hkk : (kind xs == 1) = false := by simpa using hkind
  have hT1 : tell1 xs = T c := by
    unfold tell1
    rw [hT, ← hzs, hc, hkk]
    rfl
  have hTold : toldN xs = ⟨false, (T c).keys, (T c).vals, (tell2 xs).kids⟩ := by
    unfold toldN; rw [hT1, hkk]
  have hcc : count xs = c := hc.symm
  have HT1 := Lib.hid (show tell1 xs = T c ∧ toldN xs = ⟨false, (T c).keys, (T c).vals, (tell2 xs).kids⟩ ∧ count xs = c ∧ (kind xs == 1) = false from ⟨hT1, hTold, hcc, hkk⟩)
  have HT0 := Lib.hid (show (T 0).keys = [] ∧ (T 0).vals = [] ∧ (T 0).rest = zs by rw [hT]; exact ⟨rfl, rfl, rfl⟩)
  have HTS := Lib.hid (show ∀ k, T (k + 1) = stepKV false (T k) by intro k; rw [hT]; rfl)
  have HTr := Lib.hid (show ∀ k, (T k).rest.length ≤ 512 ∧ (T k).keys.length = k ∧ (T k).vals = [] by
    intro k
    rw [hT]
    refine ⟨Nat.le_trans (tellKV_rest _ _ k) hzl, by rw [tellKV_keys]; simp, tellKV_novals _ k⟩)
  have HOl := Lib.hid hobl
  clear h hT hT1 hTold hcc hkk hkind hk1 hys hzs hc hE1 hE2 hbw hR0 hr0 hob hobl hq0
  go_enter Tryd.func63, Tryd.ntmps63
  go_wp2_with fail
  refine (HN1.out _ ob _ Hr0.out).mono ?_
  rintro e w2 ⟨rfl, hr2, hf2⟩
  have HR2 := Lib.hid ((hf2.block w.heap.size (by simp; omega) (by omega)).trans HR0.out)
  have HB2 := Lib.hid (HB0.out.trans (hf2.below HB0.out.size (fun k hk => by omega)))
  have HRd2 := Lib.hid hr2
  have hs2 := hf2.size
  rw [World.size_alloc, World.size_alloc] at hs2
  clear hr2 hf2
  go_wp2_with fail
  refine (HN2.out _ ob _ HRd2.out).mono ?_
  rintro e w3 ⟨rfl, hr3, hf3⟩
  have hs3 := hf3.size
  have hR3 := (hf3.block w.heap.size (lt_of_block HR2.out) (by omega)).trans HR2.out
  have hB3 := HB2.out.trans (hf3.below HB2.out.size (fun k hk => by omega))
  have HPl := Lib.hid (show Places w (w3.heap.size + 1) w3.heap.size (w.heap.size + 1) w.heap.size ob from ⟨by omega, by omega, by omega, fun k hk => by
    have := HOl.out k hk
    omega, by omega, by omega, by omega, by omega, by omega, by omega⟩)
  have HG0 := Lib.hid (show GRel (fun w' ys => RfO w' (w.heap.size + 1) ob ys) w (w3.alloc (.cells #[.bool false, .slice none 0 0, .slice none 0 0, .slice none 0 0] 64)) (w3.heap.size + 1) w3.heap.size w.heap.size false [] [] [] (.slice none 0 0) (.slice none 0 0) (.slice none 0 0) zs from
    ⟨⟨heap_alloc_new _ _, ⟨rfl, Or.inl ⟨rfl, rfl⟩⟩, ⟨rfl, Or.inl ⟨rfl, rfl⟩⟩, ⟨rfl, Or.inl ⟨rfl, rfl⟩⟩, fun j hj => (by cases hj), fun j hj => (by cases hj), fun j hj => (by cases hj), fun p hp => (by cases hp)⟩, hr3.below ((Below.refl _ w3).alloc (Nat.le_refl _) _), (((Below.refl _ w3).alloc (Nat.le_refl _) _).block w.heap.size (lt_of_block hR3)).trans hR3, hB3.alloc hB3.size _, by simp⟩)
  clear hr3 hf3 hR3 hB3
  go_wp2_with fail
  obtain ⟨N, hN⟩ : ∃ N, N = w3.heap.size := ⟨_, rfl⟩
  obtain ⟨B0, hB0⟩ : ∃ B0, B0 = w3.heap.size + 1 := ⟨_, rfl⟩
  rw [← hB0, ← hN] at HPl HG0
  rw [← hN]
  clear hB0 hN
  go_loopw [9, 10, 11, 12, 13] (fun i _ _ _ _ wr => ∃ k : Nat, k ≤ c ∧ i = .int .u64 (k : Int) ∧ ∃ vk vv, GRel (fun w' ys => RfO w' (w.heap.size + 1) ob ys) w wr B0 N w.heap.size false (T k).keys (T k).vals [] vk vv (.slice none 0 0) (T k).rest) (fun i _ _ _ _ _ => c - (intOf i).toNat)
  case atStart => exact ⟨0, Nat.zero_le _, rfl, _, _, by rw [HT0.out.1, HT0.out.2.1, HT0.out.2.2]; exact HG0.out⟩
  case round =>
    obtain ⟨k, hk, rfl, vk, vv, hG⟩ := hrel
    have htr := HTr.out k
    rcases Nat.lt_or_ge k c with hlt | hge
    · obtain ⟨S, hS⟩ : ∃ S, S = T k := ⟨_, rfl⟩
      have hT1 := HTS.out k
      rw [← hS] at hG htr hT1
      obtain ⟨ks, vs, yk, ok⟩ := S
      simp only at hG htr
      obtain ⟨ak, ck, rfl⟩ := own_shape hG.1.2.1
      obtain ⟨av, cv, rfl⟩ := own_shape hG.1.2.2.1
      obtain ⟨htr1, htr2, htr3⟩ := htr
      have hkl : ks.length ≤ 255 := by omega
      
      clear htr2 htr3
      obtain ⟨q, hq⟩ : ∃ q, q = strOf yk := ⟨_, rfl⟩
      have hstr := fStrO_any (w.heap.size + 1) ob yk wr hG.2.1 (by omega)
      have hql := strOf_le yk
      rw [← hq] at hstr hql
      have hT2 : (T (k + 1)).keys = ks ++ [q.1] ∧ (T (k + 1)).vals = vs ∧ (T (k + 1)).rest = q.2.2 := by rw [hT1, hq]; exact ⟨rfl, rfl, rfl⟩
      obtain ⟨a1, e1, y1⟩ := q
      simp only at hstr hT2 hql
      have HT2 := Lib.hid hT2
      have HStr := Lib.hid hstr
      have HGk := Lib.hid hG
      clear hG hT1 hT2 hstr hS hq
      go_wp2_with fail
      refine HStr.out.mono ?_
      rintro e w4 ⟨rfl, hr4, hf4⟩
      have hG4 := HGk.out.read HPl.out hf4 hr4
      have c1 := hG4.cells.2.1
      have hNl := hG4.cells.2.2.2.2
      have HO4 := Lib.hid (own_alloc hG4.1.2.1 (.cells #[.string a1] 9))
      have HSl := Lib.hid (one_lit w4 a1)
      have hbase : B0 ≤ (w4.alloc (.cells #[.string a1] 9)).heap.size := by have := hG4.2.2.2.2; simp; omega
      have HBase := Lib.hid hbase
      have HG4 := Lib.hid hG4
      clear hG4 hr4 hf4 hbase
      go_wp2_with (at_builtin; refine append_strs rfl (.tmp 44) (.tmp 46) rfl HO4.out HSl.out rfl rfl (by omega) HBase.out ?_)
      intro aa cc w5 hown hf h3
      have hkept := HG4.out.kept HPl.out HG4.out.own.1 rfl hf
      have c1 := (cell_of_row _ _ 1 _ _ _ hkept).trans rfl
      have f1 := free_row (i := 1) hkept
      have hG5 := HG4.out.key HPl.out (isRdr_rf (w.heap.size + 1) ob) rfl (by rw [List.map_append]; first | exact hown | (simpa using hown)) hf (by rw [World.size_alloc]; exact h3)
      have c0 := (cell_of_row _ _ 0 _ _ _ hkept).trans rfl
      have HG5 := Lib.hid hG5
      clear hown hf h3 hkept hG5
      go_wp2
      go_roundw
      case rel => exact ⟨k + 1, by omega, by first | rfl | simp, _, _, by rw [HT2.out.1, HT2.out.2.1, HT2.out.2.2]; exact HG5.out⟩
      case measure => simp [intOf]; omega
    · obtain rfl : k = c := by omega
      have ht1 := HT1.out
      obtain ⟨S, hS⟩ : ∃ S, S = T k := ⟨_, rfl⟩
      rw [← hS] at hG htr ht1
      obtain ⟨U, hU⟩ : ∃ U : Nat → Tp, U = fun j => tellP j ⟨[], S.rest, S.ok⟩ := ⟨_, rfl⟩
      have h2 : tell2 xs = U (k + 1) := by unfold tell2; rw [ht1.2.2.2, ht1.1, ht1.2.2.1, hU]; simp
      have hTold := ht1.2.1
      rw [h2] at hTold
      have HTold := Lib.hid hTold
      have HU0 := Lib.hid (show (U 0).kids = [] ∧ (U 0).rest = S.rest by rw [hU]; exact ⟨rfl, rfl⟩)
      have HUS := Lib.hid (show ∀ j, U (j + 1) = stepP (U j) by intro j; rw [hU]; rfl)
      have hrl0 := htr.1
      have HUr := Lib.hid (show ∀ j, (U j).rest.length ≤ 512 ∧ (U j).kids.length = j by
        intro j
        rw [hU]
        exact ⟨Nat.le_trans (tellP_rest _ j) hrl0, by rw [tellP_kids]; simp⟩)
      have HGr0 := Lib.hid hG
      clear hG hU h2 hTold ht1 htr hS
      go_wp2_with fail
      obtain ⟨wo, hwo⟩ : ∃ wo : World, wo = wr := ⟨_, rfl⟩
      rw [← hwo] at HGr0 ⊢
      clear hwo
      go_loopw [14, 15, 16] (fun i _ _ wr => ∃ j : Nat, j ≤ k + 1 ∧ i = .int .u64 (j : Int) ∧ ∃ vp, GRel (fun w' ys => RfO w' (w.heap.size + 1) ob ys) w wr B0 N w.heap.size false S.keys S.vals (U j).kids vk vv vp (U j).rest) (fun i _ _ _ => k + 1 - (intOf i).toNat)
      case atStart => exact ⟨0, Nat.zero_le _, rfl, _, by rw [HU0.out.1, HU0.out.2]; exact HGr0.out⟩
      case round =>
        obtain ⟨j, hj, rfl, vp, hG⟩ := hrel
        have hur := HUr.out j
        have c0 := hG.cells.1
        have hNl := hG.cells.2.2.2.2
        rcases Nat.lt_or_ge j (k + 1) with hlt | hge
        · obtain ⟨V, hV⟩ : ∃ V, V = U j := ⟨_, rfl⟩
          have hU1 := HUS.out j
          rw [← hV] at hG hur hU1
          obtain ⟨ps, yj, ok⟩ := V
          simp only at hG hur
          obtain ⟨ap, cp, rfl⟩ := own_shape hG.1.2.2.2.1
          obtain ⟨hur1, hur2⟩ := hur
          have hpl : ps.length ≤ 256 := by omega
          clear hur2
          obtain ⟨q, hq⟩ : ∃ q, q = ptrOf yj := ⟨_, rfl⟩
          have hwf := ptrOf_wf yj
          have hget := refPtrGet_any (w.heap.size + 1) ob yj wr hG.2.1 (fun k hk => by have := HPl.out.pob k hk; have := hG.2.2.2.2; omega) (by omega)
          rw [← hq] at hget hwf
          have hU2 : (U (j + 1)).kids = ps ++ [q.1] ∧ (U (j + 1)).rest = q.2.2 := by rw [hU1, hq]; exact ⟨rfl, rfl⟩
          obtain ⟨p, e1, y1⟩ := q
          simp only at hget hU2 hwf
          have HW := Lib.hid hwf
          have HU3 := Lib.hid hU2
          have HGet := Lib.hid hget
          have HGk := Lib.hid hG
          obtain ⟨ip, zp, hip, hzp, hsp, hzsp⟩ := info_ptr3
          have HInf := Lib.hid (And.intro hip (And.intro hzp (And.intro hsp hzsp)))
          have m1 : (j : Int) ≤ (k : Int) := by omega
          clear hG hU1 hU2 hget hV hq hwf hip hzp hsp hzsp
          go_wp2_with fail
          refine HGet.out.mono ?_
          rintro e w4 ⟨rfl, hr4, hf4⟩
          have hG4 := HGk.out.read HPl.out hf4 hr4
          have HG4 := Lib.hid hG4
          clear hG4 hr4 hf4 c0 hNl
          go_wp2_with (refine store_ptr rfl (.tmp 15) (.tmp 75) rfl rfl rfl (heap_alloc_new _ _) rfl HW.out ?_)
          intro w5 hb5 hf5 hs5
          have hbel5 : Below w4.heap.size w4 w5 := ((Below.refl _ w4).alloc (Nat.le_refl _) _).trans (hf5.below (by simp) (fun k hk => by omega))
          have hG5 := HG4.out.below HPl.out (isRdr_rf (w.heap.size + 1) ob) hbel5
          have c3 := hG5.cells.2.2.2.1
          have hNl := hG5.cells.2.2.2.2
          have HAT := Lib.hid (show At w5 w4.heap.size 0 p.cells from At.of_row hb5)
          have HG5 := Lib.hid hG5
          clear hb5 hf5 hs5 hbel5 hG5
          have HO5 := Lib.hid (own_alloc HG5.out.1.2.2.2.1 (.cells p.arr 78))
          have HSl := Lib.hid (show Sl (w5.alloc (.cells p.arr 78)) 34 (.slice (some ⟨w5.heap.size, 0, none⟩) 1 1) 1 p.cells from Sl_row (heap_alloc_new _ _) p.arr_toList (by rw [HW.out.len]))
          have hbase : B0 ≤ (w5.alloc (.cells p.arr 78)).heap.size := by have := HG5.out.2.2.2.2; simp; omega
          have HBase := Lib.hid hbase
          clear hbase
          go_wp2_with (first
            | (refine load_ptr rfl (.tmp 15) rfl rfl HAT.out HW.out ?_)
            | (refine build_many rfl 62 78 1 _ rfl [p.arr] ?_ rfl Tryd.underlying62 ip zp 34 HInf.out.1 HInf.out.2.1 HInf.out.2.2.1 HInf.out.2.2.2 (Q1_size HW.out) (by decide) (by decide) (by decide) ?_)
            | (at_builtin; refine append_ptrs rfl (.tmp 78) (.tmp 80) rfl HO5.out HW.out HSl.out rfl rfl (by omega) HBase.out ?_))
          intro aa cc w6 hown hf h3
          have hkept := HG5.out.kept HPl.out HG5.out.own.2.2 rfl hf
          have c3 := (cell_of_row _ _ 3 _ _ _ hkept).trans rfl
          have f3 := free_row (i := 3) hkept
          have hG6 := HG5.out.kid HW.out HPl.out (isRdr_rf (w.heap.size + 1) ob) rfl (by first | exact hown | (simpa using hown)) hf (by rw [World.size_alloc]; exact h3)
          have HG6 := Lib.hid hG6
          clear hown hf h3 hkept hG6
          go_wp2
          go_roundw
          case rel => exact ⟨j + 1, by omega, by first | rfl | simp, _, by rw [HU3.out.1, HU3.out.2]; exact HG6.out⟩
          case measure => simp [intOf]; omega
        · obtain rfl : j = k + 1 := by omega
          have m1 : ¬ ((k : Int) + 1 ≤ (k : Int)) := by omega
          have HGr := Lib.hid hG
          have HT8 := Lib.hid (At_nd HGr.out.1.1)
          have HN8 := Lib.hid HGr.out.1.is
          clear hG hur
          go_wp2_with (first | (refine load_nd rfl (.tmp 8) rfl rfl HT8.out rfl ?_) | (refine store_nd rfl (.tmp 2) (.tmp 83) rfl rfl rfl HGr.out.2.2.1 rfl rfl HN8.out.one ?_))
          intro w9 hg9 hf9 hs9
          have HG9 := Lib.hid hg9
          have HN9 := Lib.hid ((HGr.out.1.fr hf9 HPl.out.nr (fun k h1 _ e => by have := HPl.out.pr; omega)).ownN (show w.heap.size ≤ B0 by have := HPl.out.pn; have := HPl.out.wn; omega))
          have HB9 := Lib.hid (HGr.out.2.2.2.1.trans (hf9.below HGr.out.2.2.2.1.size (fun k hk => by have := HPl.out.wr; omega)))
          clear hg9 hf9 hs9
          go_wp2
          refine bodyPost_ret (ret_nd1 rfl rfl HG9.out rfl) rfl ?_
          exact ⟨_, rfl, by rw [HTold.out]; exact HN9.out, HB9.out⟩

theorem told_any (v : Value) (xs : List UInt8) (w : World) (h : Sl w 1 v 512 (xs.map Bv)) : Calls Tryd.prog 63 #[v] w (ToldPost xs w) := by
  by_cases hk : kind xs = 1
  · exact told_leaf v xs w h hk
  · exact told_inner v xs w h hk

end Go.Proofs.YtdhlcofjpkbgaaaDoor

namespace Go.Proofs.YtdhlcofjpkbgaaaDoor
open Go.RowKit

set_option maxRecDepth 100000 in
set_option maxHeartbeats 2000000 in
theorem refGet_short (v : Value) (xs : List UInt8) (w : World) (h : Sl w 1 v xs.length (xs.map Bv)) (hl : ¬ xs.length = 512) :
    Calls Tryd.prog 31 #[v] w (GetPost xs w) := by
  obtain ⟨a, cap, rfl, _⟩ := h.len
  have HQ := Lib.hid (get_len hl)
  have HG := Lib.hid (heap_alloc_new w (.cells zeroArr 64))
  have HB := Lib.hid (show Below w.heap.size w (w.alloc (.cells zeroArr 64)) from (Below.refl _ w).alloc (Nat.le_refl _) _)
  have e1 : ((xs.length : Int) == 512) = false := by have := beq_nat xs.length 512; rw [decide_eq_false hl] at this; exact this
  have e2 : ((xs.length : Int) != 512) = true := by unfold bne; rw [e1]; rfl
  clear h hl
  go_enter Tryd.func31, Tryd.ntmps31
  go_wp2_with (refine store_nd rfl (.tmp 2) (.tmp 10) rfl rfl (arr := zeroArr) rfl HG.out rfl rfl (zero_is w).one ?_)
  intro w2 hg2 hf2 hs2
  have HG2 := Lib.hid hg2
  have HB2 := Lib.hid (HB.out.trans (hf2.below HB.out.size (fun k hk => by omega)))
  clear hg2 hf2 hs2
  go_wp2
  refine bodyPost_ret (ret_nd rfl rfl HG2.out rfl) rfl ?_
  exact ⟨zeroArr, by rw [HQ.out.1]; rfl, by rw [HQ.out.2]; exact zero_is _, HB2.out⟩

set_option maxRecDepth 100000 in
set_option maxHeartbeats 4000000 in
theorem refGet_full (v : Value) (xs : List UInt8) (w : World) (h : Sl w 1 v 512 (xs.map Bv)) :
    Calls Tryd.prog 31 #[v] w (GetPost xs w) := by
  have hl : xs.length = 512 := by simpa using h.1
  have HL := Lib.hid hl
  have HIff := Lib.hid (getOk_iff xs hl)
  obtain ⟨a, cap, rfl, _⟩ := h.len
  have hb0 : Below w.heap.size w (w.alloc (.cells zeroArr 64)) := (Below.refl _ w).alloc (Nat.le_refl _) _
  have HS := Lib.hid (fun (w' : World) (hb : Below w.heap.size w w') => (h.below hb : Sl w' 1 (.slice a 512 cap) 512 (xs.map Bv)))
  have HG := Lib.hid (heap_alloc_new w (.cells zeroArr 64))
  have HB := Lib.hid hb0
  have HK := Lib.hid (show (toldN xs).keys.length ≤ 255 by
    have h1 := tell1_len xs
    have h2 := count_le xs
    unfold toldN; simp only; omega)
  clear h hl hb0
  go_enter Tryd.func31, Tryd.ntmps31
  go_wp2_with fail
  refine (told_any _ xs _ (HS.out _ HB.out)).mono ?_
  rintro e w1 ⟨arr, rfl, hn1, hb1⟩
  have HSZ := Lib.hid hn1.is.size
  have HOne := Lib.hid hn1.is.one
  have HR1 := Lib.hid ((hb1.block w.heap.size (by simp)).trans HG.out)
  have HB1 := Lib.hid (HB.out.trans (hb1.mono HB.out.size))
  have HN1 := Lib.hid hn1
  have hlt1 := lt_of_block HR1.out
  clear hn1 hb1
  go_wp2_with (refine store_nd rfl (.tmp 4) (.tmp 12) rfl rfl rfl (heap_alloc_new _ _) rfl HSZ.out HOne.out ?_)
  intro w2 hg2 hf2 hs2
  have hbel2 : Below w1.heap.size w1 w2 := ((Below.refl _ w1).alloc (Nat.le_refl _) _).trans (hf2.below (by simp) (fun k hk => by omega))
  have HR2 := Lib.hid ((hbel2.block w.heap.size hlt1).trans HR1.out)
  have HB2 := Lib.hid (HB1.out.trans (hbel2.mono HB1.out.size))
  have HN2 := Lib.hid (HN1.out.fr (Fr.of_below (S := fun _ => False) hbel2) (fun _ _ _ => id))
  have HT2 := Lib.hid (At_nd hg2)
  have HG2 := Lib.hid hg2
  have hlt2 := lt_of_block hg2
  clear hbel2 hg2 hf2 hs2
  go_wp2_with (refine load_nd rfl (.tmp 4) rfl rfl HT2.out HSZ.out ?_)
  refine (refPutAny _ (toldN xs) _ HN2.out.is (toldN_fits xs) HK.out).mono ?_
  rintro e w3 ⟨v3, ys, L3, rfl, hs3, hy3, hb3⟩
  have HR3 := Lib.hid ((hb3.block w.heap.size (by omega)).trans HR2.out)
  have HB3 := Lib.hid (HB2.out.trans (hb3.mono HB2.out.size))
  have HN3 := Lib.hid (HN2.out.fr (Fr.of_below (S := fun _ => False) hb3) (fun _ _ _ => id))
  have HT3 := Lib.hid (HT2.out.fr (Fr.of_below (S := fun _ => False) hb3) id)
  have q1 := toStr_u8 hs3
  have q2 := toStr_u8 (HS.out w3 HB3.out)
  clear hb3 hs3
  by_cases hC : checkE (toldN xs) = 0
  case neg =>
    have HQ := Lib.hid (get_no HL.out (by rw [Bool.eq_false_iff]; intro h; exact hC (HIff.out.1 h).1))
    have hbe : (checkE (toldN xs) != 0) = true := by simpa using hC
    have h46 : checkE (toldN xs) = 4 ∨ checkE (toldN xs) = 6 := by
      cases hf : formB (toldN xs) with
      | false => exact Or.inl (checkE_bad hf)
      | true =>
        by_cases h5 : 512 < sizeN (toldN xs)
        · exact Or.inr (checkE_full hf h5)
        · exact absurd (checkE_ok hf h5) hC
    clear hC hy3 q1 q2 hbe
    rcases h46 with h4 | h4 <;> (
      rw [h4]
      clear h4
      go_wp2_with (refine store_nd rfl (.tmp 2) (.tmp 27) rfl rfl (arr := zeroArr) rfl HR3.out rfl rfl (zero_is w).one ?_)
      intro w9 hg9 hf9 hs9
      have HG9 := Lib.hid hg9
      have HB9 := Lib.hid (HB3.out.trans (hf9.below HB3.out.size (fun k hk => by omega)))
      clear hg9 hf9 hs9
      go_wp2
      refine bodyPost_ret (ret_nd rfl rfl HG9.out rfl) rfl ?_
      exact ⟨zeroArr, by rw [HQ.out.1]; rfl, by rw [HQ.out.2]; exact zero_is _, HB9.out⟩)
  case pos =>
    rw [if_pos hC] at hy3
    rw [hC]
    by_cases hX : ys = xs
    · have HQ := Lib.hid (get_ok HL.out (HIff.out.2 ⟨hC, by rw [← hy3]; exact hX⟩))
      rw [hX] at q1
      clear hC hy3 hX
      go_wp2_with (first | (refine load_nd rfl (.tmp 4) rfl rfl HT3.out HSZ.out ?_) | (refine store_nd rfl (.tmp 2) (.tmp 28) rfl rfl rfl HR3.out rfl HSZ.out HOne.out ?_))
      intro w9 hg9 hf9 hs9
      have HG9 := Lib.hid hg9
      have HB9 := Lib.hid (HB3.out.trans (hf9.below HB3.out.size (fun k hk => by omega)))
      have hN9 : NdIs w9 arr (toldN xs) := (HN3.out.fr hf9 (fun k h1 _ e => by rw [World.size_alloc] at h1; omega)).is
      have HN9 := Lib.hid hN9
      clear hg9 hf9 hs9 hN9
      go_wp2
      refine bodyPost_ret (ret_nd rfl rfl HG9.out HSZ.out) rfl ?_
      exact ⟨_, by rw [HQ.out.1]; rfl, by rw [HQ.out.2]; exact HN9.out, HB9.out⟩
    · have HQ := Lib.hid (get_no HL.out (by rw [Bool.eq_false_iff]; intro h; exact hX (by rw [hy3]; exact (HIff.out.1 h).2)))
      obtain ⟨s1, hs1⟩ : ∃ s1 : ByteArray, s1 = ⟨ys.toArray⟩ := ⟨_, rfl⟩
      obtain ⟨s2, hs2⟩ : ∃ s2 : ByteArray, s2 = ⟨xs.toArray⟩ := ⟨_, rfl⟩
      rw [← hs1] at q1
      rw [← hs2] at q2
      have hne : sEq s1 s2 = false := by
        rw [Bool.eq_false_iff]
        intro h
        have h1 := (sEq_iff _ _).1 h
        rw [hs1, hs2] at h1
        have h2 := congrArg (fun b : ByteArray => b.data.toList) h1
        simp at h2
        exact hX h2
      have e1 : (s1.toList == s2.toList) = false := hne
      have e2 : ¬ s1.toList = s2.toList := by simpa using e1
      clear hC hy3 hX hs1 hs2 hne
      go_wp2_with (refine store_nd rfl (.tmp 2) (.tmp 27) rfl rfl (arr := zeroArr) rfl HR3.out rfl rfl (zero_is w).one ?_)
      intro w9 hg9 hf9 hs9
      have HG9 := Lib.hid hg9
      have HB9 := Lib.hid (HB3.out.trans (hf9.below HB3.out.size (fun k hk => by omega)))
      clear hg9 hf9 hs9
      go_wp2
      refine bodyPost_ret (ret_nd rfl rfl HG9.out rfl) rfl ?_
      exact ⟨zeroArr, by rw [HQ.out.1]; rfl, by rw [HQ.out.2]; exact zero_is _, HB9.out⟩

theorem refGet_any (v : Value) (xs : List UInt8) (w : World) (h : Sl w 1 v xs.length (xs.map Bv)) : Calls Tryd.prog 31 #[v] w (GetPost xs w) := by
  by_cases hl : xs.length = 512
  · rw [hl] at h; exact refGet_full v xs w h
  · exact refGet_short v xs w h hl

end Go.Proofs.YtdhlcofjpkbgaaaDoor
