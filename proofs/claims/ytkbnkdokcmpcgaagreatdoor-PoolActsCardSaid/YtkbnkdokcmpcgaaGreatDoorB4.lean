/- Walks: slices.Chunk over bytes; sha's Hasher.Sum. -/
import Derived.Test.YtkbnkdokcmpcgaaGreatDoorB3
namespace Go.Proofs.YtkbnkdokcmpcgaaGreatDoor
open Go.RowKit Go.Shelf
attribute [local go_sem] Oper.semAt_some

theorem chunk_any (v : Value) (a : Option Addr) (n c : Nat) (hv : v = .slice a n c) (w : World) :
    Calls Tryz.prog 127 #[v, .int .i64 64] w fun e w' => e = .returned (.func (.func 163) #[] #[.pointer (some ⟨w.heap.size, 0, none⟩), .pointer (some ⟨w.heap.size + 1, 0, none⟩)]) ∧
      (w.alloc (.cells #[v] 26)).alloc (.cells #[.int .i64 64] 3) = w' := by
  subst hv
  go_enter Tryz.func127, Tryz.ntmps127
  go_wp2
  go_ret
  exact ⟨rfl, rfl⟩

def upTo (N k : Nat) : List (Fin N) := (List.finRange N).take k
theorem upTo_succ {N k : Nat} (h : k < N) : upTo N (k + 1) = upTo N k ++ [⟨k, h⟩] := by
  unfold upTo
  rw [List.take_succ_eq_append_getElem (by simpa using h)]
  simp
theorem upTo_length {N k : Nat} (h : k ≤ N) : (upTo N k).length = k := by simp [upTo, h]
def KpB (b1 b2 : Nat) (A B : World) : Prop := B.heap[b1]? = A.heap[b1]? ∧ B.heap[b2]? = A.heap[b2]?

theorem slice_lo8 (a : Option Addr) (n cap lo : Nat) (h1 : lo ≤ n) (_h2 : n ≤ cap) : ∃ A C, ∀ w', (Instr.slice 26 (.slice a n cap) (some (.int .i64 (lo : Int))) none none).run Tryz.prog w' = .ok (.slice A (n - lo) C) w' := by
  refine ⟨if cap = lo then a else a.map (·.add (lo * 1)), cap - lo, fun w' => ?_⟩
  rw [run_slice_l (P := Tryz.prog) (w := w') _ a n cap und_u8 .i64 lo (by omega) (by omega), size_u8]
  simp [Result.andThen, sliced]
theorem slice_chunk (g n cap k : Nat) (h1 : 64 * k + 64 ≤ n) (h2 : n ≤ cap) (w' : World) :
    (Instr.slice 26 (.slice (some ⟨g, 0, none⟩) n cap) (some (.int .i64 (64 * (k : Int)))) (some (.int .i64 (64 * (k : Int) + 64))) (some (.int .i64 (64 * (k : Int) + 64)))).run Tryz.prog w' = .ok (.slice (some ⟨g, 64 * k, none⟩) 64 64) w' := by
  have h := run_slice_lhm (P := Tryz.prog) (w := w') 26 (some ⟨g, 0, none⟩) n cap und_u8 .i64 .i64 .i64 (64 * (k : Int)) (64 * (k : Int) + 64) (64 * (k : Int) + 64) (by omega) (by omega) (by omega) (by omega)
  rw [h, size_u8]
  have e1 : (64 * (k : Int)).toNat = 64 * k := by omega
  have e2 : (64 * (k : Int) + 64).toNat = 64 * k + 64 := by omega
  rw [e1, e2]
  simp only [Result.andThen, sliced]
  rw [if_neg (by omega), show 64 * k + 64 - 64 * k = 64 by omega]
  simp [Addr.add_lit]

set_option maxRecDepth 100000 in
set_option maxHeartbeats 4000000 in
theorem chunks_in (n l b1 b2 g N cap : Nat) (hN : N ≤ 1000) (hcap : 64 * N ≤ cap) (J Jx : List (Fin N) → World → Prop) (hJd : ∀ pre W m, J pre W → J pre (W.drewN m))
    (hY : ∀ pre (x : Fin N) W, J pre W → pre.length < N → YieldAt Fence.wide n Tryz.prog l #[.slice (some ⟨g, 64 * x.val, none⟩) 64 64] W fun e W' =>
      (e = .returned (.bool true) ∧ J (pre ++ [x]) W' ∧ KpB b1 b2 W W') ∨ (e = .returned (.bool false) ∧ Jx (pre ++ [x]) W'))
    (W : World) (hb1 : W.heap[b1]? = some (.cells #[.slice (some ⟨g, 0, none⟩) (64 * N) cap] 26 (0, 0))) (hb2 : W.heap[b2]? = some (.cells #[.int .i64 64] 3 (0, 0))) (h0 : J [] W) :
    CallsIn Fence.wide (n + 1) Tryz.prog 163 #[.func (.yield l) #[] #[], .pointer (some ⟨b1, 0, none⟩), .pointer (some ⟨b2, 0, none⟩)] W fun e W' => (∃ v, e = .returned v) ∧
      ((∃ ys, ys = upTo N N ∧ J ys W') ∨ (∃ pre, True ∧ Jx pre W')) := by
  refine callsIn_of_wp Tryz.func163 rfl trivial ?_ rfl
  simp only [Tryz.ntmps163, List.size_toArray, List.length_cons, List.length_nil, Nat.reduceAdd, Nat.reduceSub, Array.replicate_succ, Array.replicate_zero, List.push_toArray, List.append_toArray, List.nil_append, List.cons_append]
  have HY := Lib.hid hY
  have HB1 := Lib.hid hb1
  have HB2 := Lib.hid hb2
  have H0 := Lib.hid h0
  clear hY hb1 hb2 h0
  gi_wp2
  gi_loopw [4] (fun i wr => ∃ k : Nat, k ≤ N ∧ i = .int .i64 (64 * (k : Int)) ∧ J (upTo N k) wr ∧ KpB b1 b2 W wr) (fun i _ => 64 * N - (intOf i).toNat)
  case atStart => exact ⟨0, Nat.zero_le _, rfl, H0.out, rfl, rfl⟩
  case round =>
    obtain ⟨k, hk, rfl, hj, hb⟩ := hrel
    have c1 := cell_of_one (hb.1.trans HB1.out)
    have c2 := cell_of_one (hb.2.trans HB2.out)
    by_cases hlt : k < N
    · obtain ⟨A, C, q1⟩ := slice_lo8 (some ⟨g, 0, none⟩) (64 * N) cap (64 * k) (by omega) hcap
      rw [show ((64 * k : Nat) : Int) = 64 * (k : Int) by omega] at q1
      have q2 := slice_chunk g (64 * N) cap k (by omega) hcap
      gi_wp2
      refine wpIn_wide.2 ?_
      go_quiet (fail)
      obtain ⟨fn, tmps, assign, body, hy, hR⟩ := HY.out (upTo N k) ⟨k, hlt⟩ (wr.drewN nq) (hJd _ _ _ hj) (by rw [upTo_length hk]; exact hlt)
      dsimp only at hy
      have HRd := Lib.hid hR
      clear hR q1
      gi_wp2
      refine HRd.out.mono ?_
      rintro e W3 (⟨rfl, hJ3, hk3⟩ | ⟨rfl, hJx3⟩)
      · have HJ3 := Lib.hid hJ3
        have HK3 := Lib.hid hk3
        have c3 := cell_of_one (hk3.2.trans (show (wr.drewN nq).heap[b2]? = _ from hb.2.trans HB2.out))
        clear hJ3 hk3 hy q2 c1 c2
        gi_wp2
        go_roundw
        case rel => exact ⟨k + 1, by omega, by go_num, by rw [upTo_succ hlt]; exact HJ3.out, HK3.out.1.trans hb.1, HK3.out.2.trans hb.2⟩
        case measure => simp [intOf]; omega
      · have HJ3 := Lib.hid hJx3
        clear hJx3 hy q2
        gi_wp2
        refine bodyPost_ret (results_none rfl _ _ _) rfl ?_
        exact ⟨⟨_, rfl⟩, .inr ⟨_, trivial, HJ3.out⟩⟩
    · obtain rfl : k = N := by omega
      gi_wp2
      go_end0
      exact ⟨⟨_, rfl⟩, .inl ⟨_, rfl, hj⟩⟩

theorem sl_chunk {w : World} {g n c k : Nat} {es : List UInt8} (h : Sl w 1 (.slice (some ⟨g, 0, none⟩) n c) n (es.map Bv)) (hk : 64 * k + 64 ≤ n) : Sl w 1 (.slice (some ⟨g, 64 * k, none⟩) 64 64) 64 (((es.drop (64 * k)).take 64).map Bv) := by
  obtain ⟨hl, a, cap, e, _, _, h4⟩ := h
  have hl' : es.length = n := by simpa using hl
  refine ⟨by simp; omega, some ⟨g, 64 * k, none⟩, 64, rfl, Nat.le_refl _, fun h => (by cases h), fun i u hu => ⟨g, 64 * k, rfl, ?_⟩⟩
  rw [List.getElem?_map, List.getElem?_take] at hu
  split at hu
  · rw [List.getElem?_drop] at hu
    obtain ⟨b', o', e', hc⟩ := h4 (64 * k + i) u (by rw [List.getElem?_map]; exact hu)
    simp only [Value.slice.injEq] at e
    rw [← e.1] at e'
    simp only [Option.some.injEq, Addr.mk.injEq, and_true] at e'
    obtain ⟨rfl, rfl⟩ := e'
    rw [Nat.zero_add] at hc
    exact hc
  · cases hu
def foldSt (st : St) (es : List UInt8) {N : Nat} (pre : List (Fin N)) : St := pre.foldl (fun s k => takeN s ((es.drop (64 * k.val)).take 64)) st
theorem foldSt_snoc (st : St) (es : List UInt8) {N : Nat} (pre : List (Fin N)) (x : Fin N) : foldSt st es (pre ++ [x]) = takeN (foldSt st es pre) ((es.drop (64 * x.val)).take 64) := by
  unfold foldSt; rw [List.foldl_append]; rfl
theorem foldSt_upTo (st : St) (es : List UInt8) {N : Nat} : ∀ k, k ≤ N → foldSt st es (upTo N k) = blocksN st es k
  | 0, _ => rfl
  | k + 1, h => by rw [upTo_succ h, foldSt_snoc, foldSt_upTo st es k (by omega)]; rfl
theorem foldSt_ok {st : St} (h : st.Ok) (es : List UInt8) {N : Nat} (pre : List (Fin N)) : (foldSt st es pre).Ok := by
  rcases List.eq_nil_or_concat pre with rfl | ⟨l, x, rfl⟩
  · exact h
  · rw [List.concat_eq_append, foldSt_snoc]; exact takeN_ok _ _
def ChunkI (W0 : World) (X : Nat) (st : St) (es : List UInt8) (N : Nat) (pre : List (Fin N)) (W : World) : Prop :=
  W.heap[X]? = some (.cells (foldSt st es pre).arr 225 (0, 0)) ∧ Fr (fun k => k = X) W0 W

theorem chunks_stops (b1 b2 g N cap : Nat) (hN : N ≤ 1000) (hcap : 64 * N ≤ cap) (W0 : World) (hlt1 : b1 < W0.heap.size) (hlt2 : b2 < W0.heap.size)
    (hb1 : W0.heap[b1]? = some (.cells #[.slice (some ⟨g, 0, none⟩) (64 * N) cap] 26 (0, 0))) (hb2 : W0.heap[b2]? = some (.cells #[.int .i64 64] 3 (0, 0))) :
    SeqStopsK Fence.wide 4 Tryz.prog 163 #[.pointer (some ⟨b1, 0, none⟩), .pointer (some ⟨b2, 0, none⟩)] (fun x : Fin N => #[.slice (some ⟨g, 64 * x.val, none⟩) 64 64]) (KpB b1 b2) (fun ys => ys = upTo N N) (fun _ => True) N W0 :=
  fun l J Jx W hW hJ _ hY h0 => chunks_in 3 l b1 b2 g N cap hN hcap J Jx (fun pre W m hj => hJ pre W _ none hj ⟨rfl, rfl, rfl, Nat.le_refl _, fun _ _ _ => rfl⟩ (fun r e => by cases e)) hY W ((hW.block b1 hlt1).trans hb1) ((hW.block b2 hlt2).trans hb2) h0
theorem ChunkI.own (W0 : World) (X : Nat) (st : St) (es : List UInt8) (N B : Nat) (hX : X < W0.heap.size) (hB : W0.heap.size ≤ B) : OwnFrom B (ChunkI W0 X st es N) := fun s W W' row hs hg hr => by
  have hne : some X ≠ row := fun e => by have := (hr X e.symm).1; omega
  refine ⟨(hg.block X (lt_of_block hs.1) hne).trans hs.1, ?_⟩
  exact hs.2.grown hg (fun k hk => Or.inr (by have := (hr k hk).1; omega))

theorem index_state (arr : Array Value) (i : Nat) (v : Value) (hi : i < 8) (hv : arr[i]? = some v) (w : World) : (Instr.index 225 (.agg arr) (.int .i64 (i : Int))).run Tryz.prog w = .ok v w := by
  have hu : Tryz.prog.underlying 225 = some (.array 8 41) := Tryz.underlying225
  have hs : (sizeOf 41).run Tryz.prog w = .ok 1 w := by kernel_rfl
  have ha : (isAgg 41).run Tryz.prog w = .ok false w := by kernel_rfl
  have hlt : (0 : Int) ≤ (i : Int) ∧ (i : Int) < ((8 : Nat) : Int) := by omega
  simp [Instr.index, run_underlying hu, asIntOf, hlt.1, hs, part, ha, hv, Sem.run_bind, Result.andThen]
  intro h; omega
theorem slice_hash (Z n : Nat) (hn : n < 8) (w : World) : (Instr.sliceAt 33 (.pointer (some ⟨Z, 0, none⟩)) (some (.int .i64 (4 * (n : Int)))) none none).run Tryz.prog w = .ok (.slice (some ⟨Z, 4 * n, none⟩) (32 - 4 * n) (32 - 4 * n)) w := by
  have hal : Tryz.prog.arrayLen 33 = 32 := by kernel_rfl
  have hel : Tryz.prog.elem 33 = 5 := by kernel_rfl
  have hs : (sizeOf 5).run Tryz.prog w = .ok 1 w := by kernel_rfl
  rw [run_sliceAt_array_l (P := Tryz.prog) (w := w) 33 ⟨Z, 0, none⟩ (by rw [hal, hel]; exact Tryz.underlying33) .i64 (4 * (n : Int)) (by omega) (by rw [hal]; omega), hel, hs, hal]
  have e : (4 * (n : Int)).toNat = 4 * n := by omega
  simp only [Result.andThen, slicedAt, e]
  rw [if_neg (by omega)]
  simp [Addr.add_lit]
def outTo (l : List Nat) (i : Nat) : List UInt8 := ((l.take i).map fun x => putB x 4).flatten ++ List.replicate (32 - 4 * i) 0
theorem outTo_flat (l : List Nat) : ((l.map fun x => putB x 4).flatten).length = 4 * l.length := by
  induction l with
  | nil => rfl
  | cons x l ih => rw [List.map_cons, List.flatten_cons, List.length_append, ih, putB_length, List.length_cons]; omega
theorem outTo_length (l : List Nat) (i : Nat) (hl : l.length = 8) (hi : i ≤ 8) : (outTo l i).length = 32 := by
  unfold outTo; rw [List.length_append, outTo_flat, List.length_take, List.length_replicate]; omega
theorem outTo_step (l : List Nat) (i : Nat) (hl : l.length = 8) (hi : i < 8) : over (outTo l i) (4 * i) (putB (l.getD i 0) 4) = outTo l (i + 1) := by
  have hF : (((l.take i).map fun x => putB x 4).flatten).length = 4 * i := by rw [outTo_flat, List.length_take]; omega
  unfold over outTo
  rw [putB_length, List.take_append_of_le_length (by omega), List.take_of_length_le (by omega), List.drop_append, List.drop_of_length_le (by omega), List.nil_append, hF, List.drop_replicate,
    List.take_succ_eq_append_getElem (by omega : i < l.length), List.map_append, List.flatten_append, List.append_assoc]
  congr 1
  rw [show 32 - 4 * i - (4 * i + 4 - 4 * i) = 32 - 4 * (i + 1) by omega, List.getD_eq_getElem?_getD, List.getElem?_eq_getElem (by omega)]
  simp
theorem outTo_all (s : St) : outTo s.list 8 = outB s := by
  show (s.list.map fun x => putB x 4).flatten ++ List.replicate 0 0 = _
  rw [List.replicate_zero, List.append_nil]
  rfl
theorem St.Ok.get {s : St} (h : s.Ok) (i : Nat) : s.list.getD i 0 < 4294967296 := by
  refine getD_lt32 ?_ i
  intro x hx
  simp only [St.list, List.mem_cons, List.not_mem_nil, or_false] at hx
  rcases hx with rfl | rfl | rfl | rfl | rfl | rfl | rfl | rfl
  all_goals first | exact h.a | exact h.b | exact h.c | exact h.d | exact h.e | exact h.f | exact h.g | exact h.h

structure SumRel (w : World) (b : Nat) (v : Value) (ys : List UInt8) (wr : World) : Prop where
  own : wr.ownsRow (w.heap.size + 2) 5 1 v ys.length (ys.map Bv)
  p : wr.heap[w.heap.size]? = some (.cells #[.pointer (some ⟨b, 0, none⟩)] 161 (0, 0))
  z : wr.heap[w.heap.size + 1]? = some (.cells ((List.replicate 32 (0 : UInt8)).map Bv).toArray 33 (0, 0))
  below : Below w.heap.size w wr
theorem SumRel.size {w wr : World} {b : Nat} {v : Value} {ys : List UInt8} (h : SumRel w b v ys wr) : w.heap.size + 2 ≤ wr.heap.size := by have := lt_of_block h.z; omega
theorem SumRel.bel {w wr w1 : World} {b : Nat} {v : Value} {ys : List UInt8} (h : SumRel w b v ys wr) (hb : Below wr.heap.size wr w1) : SumRel w b v ys w1 :=
  ⟨h.own.fr (Fr.of_below (S := fun _ => False) hb) (fun _ _ => id), (hb.block _ (lt_of_block h.p)).trans h.p, (hb.block _ (lt_of_block h.z)).trans h.z, h.below.trans (hb.mono h.below.size)⟩
theorem SumRel.app {w wr w1 : World} {b : Nat} {v v1 : Value} {ys zs : List UInt8} {n : Nat} (h : SumRel w b v ys wr) (hn : n = (ys ++ zs).length) (ho : w1.ownsRow (w.heap.size + 2) 5 1 v1 n ((ys ++ zs).map Bv)) (hf : Fr (fun k => v.ownBlock = some k) wr w1) : SumRel w b v1 (ys ++ zs) w1 :=
  ⟨hn ▸ ho, (hf.block _ (lt_of_block h.p) (fun e => by have := (h.own.lt _ e).1; omega)).trans h.p, (hf.block _ (lt_of_block h.z) (fun e => by have := (h.own.lt _ e).1; omega)).trans h.z,
    h.below.trans (hf.below h.below.size (fun k e => by have := (h.own.lt _ e).1; omega))⟩

set_option maxRecDepth 100000 in
set_option maxHeartbeats 8000000 in
theorem sum_any (b base : Nat) (row : Option Nat) (xs : List UInt8) (w : World) (h : Hs w base b row xs) (hr : xs.length ≤ 140737488351232) :
    Calls Tryz.prog 84 #[.pointer (some ⟨b, 0, none⟩)] w fun e w' => e = .returned (.tuple #[.agg ((hashN xs).map Bv).toArray, .int .i64 0]) ∧ Below w.heap.size w w' := by
  obtain ⟨hv, hhv⟩ : ∃ hv, hv = hashN xs := ⟨_, rfl⟩
  rw [← hhv]
  have HHv := Lib.hid hhv
  obtain ⟨ks, hks⟩ : ∃ ks, ks = kInit := ⟨_, rfl⟩
  have hkl : ks.length = 64 := by rw [hks, kInit_length]
  have hlt := h.mid.lt.1
  obtain ⟨v0, hb, ho, rfl⟩ := h
  rw [← hks] at hb
  obtain ⟨ar, cr, rfl, _⟩ := (Sl.own ho).len
  have c72 := hb.cell72 hkl
  have hrl : (restOf xs).length < 64 := by rw [restOf_length]; exact Nat.mod_lt _ (by decide)
  have HKs := Lib.hid hks
  have HKl := Lib.hid hkl
  have HBk := Lib.hid hb
  have HO := Lib.hid (fun (w' : World) (hh : Below w.heap.size w w') => (Sl.own ho).below hh)
  obtain ⟨rest, hrest⟩ : ∃ rest, rest = restOf xs := ⟨_, rfl⟩
  rw [← hrest] at HO hrl c72 HBk
  have HRest := Lib.hid hrest
  obtain ⟨rl, hrl2⟩ : ∃ rl, rl = rest.length := ⟨_, rfl⟩
  rw [← hrl2] at HO hrl c72 HBk
  have HRl := Lib.hid hrl2
  clear hhv hks hkl hb ho hrest hrl2
  refine (callsIn_wide (n := 5)).1 ?_
  refine callsIn_of_wp_marks Tryz.func84 rfl trivial ?_ rfl
  refine wpIn_wide.2 ?_
  simp only [Tryz.ntmps84, List.size_toArray, List.length_cons, List.length_nil, Nat.reduceAdd, Nat.reduceSub, Array.replicate_succ, Array.replicate_zero, List.push_toArray, List.append_toArray, List.nil_append, List.cons_append]
  go_wp2_with fail
  have hbel0 : Below w.heap.size w ((w.alloc (.cells #[.pointer (some ⟨b, 0, none⟩)] 161)).alloc (.cells ((List.replicate 32 (0 : UInt8)).map Bv).toArray 33)) := ((Below.refl _ w).alloc (Nat.le_refl _) _).alloc (by simp) _
  have hp0 : ((w.alloc (.cells #[.pointer (some ⟨b, 0, none⟩)] 161)).alloc (.cells ((List.replicate 32 (0 : UInt8)).map Bv).toArray 33)).heap[w.heap.size]? = some (.cells #[.pointer (some ⟨b, 0, none⟩)] 161 (0, 0)) := (Below.heap_alloc _ _ _ (by simp)).trans (heap_alloc_new _ _)
  have hz0 : ((w.alloc (.cells #[.pointer (some ⟨b, 0, none⟩)] 161)).alloc (.cells ((List.replicate 32 (0 : UInt8)).map Bv).toArray 33)).heap[w.heap.size + 1]? = some (.cells ((List.replicate 32 (0 : UInt8)).map Bv).toArray 33 (0, 0)) := by
    have h := heap_alloc_new (w.alloc (.cells #[.pointer (some ⟨b, 0, none⟩)] 161)) (.cells ((List.replicate 32 (0 : UInt8)).map Bv).toArray 33)
    rwa [show (w.alloc (.cells #[.pointer (some ⟨b, 0, none⟩)] 161)).heap.size = w.heap.size + 1 by simp] at h
  refine (clone_any (.slice ar rl cr) rest rl _ (HO.out _ hbel0) (by omega)).mono ?_
  rintro e w1 ⟨ac, cc, rfl, hown, hb1⟩
  have HB1 := Lib.hid (hbel0.trans (hb1.mono hbel0.size))
  have hr1 : SumRel w b (.slice ac rl cc) rest w1 := by
    refine ⟨?_, (hb1.block w.heap.size (lt_of_block hp0)).trans hp0, (hb1.block (w.heap.size + 1) (lt_of_block hz0)).trans hz0, HB1.out⟩
    rw [← HRl.out]
    exact hown.base (show w.heap.size + 2 ≤ _ by simp)
  have hr1a := hr1.bel ((Below.refl _ w1).alloc (Nat.le_refl _) (.cells #[.int .u8 128] 5))
  have hlit : Sl (w1.alloc (.cells #[.int .u8 128] 5)) 1 (.slice (some ⟨w1.heap.size, 0, none⟩) 1 1) 1 ([(0x80 : UInt8)].map Bv) := sl_row' (heap_alloc_new _ _) rfl rfl
  have hown1 := hr1a.own
  rw [← HRl.out] at hown1
  have HOwn1 := Lib.hid hown1
  have HLit := Lib.hid hlit
  have HR1 := Lib.hid hr1a
  have HBs := Lib.hid (show w.heap.size + 2 ≤ (w1.alloc (.cells #[.int .u8 128] 5)).heap.size from hr1a.size)
  clear hbel0 hp0 hz0 hown hb1 hr1 hr1a hown1 hlit c72 HB1
  go_wp2_with (at_builtin; refine append_u8 rfl (.tmp 20) (.tmp 21) rfl HOwn1.out HLit.out rfl rfl (by omega) HBs.out ?_)
  intro a2 c2 w2 hown2 hf2 h32
  have hr2 := HR1.out.app (n := rl + 1) (zs := [(0x80 : UInt8)]) (by rw [List.length_append, ← HRl.out]; rfl) (by rw [List.map_append]; exact hown2) hf2
  have HR2 := Lib.hid (show SumRel w b (.slice a2 (rl + 1) c2) (rest ++ [0x80] ++ List.replicate 0 0) w2 by simpa using hr2)
  clear hown2 hf2 h32 hr2 HOwn1 HLit HR1 HBs
  go_wp2_with fail
  go_loopw [4] (fun v wr => ∃ (j : Nat) (a : Option Addr) (c : Nat), j ≤ padZ rl ∧ v = .slice a (rl + 1 + j) c ∧ SumRel w b v (rest ++ [0x80] ++ List.replicate j 0) wr) (fun v _ => 200 - lenOf (some v))
  case atStart => exact ⟨0, a2, c2, Nat.zero_le _, rfl, HR2.out⟩
  case round =>
    obtain ⟨j, a3, c3, hj, rfl, hrel⟩ := hrel
    have hpz := padZ_lt rl
    have hlen3 : (rest ++ [0x80] ++ List.replicate j (0 : UInt8)).length = rl + 1 + j := by rw [List.length_append, List.length_append, List.length_replicate, ← HRl.out]; rfl
    obtain ⟨ys, hys⟩ : ∃ ys, ys = rest ++ [0x80] ++ List.replicate j (0 : UInt8) := ⟨_, rfl⟩
    rw [← hys] at hlen3 hrel
    have HYs := Lib.hid hys
    clear hys
    by_cases hjp : j < padZ rl
    · have hmin := padZ_min rl j hjp
      have t1 : ((((rl + 1 + j : Nat) : Int) % 64) != 56) = true := by rw [bne_iff_ne]; omega
      have hra := hrel.bel ((Below.refl _ wr).alloc (Nat.le_refl _) (.cells #[.int .u8 0] 5))
      have hlit : Sl (wr.alloc (.cells #[.int .u8 0] 5)) 1 (.slice (some ⟨wr.heap.size, 0, none⟩) 1 1) 1 ([(0 : UInt8)].map Bv) := sl_row' (heap_alloc_new _ _) rfl rfl
      have hown1 := hra.own
      rw [hlen3] at hown1
      have HOwn1 := Lib.hid hown1
      have HLit := Lib.hid hlit
      have HR1 := Lib.hid hra
      have HBs := Lib.hid (show w.heap.size + 2 ≤ (wr.alloc (.cells #[.int .u8 0] 5)).heap.size from hra.size)
      have HLen3 := Lib.hid hlen3
      clear hrel hlen3 hmin hra hlit hown1
      go_wp2_with (at_builtin; refine append_u8 rfl (.tmp 27) (.tmp 28) rfl HOwn1.out HLit.out rfl rfl (by omega) HBs.out ?_)
      intro a4 c4 w4 hown4 hf4 h34
      have hr4 := HR1.out.app (n := rl + 1 + j + 1) (zs := [(0 : UInt8)]) (by rw [List.length_append, HLen3.out]; rfl) (by rw [List.map_append]; exact hown4) hf4
      have HR4 := Lib.hid hr4
      clear hown4 hf4 h34 hr4 HOwn1 HLit HR1 HBs HLen3
      go_wp2
      go_roundw
      case rel => exact ⟨j + 1, a4, c4, by omega, rfl, by rw [List.replicate_succ', ← List.append_assoc, ← HYs.out]; exact HR4.out⟩
      case measure => simp [lenOf]; omega
    · obtain rfl : j = padZ rl := by omega
      have hat := padZ_at rl
      have t1 : ((((rl + 1 + padZ rl : Nat) : Int) % 64) != 56) = false := by rw [bne_eq_false_iff_eq]; omega
      obtain ⟨m, hm⟩ : ∃ m, m = rl + 1 + padZ rl := ⟨_, rfl⟩
      rw [← hm] at t1 hlen3 hat hrel ⊢
      have hm2 : m < 200 := by omega
      have c73 := (HBk.out.cell73 HKl.out)
      have hc73 : wr.cell? ⟨b, 73, none⟩ = some (.int .i64 (xs.length : Int)) := (hrel.below.cell (p := ⟨b, 73, none⟩) hlt).trans c73
      have hcp := cell_of_one hrel.p
      have HRel := Lib.hid hrel
      have HLen3 := Lib.hid hlen3
      have HM := Lib.hid hm
      clear hrel hlen3 c73 hj hjp hpz hm
      have hput := fun w => numPut_ok (xs.length * 8) 8 w (by decide) (Or.inl rfl)
      rw [show ((xs.length * 8 : Nat) : Int) = (xs.length : Int) * 8 by omega, show ((8 : Nat) : Int) = 8 from rfl] at hput
      have HPut := Lib.hid hput
      clear hput
      go_wp2_with fail
      refine (HPut.out _).mono ?_
      rintro e w3 ⟨a5, c5, rfl, hown5, hb5⟩
      have hr3 := HRel.out.bel hb5
      have HS5 := Lib.hid (Sl.own hown5)
      have hown3 := hr3.own
      rw [HLen3.out] at hown3
      have HOwn3 := Lib.hid hown3
      have HBs := Lib.hid hr3.size
      have HR3 := Lib.hid hr3
      have hc73 := hr3.below.cell (p := ⟨b, 73, none⟩) hlt
      clear hown5 hb5 hown3 hr3 hc73
      go_wp2_with (at_builtin; refine append_u8 rfl (.tmp 40) (.tmp 41) rfl HOwn3.out HS5.out rfl rfl (by omega) HBs.out ?_)
      intro a6 c6 w6 hown6 hf6 h36
      have hr6 := HR3.out.app (n := m + 8) (zs := putB (xs.length * 8) 8) (by rw [List.length_append, HLen3.out, putB_length]) (by rw [List.map_append]; exact hown6) hf6
      have HEnd := Lib.hid (show ys ++ putB (xs.length * 8) 8 = endOf rest xs.length by rw [HYs.out, endOf, ← HRl.out])
      obtain ⟨es, hes⟩ : ∃ es, es = endOf rest xs.length := ⟨_, rfl⟩
      rw [HEnd.out, ← hes] at hr6
      have hbk6 := (hr6.below.block b hlt).trans HBk.out
      have HAtS := Lib.hid (HsAt.atS (s := stOf xs) (ks := ks) hbk6)
      have HAtK := Lib.hid (HsAt.atK (s := stOf xs) (ks := ks) hbk6)
      have hcp := cell_of_one hr6.p
      have HR6 := Lib.hid hr6
      have HEs := Lib.hid hes
      clear hown6 hf6 h36 hr6 hbk6 hes HOwn3 HS5 HBs HR3 HEnd HRel
      obtain ⟨st0, hst0⟩ : ∃ st0, st0 = stOf xs := ⟨_, rfl⟩
      rw [← hst0] at HAtS HBk
      have HSt0 := Lib.hid hst0
      clear hst0
      go_wp2_with (first | (refine load_state rfl (.tmp 45) rfl rfl HAtS.out rfl ?_) | (refine store_state rfl (.tmp 7) (.tmp 46) rfl rfl rfl (heap_alloc_new _ _) rfl rfl (St.arr_one st0) ?_; intro w7 hg7 hf7 hs7))
      obtain ⟨N, hN⟩ : ∃ N, m + 8 = 64 * N := ⟨(m + 8) / 64, by omega⟩
      have hN4 : N ≤ 4 := by omega
      have hbel7 : Below w6.heap.size w6 w7 := ((Below.refl _ w6).alloc (Nat.le_refl _) _).trans (hf7.below (by simp) (fun j hj => by omega))
      have hr7 := HR6.out.bel hbel7
      have hel : es.length = m + 8 := by
        have := HR6.out.own.1
        obtain ⟨_, _, e, _⟩ := (Sl.own HR6.out.own).len
        simp only [Value.slice.injEq] at e
        omega
      have hgl := fun g h => (HR6.out.own.lt g h).2
      obtain ⟨g, rfl⟩ : ∃ g, a6 = some ⟨g, 0, none⟩ := by
        rcases HR6.out.own.2 with ⟨h0, h1⟩ | ⟨g, cp, cu, h0, _⟩
        · simp only [Value.slice.injEq] at h0; omega
        · simp only [Value.slice.injEq] at h0; exact ⟨g, h0.1⟩
      have hcap : m + 8 ≤ c6 := by
        obtain ⟨_, _, e, hh⟩ := (Sl.own HR6.out.own).len
        simp only [Value.slice.injEq] at e
        omega
      have hgX := hgl g rfl
      have HS72 := Lib.hid (show w7.heap.size = w6.heap.size + 1 by rw [hs7]; simp)
      have hbel8 : Below w7.heap.size w7 ((w7.alloc (.cells #[.slice (some ⟨g, 0, none⟩) (m + 8) c6] 26)).alloc (.cells #[.int .i64 64] 3)) := ((Below.refl _ w7).alloc (Nat.le_refl _) _).alloc (by simp) _
      have hbx1 : ((w7.alloc (.cells #[.slice (some ⟨g, 0, none⟩) (m + 8) c6] 26)).alloc (.cells #[.int .i64 64] 3)).heap[w7.heap.size]? = some (.cells #[.slice (some ⟨g, 0, none⟩) (m + 8) c6] 26 (0, 0)) := (Below.heap_alloc _ _ _ (by simp)).trans (heap_alloc_new _ _)
      have hbx2 : ((w7.alloc (.cells #[.slice (some ⟨g, 0, none⟩) (m + 8) c6] 26)).alloc (.cells #[.int .i64 64] 3)).heap[w7.heap.size + 1]? = some (.cells #[.int .i64 64] 3 (0, 0)) := by
        have h := heap_alloc_new (w7.alloc (.cells #[.slice (some ⟨g, 0, none⟩) (m + 8) c6] 26)) (.cells #[.int .i64 64] 3)
        rwa [show (w7.alloc (.cells #[.slice (some ⟨g, 0, none⟩) (m + 8) c6] 26)).heap.size = w7.heap.size + 1 by simp] at h
      have hsz8 : ((w7.alloc (.cells #[.slice (some ⟨g, 0, none⟩) (m + 8) c6] 26)).alloc (.cells #[.int .i64 64] 3)).heap.size = w7.heap.size + 2 := by simp
      have HR7 := Lib.hid hr7
      have HG7 := Lib.hid hg7
      have HBel8 := Lib.hid hbel8
      have HBx1 := Lib.hid hbx1
      have HBx2 := Lib.hid hbx2
      have HSz8 := Lib.hid hsz8
      have HEl := Lib.hid hel
      have HN := Lib.hid hN
      have HBel7 := Lib.hid hbel7
      clear hg7 hf7 hs7 hr7 hbel8 hbx1 hbx2 hsz8 hel hgl hN hbel7
      refine (chunk_any _ _ _ _ rfl _).mono ?_
      rintro e W0 ⟨rfl, hW0⟩
      rw [hW0] at HBel8 HBx1 HBx2 HSz8
      clear hW0
      go_wp2_with fail
      have hX0 : ChunkI W0 w6.heap.size st0 es N [] W0 := ⟨(HBel8.out.block _ (lt_of_block HG7.out)).trans HG7.out, Fr.refl _ _⟩
      rw [HN.out] at HBx1
      have hseq := chunks_stops w7.heap.size (w7.heap.size + 1) g N c6 (by omega) (by have := HN.out; omega) W0 (by rw [HSz8.out]; omega) (by rw [HSz8.out]; omega) HBx1.out HBx2.out
      refine (wpIn_wide (n := 5)).1 ?_
      refine wpIn_rangeFunc_ownG rfl (by omega) (gf := 163) (lb := #[.pointer (some ⟨w7.heap.size, 0, none⟩), .pointer (some ⟨w7.heap.size + 1, 0, none⟩)]) rfl trivial (enters_of Tryz.func163 (by kernel_rfl) rfl) hseq
        (fun h k => ⟨k.1.trans h.1, k.2.trans h.2⟩) (fun W l o o' hl _ _ _ => ⟨World.putObj_heap_other (by rw [HSz8.out] at hl; omega), World.putObj_heap_other (by rw [HSz8.out] at hl; omega)⟩) (Below.refl _ _) (fun _ => rfl)
        (ChunkI W0 w6.heap.size st0 es N) (fun _ _ _ => False) (ChunkI.own _ _ _ _ _ _ (by rw [HSz8.out, HS72.out]; omega) (Nat.le_refl _)) (fun _ _ _ _ _ hs _ _ => hs) hX0 ?a1 ?assign ?body ?done ?stop
      case assign =>
        intro l x W K hK
        gi_wp2
        exact hK
      case stop =>
        rintro D c pre W _ _ h _
        exact h.elim
      case body =>
        rintro l pre x W ⟨hx, hf⟩ _
        have hxlt := x.isLt
        have hbel60 : Below w6.heap.size w6 W0 := HBel7.out.trans (HBel8.out.mono HBel7.out.size)
        have hown60 := Sl.own HR6.out.own
        rw [HEl.out] at hown60
        have hsl := (sl_chunk (k := x.val) (hown60.below hbel60) (by have := HN.out; omega)).fr hf (fun a m c e => by
          simp only [Value.slice.injEq, Option.some.injEq] at e
          rw [← e.1]; simp only; omega)
        have hbX : b ≠ w6.heap.size := by have := HR6.out.size; omega
        have hatK : At W b 8 (ks.map U32) := (HAtK.out.fr (Fr.of_below (S := fun _ => False) hbel60) id).fr hf hbX
        have hpt := cell_of_one ((hf.block w.heap.size (by have := hbel60.size; have := HR6.out.size; omega) (by have := HR6.out.size; omega)).trans ((hbel60.block w.heap.size (lt_of_block HR6.out.p)).trans HR6.out.p))
        have htk := fun (u : Wd W.heap.size W) => Calls.wd u (Nat.le_refl _) (take_any (foldSt st0 es pre) (foldSt_ok (by rw [HSt0.out]; exact stOf_ok xs) es pre) (.slice (some ⟨g, 64 * x.val, none⟩) 64 64) ((es.drop (64 * x.val)).take 64) b 8 ks u.to (hsl.below u.hb) (u.at hatK) HKl.out (by rw [HKs.out]; exact kInit_lt))
        have hs' : addSt (roundsN (foldSt st0 es pre) ks (spreadL ((es.drop (64 * x.val)).take 64) 64) 64) (foldSt st0 es pre) = foldSt st0 es (pre ++ [x]) := by rw [foldSt_snoc, HKs.out]; rfl
        rw [hs'] at htk
        have HAtX := Lib.hid (At.of_row (cs := (foldSt st0 es pre).arr.toList) (by simpa using hx))
        have HU := Lib.hid (fun w' (hw : ∃ u : Wd W.heap.size W, w' = u.to) => (by obtain ⟨u, rfl⟩ := hw; exact u.at HAtX.out : At w' w6.heap.size 0 _))
        have upt := fun (u : Wd W.heap.size W) => u.cell' hpt
        obtain ⟨S, hS⟩ : ∃ S, S = foldSt st0 es pre := ⟨_, rfl⟩
        obtain ⟨S', hS'⟩ : ∃ S', S' = foldSt st0 es (pre ++ [x]) := ⟨_, rfl⟩
        rw [← hS] at hx htk HU
        rw [← hS'] at htk
        have HTk := Lib.hid htk
        have HX := Lib.hid hx
        have HF := Lib.hid hf
        have HS' := Lib.hid hS'
        clear hs' hS hS' htk hx hf hsl hown60 hatK
        refine wpIn_block ?_
        refine wpIn_region_round (by kernel_rfl) (by rintro ⟨a, w, h⟩; exact h) (by kernel_rfl) ?_
        refine wpAny_class_tail 6 (C := fun w' => ∃ u : Wd W.heap.size W, w' = u.to) (by kernel_rfl) ⟨⟨{ W with drawn := W.drawn + 1 }, (Below.refl _ W).drew⟩, rfl⟩ ?_
        simp only [List.take_succ_cons, List.take_zero, List.drop_succ_cons, List.drop_zero]
        repeat (first | (refine wpQuiet_load_at rfl 225 (.tmp 7) rfl w6.heap.size 0 rfl _ _ HU.out Tryz.underlying225 rfl (by rw [info_state']; rfl) ?_; simp only [Act.put, List.setIfInBounds_toArray, List.set_cons_succ, List.set_cons_zero, Array.toArray_toList]) | go_big_quiet_step (with_reducible exact HTk.out _))
        refine wpQuiet_nil ?_
        rintro _ ⟨⟨w5, hb5⟩, rfl⟩
        have hX5 := (hb5.block w6.heap.size (lt_of_block HX.out)).trans HX.out
        refine store_state rfl (.tmp 7) (.tmp 55) rfl rfl rfl hX5 rfl rfl (St.arr_one S') ?_
        intro w8 hg8 hf8 hs8
        have hfr : Fr (fun k => k = w6.heap.size) W w8 := (Fr.of_below hb5).trans hf8
        show KeepsFrom W0.heap.size W w8 ∧ KpB w7.heap.size (w7.heap.size + 1) W w8 ∧ ChunkI W0 w6.heap.size st0 es N (pre ++ [x]) w8
        have hsW := HF.out.size
        have h08 := HSz8.out
        have h72 := HS72.out
        refine ⟨⟨hfr.size, fun k o hk ho hc => ?_⟩, ⟨hfr.block _ (by omega) (by omega), hfr.block _ (by omega) (by omega)⟩, by rw [← HS'.out]; exact hg8, HF.out.trans hfr⟩
        rw [hfr.block k (by exact (Array.getElem?_eq_some_iff.1 ho).1) (by omega)]
        exact ho
      case done =>
        rintro D ys' W hD rfl ⟨hx, hf⟩ hdef
        rw [foldSt_upTo _ _ _ (Nat.le_refl _)] at hx
        have hbel60 : Below w6.heap.size w6 W0 := HBel7.out.trans (HBel8.out.mono HBel7.out.size)
        have h6s := HR6.out.size
        have hzW := (hf.block (w.heap.size + 1) (by have := hbel60.size; omega) (by omega)).trans ((hbel60.block (w.heap.size + 1) (lt_of_block HR6.out.z)).trans HR6.out.z)
        have hBW : Below w.heap.size w W := (HR6.out.below.trans (hbel60.mono HR6.out.below.size)).trans (hf.below (by have := HR6.out.below.size; have := hbel60.size; omega) (fun k hk => by omega))
        have hok : (blocksN st0 es N).Ok := blocksN_ok _ (by rw [HSt0.out]; exact stOf_ok xs) _
        have HHv2 := Lib.hid (show hv = outB (blocksN st0 es N) by
          rw [HHv.out, hashN_of, ← HRest.out, ← HEs.out, ← HSt0.out]
          congr 2
          rw [HEl.out, HN.out]; omega)
        obtain ⟨fs, hfs⟩ : ∃ fs, fs = blocksN st0 es N := ⟨_, rfl⟩
        rw [← hfs] at hx hok HHv2
        have hDlt : w.heap.size + 2 ≤ D := by have := hbel60.size; omega
        have HAtX := Lib.hid (At.of_row (cs := fs.arr.toList) (by simpa using hx))
        have HZ := Lib.hid (show W.heap[w.heap.size + 1]? = some (.cells ((outTo fs.list 0).map Bv).toArray 33 (0, 0)) from hzW)
        have HBW := Lib.hid hBW
        have HOk := Lib.hid hok
        have HDef := Lib.hid hdef
        clear hx hf hdef hzW hBW hok hfs h6s hbel60 hX0 hseq HR6 HR7 HG7 HBel8 HBx1 HBx2 HSz8 HEl HBel7 HAtK HAtS
        go_wp2_with (refine load_state rfl (.tmp 7) rfl rfl HAtX.out rfl ?_)
        obtain ⟨wo, hwo⟩ : ∃ wo : World, wo = W := ⟨_, rfl⟩
        rw [← hwo] at HZ HBW HDef ⊢
        clear hwo
        go_loopw [57] (fun i wr => ∃ n : Nat, n ≤ 8 ∧ i = .int .i64 n ∧ wr.heap[w.heap.size + 1]? = some (.cells ((outTo fs.list n).map Bv).toArray 33 (0, 0)) ∧ Below w.heap.size w wr ∧ wr.heap[D]? = some (.deferred (some []))) (fun i _ => 8 - (intOf i).toNat)
        case atStart => exact ⟨0, Nat.zero_le _, rfl, HZ.out, HBW.out, HDef.out⟩
        case round =>
          obtain ⟨n, hn, rfl, hz, hbw, hdf⟩ := hrel
          rcases Nat.lt_or_ge n 8 with hlt8 | hge
          · have hidx := index_state fs.arr n (U32 (fs.list.getD n 0)) hlt8 (by
              unfold St.arr
              rw [List.getElem?_toArray, List.getElem?_map, List.getD_eq_getElem?_getD, List.getElem?_eq_getElem (show n < fs.list.length from hlt8)]; rfl)
            have hstep := outTo_step fs.list n rfl hlt8
            have h32 := HOk.out.get n
            have hol := outTo_length fs.list n rfl (by omega)
            obtain ⟨x, hx⟩ : ∃ x, x = fs.list.getD n 0 := ⟨_, rfl⟩
            rw [← hx] at hidx hstep h32
            unfold U32 at hidx
            have hsl := slice_hash (w.heap.size + 1) n hlt8
            have hput := fun w => numPut_ok x 4 w (by decide) (Or.inr (by simpa using h32))
            rw [show ((4 : Nat) : Int) = 4 from rfl] at hput
            have HPut := Lib.hid hput
            have HStep := Lib.hid hstep
            have HOl := Lib.hid hol
            have HZ2 := Lib.hid hz
            have HB2 := Lib.hid hbw
            have HD2 := Lib.hid hdf
            clear hput hstep hol hz hbw hdf hx
            go_wp2_with fail
            refine (HPut.out _).mono ?_
            rintro e w9 ⟨a9, c9, rfl, hown9, hb9⟩
            have HZ9 := Lib.hid ((hb9.block _ (lt_of_block HZ2.out)).trans HZ2.out)
            have HD9 := Lib.hid ((hb9.block _ (lt_of_block HD2.out)).trans HD2.out)
            have HB9 := Lib.hid (HB2.out.trans (hb9.mono HB2.out.size))
            have HS9 := Lib.hid (Sl.own hown9)
            clear hown9 hb9
            go_wp2_with (refine copy_u8 rfl (.tmp 69) (.tmp 70) rfl HZ9.out HS9.out rfl rfl (by rw [HOl.out]; omega) ?_)
            intro w10 hg10 hf10
            have e4 : (putB x 4).take (min 4 (32 - 4 * n)) = putB x 4 := List.take_of_length_le (by rw [putB_length]; omega)
            rw [e4, HStep.out] at hg10
            have HG10 := Lib.hid hg10
            have HB10 := Lib.hid (HB9.out.trans (hf10.below HB9.out.size (fun j hj => by omega)))
            have HD10 := Lib.hid ((hf10.block _ (lt_of_block HD9.out) (by omega)).trans HD9.out)
            clear hg10 hf10 e4
            go_wp2
            go_roundw
            case rel => exact ⟨n + 1, by omega, by go_num, HG10.out, HB10.out, HD10.out⟩
            case measure => simp [intOf]; omega
          · obtain rfl : n = 8 := by omega
            rw [outTo_all, ← HHv2.out] at hz
            have HLn := Lib.hid (show hv.length = 32 by rw [HHv2.out]; exact outB_length fs)
            have HAtF := Lib.hid (At.of_row hz)
            have HZ2 := Lib.hid hz
            have HB2 := Lib.hid hbw
            have HD2 := Lib.hid hdf
            clear hz hbw hdf hn hge
            go_wp2_with (first | (refine load_hash' rfl (.tmp 2) rfl rfl HAtF.out HLn.out ?_) | (refine store_hash rfl (.tmp 2) (.tmp 73) rfl rfl rfl HZ2.out (by simp [HLn.out]) HLn.out ?_; intro w11 hg11 hf11))
            have hD11 := (hf11.block _ (lt_of_block HD2.out) (by omega)).trans HD2.out
            have hZ11 : (w11.putObj D (.deferred none)).heap[w.heap.size + 1]? = some (.cells (hv.map Bv).toArray 33 (0, 0)) := (World.putObj_heap_other (by omega)).trans hg11
            have hB11 := HB2.out.trans (hf11.below HB2.out.size (fun j hj => by omega))
            have hB12 : Below w.heap.size w (w11.putObj D (.deferred none)) := hB11.trans ⟨rfl, rfl, rfl, by simp, fun k hk => World.putObj_heap_other (by omega)⟩
            refine ⟨by simp, .inl ⟨_, _, rfl, run_takeDeferred hD11, ?_⟩⟩
            exact ⟨_, ret_hash rfl rfl hZ11 HLn.out, rfl, hB12⟩
end Go.Proofs.YtkbnkdokcmpcgaaGreatDoor
