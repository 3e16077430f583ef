/- What every law's row shares: a law that answers true, and below whose heap nothing is turned, meets its row. A world for the witnesses of this seat's cards: the settled one, the two listed tables holding what they are laid with. Walks: the reference's Reader: Num, Str, Hash, End. The two Readers, each reading by one law: Str, Num, Raw, Hash; what stays of one while the other reads. The two Readers, each reading by one law, the block of their bytes kept in sight. Slices of strings, and the walks of node's keys, slices.ContainsFunc over them. Two arrays of bytes, compared. What an api.Ptr is, as data; two of them compared; the walks of ptr's Null and Check. What an api.Node is, as data; the walks of node's form, by its parts. Nodes in memory: load one, lay one; rows of strings and of pointers. -/
import Derived.Test.YtdmjnopjnaoepaaGreatDoorB0
import Derived.Test.YtdmjnopjnaoepaaGreatDoorB1
import Derived.Test.YtdmjnopjnaoepaaGreatDoorB4
import Derived.Test.YtdmjnopjnaoepaaGreatDoorRows
import Derived.WalkKit
import Derived.ProofKit
import Derived.OpenShut
import Derived.Test.YtdmjnopjnaoepaaGreatDoorCards
import Derived.Test.YtdmjnopjnaoepaaGreatDoorTie
import Derived.Deep.DeepHandedRow
import Derived.Lib.LaidTab
import Derived.Deep.QuietTactic
import Derived.BigQuiet
import Derived.Sort.Walk0
import Derived.ChangeKeysEq
import Derived.Laws.StructEq
namespace Go.Proofs.YtdmjnopjnaoepaaGreatDoor
open Go.ChangeShapes Go.WideShapes Go.ChangeAt Go.RowKit

theorem own : ownKnob Tryz.prog.godebug = none := by kernel_rfl
theorem laidOut : laidOutB Tryz.prog = true := by kernel_rfl

theorem trodAll_below {H : Type} {enc : TypeId × Value → H} {W W' : World} (hb : Below W.heap.size W W') :
    ∀ (ts : List TypeId) (vs : List Value) (ds : List (DataW H)) (ps : List MemPlace), (∀ t ∈ ts, Tryz.prog.readableRec t = true ∧ t < Tryz.prog.types.size) → (∀ x ∈ ps, x.block < W.heap.size) →
      DataW.TrodAll enc Tryz.prog W 0 (fun _ => true) true ts vs ds ps → DataW.TrodAll enc Tryz.prog W' 0 (fun b => decide (b < W.heap.size)) true ts vs ds ps
  | [], vs, ds, ps, _, _, h => by obtain ⟨rfl, rfl, rfl⟩ := trodAll_nil h; exact trodAll_mk0
  | t :: ts, vs, ds, ps, ht, hlt, h => by
    obtain ⟨v, vs', d, ds', p, q, rfl, rfl, rfl, h0, r0⟩ := trodAll_cons h
    have h1 := ht t (by simp)
    exact trodAll_cons_mk (Below.trod laidOut h1.1 h1.2 h0 hb (fun x hx => hlt x (by simp [hx])))
      (trodAll_below hb ts vs' ds' q (fun t ht' => ht t (by simp [ht'])) (fun x hx => hlt x (by simp [hx])) r0)

theorem post_law {H : Type} {enc : TypeId × Value → H} {f : Func} {s : ChangeSpec} {W W' : World} {args : Array Value} {ds : List (DataW H)} {ps : List MemPlace}
    (hp : ∀ t ∈ f.params.toList, Tryz.prog.readableRec t = true ∧ t < Tryz.prog.types.size) (hrt : f.resultTypes = #[4]) (hs : s.vars = []) (hfn : s.fn H (ds ++ []) = { results := [.lit (.bool true)], args := ds })
    (hW : DataW.Whole enc Tryz.prog f.params.toList s.vars false W args.toList ds [] ps) (hb : Below W.heap.size W W') : s.post enc Tryz.prog f false true false false W args (.bool true) W' := by
  have hW' := hW
  obtain ⟨p, q, hA, hV, rfl, hfz, hnd⟩ := hW
  rw [hs] at hV
  obtain ⟨-, rfl⟩ := trodVars_none hV
  refine ⟨ds, [], _, [], p, [], hW', ?_, ?_, ?_, hb.frame _, fun h => by cases h⟩
  · rw [hfn, hrt]; exact trodAll_mk1 (shut_bool Tryz.underlying4 _)
  · rw [hfn]; exact trodAll_below hb _ _ _ _ hp (fun x hx => by simpa using hW'.lt x (by simp [hx])) hA
  · rw [hfn, hs]; rfl

end Go.Proofs.YtdmjnopjnaoepaaGreatDoor
namespace Go.Proofs.YtdmjnopjnaoepaaGreatDoor
open Go.ChangeShapes Go.WideShapes Go.ChangeAt Go.RowKit

/-- The first table's cells, and the second's. -/
noncomputable def firstCellsOf : Array Value := (Go.Pinned.utf8FirstZ.map fun n : Nat => Value.int .u8 (n : Int)).toArray
noncomputable def acceptCellsOf : Array Value := ([128, 191, 160, 191, 128, 159, 144, 191, 128, 143, 0, 0, 0, 0, 0, 0, 0, 0, 0, 0, 0, 0, 0, 0, 0, 0, 0, 0, 0, 0, 0, 0].map fun n : Nat => Value.int .u8 (n : Int)).toArray

def putCells (cs : Array Value) : Obj → Obj
  | .cells _ t fr => .cells cs t fr
  | o => o

noncomputable def laidWorld (os : Os) : World :=
  { World.holding Tryz.prog os ⟨#[], #[], []⟩ with heap := ((World.holding Tryz.prog os ⟨#[], #[], []⟩).heap.modify 0 (putCells firstCellsOf)).modify 1 (putCells acceptCellsOf) }

end Go.Proofs.YtdmjnopjnaoepaaGreatDoor
namespace Go.Proofs.YtdmjnopjnaoepaaGreatDoor
open Go.RowKit

theorem Fr_drewN (S : Nat → Prop) (w : World) (n : Nat) : Fr S w (w.drewN n) := ⟨rfl, rfl, rfl, Nat.le_refl _, fun _ _ _ => rfl⟩

theorem getB_step' (l : List UInt8) (k : Nat) (h : k < l.length) (h8 : l.length ≤ 8) :
    Value.int .u64 (IntKind.u64.wrap ((getB (l.take k) : Int) * 256 + ((l[k].toNat : Nat) : Int))) = .int .u64 (getB (l.take (k + 1)) : Int) := by
  have h1 := getB_lt (l.take k)
  have h2 : (256 : Nat) ^ (l.take k).length ≤ 256 ^ 7 := Nat.pow_le_pow_right (by decide) (by simp; omega)
  have h3 : (256 : Nat) ^ 7 = 72057594037927936 := by decide
  have h4 := l[k].toNat_lt
  rw [getB_snoc l k h, IntKind.wrap_u64]
  congr 1
  omega

set_option maxHeartbeats 400000 in
theorem refNum_ok (v : Value) (l : List UInt8) (n : Nat) (w : World) (hv : Sl w 1 v n (l.map Bv)) (h8 : n ≤ 8) :
    Calls Tryz.prog 43 #[v] w fun e w' => e = .returned (.int .u64 (getB l : Int)) ∧ w = w' := by
  obtain ⟨hl, a, cap, rfl, hlc, hnil, hc⟩ := hv
  have hl' : l.length = n := by simpa using hl
  have HC := Lib.hid hc
  clear hl hc hnil
  go_enter Tryz.func43, Tryz.ntmps43
  go_wp2
  go_loop [3, 8] (fun x i => ∃ k : Nat, k ≤ n ∧ i = .int .i64 k ∧ x = .int .u64 (getB (l.take k) : Int)) (fun _ i => n - (intOf i).toNat)
  case atStart => exact ⟨0, Nat.zero_le _, rfl, by simp [getB]⟩
  case round =>
    obtain ⟨k, hk, rfl, rfl⟩ := hrel
    rcases Nat.lt_or_ge k n with hlt | hge
    · obtain ⟨b, o, rfl, hc⟩ := HC.out k (Bv (l[k]'(by omega))) (by simp [show k < l.length by omega])
      have hb := (l[k]'(by omega)).toNat_lt
      unfold Bv at hc
      have S := Lib.hid (getB_step' l k (by omega) (by omega))
      have hx1 := getB_lt (l.take k)
      have hx2 : (256 : Nat) ^ (l.take k).length ≤ 256 ^ 7 := Nat.pow_le_pow_right (by decide) (by simp; omega)
      have hx : getB (l.take k) < 72057594037927936 := Nat.lt_of_lt_of_le hx1 hx2
      have HX : IntKind.u64.wrap ((getB (l.take k) : Int) * 256) = (getB (l.take k) : Int) * 256 := by rw [IntKind.wrap_u64]; omega
      clear hx1 hx2 hx
      go_wp2
      go_round
      case rel => exact ⟨k + 1, by omega, by go_num, by first | exact S.out | (rw [← S.out]; simp [HX])⟩
      case measure => simp [intOf]; omega
    · obtain rfl : k = n := by omega
      have e : l.take k = l := List.take_of_length_le (by omega)
      have E := Lib.hid e
      clear e hl'
      go_wp2
      go_ret
      rw [E.out]
      exact ⟨rfl, rfl⟩

set_option maxHeartbeats 400000 in
theorem fNum_arg (b : Nat) (n : Int) (w : World) (h : n < 0 ∨ 8 < n) :
    Calls Tryz.prog 18 #[.pointer (some ⟨b, 0, none⟩), .int .i64 n] w fun e w' => e = .returned (.tuple #[.int .u64 0, .int .i64 2]) ∧ w = w' := by
  rcases h with h | h
  · go_enter Tryz.func18, Tryz.ntmps18
    go_wp2
    go_ret2
    exact ⟨rfl, rfl⟩
  · have h0 : ¬ n < 0 := by omega
    go_enter Tryz.func18, Tryz.ntmps18
    go_wp2
    go_ret2
    exact ⟨rfl, rfl⟩

set_option maxHeartbeats 400000 in
theorem fNum_short (b : Nat) (xs : List UInt8) (n : Nat) (w : World) (h : Rf w b xs) (h8 : n ≤ 8) (hn : xs.length < n) :
    Calls Tryz.prog 18 #[.pointer (some ⟨b, 0, none⟩), .int .i64 (n : Int)] w fun e w' => e = .returned (.tuple #[.int .u64 0, .int .i64 3]) ∧ w = w' := by
  have HH := Lib.hid h
  have b1 : decide ((n : Int) < 0) = false := by simp
  have b2 : decide ((8 : Int) < (n : Int)) = false := by simp; omega
  clear h
  go_enter Tryz.func18, Tryz.ntmps18
  go_wp2_with fail
  refine (fRaw_short b xs n _ HH.out (by omega)).mono ?_
  rintro e w1 ⟨rfl, rfl⟩
  go_wp2_with fail
  refine (refNum_ok _ [] 0 _ (Sl.nil _ 1) (by omega)).mono ?_
  rintro e w1 ⟨rfl, rfl⟩
  go_wp2
  go_ret2
  exact ⟨rfl, rfl⟩

set_option maxHeartbeats 400000 in
theorem fNum_ok (b : Nat) (ob : Option Nat) (xs : List UInt8) (n : Nat) (w : World) (h : RfO w b ob xs) (h8 : n ≤ 8) (hn : n ≤ xs.length) (hr : xs.length ≤ 140737488351232) :
    Calls Tryz.prog 18 #[.pointer (some ⟨b, 0, none⟩), .int .i64 (n : Int)] w fun e w' => e = .returned (.tuple #[.int .u64 (getB (xs.take n) : Int), .int .i64 0]) ∧ RfO w' b ob (xs.drop n) ∧ Fr (fun k => k = b) w w' := by
  have HH := Lib.hid h
  have b1 : decide ((n : Int) < 0) = false := by simp
  have b2 : decide ((8 : Int) < (n : Int)) = false := by simp; omega
  clear h
  go_enter Tryz.func18, Tryz.ntmps18
  go_wp2_with fail
  refine (fRaw_ok b ob xs n _ HH.out hn hr).mono ?_
  rintro e w1 ⟨aa, cc, rfl, hs, hrd, hf, hsz⟩
  have HS := Lib.hid hs
  have HR := Lib.hid hrd
  have HF := Lib.hid hf
  clear hs hrd hf hsz
  go_wp2_with fail
  refine (refNum_ok _ _ n _ HS.out h8).mono ?_
  rintro e w2 ⟨rfl, rfl⟩
  go_wp2
  go_ret2
  exact ⟨rfl, HR.out, HF.out⟩

theorem rf_first {w : World} {b : Nat} {ob : Option Nat} {c : UInt8} {xs : List UInt8} (h : RfO w b ob (c :: xs)) : ∃ b' o' cap, w.cell? ⟨b, 0, none⟩ = some (.slice (some ⟨b', o', none⟩) (xs.length + 1) cap) ∧ w.cell? ⟨b', o', none⟩ = some (.int .u8 (c.toNat : Int)) := by
  obtain ⟨v, hb, ⟨_, a', cap', rfl, _, _, hcs⟩, _⟩ := h
  obtain ⟨b', o', rfl, h0⟩ := hcs 0 (Bv c) rfl
  exact ⟨b', o', cap', cell_of_one hb, h0⟩

set_option maxRecDepth 100000 in
set_option maxHeartbeats 1000000 in
theorem fHash_ok (b : Nat) (ob : Option Nat) (xs : List UInt8) (w : World) (h : RfO w b ob xs) (hn : 32 ≤ xs.length) (hr : xs.length ≤ 140737488351232) :
    Calls Tryz.prog 44 #[.pointer (some ⟨b, 0, none⟩)] w fun e w' => e = .returned (.tuple #[.agg ((xs.take 32).map Bv).toArray, .int .i64 0]) ∧ RfO w' b ob (xs.drop 32) ∧ Fr (fun k => k = b) w w' := by
  have hlt := h.rf.lt
  have hobl := h.lt (by intro e; subst e; simp at hn)
  have HH := Lib.hid (h.fr (((Fr.refl (fun _ => False) w).alloc (.cells ((List.replicate 32 (0 : UInt8)).map Bv).toArray 28)).alloc (.cells ((List.replicate 32 (0 : UInt8)).map Bv).toArray 28)) id (fun _ _ => id))
  have HOL := Lib.hid hobl
  clear h hobl
  go_enter Tryz.func44, Tryz.ntmps44
  go_wp2_with fail
  refine (fRaw_ok b ob xs 32 _ HH.out hn hr).mono ?_
  rintro e w1 ⟨aa, cc, rfl, hs, hst, hfr, hsz⟩
  have HG0 := Lib.hid ((hfr.block w.heap.size (by simp; omega) (by omega)).trans (heap_alloc2_old w _ _))
  have HG := Lib.hid ((hfr.block (w.heap.size + 1) (by simp) (by omega)).trans (heap_alloc2_new w _ _))
  have HS := Lib.hid hs
  have HR := Lib.hid hst
  have HF := Lib.hid hfr
  clear hs hst hfr
  go_wp2_with (refine copy_u8 rfl (.tmp 12) (.tmp 13) rfl HG.out HS.out rfl rfl (by simp) ?_)
  intro w2 hg2 hf2
  have hov : over [0, 0, 0, 0, 0, 0, 0, 0, 0, 0, 0, 0, 0, 0, 0, 0, 0, 0, 0, 0, 0, 0, 0, 0, 0, 0, 0, 0, 0, 0, 0, 0] 0 (List.take 32 (List.take 32 xs)) = xs.take 32 := by
    rw [List.take_take, Nat.min_self]; exact over_all _ _ (by simp; omega)
  obtain ⟨y, hy⟩ : ∃ y, y = xs.take 32 := ⟨_, rfl⟩
  rw [hov, ← hy] at hg2
  have hlen : y.length = 32 := by rw [hy]; simp; omega
  have HLn := Lib.hid hlen
  have HY := Lib.hid hy
  have HA2 := Lib.hid (At.of_row (cs := y.map Bv) hg2)
  have HG2 := Lib.hid ((hf2.block w.heap.size (by rw [hsz]; simp only [World.size_alloc]; omega) (by omega)).trans HG0.out)
  have hF2 : Fr (fun k => k = b) w w2 := ((((Fr.refl (fun k => k = b) w).alloc (.cells ((List.replicate 32 (0 : UInt8)).map Bv).toArray 28)).alloc (.cells ((List.replicate 32 (0 : UInt8)).map Bv).toArray 28)).trans HF.out).step hf2 (fun k hk => Or.inr (by omega))
  have HF2 := Lib.hid hF2
  have HR2 := Lib.hid (HR.out.fr hf2 (by omega) (fun k hk e => by have := HOL.out k hk; omega))
  clear hg2 hf2 hov hlen hF2 hy hsz
  go_wp2_with (first | (refine load_hash' rfl (.tmp 4) rfl rfl HA2.out HLn.out ?_) | (refine store_hash rfl (.tmp 2) (.tmp 15) rfl rfl rfl HG2.out (by simp) HLn.out ?_))
  intro w3 hg3 hf3
  have HG3 := Lib.hid hg3
  have HF3 := Lib.hid hf3
  clear hg3 hf3
  go_wp2
  refine bodyPost_ret (ret_hash rfl rfl HG3.out HLn.out) rfl ?_
  exact ⟨by rw [HY.out]; rfl, HR2.out.fr HF3.out (by omega) (fun k hk e => by have := HOL.out k hk; omega), HF2.out.step HF3.out (fun k hk => Or.inr (by omega))⟩

set_option maxRecDepth 100000 in
set_option maxHeartbeats 1000000 in
theorem fHash_short (b : Nat) (xs : List UInt8) (w : World) (h : Rf w b xs) (hn : xs.length < 32) :
    Calls Tryz.prog 44 #[.pointer (some ⟨b, 0, none⟩)] w fun e w' => e = .returned (.tuple #[.agg ((List.replicate 32 (0 : UInt8)).map Bv).toArray, .int .i64 3]) ∧ Rf w' b xs ∧ Below w.heap.size w w' := by
  have hlt := h.lt
  have hb0 : Below w.heap.size w ((w.alloc (.cells ((List.replicate 32 (0 : UInt8)).map Bv).toArray 28)).alloc (.cells ((List.replicate 32 (0 : UInt8)).map Bv).toArray 28)) := ((Below.refl _ w).alloc (Nat.le_refl _) _).alloc (by simp) _
  have HH := Lib.hid (h.below hb0)
  have HB0 := Lib.hid hb0
  have HI := Lib.hid h
  clear h hb0
  go_enter Tryz.func44, Tryz.ntmps44
  go_wp2_with fail
  refine (fRaw_short b xs 32 _ HH.out (by omega)).mono ?_
  rintro e w1 ⟨rfl, hw1⟩
  have hg0 : w1.heap[w.heap.size]? = some (.cells ((List.replicate 32 (0 : UInt8)).map Bv).toArray 28 (0, 0)) := by rw [← hw1]; exact heap_alloc2_old w _ _
  have hg1 : w1.heap[w.heap.size + 1]? = some (.cells ((List.replicate 32 (0 : UInt8)).map Bv).toArray 28 (0, 0)) := by rw [← hw1]; exact heap_alloc2_new w _ _
  have hb1 : Below w.heap.size w w1 := by rw [← hw1]; exact HB0.out
  obtain ⟨y, hy⟩ : ∃ y, y = List.replicate 32 (0 : UInt8) := ⟨_, rfl⟩
  rw [← hy] at hg0 hg1
  have hlen : y.length = 32 := by rw [hy]; simp
  have HLn := Lib.hid hlen
  have HG0 := Lib.hid hg0
  have HG := Lib.hid hg1
  have HB1 := Lib.hid hb1
  have HY := Lib.hid hy
  clear hy hlen hg1 hg0 hb1 hw1
  go_wp2_with (refine copy_u8 (vs := .slice none 0 0) (n := 0) (ys := []) (cur := y) rfl (.tmp 12) (.tmp 13) rfl HG.out (Sl.nil w1 1) rfl rfl (by simp) ?_)
  intro w2 hg2 hf2
  have hg2' : w2.heap[w.heap.size + 1]? = some (.cells (y.map Bv).toArray 28 (0, 0)) := by simpa [over] using hg2
  have HG2 := Lib.hid ((hf2.block w.heap.size (lt_of_block HG0.out) (by omega)).trans HG0.out)
  have HA2 := Lib.hid (At.of_row (cs := y.map Bv) hg2')
  have hb2 := HB1.out.trans (hf2.below HB1.out.size (fun k hk => by omega))
  have HB2 := Lib.hid hb2
  clear hg2 hf2 hg2' hb2
  go_wp2_with (first | (refine load_hash' rfl (.tmp 4) rfl rfl HA2.out HLn.out ?_) | (refine store_hash rfl (.tmp 2) (.tmp 15) rfl rfl rfl HG2.out (by rw [List.size_toArray, List.length_map]; exact HLn.out) HLn.out ?_))
  intro w3 hg3 hf3
  have HG3 := Lib.hid hg3
  have hb3 := HB2.out.trans (hf3.below HB2.out.size (fun k hk => by omega))
  have HB3 := Lib.hid hb3
  clear hg3 hf3 hb3
  go_wp2
  refine bodyPost_ret (ret_hash rfl rfl HG3.out HLn.out) rfl ?_
  exact ⟨by rw [HY.out]; rfl, HI.out.below HB3.out, HB3.out⟩

end Go.Proofs.YtdmjnopjnaoepaaGreatDoor
namespace Go.Proofs.YtdmjnopjnaoepaaGreatDoor
open Go.RowKit

def strOf : List UInt8 → ByteArray × Int × List UInt8
  | [] => (⟨#[]⟩, 3, [])
  | c :: xs => if xs.length < c.toNat then (⟨#[]⟩, 3, c :: xs) else (⟨(xs.take c.toNat).toArray⟩, 0, xs.drop c.toNat)
def numOf (n : Int) (xs : List UInt8) : Nat × Int × List UInt8 :=
  if n < 0 ∨ 8 < n then (0, 2, xs) else if (xs.length : Int) < n then (0, 3, xs) else (getB (xs.take n.toNat), 0, xs.drop n.toNat)
def rawOf (n : Int) (xs : List UInt8) : List UInt8 × Int × List UInt8 :=
  if n < 0 then ([], 2, xs) else if (xs.length : Int) < n then ([], 3, xs) else (xs.take n.toNat, 0, xs.drop n.toNat)
def hashOf (xs : List UInt8) : List UInt8 × Int × List UInt8 :=
  if xs.length < 32 then (List.replicate 32 0, 3, xs) else (xs.take 32, 0, xs.drop 32)

theorem hashOf_length (xs : List UInt8) : (hashOf xs).1.length = 32 := by
  unfold hashOf; split
  · simp
  · simp only [List.length_take]; omega
theorem strOf_le (xs : List UInt8) : (strOf xs).2.2.length ≤ xs.length := by
  unfold strOf; split
  · exact Nat.le_refl _
  · split
    · exact Nat.le_refl _
    · simp only [List.length_drop, List.length_cons]; omega
theorem numOf_le (n : Int) (xs : List UInt8) : (numOf n xs).2.2.length ≤ xs.length := by
  unfold numOf; split
  · exact Nat.le_refl _
  · split
    · exact Nat.le_refl _
    · simp only [List.length_drop]; omega
theorem rawOf_le (n : Int) (xs : List UInt8) : (rawOf n xs).2.2.length ≤ xs.length := by
  unfold rawOf; split
  · exact Nat.le_refl _
  · split
    · exact Nat.le_refl _
    · simp only [List.length_drop]; omega
theorem hashOf_le (xs : List UInt8) : (hashOf xs).2.2.length ≤ xs.length := by
  unfold hashOf; split
  · exact Nat.le_refl _
  · simp only [List.length_drop]; omega

theorem rNum_any (b : Nat) (n : Int) (xs : List UInt8) (w : World) (h : Rd w b xs) (hr : xs.length ≤ 140737488351232) :
    Calls Tryz.prog 37 #[.pointer (some ⟨b, 0, none⟩), .int .i64 n] w fun e w' => e = .returned (.tuple #[.int .u64 ((numOf n xs).1 : Int), .int .i64 (numOf n xs).2.1]) ∧ Rd w' b (numOf n xs).2.2 ∧ Fr (fun k => k = b) w w' := by
  unfold numOf
  by_cases h1 : n < 0 ∨ 8 < n
  · simp only [h1, if_true]
    exact (rNum_arg b n w h1).mono (by rintro e w' ⟨rfl, rfl⟩; exact ⟨rfl, h, Fr.refl _ _⟩)
  · simp only [h1, if_false]
    obtain ⟨k, rfl⟩ := Int.eq_ofNat_of_zero_le (show 0 ≤ n by omega)
    by_cases h2 : (xs.length : Int) < (k : Int)
    · simp only [h2, if_true]
      exact (rNum_short b xs k w h (by omega) (by omega)).mono (by rintro e w' ⟨rfl, rfl⟩; exact ⟨rfl, h, Fr.refl _ _⟩)
    · simp only [h2, if_false]
      exact rNum_ok b xs k w h (by omega) (by omega) hr
theorem fNum_any (b : Nat) (n : Int) (xs : List UInt8) (w : World) (h : Rf w b xs) (hr : xs.length ≤ 140737488351232) :
    Calls Tryz.prog 18 #[.pointer (some ⟨b, 0, none⟩), .int .i64 n] w fun e w' => e = .returned (.tuple #[.int .u64 ((numOf n xs).1 : Int), .int .i64 (numOf n xs).2.1]) ∧ Rf w' b (numOf n xs).2.2 ∧ Fr (fun k => k = b) w w' := by
  unfold numOf
  by_cases h1 : n < 0 ∨ 8 < n
  · simp only [h1, if_true]
    exact (fNum_arg b n w h1).mono (by rintro e w' ⟨rfl, rfl⟩; exact ⟨rfl, h, Fr.refl _ _⟩)
  · simp only [h1, if_false]
    obtain ⟨k, rfl⟩ := Int.eq_ofNat_of_zero_le (show 0 ≤ n by omega)
    by_cases h2 : (xs.length : Int) < (k : Int)
    · simp only [h2, if_true]
      exact (fNum_short b xs k w h (by omega) (by omega)).mono (by rintro e w' ⟨rfl, rfl⟩; exact ⟨rfl, h, Fr.refl _ _⟩)
    · simp only [h2, if_false]
      obtain ⟨ob, ho⟩ := h.ob
      exact (fNum_ok b ob xs k w ho (by omega) (by omega) hr).mono (by rintro e w' ⟨rfl, h1, h2⟩; exact ⟨rfl, h1.rf, h2⟩)

theorem fRaw_any (b : Nat) (n : Int) (xs : List UInt8) (w : World) (h : Rf w b xs) (hr : xs.length ≤ 140737488351232) :
    Calls Tryz.prog 42 #[.pointer (some ⟨b, 0, none⟩), .int .i64 n] w fun e w' => ∃ v, e = .returned (.tuple #[v, .int .i64 (rawOf n xs).2.1]) ∧ Sl w' 1 v (rawOf n xs).1.length ((rawOf n xs).1.map Bv) ∧ Rf w' b (rawOf n xs).2.2 ∧ Fr (fun k => k = b) w w' := by
  unfold rawOf
  by_cases h1 : n < 0
  · simp only [h1, if_true]
    exact (fRaw_neg b n w h1).mono (by rintro e w' ⟨rfl, rfl⟩; exact ⟨_, rfl, Sl.nil _ _, h, Fr.refl _ _⟩)
  · simp only [h1, if_false]
    obtain ⟨k, rfl⟩ := Int.eq_ofNat_of_zero_le (show 0 ≤ n by omega)
    by_cases h2 : (xs.length : Int) < (k : Int)
    · simp only [h2, if_true]
      exact (fRaw_short b xs k w h h2).mono (by rintro e w' ⟨rfl, rfl⟩; exact ⟨_, rfl, Sl.nil _ _, h, Fr.refl _ _⟩)
    · simp only [h2, if_false]
      have hl : (xs.take (k : Int).toNat).length = k := by rw [List.length_take]; simp; omega
      rw [hl]
      obtain ⟨ob, ho⟩ := h.ob
      exact (fRaw_ok b ob xs k w ho (by omega) hr).mono (by rintro e w' ⟨aa, cc, rfl, h1, h2, h3, _⟩; exact ⟨_, rfl, h1, h2.rf, h3⟩)

theorem rHash_any (b : Nat) (xs : List UInt8) (w : World) (h : Rd w b xs) (hr : xs.length ≤ 140737488351232) :
    Calls Tryz.prog 60 #[.pointer (some ⟨b, 0, none⟩)] w fun e w' => e = .returned (.tuple #[.agg ((hashOf xs).1.map Bv).toArray, .int .i64 (hashOf xs).2.1]) ∧ Rd w' b (hashOf xs).2.2 ∧ Fr (fun k => k = b) w w' := by
  unfold hashOf
  rcases Nat.lt_or_ge xs.length 32 with h1 | h1
  · simp only [h1, if_true]
    exact (rHash_short b xs w h h1).mono (by rintro e w' ⟨rfl, h1, h2⟩; exact ⟨rfl, h1, Fr.of_below h2⟩)
  · simp only [Nat.not_lt.2 h1, if_false]
    exact rHash_ok b xs w h h1 hr
theorem fHash_any (b : Nat) (xs : List UInt8) (w : World) (h : Rf w b xs) (hr : xs.length ≤ 140737488351232) :
    Calls Tryz.prog 44 #[.pointer (some ⟨b, 0, none⟩)] w fun e w' => e = .returned (.tuple #[.agg ((hashOf xs).1.map Bv).toArray, .int .i64 (hashOf xs).2.1]) ∧ Rf w' b (hashOf xs).2.2 ∧ Fr (fun k => k = b) w w' := by
  unfold hashOf
  rcases Nat.lt_or_ge xs.length 32 with h1 | h1
  · simp only [h1, if_true]
    exact (fHash_short b xs w h h1).mono (by rintro e w' ⟨rfl, h1, h2⟩; exact ⟨rfl, h1, Fr.of_below h2⟩)
  · simp only [Nat.not_lt.2 h1, if_false]
    obtain ⟨ob, ho⟩ := h.ob
    exact (fHash_ok b ob xs w ho h1 hr).mono (by rintro e w' ⟨rfl, h1, h2⟩; exact ⟨rfl, h1.rf, h2⟩)

/-- A Reader's own block holds no bytes. -/
theorem slice_notByte {w : World} {b : Nat} {a : Option Addr} {n c : Nat} {t : TypeId} (hb : w.heap[b]? = some (.cells #[.slice a n c] t (0, 0))) : ∀ p (x : UInt8), w.cell? p = some (Bv x) → p.block ≠ b := by
  intro p x hp rfl
  unfold World.cell? at hp
  rw [hb] at hp
  simp only at hp
  split at hp
  · cases hp
  · cases hq : p.off with
    | zero => rw [hq] at hp; simp [Bv] at hp
    | succ m => rw [hq] at hp; simp at hp
theorem Rd.notByte {w : World} {b : Nat} {xs : List UInt8} (h : Rd w b xs) : ∀ p (x : UInt8), w.cell? p = some (Bv x) → p.block ≠ b := by
  obtain ⟨v, hb, hs⟩ := h
  obtain ⟨a, c, rfl, _⟩ := hs.len
  exact slice_notByte hb
theorem Rf.notByte {w : World} {b : Nat} {xs : List UInt8} (h : Rf w b xs) : ∀ p (x : UInt8), w.cell? p = some (Bv x) → p.block ≠ b := by
  obtain ⟨v, hb, hs⟩ := h
  obtain ⟨a, c, rfl, _⟩ := hs.len
  exact slice_notByte hb
theorem Rd.stay {w w' : World} {b b' : Nat} {xs ys : List UInt8} (h : Rd w b xs) (hf : Rf w b' ys) (hfr : Fr (fun k => k = b') w w') (hne : b ≠ b') : Rd w' b xs :=
  h.fr hfr hne (fun p x hp => hf.notByte p x hp)
theorem Rf.stay {w w' : World} {b b' : Nat} {xs ys : List UInt8} (h : Rf w b xs) (hf : Rd w b' ys) (hfr : Fr (fun k => k = b') w w') (hne : b ≠ b') : Rf w' b xs :=
  h.fr hfr hne (fun p x hp => hf.notByte p x hp)
theorem Sl.stay {w w' : World} {S : Nat → Prop} {v : Value} {n : Nat} {ys : List UInt8} (h : Sl w 1 v n (ys.map Bv)) (hf : Fr S w w') (hs : ∀ p (x : UInt8), w.cell? p = some (Bv x) → ¬ S p.block) : Sl w' 1 v n (ys.map Bv) := by
  refine h.cells fun p u hu hp => ?_
  obtain ⟨x, _, rfl⟩ := List.mem_map.1 hu
  exact hf.cell hp (hs p x hp)

end Go.Proofs.YtdmjnopjnaoepaaGreatDoor
namespace Go.Proofs.YtdmjnopjnaoepaaGreatDoor
open Go.RowKit

set_option maxHeartbeats 400000 in
theorem rNumO_ok (b : Nat) (ob : Option Nat) (xs : List UInt8) (n : Nat) (w : World) (h : RdO w b ob xs) (h8 : n ≤ 8) (hn : n ≤ xs.length) (hr : xs.length ≤ 140737488351232) :
    Calls Tryz.prog 37 #[.pointer (some ⟨b, 0, none⟩), .int .i64 (n : Int)] w fun e w' => e = .returned (.tuple #[.int .u64 (getB (xs.take n) : Int), .int .i64 0]) ∧ RdO w' b ob (xs.drop n) ∧ Fr (fun k => k = b) w w' := by
  have HH := Lib.hid h
  have b1 : decide ((n : Int) < 0) = false := by simp
  have b2 : decide ((8 : Int) < (n : Int)) = false := by simp; omega
  clear h
  go_enter Tryz.func37, Tryz.ntmps37
  go_wp2_with fail
  refine (take_stay b ob xs 0 n _ HH.out (by omega) hr).mono ?_
  rintro e w1 ⟨aa, cc, rfl, hown, hrd, hfr⟩
  have HS := Lib.hid (Sl.own hown)
  have HR := Lib.hid hrd
  have HF := Lib.hid hfr
  clear hown hrd hfr
  go_wp2_with fail
  refine (numGet_ok _ _ n _ HS.out h8).mono ?_
  rintro e w2 ⟨rfl, rfl⟩
  go_wp2
  go_ret2
  exact ⟨by simp, by simpa using HR.out, HF.out⟩

set_option maxRecDepth 100000 in
set_option maxHeartbeats 1000000 in
theorem rHashO_ok (b : Nat) (ob : Option Nat) (xs : List UInt8) (w : World) (h : RdO w b ob xs) (hn : 32 ≤ xs.length) (hr : xs.length ≤ 140737488351232) :
    Calls Tryz.prog 60 #[.pointer (some ⟨b, 0, none⟩)] w fun e w' => e = .returned (.tuple #[.agg ((xs.take 32).map Bv).toArray, .int .i64 0]) ∧ RdO w' b ob (xs.drop 32) ∧ Fr (fun k => k = b) w w' := by
  have hlt := h.rd.lt
  have ho := h
  have hobl := ho.lt (by intro e; subst e; simp at hn)
  have HH := Lib.hid (ho.fr ((Fr.refl (fun _ => False) w).alloc (.cells ((List.replicate 32 (0 : UInt8)).map Bv).toArray 28)) id (fun _ _ => id))
  have HOL := Lib.hid hobl
  clear h ho hobl
  go_enter Tryz.func60, Tryz.ntmps60
  go_wp2_with fail
  refine (take_stay b ob xs 0 32 _ HH.out (by omega) hr).mono ?_
  rintro e w1 ⟨aa, cc, rfl, hown, hst, hfr⟩
  have HG := Lib.hid ((hfr.block w.heap.size (by simp) (by omega)).trans (alloc_zero32 w))
  have HS := Lib.hid (Sl.own hown)
  have HR := Lib.hid hst
  have HF := Lib.hid hfr
  clear hown hst hfr
  go_wp2_with (refine copy_u8 rfl (.tmp 10) (.tmp 11) rfl HG.out HS.out rfl rfl (by simp) ?_)
  intro w2 hg2 hf2
  have hov : over [0, 0, 0, 0, 0, 0, 0, 0, 0, 0, 0, 0, 0, 0, 0, 0, 0, 0, 0, 0, 0, 0, 0, 0, 0, 0, 0, 0, 0, 0, 0, 0] 0 (List.take 32 (List.take 32 xs)) = xs.take 32 := by
    rw [List.take_take, Nat.min_self]; exact over_all _ _ (by simp; omega)
  obtain ⟨y, hy⟩ : ∃ y, y = xs.take 32 := ⟨_, rfl⟩
  rw [hov, ← hy] at hg2
  have hlen : y.length = 32 := by rw [hy]; simp; omega
  have HG2 := Lib.hid hg2
  have HLn := Lib.hid hlen
  have HY := Lib.hid hy
  have HA2 := Lib.hid (At.of_row (cs := y.map Bv) hg2)
  have hF2 : Fr (fun k => k = b) w w2 := (((Fr.refl (fun k => k = b) w).alloc (.cells ((List.replicate 32 (0 : UInt8)).map Bv).toArray 28)).trans HF.out).step hf2 (fun k hk => Or.inr (by omega))
  have HF2 := Lib.hid hF2
  have HR2 := Lib.hid (HR.out.fr hf2 (by omega) (fun k hk e => by have := HOL.out k hk; omega))
  clear hg2 hf2 hov hlen hF2 hy
  go_wp2_with (first | (refine load_hash' rfl (.tmp 2) rfl rfl HA2.out HLn.out ?_) | (refine store_hash rfl (.tmp 2) (.tmp 13) rfl rfl rfl HG2.out (by rw [List.size_toArray, List.length_map]; exact HLn.out) HLn.out ?_))
  intro w3 hg3 hf3
  have HG3 := Lib.hid hg3
  have HF3 := Lib.hid hf3
  clear hg3 hf3
  go_wp2
  refine bodyPost_ret (ret_hash rfl rfl HG3.out HLn.out) rfl ?_
  refine ⟨by rw [HY.out]; rfl, ?_, HF2.out.step HF3.out (fun k hk => Or.inr (by omega))⟩
  have := (HR2.out.fr HF3.out (by omega) (fun k hk e => by have := HOL.out k hk; omega))
  simpa using this

theorem RdO.below {w w' : World} {b : Nat} {ob : Option Nat} {xs : List UInt8} (h : RdO w b ob xs) (hb : Below w.heap.size w w') : RdO w' b ob xs := h.fr (Fr.of_below (S := fun _ => False) hb) id (fun _ _ => id)
theorem RfO.below {w w' : World} {b : Nat} {ob : Option Nat} {xs : List UInt8} (h : RfO w b ob xs) (hb : Below w.heap.size w w') : RfO w' b ob xs := h.fr (Fr.of_below (S := fun _ => False) hb) id (fun _ _ => id)

theorem rNumO_any (b : Nat) (ob : Option Nat) (n : Int) (xs : List UInt8) (w : World) (h : RdO w b ob xs) (hr : xs.length ≤ 140737488351232) :
    Calls Tryz.prog 37 #[.pointer (some ⟨b, 0, none⟩), .int .i64 n] w fun e w' => e = .returned (.tuple #[.int .u64 ((numOf n xs).1 : Int), .int .i64 (numOf n xs).2.1]) ∧ RdO w' b ob (numOf n xs).2.2 ∧ Fr (fun k => k = b) w w' := by
  unfold numOf
  by_cases h1 : n < 0 ∨ 8 < n
  · simp only [h1, if_true]
    exact (rNum_arg b n w h1).mono (by rintro e w' ⟨rfl, rfl⟩; exact ⟨rfl, h, Fr.refl _ _⟩)
  · simp only [h1, if_false]
    obtain ⟨k, rfl⟩ := Int.eq_ofNat_of_zero_le (show 0 ≤ n by omega)
    by_cases h2 : (xs.length : Int) < (k : Int)
    · simp only [h2, if_true]
      exact (rNum_short b xs k w h.rd (by omega) (by omega)).mono (by rintro e w' ⟨rfl, rfl⟩; exact ⟨rfl, h, Fr.refl _ _⟩)
    · simp only [h2, if_false]
      exact rNumO_ok b ob xs k w h (by omega) (by omega) hr
theorem fNumO_any (b : Nat) (ob : Option Nat) (n : Int) (xs : List UInt8) (w : World) (h : RfO w b ob xs) (hr : xs.length ≤ 140737488351232) :
    Calls Tryz.prog 18 #[.pointer (some ⟨b, 0, none⟩), .int .i64 n] w fun e w' => e = .returned (.tuple #[.int .u64 ((numOf n xs).1 : Int), .int .i64 (numOf n xs).2.1]) ∧ RfO w' b ob (numOf n xs).2.2 ∧ Fr (fun k => k = b) w w' := by
  unfold numOf
  by_cases h1 : n < 0 ∨ 8 < n
  · simp only [h1, if_true]
    exact (fNum_arg b n w h1).mono (by rintro e w' ⟨rfl, rfl⟩; exact ⟨rfl, h, Fr.refl _ _⟩)
  · simp only [h1, if_false]
    obtain ⟨k, rfl⟩ := Int.eq_ofNat_of_zero_le (show 0 ≤ n by omega)
    by_cases h2 : (xs.length : Int) < (k : Int)
    · simp only [h2, if_true]
      exact (fNum_short b xs k w h.rf (by omega) (by omega)).mono (by rintro e w' ⟨rfl, rfl⟩; exact ⟨rfl, h, Fr.refl _ _⟩)
    · simp only [h2, if_false]
      exact (fNum_ok b ob xs k w h (by omega) (by omega) hr).mono (by rintro e w' ⟨rfl, h1, h2⟩; exact ⟨rfl, h1, h2⟩)
theorem rHashO_any (b : Nat) (ob : Option Nat) (xs : List UInt8) (w : World) (h : RdO w b ob xs) (hr : xs.length ≤ 140737488351232) :
    Calls Tryz.prog 60 #[.pointer (some ⟨b, 0, none⟩)] w fun e w' => e = .returned (.tuple #[.agg ((hashOf xs).1.map Bv).toArray, .int .i64 (hashOf xs).2.1]) ∧ RdO w' b ob (hashOf xs).2.2 ∧ Fr (fun k => k = b) w w' := by
  unfold hashOf
  rcases Nat.lt_or_ge xs.length 32 with h1 | h1
  · simp only [h1, if_true]
    exact (rHash_short b xs w h.rd h1).mono (by rintro e w' ⟨rfl, _, h2⟩; exact ⟨rfl, h.below h2, Fr.of_below h2⟩)
  · simp only [Nat.not_lt.2 h1, if_false]
    exact rHashO_ok b ob xs w h h1 hr
theorem fHashO_any (b : Nat) (ob : Option Nat) (xs : List UInt8) (w : World) (h : RfO w b ob xs) (hr : xs.length ≤ 140737488351232) :
    Calls Tryz.prog 44 #[.pointer (some ⟨b, 0, none⟩)] w fun e w' => e = .returned (.tuple #[.agg ((hashOf xs).1.map Bv).toArray, .int .i64 (hashOf xs).2.1]) ∧ RfO w' b ob (hashOf xs).2.2 ∧ Fr (fun k => k = b) w w' := by
  unfold hashOf
  rcases Nat.lt_or_ge xs.length 32 with h1 | h1
  · simp only [h1, if_true]
    exact (fHash_short b xs w h.rf h1).mono (by rintro e w' ⟨rfl, _, h2⟩; exact ⟨rfl, h.below h2, Fr.of_below h2⟩)
  · simp only [Nat.not_lt.2 h1, if_false]
    exact (fHash_ok b ob xs w h h1 hr).mono (by rintro e w' ⟨rfl, h1, h2⟩; exact ⟨rfl, h1, h2⟩)

end Go.Proofs.YtdmjnopjnaoepaaGreatDoor
namespace Go.Proofs.YtdmjnopjnaoepaaGreatDoor
open Go.RowKit

/-- A slice of strings. -/
def StrsIn (w : World) (v : Value) (l : List ByteArray) : Prop := Sl w 1 v l.length (l.map Value.string)
theorem StrsIn.below {w w' : World} {v : Value} {l : List ByteArray} (h : StrsIn w v l) (hb : Below w.heap.size w w') : StrsIn w' v l := Sl.below h hb
theorem StrsIn.open {w : World} {v : Value} {l : List ByteArray} (h : StrsIn w v l) : ∃ a cap, v = .slice a l.length cap ∧ ∀ i (hi : i < l.length), ∃ b o, a = some ⟨b, o, none⟩ ∧ w.cell? ⟨b, o + i, none⟩ = some (.string l[i]) := by
  obtain ⟨_, a, cap, rfl, _, _, h4⟩ := h
  exact ⟨a, cap, rfl, fun i hi => h4 i _ (by simp [hi])⟩

/-- One string is less than another. -/
def sLt (a b : ByteArray) : Bool := Op.bytesLess a.toList b.toList
def sEq (a b : ByteArray) : Bool := a.toList == b.toList
theorem sEq_iff (a b : ByteArray) : sEq a b = true ↔ a = b := by
  unfold sEq
  rw [beq_iff_eq, ByteArray.toList_eq, ByteArray.toList_eq, Array.toList_inj]
  exact ⟨fun h => ByteArray.ext h, fun h => by rw [h]⟩
theorem sLt_iff (a b : ByteArray) : sLt a b = true ↔ a.data.toList < b.data.toList := by
  unfold sLt
  rw [bytesLess_eq, ByteArray.toList_eq, ByteArray.toList_eq, decide_eq_true_iff]

/-- A key may be, in its place. -/
def keyAt (l : List ByteArray) (i : Nat) : Bool :=
  match l[i]? with
  | none => true
  | some k => decide (k.size ≠ 0) && decide (k.size ≤ 32) && (match i with | 0 => true | j + 1 => sLt (l.getD j ⟨#[]⟩) k)
def keysB (l : List ByteArray) : Bool := (List.range l.length).all (keyAt l)
theorem keysB_false {l : List ByteArray} {i : Nat} (hi : i < l.length) (h : keyAt l i = false) : keysB l = false := by
  rw [Bool.eq_false_iff]
  intro ha
  have := List.all_eq_true.1 ha i (by simpa using hi)
  rw [h] at this
  cases this
theorem keysB_true {l : List ByteArray} (h : ∀ i, i < l.length → keyAt l i = true) : keysB l = true :=
  List.all_eq_true.2 fun i hi => h i (by simpa using hi)

theorem size_zero_iff (k : ByteArray) : k.toList = [] ↔ k.size = 0 := by
  rw [ByteArray.toList_eq]
  obtain ⟨⟨l⟩⟩ := k
  show l = [] ↔ l.length = 0
  exact List.length_eq_zero_iff.symm

end Go.Proofs.YtdmjnopjnaoepaaGreatDoor
namespace Go.Proofs.YtdmjnopjnaoepaaGreatDoor
open Go.RowKit

theorem bv_beq (x y : UInt8) : ((x.toNat : Int) == (y.toNat : Int)) = (x == y) := by
  rw [Bool.eq_iff_iff]; simp only [beq_iff_eq]
  exact ⟨fun h => UInt8.toNat_inj.1 (by omega), fun h => by rw [h]⟩

theorem run_eqItems_u8 (d : Nat) (xs ys : List UInt8) (w : World) : ∀ is : List Nat, (∀ i ∈ is, i < xs.length ∧ i < ys.length) →
    (Op.eqItems (d + 1) 5 1 (xs.map Bv).toArray (ys.map Bv).toArray is).run Tryz.prog w = .ok (is.all fun i => xs[i]? == ys[i]?) w
  | [], _ => by simp [Op.eqItems]
  | i :: is, h => by
    obtain ⟨h1, h2⟩ := h i (by simp)
    have hp : Tryz.prog.plainKey 5 = true := by kernel_rfl
    have p1 := run_part_plain (P := Tryz.prog) w hp (xs := (xs.map Bv).toArray) (off := i * 1) (v := Bv xs[i]) (by simp [h1])
    have p2 := run_part_plain (P := Tryz.prog) w hp (xs := (ys.map Bv).toArray) (off := i * 1) (v := Bv ys[i]) (by simp [h2])
    have ih := run_eqItems_u8 d xs ys w is (fun j hj => h j (by simp [hj]))
    have p3 : (Op.equalIn (d + 1) 5 (Bv xs[i]) (Bv ys[i])).run Tryz.prog w = .ok (xs[i] == ys[i]) w := by
      rw [← bv_beq]; exact run_equalIn_int w d _ .u8 .u8 _ _ Tryz.underlying5
    simp only [Op.eqItems, Sem.run_bind, p1, p2, p3, Result.andThen_ok, List.all_cons, List.getElem?_eq_getElem h1, List.getElem?_eq_getElem h2, Option.some_beq_some]
    cases hx : (xs[i] == ys[i])
    · simp
    · simpa using ih

theorem all_same (xs ys : List UInt8) (n : Nat) (h1 : xs.length = n) (h2 : ys.length = n) : ((List.range n).all fun i => xs[i]? == ys[i]?) = decide (xs = ys) := by
  rw [Bool.eq_iff_iff, List.all_eq_true, decide_eq_true_iff]
  constructor
  · intro h
    apply List.ext_getElem?
    intro i
    rcases Nat.lt_or_ge i n with hi | hi
    · simpa using h i (by simpa using hi)
    · rw [List.getElem?_eq_none (by omega), List.getElem?_eq_none (by omega)]
  · rintro rfl i _
    simp

theorem run_eql_hash (xs ys : List UInt8) (h1 : xs.length = 32) (h2 : ys.length = 32) (w : World) :
    (binOp .eql 28 (.agg (xs.map Bv).toArray) (.agg (ys.map Bv).toArray)).run Tryz.prog w = .ok (.bool (decide (xs = ys))) w := by
  obtain ⟨i0, hi, hz0, hz1, hz2⟩ := info_parts info_u8
  rw [run_eql_struct, run_equalIn_array w 9999 _ _ Tryz.underlying28 hi]
  have hc : Tryz.prog.cellsOf 5 = 1 := by kernel_rfl
  rw [hc, run_eqItems_u8 9998 xs ys w _ (fun i hi => by have := List.mem_range.1 hi; omega)]
  simp [Result.andThen, all_same xs ys 32 h1 h2]
theorem run_neq_hash (xs ys : List UInt8) (h1 : xs.length = 32) (h2 : ys.length = 32) (w : World) :
    (binOp .neq 28 (.agg (xs.map Bv).toArray) (.agg (ys.map Bv).toArray)).run Tryz.prog w = .ok (.bool (!decide (xs = ys))) w := by
  obtain ⟨i0, hi, hz0, hz1, hz2⟩ := info_parts info_u8
  rw [run_neq_struct, run_equalIn_array w 9999 _ _ Tryz.underlying28 hi]
  have hc : Tryz.prog.cellsOf 5 = 1 := by kernel_rfl
  rw [hc, run_eqItems_u8 9998 xs ys w _ (fun i hi => by have := List.mem_range.1 hi; omega)]
  simp [Result.andThen, all_same xs ys 32 h1 h2]

theorem guard_hash : Tryz.prog.eqGuardType Tryz.prog.depth 28 = false := by kernel_rfl

theorem eql_hash {ops : Array Oper} {rest : List Oper} {o : Oper} {a : Act} {w : World} {Q : Exit → Act → World → Prop} (hgd : o.guard = none) (x y : Operand) (yt : TypeId) (ho : o.op = .binOp .eql 28 x y yt)
    {xs ys : List UInt8} (hx : a.eval x = .agg (xs.map Bv).toArray) (hy : a.eval y = .agg (ys.map Bv).toArray) (h1 : xs.length = 32) (h2 : ys.length = 32)
    (hK : wpList Tryz.prog ops Q rest (a.put o.dst (.bool (decide (xs = ys)))) w) : wpList Tryz.prog ops Q (o :: rest) a w := by
  refine wpList_plain hgd fun K hKK => ?_
  unfold Oper.wp execOp
  simp only [ho, hx, hy, Sem.run_bind, run_eqGuard_agg w _ _ _ _ _ _ guard_hash, Result.andThen_ok, run_eql_hash xs ys h1 h2 w]
  exact hKK _ _ hK
theorem neq_hash {ops : Array Oper} {rest : List Oper} {o : Oper} {a : Act} {w : World} {Q : Exit → Act → World → Prop} (hgd : o.guard = none) (x y : Operand) (yt : TypeId) (ho : o.op = .binOp .neq 28 x y yt)
    {xs ys : List UInt8} (hx : a.eval x = .agg (xs.map Bv).toArray) (hy : a.eval y = .agg (ys.map Bv).toArray) (h1 : xs.length = 32) (h2 : ys.length = 32)
    (hK : wpList Tryz.prog ops Q rest (a.put o.dst (.bool (!decide (xs = ys)))) w) : wpList Tryz.prog ops Q (o :: rest) a w := by
  refine wpList_plain hgd fun K hKK => ?_
  unfold Oper.wp execOp
  simp only [ho, hx, hy, Sem.run_bind, run_eqGuard_agg w _ _ _ _ _ _ guard_hash, Result.andThen_ok, run_neq_hash xs ys h1 h2 w]
  exact hKK _ _ hK

end Go.Proofs.YtdmjnopjnaoepaaGreatDoor
namespace Go.Proofs.YtdmjnopjnaoepaaGreatDoor
open Go.RowKit

structure Pt where
  addr : Nat
  birth : Nat
  sum : List UInt8
  deriving DecidableEq
def Pt.cells (p : Pt) : List Value := .int .u32 (p.addr : Int) :: .int .u64 (p.birth : Int) :: p.sum.map Bv
def Pt.arr (p : Pt) : Array Value := p.cells.toArray
def Pt.zero : Pt := ⟨0, 0, List.replicate 32 0⟩
structure Pt.Wf (p : Pt) : Prop where
  addr : p.addr < 4294967296
  birth : p.birth < 18446744073709551616
  sum : p.sum.length = 32
theorem Pt.zero_wf : Pt.zero.Wf := ⟨by decide, by decide, by decide⟩
theorem Pt.Wf.len {p : Pt} (h : p.Wf) : p.cells.length = 34 := by simp [Pt.cells, h.sum]
theorem Pt.Wf.size {p : Pt} (h : p.Wf) : p.arr.size = 34 := by simp [Pt.arr, h.len]
theorem Pt.arr_toList (p : Pt) : p.arr.toList = p.cells := by simp [Pt.arr]
theorem Pt.get0 (p : Pt) : p.arr[0]? = some (.int .u32 (p.addr : Int)) := by simp [Pt.arr, Pt.cells]
theorem Pt.get1 (p : Pt) : p.arr[1]? = some (.int .u64 (p.birth : Int)) := by simp [Pt.arr, Pt.cells]
theorem Pt.one (p : Pt) : ∀ u ∈ p.arr.toList, u.oneCell' = true := by
  rw [Pt.arr_toList]
  intro u hu
  simp only [Pt.cells, List.mem_cons] at hu
  rcases hu with rfl | rfl | hu
  · rfl
  · rfl
  · exact Bv_oneCell _ u hu
theorem Pt.sumAt {w : World} {b o : Nat} {p : Pt} (h : At w b o p.cells) : At w b (o + 2) (p.sum.map Bv) := by
  have : At w b o ([.int .u32 (p.addr : Int), .int .u64 (p.birth : Int)] ++ p.sum.map Bv ++ []) := by simpa [Pt.cells] using h
  exact this.part

theorem info_ptr : (Tryz.prog.info? 30).map (·.size) = some 34 := by kernel_rfl
theorem guard_ptr : Tryz.prog.eqGuardType Tryz.prog.depth 30 = false := by kernel_rfl
theorem stood_ptr : Tryz.prog.stoodInHeld 30 = false := by kernel_rfl
theorem fields_ptr : ((Tryz.prog.fieldsOf 30).toList.map fun f => (f.name != "_", f.type, f.offset)) = [(true, 26, 0), (true, 25, 1), (true, 28, 2)] := by kernel_rfl
theorem und_ptr : Tryz.prog.underlying 30 = some (.struct (Tryz.prog.fieldsOf 30)) := by
  unfold Program.fieldsOf; rw [Tryz.underlying30]

theorem extract_sum (p : Pt) (h : p.Wf) : p.arr.extract 2 (2 + 32) = (p.sum.map Bv).toArray := by
  apply Array.toList_inj.1
  simp only [Pt.arr, Pt.cells, List.extract_toArray, List.extract_eq_take_drop]
  rw [List.drop_succ_cons, List.drop_succ_cons, List.drop_zero, List.take_of_length_le (by simp [h.sum])]

theorem run_part_hash (p : Pt) (h : p.Wf) (w : World) : (part 28 p.arr 2).run Tryz.prog w = .ok (.agg (p.sum.map Bv).toArray) w := by
  have hagg : (isAgg 28).run Tryz.prog w = .ok true w := by
    unfold isAgg
    rw [Sem.run_bind, run_underlying Tryz.underlying28 w]
    rfl
  have hsz : (sizeOf 28).run Tryz.prog w = .ok 32 w := by
    have : ∃ i, Tryz.prog.info? 28 = some i ∧ i.size = 32 := by
      cases hq : Tryz.prog.info? 28 with
      | none =>
        have h1 : (Tryz.prog.info? 28).map (·.size) = some 32 := by kernel_rfl
        simp [hq] at h1
      | some i =>
        have h1 : (Tryz.prog.info? 28).map (·.size) = some 32 := by kernel_rfl
        exact ⟨i, rfl, by simpa [hq] using h1⟩
    obtain ⟨i, hi, hs⟩ := this
    simp [sizeOf, typeInfo, hi, hs]
  unfold part
  simp only [Sem.run_bind, hagg, Result.andThen_ok, if_true, hsz, Sem.run_pure, extract_sum p h]

theorem run_equalIn_hash (d : Nat) (xs ys : List UInt8) (h1 : xs.length = 32) (h2 : ys.length = 32) (w : World) :
    (Op.equalIn (d + 2) 28 (.agg (xs.map Bv).toArray) (.agg (ys.map Bv).toArray)).run Tryz.prog w = .ok (decide (xs = ys)) w := by
  obtain ⟨i0, hi, hz0, hz1, hz2⟩ := info_parts info_u8
  rw [run_equalIn_array w (d + 1) _ _ Tryz.underlying28 hi]
  have hc : Tryz.prog.cellsOf 5 = 1 := by kernel_rfl
  rw [hc, run_eqItems_u8 d xs ys w _ (fun i hi => by have := List.mem_range.1 hi; omega)]
  rw [all_same xs ys 32 h1 h2]

theorem eqFields_step {P : Program} {w : World} {d : Nat} {xs ys : Array Value} {f : Field} {fs : List Field} {a b : Value} {r r' : Bool} (hn : (f.name != "_") = true) (t : TypeId) (o : Nat) (ht : f.type = t) (ho : f.offset = o)
    (h1 : (part t xs o).run P w = .ok a w) (h2 : (part t ys o).run P w = .ok b w) (h3 : (Op.equalIn d t a b).run P w = .ok r w) (h4 : (Op.eqFields d xs ys fs).run P w = .ok r' w) :
    (Op.eqFields d xs ys (f :: fs)).run P w = .ok (r && r') w := by
  subst ht ho
  have hn' : f.name ≠ "_" := by simpa using hn
  simp only [Op.eqFields, hn', ne_eq, not_false_eq_true, if_true, Sem.run_bind, h1, h2, h3, Result.andThen_ok]
  cases r
  · simp
  · simpa using h4

set_option maxRecDepth 100000 in
theorem eqFields_ptr (p q : Pt) (hp : p.Wf) (hq : q.Wf) (w : World) (fs : List Field) (hf : (fs.map fun f => (f.name != "_", f.type, f.offset)) = [(true, 26, 0), (true, 25, 1), (true, 28, 2)]) :
    (Op.eqFields 9999 p.arr q.arr fs).run Tryz.prog w = .ok (decide (p = q)) w := by
  obtain ⟨f0, fs, rfl, h0, hf⟩ := List.map_eq_cons_iff.1 hf
  obtain ⟨f1, fs, rfl, h1, hf⟩ := List.map_eq_cons_iff.1 hf
  obtain ⟨f2, fs, rfl, h2, hf⟩ := List.map_eq_cons_iff.1 hf
  obtain rfl := List.map_eq_nil_iff.1 hf
  simp only [Prod.mk.injEq] at h0 h1 h2
  obtain ⟨n0, t0, o0⟩ := h0
  obtain ⟨n1, t1, o1⟩ := h1
  obtain ⟨n2, t2, o2⟩ := h2
  have q0 : Tryz.prog.plainKey 26 = true := by kernel_rfl
  have q1 : Tryz.prog.plainKey 25 = true := by kernel_rfl
  have e3 : (Op.eqFields 9999 p.arr q.arr []).run Tryz.prog w = .ok true w := by simp [Op.eqFields]
  have e2 := eqFields_step n2 _ _ t2 o2 (run_part_hash p hp w) (run_part_hash q hq w) (run_equalIn_hash 9997 p.sum q.sum hp.sum hq.sum w) e3
  have e1 := eqFields_step n1 _ _ t1 o1 (run_part_plain (P := Tryz.prog) w q1 p.get1) (run_part_plain (P := Tryz.prog) w q1 q.get1) (run_equalIn_int (P := Tryz.prog) w 9998 25 .u64 .u64 (p.birth : Int) (q.birth : Int) Tryz.underlying25) e2
  have e0 := eqFields_step n0 _ _ t0 o0 (run_part_plain (P := Tryz.prog) w q0 p.get0) (run_part_plain (P := Tryz.prog) w q0 q.get0) (run_equalIn_int (P := Tryz.prog) w 9998 26 .u32 .u32 (p.addr : Int) (q.addr : Int) Tryz.underlying26) e1
  rw [e0]
  congr 1
  obtain ⟨pa, pb, ps⟩ := p
  obtain ⟨qa, qb, qs⟩ := q
  rw [Bool.eq_iff_iff]
  simp only [Pt.mk.injEq, Bool.and_eq_true, beq_iff_eq, decide_eq_true_iff, Int.natCast_inj, and_true]

theorem run_equalIn_ptr (p q : Pt) (hp : p.Wf) (hq : q.Wf) (w : World) : (Op.equalIn 10000 30 (.agg p.arr) (.agg q.arr)).run Tryz.prog w = .ok (decide (p = q)) w := by
  rw [run_equalIn_struct w 9999 30 p.arr q.arr und_ptr stood_ptr]
  exact eqFields_ptr p q hp hq w _ fields_ptr

theorem eql_ptr {ops : Array Oper} {rest : List Oper} {o : Oper} {a : Act} {w : World} {Q : Exit → Act → World → Prop} (hgd : o.guard = none) (x y : Operand) (yt : TypeId) (ho : o.op = .binOp .eql 30 x y yt)
    {p q : Pt} (hx : a.eval x = .agg p.arr) (hy : a.eval y = .agg q.arr) (h1 : p.Wf) (h2 : q.Wf)
    (hK : wpList Tryz.prog ops Q rest (a.put o.dst (.bool (decide (p = q)))) w) : wpList Tryz.prog ops Q (o :: rest) a w := by
  refine wpList_plain hgd fun K hKK => ?_
  unfold Oper.wp execOp
  simp only [ho, hx, hy, Sem.run_bind, run_eqGuard_agg w _ _ _ _ _ _ guard_ptr, Result.andThen_ok, run_eql_struct, run_equalIn_ptr p q h1 h2 w]
  exact hKK _ _ hK

/-- A pointer, read at an address; stored into a variable of its own. -/
theorem load_ptr {ops : Array Oper} {rest : List Oper} {o : Oper} {a : Act} {w : World} {Q : Exit → Act → World → Prop} (hgd : o.guard = none) (x : Operand) (ho : o.op = .load 30 x)
    {b off : Nat} (hx : a.eval x = .pointer (some ⟨b, off, none⟩)) {p : Pt} (hc : At w b off p.cells) (hl : p.Wf)
    (hK : wpList Tryz.prog ops Q rest (a.put o.dst (.agg p.arr)) w) : wpList Tryz.prog ops Q (o :: rest) a w :=
  wpList_load_at hgd _ x ho b off hx p.cells _ hc Tryz.underlying30 rfl (by rw [info_ptr, hl.len]) hK
theorem store_ptr {ops : Array Oper} {rest : List Oper} {o : Oper} {a : Act} {w : World} {Q : Exit → Act → World → Prop} (hgd : o.guard = none) (x y : Operand) (ho : o.op = .store 30 x y)
    {b : Nat} (hx : a.eval x = .pointer (some ⟨b, 0, none⟩)) {p : Pt} (hy : a.eval y = .agg p.arr) {old : Array Value} {t : TypeId} (hb : w.heap[b]? = some (.cells old t (0, 0))) (ho2 : old.size = 34) (hl : p.Wf)
    (hK : ∀ w', w'.heap[b]? = some (.cells p.arr t (0, 0)) → Fr (fun k => k = b) w w' → w'.heap.size = w.heap.size → wpList Tryz.prog ops Q rest (a.put o.dst undef) w') : wpList Tryz.prog ops Q (o :: rest) a w :=
  wpList_store_row hgd _ x y ho b hx p.cells (by simpa [Pt.arr] using hy) old _ hb (by rw [ho2, hl.len]) (by have := p.one; rwa [Pt.arr_toList] at this) (by rw [info_ptr, hl.len]) (fun w' h1 h2 h3 => hK w' h1 h2 h3)

theorem At_box (w : World) (p : Pt) (t : TypeId) : At (w.alloc (.cells p.arr t)) w.heap.size 0 p.cells := At.of_row (heap_alloc_new _ _)

theorem ptrNull_any (p : Pt) (w : World) : Calls Tryz.prog 51 #[.agg p.arr] w fun e w' => e = .returned (.bool (decide (p.addr = 0))) ∧ Below w.heap.size w w' := by
  have g0 := p.get0
  have e : ((p.addr : Int) == 0) = decide (p.addr = 0) := by rw [Bool.eq_iff_iff]; simp
  obtain ⟨arr, ha⟩ : ∃ arr, arr = p.arr := ⟨_, rfl⟩
  rw [← ha] at g0 ⊢
  clear ha
  go_enter Tryz.func51, Tryz.ntmps51
  go_wp2
  go_ret
  exact ⟨by rw [← e]; rfl, (Below.refl _ _).alloc (Nat.le_refl _) _⟩

/-- May a pointer be, on a device of so many sectors? -/
def ptrOk (p : Pt) (n : Int) : Bool := if p.addr = 0 then decide (p = Pt.zero) else decide (2 ≤ p.addr) && decide ((p.addr : Int) < n) && decide (0 < p.birth)

def ptrE (p : Pt) (n : Int) : Int := if ptrOk p n then 0 else 4
theorem ptrE_ok {p : Pt} {n : Int} (h : ptrOk p n = true) : ptrE p n = 0 := by unfold ptrE; rw [if_pos h]
theorem ptrE_bad {p : Pt} {n : Int} (h : ptrOk p n = false) : ptrE p n = 4 := by unfold ptrE; rw [if_neg (by rw [h]; simp)]

set_option maxHeartbeats 1000000 in
theorem ptrCheck_any (p : Pt) (n : Int) (w : World) (h : p.Wf) (_hn : -9223372036854775808 ≤ n ∧ n ≤ 9223372036854775807) :
    Calls Tryz.prog 28 #[.agg p.arr, .int .i64 n] w fun e w' => e = .returned (.int .i64 (ptrE p n)) ∧ Below w.heap.size w w' := by
  have g0 := p.get0
  have g1 := p.get1
  have HAT := Lib.hid (At_box w p 30)
  have HW := Lib.hid h
  have HB := Lib.hid ((Below.refl _ w).alloc (Nat.le_refl _) (.cells p.arr 30))
  have ha := h.addr
  clear h
  by_cases h0 : p.addr = 0
  · have HN := Lib.hid (fun w => ptrNull_any p w)
    rw [decide_eq_true h0] at HN
    have HQ := Lib.hid (show ptrOk p n = decide (p = Pt.zero) by unfold ptrOk; rw [if_pos h0])
    clear h0
    go_enter Tryz.func28, Tryz.ntmps28
    go_wp2_with (first | (refine load_ptr rfl (.tmp 2) rfl rfl HAT.out HW.out ?_) | (refine eql_ptr (q := Pt.zero) rfl (.tmp 6) (.tmp 7) _ rfl rfl rfl HW.out Pt.zero_wf ?_))
    refine (HN.out _).mono ?_
    rintro e w1 ⟨rfl, hb⟩
    have HB1 := Lib.hid (HB.out.trans (hb.mono HB.out.size))
    clear hb
    by_cases hz : p = Pt.zero
    · rw [decide_eq_true hz] at HQ ⊢
      replace HQ := Lib.hid (ptrE_ok HQ.out)
      clear hz
      go_wp2
      go_ret
      exact ⟨by rw [HQ.out]; rfl, HB1.out⟩
    · rw [decide_eq_false hz] at HQ ⊢
      replace HQ := Lib.hid (ptrE_bad HQ.out)
      clear hz
      go_wp2
      go_ret
      exact ⟨by rw [HQ.out]; rfl, HB1.out⟩
  · have HN := Lib.hid (fun w => ptrNull_any p w)
    rw [decide_eq_false h0] at HN
    have hq : ptrOk p n = (decide (2 ≤ p.addr) && decide ((p.addr : Int) < n) && decide (0 < p.birth)) := by unfold ptrOk; rw [if_neg h0]
    clear h0
    have c0 : ∀ w1 : World, Below (w.alloc (.cells p.arr 30)).heap.size (w.alloc (.cells p.arr 30)) w1 → w1.cell? ⟨w.heap.size, 0, none⟩ = some (.int .u32 (p.addr : Int)) ∧ w1.cell? ⟨w.heap.size, 1, none⟩ = some (.int .u64 (p.birth : Int)) := by
      intro w1 hb
      have hg := (hb.block w.heap.size (by simp)).trans (heap_alloc_new w (.cells p.arr 30))
      exact ⟨(cell_of_row _ _ 0 _ _ _ hg).trans g0, (cell_of_row _ _ 1 _ _ _ hg).trans g1⟩
    have HC := Lib.hid c0
    clear c0
    by_cases h1 : 2 ≤ p.addr
    · by_cases h2 : (p.addr : Int) < n
      · by_cases h3 : 0 < p.birth
        · rw [decide_eq_true h1, decide_eq_true h2, decide_eq_true h3] at hq
          have HQ := Lib.hid (ptrE_ok hq)
          clear hq
          go_enter Tryz.func28, Tryz.ntmps28
          go_wp2_with (first | (refine load_ptr rfl (.tmp 2) rfl rfl HAT.out HW.out ?_) | (refine eql_ptr (q := Pt.zero) rfl (.tmp 6) (.tmp 7) _ rfl rfl rfl HW.out Pt.zero_wf ?_))
          refine (HN.out _).mono ?_
          rintro e w1 ⟨rfl, hb⟩
          obtain ⟨e0, e1⟩ := HC.out _ hb
          have HB1 := Lib.hid (HB.out.trans (hb.mono HB.out.size))
          clear hb
          go_wp2
          go_ret
          exact ⟨by rw [HQ.out]; rfl, HB1.out⟩
        · rw [decide_eq_true h1, decide_eq_true h2, decide_eq_false h3] at hq
          have HQ := Lib.hid (ptrE_bad hq)
          obtain h3 : p.birth = 0 := by omega
          rw [h3] at HC
          clear hq
          go_enter Tryz.func28, Tryz.ntmps28
          go_wp2_with (first | (refine load_ptr rfl (.tmp 2) rfl rfl HAT.out HW.out ?_) | (refine eql_ptr (q := Pt.zero) rfl (.tmp 6) (.tmp 7) _ rfl rfl rfl HW.out Pt.zero_wf ?_))
          refine (HN.out _).mono ?_
          rintro e w1 ⟨rfl, hb⟩
          obtain ⟨e0, e1⟩ := HC.out _ hb
          have HB1 := Lib.hid (HB.out.trans (hb.mono HB.out.size))
          clear hb
          go_wp2
          go_ret
          exact ⟨by rw [HQ.out]; rfl, HB1.out⟩
      · rw [decide_eq_true h1, decide_eq_false h2] at hq
        have HQ := Lib.hid (ptrE_bad hq)
        clear hq
        go_enter Tryz.func28, Tryz.ntmps28
        go_wp2_with (first | (refine load_ptr rfl (.tmp 2) rfl rfl HAT.out HW.out ?_) | (refine eql_ptr (q := Pt.zero) rfl (.tmp 6) (.tmp 7) _ rfl rfl rfl HW.out Pt.zero_wf ?_))
        refine (HN.out _).mono ?_
        rintro e w1 ⟨rfl, hb⟩
        obtain ⟨e0, e1⟩ := HC.out _ hb
        have HB1 := Lib.hid (HB.out.trans (hb.mono HB.out.size))
        clear hb
        go_wp2
        go_ret
        exact ⟨by rw [HQ.out]; rfl, HB1.out⟩
    · rw [decide_eq_false h1] at hq
      have HQ := Lib.hid (ptrE_bad hq)
      have h1' : ¬ (2 : Int) ≤ (p.addr : Int) := by omega
      clear hq
      go_enter Tryz.func28, Tryz.ntmps28
      go_wp2_with (first | (refine load_ptr rfl (.tmp 2) rfl rfl HAT.out HW.out ?_) | (refine eql_ptr (q := Pt.zero) rfl (.tmp 6) (.tmp 7) _ rfl rfl rfl HW.out Pt.zero_wf ?_))
      refine (HN.out _).mono ?_
      rintro e w1 ⟨rfl, hb⟩
      obtain ⟨e0, e1⟩ := HC.out _ hb
      have HB1 := Lib.hid (HB.out.trans (hb.mono HB.out.size))
      clear hb
      go_wp2
      go_ret
      exact ⟨by rw [HQ.out]; rfl, HB1.out⟩

end Go.Proofs.YtdmjnopjnaoepaaGreatDoor
namespace Go.Proofs.YtdmjnopjnaoepaaGreatDoor
open Go.RowKit

theorem gload_ptr {ops : Array Oper} {rest : List Oper} {o : Oper} {a : Act} {w : World} {Q : Exit → Act → World → Prop} (hw : Region.wanted o (yielded ops a.tmps) = true) (x : Operand) (ho : o.op = .load 30 x)
    {b off : Nat} (hx : a.eval x = .pointer (some ⟨b, off, none⟩)) {p : Pt} (hc : At w b off p.cells) (hl : p.Wf)
    (hK : wpList Tryz.prog ops Q rest (a.put o.dst (.agg p.arr)) w) : wpList Tryz.prog ops Q (o :: rest) a w :=
  gload_at hw _ x ho b off hx p.cells _ hc Tryz.underlying30 rfl (by rw [info_ptr, hl.len]) hK

structure Nd where
  leaf : Bool
  keys : List ByteArray
  vals : List ByteArray
  kids : List Pt

/-- A slice of pointers. -/
structure PtsIn (w : World) (v : Value) (ps : List Pt) : Prop where
  sl : Sl w 34 v ps.length (ps.map Pt.cells).flatten
  wf : ∀ p ∈ ps, p.Wf

theorem PtsIn.below {w w' : World} {v : Value} {ps : List Pt} (h : PtsIn w v ps) (hb : Below w.heap.size w w') : PtsIn w' v ps := ⟨h.sl.below hb, h.wf⟩
theorem PtsIn.open {w : World} {v : Value} {ps : List Pt} (h : PtsIn w v ps) : ∃ a cap, v = .slice a ps.length cap ∧ ∀ i (hi : i < ps.length), ∃ b o, a = some ⟨b, o, none⟩ ∧ At w b (o + i * 34) ps[i].cells := by
  obtain ⟨⟨hl, a, cap, rfl, _, _, h4⟩, hwf⟩ := h
  refine ⟨a, cap, rfl, fun i hi => ?_⟩
  have hlen : ∀ l ∈ ps.map Pt.cells, l.length = 34 := by
    intro l hl
    obtain ⟨p, hp, rfl⟩ := List.mem_map.1 hl
    exact (hwf p hp).len
  have hg : ∀ j, j < 34 → (ps.map Pt.cells).flatten[i * 34 + j]? = (ps[i].cells)[j]? := fun j hj => by
    rw [flat_get 34 _ hlen i (by simpa using hi) j hj]; simp
  obtain ⟨b, o, e, _⟩ := h4 (i * 34 + 0) _ (hg 0 (by omega))
  refine ⟨b, o, e, fun j u hu => ?_⟩
  have hj : j < 34 := by
    have := (List.getElem?_eq_some_iff.1 hu).1
    rw [(hwf _ (List.getElem_mem hi)).len] at this
    exact this
  obtain ⟨b', o', e', hc⟩ := h4 (i * 34 + j) u ((hg j hj).trans hu)
  rw [e] at e'
  simp only [Option.some.injEq, Addr.mk.injEq, and_true] at e'
  obtain ⟨rfl, rfl⟩ := e'
  rw [← hc, Nat.add_assoc]

/-- A node's cells. -/
def NdIs (w : World) (arr : Array Value) (n : Nd) : Prop :=
  ∃ vk vv vp, arr = #[.bool n.leaf, vk, vv, vp] ∧ StrsIn w vk n.keys ∧ StrsIn w vv n.vals ∧ PtsIn w vp n.kids
theorem NdIs.below {w w' : World} {arr : Array Value} {n : Nd} (h : NdIs w arr n) (hb : Below w.heap.size w w') : NdIs w' arr n := by
  obtain ⟨vk, vv, vp, h0, h1, h2, h3⟩ := h
  exact ⟨vk, vv, vp, h0, h1.below hb, h2.below hb, h3.below hb⟩

/-- Too long, for a value. -/
def longB (l : List ByteArray) : Bool := l.any (fun v => decide (96 < v.size))
def IdxPost (b : Bool) (w : World) (e : Ending) (w' : World) : Prop := ∃ r : Int, e = .returned (.int .i64 r) ∧ decide (0 ≤ r) = b ∧ w = w'

/-- May a kid not be? -/
def kidBad (p : Pt) : Bool := decide (p.addr = 0) || !ptrOk p 4096
def badB (ps : List Pt) : Bool := ps.any kidBad

theorem ptrE_ne (p : Pt) (n : Int) : (ptrE p n != 0) = !ptrOk p n := by
  unfold ptrE
  cases ptrOk p n <;> rfl

def IdxPostB (b : Bool) (w : World) (e : Ending) (w' : World) : Prop := ∃ r : Int, e = .returned (.int .i64 r) ∧ decide (0 ≤ r) = b ∧ Below w.heap.size w w'

end Go.Proofs.YtdmjnopjnaoepaaGreatDoor
namespace Go.Proofs.YtdmjnopjnaoepaaGreatDoor
open Go.RowKit

theorem Sl_row {w : World} {b : Nat} {cs : Array Value} {t : TypeId} {size n : Nat} {xs : List Value} (hb : w.heap[b]? = some (.cells cs t (0, 0))) (hcs : cs.toList = xs) (hn : xs.length = n * size) : Sl w size (.slice (some ⟨b, 0, none⟩) n n) n xs := by
  refine ⟨hn, some ⟨b, 0, none⟩, n, rfl, Nat.le_refl _, fun h => (by cases h), fun i u hu => ⟨b, 0, rfl, ?_⟩⟩
  rw [Nat.zero_add, cell_of_row _ b i cs t _ hb, ← hu, ← hcs, Array.getElem?_toList]

theorem Below_drewN {B : Nat} {a w : World} (h : Below B a w) (n : Nat) : Below B a (w.drewN n) := h.trans ⟨rfl, rfl, rfl, Nat.le_refl _, fun _ _ => rfl⟩
theorem NdIs.size {w : World} {arr : Array Value} {n : Nd} (h : NdIs w arr n) : arr.size = 4 := by
  obtain ⟨_, _, _, rfl, _⟩ := h
  rfl
theorem At_nd {w : World} {b : Nat} {arr : Array Value} {t : TypeId} (hb : w.heap[b]? = some (.cells arr t (0, 0))) : At w b 0 arr.toList := At.of_row (by simpa using hb)

end Go.Proofs.YtdmjnopjnaoepaaGreatDoor
