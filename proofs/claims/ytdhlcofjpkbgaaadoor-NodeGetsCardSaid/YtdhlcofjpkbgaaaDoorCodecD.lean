/- Walks: codec.Reader's End, Raw, Hash; the reference's Reader. -/
import Derived.Test.YtdhlcofjpkbgaaaDoorTrim
import Derived.Test.YtdhlcofjpkbgaaaDoorCopy
namespace Go.Proofs.YtdhlcofjpkbgaaaDoor
open Go.RowKit

/-- The error at the end of bytes. -/
def endE (xs : List UInt8) : Int := if xs.all (· == 0) then 0 else 4
theorem endE_zero {xs : List UInt8} (h : ∀ y ∈ xs, y = 0) : endE xs = 0 := by
  unfold endE; rw [if_pos]; simpa using h
theorem endE_not {xs : List UInt8} (h : ¬ ∀ y ∈ xs, y = 0) : endE xs = 4 := by
  unfold endE; rw [if_neg]; simpa using h

set_option maxHeartbeats 1000000 in
theorem rEnd_any (b : Nat) (xs : List UInt8) (w : World) (h : Rd w b xs) (hr : xs.length ≤ 140737488351232) :
    Calls Tryd.prog 20 #[.pointer (some ⟨b, 0, none⟩)] w fun e w' => e = .returned (.int .i64 (endE xs)) ∧ Rd w' b xs ∧ Below w.heap.size w w' := by
  obtain ⟨a, cap, hc, hf, hb, hs⟩ := take_pre b xs w h
  have HH := Lib.hid h
  have HS := Lib.hid hs
  clear hb hs h hf
  go_enter Tryd.func20, Tryd.ntmps20
  go_wp2_with fail
  refine (trim_any _ xs _ _ HS.out hr).mono ?_
  rintro e w1 ⟨hbel, hsz, a1, L, c1, rfl, hL⟩
  have HB := Lib.hid hbel
  have HL := Lib.hid hL
  clear hbel hsz hL
  cases L with
  | zero =>
    have HE := Lib.hid (endE_zero (HL.out.1 rfl))
    clear HL
    go_wp2
    go_ret
    exact ⟨by rw [HE.out]; rfl, HH.out.below HB.out, HB.out⟩
  | succ L =>
    have b1 : (0 : Int) < ((L + 1 : Nat) : Int) := by omega
    have HE := Lib.hid (endE_not (fun h => by have := HL.out.2 h; omega))
    clear HL
    go_wp2
    go_ret
    exact ⟨by rw [HE.out]; rfl, HH.out.below HB.out, HB.out⟩

set_option maxHeartbeats 400000 in
theorem rRaw_neg (b : Nat) (n : Int) (w : World) (h : n < 0) :
    Calls Tryd.prog 21 #[.pointer (some ⟨b, 0, none⟩), .int .i64 n] w fun e w' => e = .returned (.tuple #[.slice none 0 0, .int .i64 2]) ∧ w = w' := by
  go_enter Tryd.func21, Tryd.ntmps21
  go_wp2
  go_ret2
  exact ⟨rfl, rfl⟩

set_option maxHeartbeats 400000 in
theorem rRaw_short (b : Nat) (xs : List UInt8) (n : Int) (w : World) (h : Rd w b xs) (hn : (xs.length : Int) < n) (hr : xs.length ≤ 140737488351232) :
    Calls Tryd.prog 21 #[.pointer (some ⟨b, 0, none⟩), .int .i64 n] w fun e w' => e = .returned (.tuple #[.slice none 0 0, .int .i64 3]) ∧ w = w' := by
  have HH := Lib.hid h
  have b1 : decide (n < 0) = false := by simp; omega
  clear h
  go_enter Tryd.func21, Tryd.ntmps21
  go_wp2_with fail
  refine (take_short b xs 0 n _ HH.out (by omega) (by omega) (by omega) hr).mono ?_
  rintro e w1 ⟨rfl, rfl⟩
  go_wp2
  go_ret2
  exact ⟨rfl, rfl⟩

set_option maxHeartbeats 400000 in
theorem rRaw_ok (b : Nat) (xs : List UInt8) (n : Nat) (w : World) (h : Rd w b xs) (hn : n ≤ xs.length) (hr : xs.length ≤ 140737488351232) :
    Calls Tryd.prog 21 #[.pointer (some ⟨b, 0, none⟩), .int .i64 (n : Int)] w fun e w' => ∃ aa cc, e = .returned (.tuple #[.slice aa n cc, .int .i64 0]) ∧ w'.ownsRow w.heap.size 5 1 (.slice aa n cc) n ((xs.take n).map Bv) ∧ Rd w' b (xs.drop n) ∧ Fr (fun k => k = b) w w' := by
  have HH := Lib.hid h
  have b1 : decide ((n : Int) < 0) = false := by simp
  clear h
  go_enter Tryd.func21, Tryd.ntmps21
  go_wp2_with fail
  refine (take_ok b xs 0 n _ HH.out (by omega) hr).mono ?_
  rintro e w1 ⟨aa, cc, rfl, hown, hrd, hfr⟩
  have HS := Lib.hid hown
  have HR := Lib.hid hrd
  have HF := Lib.hid hfr
  clear hown hrd hfr
  go_wp2
  go_ret2
  exact ⟨_, _, rfl, by simpa using HS.out, by simpa using HR.out, HF.out⟩

theorem alloc_zero32 (w : World) : (w.alloc (.cells ((List.replicate 32 (0 : UInt8)).map Bv).toArray 46)).heap[w.heap.size]? = some (.cells ((List.replicate 32 (0 : UInt8)).map Bv).toArray 46 (0, 0)) := heap_alloc_new _ _

theorem info_hash' : (Tryd.prog.info? 46).map (·.size) = some 32 := by kernel_rfl
/-- A hash and an error, at a return. -/
theorem ret_hash {fn : Func} {p u : Tmp} (h : fn.results = #[.cell p 46, .tmp u]) {tmps : Array Value} {w : World} {g : Nat} {hs : List UInt8} {t : TypeId} (hp : tmps.getD p undef = .pointer (some ⟨g, 0, none⟩))
    (hg : w.heap[g]? = some (.cells (hs.map Bv).toArray t (0, 0))) (hl : hs.length = 32) :
    (results fn tmps).run Tryd.prog w = .ok (.tuple #[.agg (hs.map Bv).toArray, tmps.getD u undef]) w := by
  rw [results_cell_tmp h, hp]
  simp [asAddr, run_loadVar_row w g t 46 _ _ _ hg Tryd.underlying46 rfl (by rw [info_hash']; simp [hl]), Result.andThen]

theorem load_hash' {ops : Array Oper} {rest : List Oper} {o : Oper} {a : Act} {w : World} {Q : Exit → Act → World → Prop} (hgd : o.guard = none) (x : Operand) (ho : o.op = .load 46 x)
    {b off : Nat} (hx : a.eval x = .pointer (some ⟨b, off, none⟩)) {h : List UInt8} (hc : At w b off (h.map Bv)) (hl : h.length = 32)
    (hK : wpList Tryd.prog ops Q rest (a.put o.dst (.agg (h.map Bv).toArray)) w) : wpList Tryd.prog ops Q (o :: rest) a w :=
  wpList_load_at hgd _ x ho b off hx (h.map Bv) _ hc Tryd.underlying46 rfl (by rw [info_hash']; simp [hl]) hK
theorem store_hash {ops : Array Oper} {rest : List Oper} {o : Oper} {a : Act} {w : World} {Q : Exit → Act → World → Prop} (hgd : o.guard = none) (x y : Operand) (ho : o.op = .store 46 x y)
    {b : Nat} (hx : a.eval x = .pointer (some ⟨b, 0, none⟩)) {h : List UInt8} (hy : a.eval y = .agg (h.map Bv).toArray) {old : Array Value} {t : TypeId} (hb : w.heap[b]? = some (.cells old t (0, 0))) (ho2 : old.size = 32) (hl : h.length = 32)
    (hK : ∀ w', w'.heap[b]? = some (.cells (h.map Bv).toArray t (0, 0)) → Fr (fun k => k = b) w w' → wpList Tryd.prog ops Q rest (a.put o.dst undef) w') : wpList Tryd.prog ops Q (o :: rest) a w :=
  wpList_store_row hgd _ x y ho b hx (h.map Bv) hy old t hb (by simp [ho2, hl]) (Bv_oneCell _) (by rw [info_hash']; simp [hl]) (fun w' h1 h2 _ => hK w' h1 h2)

set_option maxRecDepth 100000 in
set_option maxHeartbeats 1000000 in
theorem rHash_ok (b : Nat) (xs : List UInt8) (w : World) (h : Rd w b xs) (hn : 32 ≤ xs.length) (hr : xs.length ≤ 140737488351232) :
    Calls Tryd.prog 27 #[.pointer (some ⟨b, 0, none⟩)] w fun e w' => e = .returned (.tuple #[.agg ((xs.take 32).map Bv).toArray, .int .i64 0]) ∧ Rd w' b (xs.drop 32) ∧ Fr (fun k => k = b) w w' := by
  have hlt := h.lt
  obtain ⟨ob, ho⟩ := h.ob
  have hobl := ho.lt (by intro e; subst e; simp at hn)
  have HH := Lib.hid (ho.fr ((Fr.refl (fun _ => False) w).alloc (.cells ((List.replicate 32 (0 : UInt8)).map Bv).toArray 46)) id (fun _ _ => id))
  have HOL := Lib.hid hobl
  clear h ho hobl
  go_enter Tryd.func27, Tryd.ntmps27
  go_wp2_with fail
  refine (take_stay b ob xs 0 32 _ HH.out (by omega) hr).mono ?_
  rintro e w1 ⟨aa, cc, rfl, hown, hst, hfr⟩
  have HG := Lib.hid ((hfr.block w.heap.size (by simp) (by omega)).trans (alloc_zero32 w))
  have HS := Lib.hid (Sl.own hown)
  have HR := Lib.hid hst
  have HF := Lib.hid hfr
  clear hown hst hfr
  go_wp2_with (refine copy_u8 rfl (.tmp 10) (.tmp 11) rfl HG.out HS.out rfl rfl (by simp) ?_)
  intro w2 hg2 hf2
  have hov : over [0, 0, 0, 0, 0, 0, 0, 0, 0, 0, 0, 0, 0, 0, 0, 0, 0, 0, 0, 0, 0, 0, 0, 0, 0, 0, 0, 0, 0, 0, 0, 0] 0 (List.take 32 (List.take 32 xs)) = xs.take 32 := by
    rw [List.take_take, Nat.min_self]; exact over_all _ _ (by simp; omega)
  obtain ⟨y, hy⟩ : ∃ y, y = xs.take 32 := ⟨_, rfl⟩
  rw [hov, ← hy] at hg2
  have hlen : y.length = 32 := by rw [hy]; simp; omega
  have HG2 := Lib.hid hg2
  have HLn := Lib.hid hlen
  have HY := Lib.hid hy
  have HA2 := Lib.hid (At.of_row (cs := y.map Bv) hg2)
  have hF2 : Fr (fun k => k = b) w w2 := (((Fr.refl (fun k => k = b) w).alloc (.cells ((List.replicate 32 (0 : UInt8)).map Bv).toArray 46)).trans HF.out).step hf2 (fun k hk => Or.inr (by omega))
  have HF2 := Lib.hid hF2
  have HR2 := Lib.hid (HR.out.fr hf2 (by omega) (fun k hk e => by have := HOL.out k hk; omega))
  clear hg2 hf2 hov hlen hF2 hy
  go_wp2_with (first | (refine load_hash' rfl (.tmp 2) rfl rfl HA2.out HLn.out ?_) | (refine store_hash rfl (.tmp 2) (.tmp 13) rfl rfl rfl HG2.out (by rw [List.size_toArray, List.length_map]; exact HLn.out) HLn.out ?_))
  intro w3 hg3 hf3
  have HG3 := Lib.hid hg3
  have HF3 := Lib.hid hf3
  clear hg3 hf3
  go_wp2
  refine bodyPost_ret (ret_hash rfl rfl HG3.out HLn.out) rfl ?_
  refine ⟨by rw [HY.out]; rfl, ?_, HF2.out.step HF3.out (fun k hk => Or.inr (by omega))⟩
  have := (HR2.out.fr HF3.out (by omega) (fun k hk e => by have := HOL.out k hk; omega)).rd
  simpa using this

set_option maxRecDepth 100000 in
set_option maxHeartbeats 1000000 in
theorem rHash_short (b : Nat) (xs : List UInt8) (w : World) (h : Rd w b xs) (hn : xs.length < 32) :
    Calls Tryd.prog 27 #[.pointer (some ⟨b, 0, none⟩)] w fun e w' => e = .returned (.tuple #[.agg ((List.replicate 32 (0 : UInt8)).map Bv).toArray, .int .i64 3]) ∧ Rd w' b xs ∧ Below w.heap.size w w' := by
  have HH := Lib.hid (h.below ((Below.refl _ w).alloc (Nat.le_refl _) (.cells ((List.replicate 32 (0 : UInt8)).map Bv).toArray 46)))
  have HB0 := Lib.hid h
  clear h
  go_enter Tryd.func27, Tryd.ntmps27
  go_wp2_with fail
  refine (take_short b xs 0 32 _ HH.out (by omega) (by omega) (by omega) (by omega)).mono ?_
  rintro e w1 ⟨rfl, hw1⟩
  have hg1 : w1.heap[w.heap.size]? = some (.cells ((List.replicate 32 (0 : UInt8)).map Bv).toArray 46 (0, 0)) := by rw [← hw1]; exact alloc_zero32 w
  have hb1 : Below w.heap.size w w1 := by rw [← hw1]; exact (Below.refl _ _).alloc (Nat.le_refl _) _
  obtain ⟨y, hy⟩ : ∃ y, y = List.replicate 32 (0 : UInt8) := ⟨_, rfl⟩
  rw [← hy] at hg1
  have hlen : y.length = 32 := by rw [hy]; simp
  have HLn := Lib.hid hlen
  have HG := Lib.hid hg1
  have HB1 := Lib.hid hb1
  have HY := Lib.hid hy
  clear hy hlen hg1 hb1 hw1
  go_wp2_with (refine copy_u8 (vs := .slice none 0 0) (n := 0) (ys := []) (cur := y) rfl (.tmp 10) (.tmp 11) rfl HG.out (Sl.nil w1 1) rfl rfl (by simp) ?_)
  intro w2 hg2 hf2
  have hov : over y 0 [] = y := by simp [over]
  have hg2' : w2.heap[w.heap.size]? = some (.cells (y.map Bv).toArray 46 (0, 0)) := by simpa [over] using hg2
  have HG2 := Lib.hid hg2'
  have HA2 := Lib.hid (At.of_row (cs := y.map Bv) hg2')
  have hb2 := HB1.out.trans (hf2.below HB1.out.size (fun k hk => by omega))
  have HB2 := Lib.hid hb2
  clear hg2 hf2 hov hg2' hb2
  go_wp2_with (first | (refine load_hash' rfl (.tmp 2) rfl rfl HA2.out HLn.out ?_) | (refine store_hash rfl (.tmp 2) (.tmp 13) rfl rfl rfl HG2.out (by rw [List.size_toArray, List.length_map]; exact HLn.out) HLn.out ?_))
  intro w3 hg3 hf3
  have HG3 := Lib.hid hg3
  have hb3 := HB2.out.trans (hf3.below HB2.out.size (fun k hk => by omega))
  have HB3 := Lib.hid hb3
  clear hg3 hf3 hb3
  go_wp2
  refine bodyPost_ret (ret_hash rfl rfl HG3.out HLn.out) rfl ?_
  exact ⟨by rw [HY.out]; rfl, HB0.out.below HB3.out, HB3.out⟩

/-- The reference's Reader. -/
def Rf (w : World) (b : Nat) (xs : List UInt8) : Prop :=
  ∃ v, w.heap[b]? = some (.cells #[v] 43 (0, 0)) ∧ Sl w 1 v xs.length (xs.map Bv)
/-- It, and the block of its bytes. -/
def RfO (w : World) (b : Nat) (ob : Option Nat) (xs : List UInt8) : Prop :=
  ∃ v, w.heap[b]? = some (.cells #[v] 43 (0, 0)) ∧ Sl w 1 v xs.length (xs.map Bv) ∧ v.ownBlock = ob
theorem RfO.rf {w : World} {b : Nat} {ob : Option Nat} {xs : List UInt8} (h : RfO w b ob xs) : Rf w b xs := by
  obtain ⟨v, h1, h2, _⟩ := h; exact ⟨v, h1, h2⟩
theorem Rf.ob {w : World} {b : Nat} {xs : List UInt8} (h : Rf w b xs) : ∃ ob, RfO w b ob xs := by
  obtain ⟨v, h1, h2⟩ := h; exact ⟨_, v, h1, h2, rfl⟩
theorem Rf.lt {w : World} {b : Nat} {xs : List UInt8} (h : Rf w b xs) : b < w.heap.size := by
  obtain ⟨v, h1, _⟩ := h; exact lt_of_block h1
theorem RfO.fr {w w' : World} {S : Nat → Prop} {b : Nat} {ob : Option Nat} {xs : List UInt8} (h : RfO w b ob xs) (hf : Fr S w w') (h1 : ¬ S b) (h2 : ∀ k, ob = some k → ¬ S k) : RfO w' b ob xs := by
  obtain ⟨v, hb, hs, rfl⟩ := h
  refine ⟨v, (hf.block b (lt_of_block hb) h1).trans hb, hs.fr hf ?_, rfl⟩
  rintro a m c rfl
  exact h2 _ rfl
theorem Rf.fr {w w' : World} {S : Nat → Prop} {b : Nat} {xs : List UInt8} (h : Rf w b xs) (hf : Fr S w w') (h1 : ¬ S b) (h2 : ∀ p (x : UInt8), w.cell? p = some (Bv x) → ¬ S p.block) : Rf w' b xs := by
  obtain ⟨v, hb, hs⟩ := h
  refine ⟨v, (hf.block b (lt_of_block hb) h1).trans hb, hs.cells ?_⟩
  intro p u hu hp
  obtain ⟨x, _, rfl⟩ := List.mem_map.1 hu
  exact hf.cell hp (h2 p x hp)
theorem Rf.below {w w' : World} {b : Nat} {xs : List UInt8} (h : Rf w b xs) (hf : Below w.heap.size w w') : Rf w' b xs :=
  h.fr (Fr.of_below (S := fun _ => False) hf) id (fun _ _ _ => id)
theorem RfO.lt {w : World} {b : Nat} {ob : Option Nat} {xs : List UInt8} (h : RfO w b ob xs) (hx : xs ≠ []) : ∀ k, ob = some k → k < w.heap.size := by
  obtain ⟨v, hb, ⟨_, a, c, rfl, _, _, h4⟩, rfl⟩ := h
  obtain ⟨x, l, rfl⟩ : ∃ x l, xs = x :: l := by cases xs with | nil => exact absurd rfl hx | cons x l => exact ⟨x, l, rfl⟩
  obtain ⟨b', o', rfl, hc⟩ := h4 0 (Bv x) rfl
  intro k hk
  simp only [Value.ownBlock, Option.some.injEq] at hk
  subst hk
  exact World.block_lt_of_cell? w _ hc
theorem rf_pre {w : World} {b : Nat} {xs : List UInt8} (h : Rf w b xs) : ∃ a cap, w.cell? ⟨b, 0, none⟩ = some (.slice a xs.length cap) ∧ w.frozen? ⟨b, 0, none⟩ = false ∧ w.heap[b]? = some (.cells #[.slice a xs.length cap] 43 (0, 0)) ∧ Sl w 1 (.slice a xs.length cap) xs.length (xs.map Bv) := by
  obtain ⟨v, hb, hs⟩ := h
  obtain ⟨a, cap, rfl, _⟩ := hs.len
  exact ⟨a, cap, cell_of_one hb, free_of_one hb, hb, hs⟩

set_option maxHeartbeats 400000 in
theorem fRaw_neg (b : Nat) (n : Int) (w : World) (h : n < 0) :
    Calls Tryd.prog 56 #[.pointer (some ⟨b, 0, none⟩), .int .i64 n] w fun e w' => e = .returned (.tuple #[.slice none 0 0, .int .i64 2]) ∧ w = w' := by
  go_enter Tryd.func56, Tryd.ntmps56
  go_wp2
  go_ret2
  exact ⟨rfl, rfl⟩

set_option maxHeartbeats 400000 in
theorem fRaw_short (b : Nat) (xs : List UInt8) (n : Int) (w : World) (h : Rf w b xs) (hn : (xs.length : Int) < n) :
    Calls Tryd.prog 56 #[.pointer (some ⟨b, 0, none⟩), .int .i64 n] w fun e w' => e = .returned (.tuple #[.slice none 0 0, .int .i64 3]) ∧ w = w' := by
  obtain ⟨a, cap, hc, hf, hb, hs⟩ := rf_pre h
  have b1 : ¬ n < 0 := by omega
  clear hb hs h hf
  go_enter Tryd.func56, Tryd.ntmps56
  go_wp2
  go_ret2
  exact ⟨rfl, rfl⟩

set_option maxHeartbeats 400000 in
theorem fRaw_ok (b : Nat) (ob : Option Nat) (xs : List UInt8) (n : Nat) (w : World) (h : RfO w b ob xs) (hn : n ≤ xs.length) (hr : xs.length ≤ 140737488351232) :
    Calls Tryd.prog 56 #[.pointer (some ⟨b, 0, none⟩), .int .i64 (n : Int)] w fun e w' => ∃ aa cc, e = .returned (.tuple #[.slice aa n cc, .int .i64 0]) ∧ Sl w' 1 (.slice aa n cc) n ((xs.take n).map Bv) ∧ RfO w' b ob (xs.drop n) ∧ Fr (fun k => k = b) w w' ∧ w'.heap.size = w.heap.size := by
  obtain ⟨v, hb, hs, rfl⟩ := h
  obtain ⟨a, cap, rfl, _⟩ := hs.len
  have hc := cell_of_one hb
  have hf := free_of_one hb
  obtain ⟨A, C, q, hA⟩ := cut_u8_hi hs (hi := n) hn
  obtain ⟨A', C', q', hA', hoA⟩ := cut_u8_lo' hs (lo := n) hn
  have HA := Lib.hid hA
  have HA' := Lib.hid hA'
  have HOA := Lib.hid hoA
  have HB := Lib.hid hb
  have b1 : ¬ (n : Int) < 0 := by omega
  have b2 : ¬ (xs.length : Int) < (n : Int) := by omega
  have HC := Lib.hid hc
  clear hA hA' hoA hb hs
  go_enter Tryd.func56, Tryd.ntmps56
  go_wp2
  go_ret2
  have hkeep : ∀ (ys : List UInt8) (p : Addr) (u : Value), u ∈ ys.map Bv → w.cell? p = some u → (w.setCell ⟨b, 0, none⟩ (.slice A' (xs.length - n) C')).cell? p = some u := by
    intro ys p u hu hp
    obtain ⟨x, _, rfl⟩ := List.mem_map.1 hu
    exact cell_set_other hp HC.out (Bv_ne_slice x _ _ _)
  refine ⟨_, _, rfl, (by have := HA.out.cells (hkeep _); rwa [List.map_take] at this), ⟨_, one_setCell HB.out, ?_, HOA.out⟩, Fr.set (S := fun k => k = b) (Fr.refl _ _) b 0 rfl _, by simp⟩
  rw [List.length_drop]
  exact HA'.out.cells (hkeep _)

end Go.Proofs.YtdhlcofjpkbgaaaDoor
