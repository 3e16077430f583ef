/- Walks: codec.Reader. -/
import Derived.Test.YtdmgmpagnmmehaaDoorCodecA
namespace Go.Proofs.YtdmgmpagnmmehaaDoor
open Go.RowKit

theorem Bv_ne_slice (x : UInt8) (a : Option Addr) (n c : Nat) : Bv x ≠ .slice a n c := by simp [Bv]

/-- Blocks that hold no reader's own cell may be turned. -/
theorem Rd.fr {w w' : World} {S : Nat → Prop} {b : Nat} {xs : List UInt8} (h : Rd w b xs) (hf : Fr S w w') (h1 : ¬ S b) (h2 : ∀ p (x : UInt8), w.cell? p = some (Bv x) → ¬ S p.block) : Rd w' b xs := by
  obtain ⟨v, hb, hs⟩ := h
  refine ⟨v, (hf.block b (lt_of_block hb) h1).trans hb, hs.cells ?_⟩
  intro p u hu hp
  obtain ⟨x, _, rfl⟩ := List.mem_map.1 hu
  exact hf.cell hp (h2 p x hp)
theorem Rd.below {w w' : World} {b : Nat} {xs : List UInt8} (h : Rd w b xs) (hf : Below w.heap.size w w') : Rd w' b xs :=
  h.fr (Fr.of_below (S := fun _ => False) hf) id (fun _ _ _ => id)

set_option maxHeartbeats 400000 in
theorem read_any (v : Value) (xs : List UInt8) (w : World) (h : Sl w 1 v xs.length (xs.map Bv)) (hr : xs.length ≤ 140737488351232) :
    Calls Tryd.prog 34 #[v] w fun e w' => ∃ b, w.heap.size ≤ b ∧ e = .returned (.pointer (some ⟨b, 0, none⟩)) ∧ Rd w' b xs ∧ Below w.heap.size w w' := by
  have HH := Lib.hid h
  clear h
  go_enter Tryd.func34, Tryd.ntmps34
  go_wp2_with fail
  refine (clone_any v xs xs.length w HH.out hr).mono ?_
  rintro e w1 ⟨aa, cc, rfl, hown, hb⟩
  have HO := Lib.hid hown
  have HB := Lib.hid hb
  have hs := hb.size
  clear hown hb
  go_wp2
  go_ret
  refine ⟨w1.heap.size, hs, rfl, ⟨_, heap_alloc_new _ _, ?_⟩, HB.out.alloc hs _⟩
  exact (Sl.own HO.out).below ((Below.refl _ _).alloc (Nat.le_refl _) _)

/-- The next bytes, behind some that are passed. -/
theorem take_pre (b : Nat) (xs : List UInt8) (w : World) (h : Rd w b xs) : ∃ a cap, w.cell? ⟨b, 0, none⟩ = some (.slice a xs.length cap) ∧ w.frozen? ⟨b, 0, none⟩ = false ∧ w.heap[b]? = some (.cells #[.slice a xs.length cap] 109 (0, 0)) ∧ Sl w 1 (.slice a xs.length cap) xs.length (xs.map Bv) := by
  obtain ⟨v, hb, hs⟩ := h
  obtain ⟨a, cap, rfl, _⟩ := hs.len
  exact ⟨a, cap, cell_of_one hb, free_of_one hb, hb, hs⟩

set_option maxHeartbeats 400000 in
theorem take_short (b : Nat) (xs : List UInt8) (skip n : Int) (w : World) (h : Rd w b xs) (h0 : 0 ≤ skip) (h1 : skip ≤ 1) (hn : (xs.length : Int) - skip < n) (hr : xs.length ≤ 140737488351232) :
    Calls Tryd.prog 63 #[.pointer (some ⟨b, 0, none⟩), .int .i64 skip, .int .i64 n] w fun e w' => e = .returned (.tuple #[.slice none 0 0, .int .i64 3]) ∧ w = w' := by
  obtain ⟨a, cap, hc, hf, hb, hs⟩ := take_pre b xs w h
  clear hb hs h
  go_enter Tryd.func63, Tryd.ntmps63
  go_wp2
  go_ret2
  exact ⟨rfl, rfl⟩

/-- A Reader, and the block of its bytes. -/
def RdO (w : World) (b : Nat) (ob : Option Nat) (xs : List UInt8) : Prop :=
  ∃ v, w.heap[b]? = some (.cells #[v] 109 (0, 0)) ∧ Sl w 1 v xs.length (xs.map Bv) ∧ v.ownBlock = ob
theorem RdO.rd {w : World} {b : Nat} {ob : Option Nat} {xs : List UInt8} (h : RdO w b ob xs) : Rd w b xs := by
  obtain ⟨v, h1, h2, _⟩ := h; exact ⟨v, h1, h2⟩
theorem Rd.ob {w : World} {b : Nat} {xs : List UInt8} (h : Rd w b xs) : ∃ ob, RdO w b ob xs := by
  obtain ⟨v, h1, h2⟩ := h; exact ⟨_, v, h1, h2, rfl⟩
theorem RdO.fr {w w' : World} {S : Nat → Prop} {b : Nat} {ob : Option Nat} {xs : List UInt8} (h : RdO w b ob xs) (hf : Fr S w w') (h1 : ¬ S b) (h2 : ∀ k, ob = some k → ¬ S k) : RdO w' b ob xs := by
  obtain ⟨v, hb, hs, rfl⟩ := h
  refine ⟨v, (hf.block b (lt_of_block hb) h1).trans hb, hs.fr hf ?_, rfl⟩
  rintro a m c rfl
  exact h2 _ rfl
/-- The block of bytes that are there. -/
theorem RdO.lt {w : World} {b : Nat} {ob : Option Nat} {xs : List UInt8} (h : RdO w b ob xs) (hx : xs ≠ []) : ∀ k, ob = some k → k < w.heap.size := by
  obtain ⟨v, hb, ⟨_, a, c, rfl, _, _, h4⟩, rfl⟩ := h
  obtain ⟨x, l, rfl⟩ : ∃ x l, xs = x :: l := by cases xs with | nil => exact absurd rfl hx | cons x l => exact ⟨x, l, rfl⟩
  obtain ⟨b', o', rfl, hc⟩ := h4 0 (Bv x) rfl
  intro k hk
  simp only [Value.ownBlock, Option.some.injEq] at hk
  subst hk
  exact World.block_lt_of_cell? w _ hc

set_option maxHeartbeats 400000 in
theorem take_stay (b : Nat) (ob : Option Nat) (xs : List UInt8) (skip n : Nat) (w : World) (h0 : RdO w b ob xs) (hn : skip + n ≤ xs.length) (hr : xs.length ≤ 140737488351232) :
    Calls Tryd.prog 63 #[.pointer (some ⟨b, 0, none⟩), .int .i64 (skip : Int), .int .i64 (n : Int)] w fun e w' => ∃ aa cc, e = .returned (.tuple #[.slice aa n cc, .int .i64 0]) ∧
      w'.ownsRow w.heap.size 5 1 (.slice aa n cc) n (((xs.drop skip).take n).map Bv) ∧ RdO w' b ob (xs.drop (skip + n)) ∧ Fr (fun k => k = b) w w' := by
  obtain ⟨v, hb, hs, rfl⟩ := h0
  obtain ⟨a, cap, rfl, _⟩ := hs.len
  have hc := cell_of_one hb
  have hf := free_of_one hb
  obtain ⟨A, C, q, hA⟩ := cut_u8 hs (lo := skip) (hi := skip + n) (by omega) hn
  obtain ⟨A', C', q', hA', hoA⟩ := cut_u8_lo' hs (lo := skip + n) hn
  have e : skip + n - skip = n := by omega
  have ec : ((skip + n : Nat) : Int) = (skip : Int) + (n : Int) := by omega
  rw [e] at hA q
  rw [ec] at q q'
  have HA := Lib.hid hA
  have HA' := Lib.hid hA'
  have HOA := Lib.hid hoA
  have HB := Lib.hid hb
  have hlt : b < w.heap.size := lt_of_block hb
  have b1 : ¬ (xs.length : Int) - (skip : Int) < (n : Int) := by omega
  clear hA hA' hb hs e ec hoA
  go_enter Tryd.func63, Tryd.ntmps63
  go_wp2_with fail
  refine (clone_any _ _ n _ HA.out (by omega)).mono ?_
  rintro e w1 ⟨aa, cc, rfl, hown, hbel⟩
  have c1 := (hbel.cell (p := ⟨b, 0, none⟩) hlt).trans hc
  have f1 := (hbel.frozen (p := ⟨b, 0, none⟩) hlt).trans hf
  have HB1 := Lib.hid ((hbel.block b hlt).trans HB.out)
  have HA1 := Lib.hid (HA'.out.below hbel)
  have HO := Lib.hid hown
  have HBel := Lib.hid hbel
  clear hown hbel hc hf
  go_wp2
  go_ret2
  refine ⟨_, _, rfl, HO.out.set_other ?_ 0 _, ?_, Fr.set (S := fun k => k = b) (Fr.of_below HBel.out) b 0 rfl _⟩
  · intro e
    have := HO.out.lt b e
    omega
  · refine ⟨_, one_setCell HB1.out, ?_, HOA.out⟩
    have e : (xs.drop (skip + n)).length = xs.length - (skip + n) := List.length_drop
    rw [e]
    refine HA1.out.cells ?_
    intro p u hu hp
    obtain ⟨x, _, rfl⟩ := List.mem_map.1 hu
    exact cell_set_other hp c1 (Bv_ne_slice x _ _ _)

theorem take_ok (b : Nat) (xs : List UInt8) (skip n : Nat) (w : World) (h : Rd w b xs) (hn : skip + n ≤ xs.length) (hr : xs.length ≤ 140737488351232) :
    Calls Tryd.prog 63 #[.pointer (some ⟨b, 0, none⟩), .int .i64 (skip : Int), .int .i64 (n : Int)] w fun e w' => ∃ aa cc, e = .returned (.tuple #[.slice aa n cc, .int .i64 0]) ∧
      w'.ownsRow w.heap.size 5 1 (.slice aa n cc) n (((xs.drop skip).take n).map Bv) ∧ Rd w' b (xs.drop (skip + n)) ∧ Fr (fun k => k = b) w w' := by
  obtain ⟨ob, ho⟩ := h.ob
  exact (take_stay b ob xs skip n w ho hn hr).mono fun _ _ ⟨aa, cc, h1, h2, h3, h4⟩ => ⟨aa, cc, h1, h2, h3.rd, h4⟩

theorem rLeft_any (b : Nat) (xs : List UInt8) (w : World) (h : Rd w b xs) :
    Calls Tryd.prog 65 #[.pointer (some ⟨b, 0, none⟩)] w fun e w' => e = .returned (.int .i64 (xs.length : Int)) ∧ w = w' := by
  obtain ⟨a, cap, hc, hf, hb, hs⟩ := take_pre b xs w h
  clear hb hs h hf
  go_enter Tryd.func65, Tryd.ntmps65
  go_wp2
  go_ret
  exact ⟨rfl, rfl⟩

set_option maxHeartbeats 400000 in
theorem rNum_nil (w : World) : Calls Tryd.prog 35 #[.pointer none, .int .i64 1] w fun e w' => e = .returned (.tuple #[.int .u64 0, .int .i64 1]) ∧ w = w' := by
  go_enter Tryd.func35, Tryd.ntmps35
  go_wp2
  go_ret2
  exact ⟨rfl, rfl⟩

set_option maxHeartbeats 400000 in
theorem rNum_ok (b : Nat) (xs : List UInt8) (n : Nat) (w : World) (h : Rd w b xs) (h8 : n ≤ 8) (hn : n ≤ xs.length) (hr : xs.length ≤ 140737488351232) :
    Calls Tryd.prog 35 #[.pointer (some ⟨b, 0, none⟩), .int .i64 (n : Int)] w fun e w' => e = .returned (.tuple #[.int .u64 (getB (xs.take n) : Int), .int .i64 0]) ∧ Rd w' b (xs.drop n) ∧ Fr (fun k => k = b) w w' := by
  have HH := Lib.hid h
  have b1 : decide ((n : Int) < 0) = false := by simp
  have b2 : decide ((8 : Int) < (n : Int)) = false := by simp; omega
  clear h
  go_enter Tryd.func35, Tryd.ntmps35
  go_wp2_with fail
  refine (take_ok b xs 0 n _ HH.out (by omega) hr).mono ?_
  rintro e w1 ⟨aa, cc, rfl, hown, hrd, hfr⟩
  have HS := Lib.hid (Sl.own hown)
  have HR := Lib.hid hrd
  have HF := Lib.hid hfr
  clear hown hrd hfr
  go_wp2_with fail
  refine (numGet_ok _ _ n _ HS.out h8).mono ?_
  rintro e w2 ⟨rfl, rfl⟩
  go_wp2
  go_ret2
  exact ⟨by simp, by simpa using HR.out, HF.out⟩

set_option maxHeartbeats 400000 in
theorem rNum_short (b : Nat) (xs : List UInt8) (n : Nat) (w : World) (h : Rd w b xs) (h8 : n ≤ 8) (hn : xs.length < n) :
    Calls Tryd.prog 35 #[.pointer (some ⟨b, 0, none⟩), .int .i64 (n : Int)] w fun e w' => e = .returned (.tuple #[.int .u64 0, .int .i64 3]) ∧ w = w' := by
  have HH := Lib.hid h
  have b1 : decide ((n : Int) < 0) = false := by simp
  have b2 : decide ((8 : Int) < (n : Int)) = false := by simp; omega
  clear h
  go_enter Tryd.func35, Tryd.ntmps35
  go_wp2_with fail
  refine (take_short b xs 0 n _ HH.out (by omega) (by omega) (by omega) (by omega)).mono ?_
  rintro e w1 ⟨rfl, rfl⟩
  go_wp2
  go_ret2
  exact ⟨rfl, rfl⟩

theorem rNum_arg (b : Nat) (n : Int) (w : World) (h : n < 0 ∨ 8 < n) :
    Calls Tryd.prog 35 #[.pointer (some ⟨b, 0, none⟩), .int .i64 n] w fun e w' => e = .returned (.tuple #[.int .u64 0, .int .i64 2]) ∧ w = w' := by
  rcases h with h | h
  · go_enter Tryd.func35, Tryd.ntmps35
    go_wp2
    go_ret2
    exact ⟨rfl, rfl⟩
  · have h0 : ¬ n < 0 := by omega
    go_enter Tryd.func35, Tryd.ntmps35
    go_wp2
    go_ret2
    exact ⟨rfl, rfl⟩

/-- A text as bytes. -/
def strB (s : ByteArray) : List UInt8 := UInt8.ofNat s.size :: s.data.toList
theorem strB_length (s : ByteArray) : (strB s).length = s.size + 1 := by
  simp only [strB, List.length_cons, Array.length_toList]; rfl

set_option maxHeartbeats 400000 in
theorem wStr_ok (b base : Nat) (row : Option Nat) (os : List UInt8) (s : ByteArray) (w : World) (hw : Wr w base b row os) (hbase : base ≤ w.heap.size) (h8 : s.size ≤ 255) (hr : os.length + 256 ≤ 140737488351232) :
    Calls Tryd.prog 29 #[.pointer (some ⟨b, 0, none⟩), .string s] w fun e w' => e = .returned (.int .i64 0) ∧ Laid w w' base b row (os ++ strB s) := by
  have HW := Lib.hid hw
  have hown := World.ownsRow_lit (e := 5) (size := 1) (base := w.heap.size) w #[.int .u8 (s.size : Int)] 1 (Nat.le_refl _) (by decide) rfl
  have ev : ([.int .u8 (s.size : Int)] : List Value) = [UInt8.ofNat s.size].map Bv := by simp [Bv, UInt8.toNat_ofNat', Nat.mod_eq_of_lt (show s.size < 256 by omega)]
  have hown' : (w.alloc (.cells #[.int .u8 (s.size : Int)] 5)).ownsRow w.heap.size 5 1 (.slice (some ⟨w.heap.size, 0, none⟩) 1 1) 1 ([UInt8.ofNat s.size].map Bv) := by rw [← ev]; exact hown
  have HO := Lib.hid hown'
  clear hw hown hown' ev
  go_enter Tryd.func29, Tryd.ntmps29
  go_wp2_with (at_builtin; refine append_str rfl (.tmp 14) (.tmp 15) rfl HO.out rfl rfl (by omega) (by simp) ?_)
  intro v' w1 hown hf
  have hb1 : Below w.heap.size w w1 := ((Below.refl _ _).alloc (Nat.le_refl _) _).trans (hf.below (by simp) (fun k h => by simp [Value.ownBlock] at h; omega))
  have hw1 := Lib.hid (HW.out.fr (Fr.of_below (S := fun _ => False) hb1) id (fun _ _ => id))
  have HB := Lib.hid hb1
  have hs := hb1.size
  have hS : Sl w1 1 v' (strB s).length ((strB s).map Bv) := by
    rw [strB_length, Nat.add_comm]
    exact Sl.own hown
  have HS := Lib.hid hS
  clear hS hown hf hb1
  go_wp2_with fail
  refine (add_ok b base row os (strB s) _ w1 hw1.out (by omega) HS.out (by rw [strB_length]; omega)).mono ?_
  rintro e w2 ⟨rfl, hl⟩
  have HL := Lib.hid hl
  clear hl
  go_wp2
  go_ret
  obtain ⟨row', a1, a2, a3⟩ := HL.out
  exact ⟨rfl, row', a1, (Fr.of_below HB.out).trans a2, fun k hk => (a3 k hk).imp id (fun h => by omega)⟩

theorem wStr_long (b : Nat) (s : ByteArray) (w : World) (h8 : 255 < s.size) :
    Calls Tryd.prog 29 #[.pointer (some ⟨b, 0, none⟩), .string s] w fun e w' => e = .returned (.int .i64 2) ∧ w = w' := by
  go_enter Tryd.func29, Tryd.ntmps29
  go_wp2_with fail
  refine (add_err b 2 _ w (by decide)).mono ?_
  rintro e w1 ⟨rfl, rfl⟩
  go_wp2
  go_ret
  exact ⟨rfl, rfl⟩

theorem same_any (v1 v2 : Value) (n1 n2 : Nat) (xs ys : List UInt8) (w : World) (h1 : Sl w 1 v1 n1 (xs.map Bv)) (h2 : Sl w 1 v2 n2 (ys.map Bv)) :
    Calls Tryd.prog 15 #[v1, v2] w fun e w' => e = .returned (.bool (decide (xs = ys))) ∧ w = w' := by
  have q1 := toStr_u8 h1
  have q2 := toStr_u8 h2
  clear h1 h2
  go_enter Tryd.func15, Tryd.ntmps15
  go_wp2
  go_ret
  rw [show (decide (xs = ys)) = (xs == ys) by rw [Bool.eq_iff_iff]; simp]
  exact ⟨rfl, rfl⟩

set_option maxHeartbeats 400000 in
theorem rStr_ok (b : Nat) (c : UInt8) (xs : List UInt8) (w : World) (h : Rd w b (c :: xs)) (hn : c.toNat ≤ xs.length) (hr : xs.length + 1 ≤ 140737488351232) :
    Calls Tryd.prog 36 #[.pointer (some ⟨b, 0, none⟩)] w fun e w' => e = .returned (.tuple #[.string ⟨(xs.take c.toNat).toArray⟩, .int .i64 0]) ∧ Rd w' b (xs.drop c.toNat) ∧ Fr (fun k => k = b) w w' := by
  obtain ⟨a, cap, hc, hf, hb, hs⟩ := take_pre b _ w h
  obtain ⟨b', o', rfl, hc0⟩ : ∃ b' o', a = some ⟨b', o', none⟩ ∧ w.cell? ⟨b', o', none⟩ = some (.int .u8 (c.toNat : Int)) := by
    obtain ⟨_, a', cap', e, _, _, hcs⟩ := hs
    obtain ⟨b', o', rfl, h0⟩ := hcs 0 (Bv c) rfl
    simp only [Value.slice.injEq, true_and] at e
    exact ⟨b', o', e.1, h0⟩
  have HH := Lib.hid h
  have hc256 := c.toNat_lt
  clear hb hs h hf
  go_enter Tryd.func36, Tryd.ntmps36
  go_wp2_with fail
  refine (rLeft_any b _ _ HH.out).mono ?_
  rintro e w1 ⟨rfl, rfl⟩
  rw [List.length_cons]
  go_wp2_with fail
  refine (take_ok b (c :: xs) 1 c.toNat _ HH.out (by rw [List.length_cons]; omega) (by rw [List.length_cons]; omega)).mono ?_
  rintro e w1 ⟨aa, cc, rfl, hown, hrd, hfr⟩
  have q := toStr_u8 (Sl.own hown)
  have HR := Lib.hid hrd
  have HF := Lib.hid hfr
  clear hown hrd hfr
  go_wp2
  go_ret2
  refine ⟨rfl, ?_, HF.out⟩
  have := HR.out
  rwa [Nat.add_comm, List.drop_succ_cons] at this

set_option maxHeartbeats 400000 in
theorem rStr_cut (b : Nat) (c : UInt8) (xs : List UInt8) (w : World) (h : Rd w b (c :: xs)) (hn : xs.length < c.toNat) (hr : xs.length + 1 ≤ 140737488351232) :
    Calls Tryd.prog 36 #[.pointer (some ⟨b, 0, none⟩)] w fun e w' => e = .returned (.tuple #[.string ⟨#[]⟩, .int .i64 3]) ∧ w = w' := by
  obtain ⟨a, cap, hc, hf, hb, hs⟩ := take_pre b _ w h
  obtain ⟨b', o', rfl, hc0⟩ : ∃ b' o', a = some ⟨b', o', none⟩ ∧ w.cell? ⟨b', o', none⟩ = some (.int .u8 (c.toNat : Int)) := by
    obtain ⟨_, a', cap', e, _, _, hcs⟩ := hs
    obtain ⟨b', o', rfl, h0⟩ := hcs 0 (Bv c) rfl
    simp only [Value.slice.injEq, true_and] at e
    exact ⟨b', o', e.1, h0⟩
  have HH := Lib.hid h
  have hc256 := c.toNat_lt
  have q : (convert 28 9 (.slice none 0 0)).run Tryd.prog w = .ok (.string ⟨#[]⟩) w := toStr_u8 (xs := []) (Sl.nil w 1)
  clear hb hs h hf
  go_enter Tryd.func36, Tryd.ntmps36
  go_wp2_with fail
  refine (rLeft_any b _ _ HH.out).mono ?_
  rintro e w1 ⟨rfl, rfl⟩
  rw [List.length_cons]
  go_wp2_with fail
  refine (take_short b (c :: xs) 1 c.toNat _ HH.out (by omega) (by omega) (by rw [List.length_cons]; omega) (by rw [List.length_cons]; omega)).mono ?_
  rintro e w1 ⟨rfl, rfl⟩
  go_wp2
  go_ret2
  exact ⟨rfl, rfl⟩

set_option maxHeartbeats 400000 in
theorem rStr_empty (b : Nat) (w : World) (h : Rd w b []) :
    Calls Tryd.prog 36 #[.pointer (some ⟨b, 0, none⟩)] w fun e w' => e = .returned (.tuple #[.string ⟨#[]⟩, .int .i64 3]) ∧ w = w' := by
  have HH := Lib.hid h
  have q : (convert 28 9 (.slice none 0 0)).run Tryd.prog w = .ok (.string ⟨#[]⟩) w := toStr_u8 (xs := []) (Sl.nil w 1)
  clear h
  go_enter Tryd.func36, Tryd.ntmps36
  go_wp2_with fail
  refine (rLeft_any b _ _ HH.out).mono ?_
  rintro e w1 ⟨rfl, rfl⟩
  go_wp2_with fail
  refine (take_short b [] 1 0 _ HH.out (by omega) (by omega) (by simp) (by simp)).mono ?_
  rintro e w1 ⟨rfl, rfl⟩
  go_wp2
  go_ret2
  exact ⟨rfl, rfl⟩

end Go.Proofs.YtdmgmpagnmmehaaDoor
