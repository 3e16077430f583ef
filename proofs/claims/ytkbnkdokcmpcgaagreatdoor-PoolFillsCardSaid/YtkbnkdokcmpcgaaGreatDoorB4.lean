/- The walk's law at a copy of bytes into a row that is known whole. Walks: codec.Reader. Walks: bytes.Trim of noughts. Walks: codec.Reader's End, Raw, Hash; the reference's Reader. -/
import Derived.Test.YtkbnkdokcmpcgaaGreatDoorB0
import Derived.Test.YtkbnkdokcmpcgaaGreatDoorB3
import Derived.Laws.CopyOwn
import Derived.Laws.ResultCell
import Derived.Deep.RegionWith
namespace Go.Proofs.YtkbnkdokcmpcgaaGreatDoor
open Go.RowKit

theorem size_u8' : (Tryz.prog.info? 5).map (·.size) = some 1 := by kernel_rfl

/-- 'ys' laid over 'cur' from a place on. -/
def over {α : Type} (cur : List α) (off : Nat) (ys : List α) : List α := cur.take off ++ (ys ++ cur.drop (off + ys.length))
theorem over_length {α : Type} (cur : List α) (off : Nat) (ys : List α) (h : off + ys.length ≤ cur.length) : (over cur off ys).length = cur.length := by simp [over]; omega
theorem over_all {α : Type} (cur ys : List α) (h : ys.length = cur.length) : over cur 0 ys = ys := by simp [over, h]

theorem copy_u8 {w : World} {ops : Array Oper} {rest : List Oper} {o : Oper} {a : Act} {Q : Exit → Act → World → Prop} (hgd : o.guard = none) (d s : Operand)
    (ho : o.op = .call { callee := .builtin .copy, args := #[d, s], argTypes := #[26, 26] })
    {g off dLen dCap : Nat} {vs : Value} {cur : List UInt8} {t : TypeId} (hg : w.heap[g]? = some (.cells (cur.map Bv).toArray t (0, 0))) {n : Nat} {ys : List UInt8} (hsrc : Sl w 1 vs n (ys.map Bv))
    (hd : a.eval d = .slice (some ⟨g, off, none⟩) dLen dCap) (hs : a.eval s = vs) (hfit : off + min n dLen ≤ cur.length)
    (h : ∀ w', w'.heap[g]? = some (.cells ((over cur off (ys.take (min n dLen))).map Bv).toArray t (0, 0)) → Fr (fun k => k = g) w w' → wpList Tryz.prog ops Q rest (a.put o.dst (.int .i64 (min n dLen : Nat))) w') :
    wpList Tryz.prog ops Q (o :: rest) a w := by
  obtain ⟨hl, sp, sCap, rfl, hsc, hnil, hc⟩ := hsrc
  have hyl : ys.length = n := by simpa using hl
  by_cases h0 : min n dLen = 0
  · refine wpList_copy_nothing hgd d s _ _ ho 5 Tryz.underlying26 size_u8' _ _ dLen dCap n sCap hd hs (by simpa [Nat.min_def] using h0) ?_
    have := h w (by rw [h0]; simpa [over] using hg) (Fr.refl _ _)
    rw [h0] at this
    exact this
  · have hn0 : 0 < n := by omega
    obtain ⟨b, o', rfl, _⟩ := hc 0 (Bv (ys[0]'(by omega))) (by simp [show 0 < ys.length by omega])
    have hlt : (ys.take (min n dLen)).length = min n dLen := by rw [List.length_take]; omega
    refine wpList_copy_own hgd d s _ _ ho 5 Tryz.underlying26 size_u8' g off dLen dCap ⟨b, o', none⟩ n sCap hd hs _ t hg ((ys.take (min n dLen)).map Bv) (by rw [List.length_map, hlt]) ?_ (by simp only [List.length_map, hlt, List.size_toArray]; exact hfit) (Bv_oneCell _) ?_
    · intro j u hj
      rw [List.map_take, List.getElem?_take] at hj
      split at hj
      · obtain ⟨b2, o2, e, hc2⟩ := hc j u hj
        simp only [Option.some.injEq, Addr.mk.injEq, and_true] at e
        obtain ⟨rfl, rfl⟩ := e
        rw [Addr.add_lit]; exact hc2
      · cases hj
    · have e2 : (((cur.map Bv).toArray).toList.take off ++ ((ys.take (min n dLen)).map Bv ++ ((cur.map Bv).toArray).toList.drop (off + ((ys.take (min n dLen)).map Bv).length))).toArray = ((over cur off (ys.take (min n dLen))).map Bv).toArray := by
        simp [over]
      rw [e2]
      have e3 : goInt ((ys.take (min n dLen)).map Bv).length = .int .i64 (min n dLen : Nat) := by rw [List.length_map, hlt]; rfl
      rw [e3]
      exact h _ (setRow_heap w g _ _ t _ hg) ⟨rfl, rfl, rfl, by simp, fun k _ hk => setRow_other w g k _ hk⟩

end Go.Proofs.YtkbnkdokcmpcgaaGreatDoor
namespace Go.Proofs.YtkbnkdokcmpcgaaGreatDoor
open Go.RowKit

theorem Bv_ne_slice (x : UInt8) (a : Option Addr) (n c : Nat) : Bv x ≠ .slice a n c := by simp [Bv]

/-- Blocks that hold no reader's own cell may be turned. -/
theorem Rd.fr {w w' : World} {S : Nat → Prop} {b : Nat} {xs : List UInt8} (h : Rd w b xs) (hf : Fr S w w') (h1 : ¬ S b) (h2 : ∀ p (x : UInt8), w.cell? p = some (Bv x) → ¬ S p.block) : Rd w' b xs := by
  obtain ⟨v, hb, hs⟩ := h
  refine ⟨v, (hf.block b (lt_of_block hb) h1).trans hb, hs.cells ?_⟩
  intro p u hu hp
  obtain ⟨x, _, rfl⟩ := List.mem_map.1 hu
  exact hf.cell hp (h2 p x hp)
theorem Rd.below {w w' : World} {b : Nat} {xs : List UInt8} (h : Rd w b xs) (hf : Below w.heap.size w w') : Rd w' b xs :=
  h.fr (Fr.of_below (S := fun _ => False) hf) id (fun _ _ _ => id)

set_option maxHeartbeats 400000 in
theorem read_any (v : Value) (xs : List UInt8) (w : World) (h : Sl w 1 v xs.length (xs.map Bv)) (hr : xs.length ≤ 140737488351232) :
    Calls Tryz.prog 117 #[v] w fun e w' => ∃ b, w.heap.size ≤ b ∧ e = .returned (.pointer (some ⟨b, 0, none⟩)) ∧ Rd w' b xs ∧ Below w.heap.size w w' := by
  have HH := Lib.hid h
  clear h
  go_enter Tryz.func117, Tryz.ntmps117
  go_wp2_with fail
  refine (clone_any v xs xs.length w HH.out hr).mono ?_
  rintro e w1 ⟨aa, cc, rfl, hown, hb⟩
  have HO := Lib.hid hown
  have HB := Lib.hid hb
  have hs := hb.size
  clear hown hb
  go_wp2
  go_ret
  refine ⟨w1.heap.size, hs, rfl, ⟨_, heap_alloc_new _ _, ?_⟩, HB.out.alloc hs _⟩
  exact (Sl.own HO.out).below ((Below.refl _ _).alloc (Nat.le_refl _) _)

/-- The next bytes, behind some that are passed. -/
theorem take_pre (b : Nat) (xs : List UInt8) (w : World) (h : Rd w b xs) : ∃ a cap, w.cell? ⟨b, 0, none⟩ = some (.slice a xs.length cap) ∧ w.frozen? ⟨b, 0, none⟩ = false ∧ w.heap[b]? = some (.cells #[.slice a xs.length cap] 258 (0, 0)) ∧ Sl w 1 (.slice a xs.length cap) xs.length (xs.map Bv) := by
  obtain ⟨v, hb, hs⟩ := h
  obtain ⟨a, cap, rfl, _⟩ := hs.len
  exact ⟨a, cap, cell_of_one hb, free_of_one hb, hb, hs⟩

set_option maxHeartbeats 400000 in
theorem take_short (b : Nat) (xs : List UInt8) (skip n : Int) (w : World) (h : Rd w b xs) (h0 : 0 ≤ skip) (h1 : skip ≤ 1) (hn : (xs.length : Int) - skip < n) (hr : xs.length ≤ 140737488351232) :
    Calls Tryz.prog 148 #[.pointer (some ⟨b, 0, none⟩), .int .i64 skip, .int .i64 n] w fun e w' => e = .returned (.tuple #[.slice none 0 0, .int .i64 3]) ∧ w = w' := by
  obtain ⟨a, cap, hc, hf, hb, hs⟩ := take_pre b xs w h
  clear hb hs h
  go_enter Tryz.func148, Tryz.ntmps148
  go_wp2
  go_ret2
  exact ⟨rfl, rfl⟩

/-- A Reader, and the block of its bytes. -/
def RdO (w : World) (b : Nat) (ob : Option Nat) (xs : List UInt8) : Prop :=
  ∃ v, w.heap[b]? = some (.cells #[v] 258 (0, 0)) ∧ Sl w 1 v xs.length (xs.map Bv) ∧ v.ownBlock = ob
theorem RdO.rd {w : World} {b : Nat} {ob : Option Nat} {xs : List UInt8} (h : RdO w b ob xs) : Rd w b xs := by
  obtain ⟨v, h1, h2, _⟩ := h; exact ⟨v, h1, h2⟩
theorem Rd.ob {w : World} {b : Nat} {xs : List UInt8} (h : Rd w b xs) : ∃ ob, RdO w b ob xs := by
  obtain ⟨v, h1, h2⟩ := h; exact ⟨_, v, h1, h2, rfl⟩
theorem RdO.fr {w w' : World} {S : Nat → Prop} {b : Nat} {ob : Option Nat} {xs : List UInt8} (h : RdO w b ob xs) (hf : Fr S w w') (h1 : ¬ S b) (h2 : ∀ k, ob = some k → ¬ S k) : RdO w' b ob xs := by
  obtain ⟨v, hb, hs, rfl⟩ := h
  refine ⟨v, (hf.block b (lt_of_block hb) h1).trans hb, hs.fr hf ?_, rfl⟩
  rintro a m c rfl
  exact h2 _ rfl
/-- The block of bytes that are there. -/
theorem RdO.lt {w : World} {b : Nat} {ob : Option Nat} {xs : List UInt8} (h : RdO w b ob xs) (hx : xs ≠ []) : ∀ k, ob = some k → k < w.heap.size := by
  obtain ⟨v, hb, ⟨_, a, c, rfl, _, _, h4⟩, rfl⟩ := h
  obtain ⟨x, l, rfl⟩ : ∃ x l, xs = x :: l := by cases xs with | nil => exact absurd rfl hx | cons x l => exact ⟨x, l, rfl⟩
  obtain ⟨b', o', rfl, hc⟩ := h4 0 (Bv x) rfl
  intro k hk
  simp only [Value.ownBlock, Option.some.injEq] at hk
  subst hk
  exact World.block_lt_of_cell? w _ hc

set_option maxHeartbeats 400000 in
theorem take_stay (b : Nat) (ob : Option Nat) (xs : List UInt8) (skip n : Nat) (w : World) (h0 : RdO w b ob xs) (hn : skip + n ≤ xs.length) (hr : xs.length ≤ 140737488351232) :
    Calls Tryz.prog 148 #[.pointer (some ⟨b, 0, none⟩), .int .i64 (skip : Int), .int .i64 (n : Int)] w fun e w' => ∃ aa cc, e = .returned (.tuple #[.slice aa n cc, .int .i64 0]) ∧
      w'.ownsRow w.heap.size 5 1 (.slice aa n cc) n (((xs.drop skip).take n).map Bv) ∧ RdO w' b ob (xs.drop (skip + n)) ∧ Fr (fun k => k = b) w w' := by
  obtain ⟨v, hb, hs, rfl⟩ := h0
  obtain ⟨a, cap, rfl, _⟩ := hs.len
  have hc := cell_of_one hb
  have hf := free_of_one hb
  obtain ⟨A, C, q, hA⟩ := cut_u8 hs (lo := skip) (hi := skip + n) (by omega) hn
  obtain ⟨A', C', q', hA', hoA⟩ := cut_u8_lo' hs (lo := skip + n) hn
  have e : skip + n - skip = n := by omega
  have ec : ((skip + n : Nat) : Int) = (skip : Int) + (n : Int) := by omega
  rw [e] at hA q
  rw [ec] at q q'
  have HA := Lib.hid hA
  have HA' := Lib.hid hA'
  have HOA := Lib.hid hoA
  have HB := Lib.hid hb
  have hlt : b < w.heap.size := lt_of_block hb
  have b1 : ¬ (xs.length : Int) - (skip : Int) < (n : Int) := by omega
  clear hA hA' hb hs e ec hoA
  go_enter Tryz.func148, Tryz.ntmps148
  go_wp2_with fail
  refine (clone_any _ _ n _ HA.out (by omega)).mono ?_
  rintro e w1 ⟨aa, cc, rfl, hown, hbel⟩
  have c1 := (hbel.cell (p := ⟨b, 0, none⟩) hlt).trans hc
  have f1 := (hbel.frozen (p := ⟨b, 0, none⟩) hlt).trans hf
  have HB1 := Lib.hid ((hbel.block b hlt).trans HB.out)
  have HA1 := Lib.hid (HA'.out.below hbel)
  have HO := Lib.hid hown
  have HBel := Lib.hid hbel
  clear hown hbel hc hf
  go_wp2
  go_ret2
  refine ⟨_, _, rfl, HO.out.set_other ?_ 0 _, ?_, Fr.set (S := fun k => k = b) (Fr.of_below HBel.out) b 0 rfl _⟩
  · intro e
    have := HO.out.lt b e
    omega
  · refine ⟨_, one_setCell HB1.out, ?_, HOA.out⟩
    have e : (xs.drop (skip + n)).length = xs.length - (skip + n) := List.length_drop
    rw [e]
    refine HA1.out.cells ?_
    intro p u hu hp
    obtain ⟨x, _, rfl⟩ := List.mem_map.1 hu
    exact cell_set_other hp c1 (Bv_ne_slice x _ _ _)

theorem take_ok (b : Nat) (xs : List UInt8) (skip n : Nat) (w : World) (h : Rd w b xs) (hn : skip + n ≤ xs.length) (hr : xs.length ≤ 140737488351232) :
    Calls Tryz.prog 148 #[.pointer (some ⟨b, 0, none⟩), .int .i64 (skip : Int), .int .i64 (n : Int)] w fun e w' => ∃ aa cc, e = .returned (.tuple #[.slice aa n cc, .int .i64 0]) ∧
      w'.ownsRow w.heap.size 5 1 (.slice aa n cc) n (((xs.drop skip).take n).map Bv) ∧ Rd w' b (xs.drop (skip + n)) ∧ Fr (fun k => k = b) w w' := by
  obtain ⟨ob, ho⟩ := h.ob
  exact (take_stay b ob xs skip n w ho hn hr).mono fun _ _ ⟨aa, cc, h1, h2, h3, h4⟩ => ⟨aa, cc, h1, h2, h3.rd, h4⟩

theorem rLeft_any (b : Nat) (xs : List UInt8) (w : World) (h : Rd w b xs) :
    Calls Tryz.prog 150 #[.pointer (some ⟨b, 0, none⟩)] w fun e w' => e = .returned (.int .i64 (xs.length : Int)) ∧ w = w' := by
  obtain ⟨a, cap, hc, hf, hb, hs⟩ := take_pre b xs w h
  clear hb hs h hf
  go_enter Tryz.func150, Tryz.ntmps150
  go_wp2
  go_ret
  exact ⟨rfl, rfl⟩

set_option maxHeartbeats 400000 in
theorem rNum_nil (w : World) : Calls Tryz.prog 118 #[.pointer none, .int .i64 1] w fun e w' => e = .returned (.tuple #[.int .u64 0, .int .i64 1]) ∧ w = w' := by
  go_enter Tryz.func118, Tryz.ntmps118
  go_wp2
  go_ret2
  exact ⟨rfl, rfl⟩

set_option maxHeartbeats 400000 in
theorem rNum_ok (b : Nat) (xs : List UInt8) (n : Nat) (w : World) (h : Rd w b xs) (h8 : n ≤ 8) (hn : n ≤ xs.length) (hr : xs.length ≤ 140737488351232) :
    Calls Tryz.prog 118 #[.pointer (some ⟨b, 0, none⟩), .int .i64 (n : Int)] w fun e w' => e = .returned (.tuple #[.int .u64 (getB (xs.take n) : Int), .int .i64 0]) ∧ Rd w' b (xs.drop n) ∧ Fr (fun k => k = b) w w' := by
  have HH := Lib.hid h
  have b1 : decide ((n : Int) < 0) = false := by simp
  have b2 : decide ((8 : Int) < (n : Int)) = false := by simp; omega
  clear h
  go_enter Tryz.func118, Tryz.ntmps118
  go_wp2_with fail
  refine (take_ok b xs 0 n _ HH.out (by omega) hr).mono ?_
  rintro e w1 ⟨aa, cc, rfl, hown, hrd, hfr⟩
  have HS := Lib.hid (Sl.own hown)
  have HR := Lib.hid hrd
  have HF := Lib.hid hfr
  clear hown hrd hfr
  go_wp2_with fail
  refine (numGet_ok _ _ n _ HS.out h8).mono ?_
  rintro e w2 ⟨rfl, rfl⟩
  go_wp2
  go_ret2
  exact ⟨by simp, by simpa using HR.out, HF.out⟩

set_option maxHeartbeats 400000 in
theorem rNum_short (b : Nat) (xs : List UInt8) (n : Nat) (w : World) (h : Rd w b xs) (h8 : n ≤ 8) (hn : xs.length < n) :
    Calls Tryz.prog 118 #[.pointer (some ⟨b, 0, none⟩), .int .i64 (n : Int)] w fun e w' => e = .returned (.tuple #[.int .u64 0, .int .i64 3]) ∧ w = w' := by
  have HH := Lib.hid h
  have b1 : decide ((n : Int) < 0) = false := by simp
  have b2 : decide ((8 : Int) < (n : Int)) = false := by simp; omega
  clear h
  go_enter Tryz.func118, Tryz.ntmps118
  go_wp2_with fail
  refine (take_short b xs 0 n _ HH.out (by omega) (by omega) (by omega) (by omega)).mono ?_
  rintro e w1 ⟨rfl, rfl⟩
  go_wp2
  go_ret2
  exact ⟨rfl, rfl⟩

theorem rNum_arg (b : Nat) (n : Int) (w : World) (h : n < 0 ∨ 8 < n) :
    Calls Tryz.prog 118 #[.pointer (some ⟨b, 0, none⟩), .int .i64 n] w fun e w' => e = .returned (.tuple #[.int .u64 0, .int .i64 2]) ∧ w = w' := by
  rcases h with h | h
  · go_enter Tryz.func118, Tryz.ntmps118
    go_wp2
    go_ret2
    exact ⟨rfl, rfl⟩
  · have h0 : ¬ n < 0 := by omega
    go_enter Tryz.func118, Tryz.ntmps118
    go_wp2
    go_ret2
    exact ⟨rfl, rfl⟩

/-- A text as bytes. -/
def strB (s : ByteArray) : List UInt8 := UInt8.ofNat s.size :: s.data.toList
theorem strB_length (s : ByteArray) : (strB s).length = s.size + 1 := by
  simp only [strB, List.length_cons, Array.length_toList]; rfl

set_option maxHeartbeats 400000 in
theorem wStr_ok (b base : Nat) (row : Option Nat) (os : List UInt8) (s : ByteArray) (w : World) (hw : Wr w base b row os) (hbase : base ≤ w.heap.size) (h8 : s.size ≤ 255) (hr : os.length + 256 ≤ 140737488351232) :
    Calls Tryz.prog 104 #[.pointer (some ⟨b, 0, none⟩), .string s] w fun e w' => e = .returned (.int .i64 0) ∧ Laid w w' base b row (os ++ strB s) := by
  have HW := Lib.hid hw
  have hown := World.ownsRow_lit (e := 5) (size := 1) (base := w.heap.size) w #[.int .u8 (s.size : Int)] 1 (Nat.le_refl _) (by decide) rfl
  have ev : ([.int .u8 (s.size : Int)] : List Value) = [UInt8.ofNat s.size].map Bv := by simp [Bv, UInt8.toNat_ofNat', Nat.mod_eq_of_lt (show s.size < 256 by omega)]
  have hown' : (w.alloc (.cells #[.int .u8 (s.size : Int)] 5)).ownsRow w.heap.size 5 1 (.slice (some ⟨w.heap.size, 0, none⟩) 1 1) 1 ([UInt8.ofNat s.size].map Bv) := by rw [← ev]; exact hown
  have HO := Lib.hid hown'
  clear hw hown hown' ev
  go_enter Tryz.func104, Tryz.ntmps104
  go_wp2_with (at_builtin; refine append_str rfl (.tmp 14) (.tmp 15) rfl HO.out rfl rfl (by omega) (by simp) ?_)
  intro v' w1 hown hf
  have hb1 : Below w.heap.size w w1 := ((Below.refl _ _).alloc (Nat.le_refl _) _).trans (hf.below (by simp) (fun k h => by simp [Value.ownBlock] at h; omega))
  have hw1 := Lib.hid (HW.out.fr (Fr.of_below (S := fun _ => False) hb1) id (fun _ _ => id))
  have HB := Lib.hid hb1
  have hs := hb1.size
  have hS : Sl w1 1 v' (strB s).length ((strB s).map Bv) := by
    rw [strB_length, Nat.add_comm]
    exact Sl.own hown
  have HS := Lib.hid hS
  clear hS hown hf hb1
  go_wp2_with fail
  refine (add_ok b base row os (strB s) _ w1 hw1.out (by omega) HS.out (by rw [strB_length]; omega)).mono ?_
  rintro e w2 ⟨rfl, hl⟩
  have HL := Lib.hid hl
  clear hl
  go_wp2
  go_ret
  obtain ⟨row', a1, a2, a3⟩ := HL.out
  exact ⟨rfl, row', a1, (Fr.of_below HB.out).trans a2, fun k hk => (a3 k hk).imp id (fun h => by omega)⟩

theorem wStr_long (b : Nat) (s : ByteArray) (w : World) (h8 : 255 < s.size) :
    Calls Tryz.prog 104 #[.pointer (some ⟨b, 0, none⟩), .string s] w fun e w' => e = .returned (.int .i64 2) ∧ w = w' := by
  go_enter Tryz.func104, Tryz.ntmps104
  go_wp2_with fail
  refine (add_err b 2 _ w (by decide)).mono ?_
  rintro e w1 ⟨rfl, rfl⟩
  go_wp2
  go_ret
  exact ⟨rfl, rfl⟩

theorem same_any (v1 v2 : Value) (n1 n2 : Nat) (xs ys : List UInt8) (w : World) (h1 : Sl w 1 v1 n1 (xs.map Bv)) (h2 : Sl w 1 v2 n2 (ys.map Bv)) :
    Calls Tryz.prog 32 #[v1, v2] w fun e w' => e = .returned (.bool (decide (xs = ys))) ∧ w = w' := by
  have q1 := toStr_u8 h1
  have q2 := toStr_u8 h2
  clear h1 h2
  go_enter Tryz.func32, Tryz.ntmps32
  go_wp2
  go_ret
  rw [show (decide (xs = ys)) = (xs == ys) by rw [Bool.eq_iff_iff]; simp]
  exact ⟨rfl, rfl⟩

set_option maxHeartbeats 400000 in
theorem rStr_ok (b : Nat) (c : UInt8) (xs : List UInt8) (w : World) (h : Rd w b (c :: xs)) (hn : c.toNat ≤ xs.length) (hr : xs.length + 1 ≤ 140737488351232) :
    Calls Tryz.prog 119 #[.pointer (some ⟨b, 0, none⟩)] w fun e w' => e = .returned (.tuple #[.string ⟨(xs.take c.toNat).toArray⟩, .int .i64 0]) ∧ Rd w' b (xs.drop c.toNat) ∧ Fr (fun k => k = b) w w' := by
  obtain ⟨a, cap, hc, hf, hb, hs⟩ := take_pre b _ w h
  obtain ⟨b', o', rfl, hc0⟩ : ∃ b' o', a = some ⟨b', o', none⟩ ∧ w.cell? ⟨b', o', none⟩ = some (.int .u8 (c.toNat : Int)) := by
    obtain ⟨_, a', cap', e, _, _, hcs⟩ := hs
    obtain ⟨b', o', rfl, h0⟩ := hcs 0 (Bv c) rfl
    simp only [Value.slice.injEq, true_and] at e
    exact ⟨b', o', e.1, h0⟩
  have HH := Lib.hid h
  have hc256 := c.toNat_lt
  clear hb hs h hf
  go_enter Tryz.func119, Tryz.ntmps119
  go_wp2_with fail
  refine (rLeft_any b _ _ HH.out).mono ?_
  rintro e w1 ⟨rfl, rfl⟩
  rw [List.length_cons]
  go_wp2_with fail
  refine (take_ok b (c :: xs) 1 c.toNat _ HH.out (by rw [List.length_cons]; omega) (by rw [List.length_cons]; omega)).mono ?_
  rintro e w1 ⟨aa, cc, rfl, hown, hrd, hfr⟩
  have q := toStr_u8 (Sl.own hown)
  have HR := Lib.hid hrd
  have HF := Lib.hid hfr
  clear hown hrd hfr
  go_wp2
  go_ret2
  refine ⟨rfl, ?_, HF.out⟩
  have := HR.out
  rwa [Nat.add_comm, List.drop_succ_cons] at this

set_option maxHeartbeats 400000 in
theorem rStr_cut (b : Nat) (c : UInt8) (xs : List UInt8) (w : World) (h : Rd w b (c :: xs)) (hn : xs.length < c.toNat) (hr : xs.length + 1 ≤ 140737488351232) :
    Calls Tryz.prog 119 #[.pointer (some ⟨b, 0, none⟩)] w fun e w' => e = .returned (.tuple #[.string ⟨#[]⟩, .int .i64 3]) ∧ w = w' := by
  obtain ⟨a, cap, hc, hf, hb, hs⟩ := take_pre b _ w h
  obtain ⟨b', o', rfl, hc0⟩ : ∃ b' o', a = some ⟨b', o', none⟩ ∧ w.cell? ⟨b', o', none⟩ = some (.int .u8 (c.toNat : Int)) := by
    obtain ⟨_, a', cap', e, _, _, hcs⟩ := hs
    obtain ⟨b', o', rfl, h0⟩ := hcs 0 (Bv c) rfl
    simp only [Value.slice.injEq, true_and] at e
    exact ⟨b', o', e.1, h0⟩
  have HH := Lib.hid h
  have hc256 := c.toNat_lt
  have q : (convert 26 9 (.slice none 0 0)).run Tryz.prog w = .ok (.string ⟨#[]⟩) w := toStr_u8 (xs := []) (Sl.nil w 1)
  clear hb hs h hf
  go_enter Tryz.func119, Tryz.ntmps119
  go_wp2_with fail
  refine (rLeft_any b _ _ HH.out).mono ?_
  rintro e w1 ⟨rfl, rfl⟩
  rw [List.length_cons]
  go_wp2_with fail
  refine (take_short b (c :: xs) 1 c.toNat _ HH.out (by omega) (by omega) (by rw [List.length_cons]; omega) (by rw [List.length_cons]; omega)).mono ?_
  rintro e w1 ⟨rfl, rfl⟩
  go_wp2
  go_ret2
  exact ⟨rfl, rfl⟩

set_option maxHeartbeats 400000 in
theorem rStr_empty (b : Nat) (w : World) (h : Rd w b []) :
    Calls Tryz.prog 119 #[.pointer (some ⟨b, 0, none⟩)] w fun e w' => e = .returned (.tuple #[.string ⟨#[]⟩, .int .i64 3]) ∧ w = w' := by
  have HH := Lib.hid h
  have q : (convert 26 9 (.slice none 0 0)).run Tryz.prog w = .ok (.string ⟨#[]⟩) w := toStr_u8 (xs := []) (Sl.nil w 1)
  clear h
  go_enter Tryz.func119, Tryz.ntmps119
  go_wp2_with fail
  refine (rLeft_any b _ _ HH.out).mono ?_
  rintro e w1 ⟨rfl, rfl⟩
  go_wp2_with fail
  refine (take_short b [] 1 0 _ HH.out (by omega) (by omega) (by simp) (by simp)).mono ?_
  rintro e w1 ⟨rfl, rfl⟩
  go_wp2
  go_ret2
  exact ⟨rfl, rfl⟩

end Go.Proofs.YtkbnkdokcmpcgaaGreatDoor
namespace Go.Proofs.YtkbnkdokcmpcgaaGreatDoor
open Go.RowKit

theorem list_take_one_less {xs : List UInt8} {m : Nat} : (xs.take (m + 1)).take m = xs.take m := by rw [List.take_take]; congr 1; omega

def CutRight (w : World) (xs : List UInt8) (n : Nat) (e : Ending) (w' : World) : Prop :=
  w = w' ∧ ∃ v' m, e = .returned v' ∧ m ≤ n ∧ Sl w 1 v' m ((xs.take m).map Bv) ∧ (∀ j, m ≤ j → ∀ c, xs[j]? = some c → c = 0)
def CutLeft (w : World) (xs : List UInt8) (e : Ending) (w' : World) : Prop :=
  w = w' ∧ ∃ a L c, e = .returned (.slice a L c) ∧ (L = 0 ↔ ∀ y ∈ xs, y = 0)

set_option maxHeartbeats 400000 in
theorem trimRight_any (v : Value) (xs : List UInt8) (n : Nat) (w : World) (h : Sl w 1 v n (xs.map Bv)) (hr : n ≤ 140737488351232) :
    Calls Tryz.prog 180 #[v, .int .u8 0] w (CutRight w xs n) := by
  have hxl : xs.length = n := by simpa using h.1
  have HH := Lib.hid h
  have HXL := Lib.hid hxl
  clear h hxl
  go_enter Tryz.func180, Tryz.ntmps180
  go_wp2_with fail
  go_loop [0] (fun v => ∃ m, m ≤ n ∧ Sl w 1 v m ((xs.take m).map Bv) ∧ (∀ j, m ≤ j → ∀ c, xs[j]? = some c → c = 0) ∧ ∃ a cc, v = .slice a m cc) (fun v => match v with | .slice _ m _ => m | _ => 0)
  case atStart =>
    obtain ⟨a, c, rfl, _⟩ := HH.out.len
    refine ⟨n, Nat.le_refl _, ?_, fun j hj c hc => ?_, _, _, rfl⟩
    · rw [List.take_of_length_le (by have := HXL.out; omega)]; exact HH.out
    · have := (List.getElem?_eq_some_iff.1 hc).1; have := HXL.out; omega
  case round =>
    obtain ⟨m, hm, hsl, hz, a, cc, rfl⟩ := hrel
    have HZ := Lib.hid hz
    have HS := Lib.hid hsl
    clear hz hsl
    cases m with
    | zero =>
      go_wp2
      go_ret
      exact ⟨rfl, _, 0, rfl, hm, HS.out, HZ.out⟩
    | succ m =>
      have hlt : m < xs.length := by have := HXL.out; omega
      obtain ⟨b, o, rfl, hc⟩ : ∃ b o, a = some ⟨b, o, none⟩ ∧ w.cell? ⟨b, o + m, none⟩ = some (.int .u8 ((xs[m]'hlt).toNat : Int)) := by
        obtain ⟨_, a', cap', e, _, _, hcs⟩ := HS.out
        obtain ⟨b', o', rfl, h0⟩ := hcs m (Bv (xs[m]'hlt)) (by simp [hlt])
        simp only [Value.slice.injEq] at e
        exact ⟨b', o', e.1, h0⟩
      obtain ⟨A, C, q, hA⟩ := cut_u8_hi HS.out (hi := m) (by omega)
      rw [list_take_one_less] at hA
      have HA := Lib.hid hA
      have e1 : ((m + 1 : Nat) : Int) - 1 = (m : Int) := by omega
      clear hA
      by_cases h0 : xs[m]'hlt = 0
      · have hz2 : ∀ j, m ≤ j → ∀ c, xs[j]? = some c → c = 0 := by
          intro j hj c hc'
          rcases Nat.lt_or_ge m j with h | h
          · exact HZ.out j h c hc'
          · obtain rfl : j = m := by omega
            rw [List.getElem?_eq_getElem hlt] at hc'
            rw [← Option.some.inj hc', h0]
        have HZ2 := Lib.hid hz2
        rw [h0] at hc
        have hc' : w.cell? ⟨b, o + m, none⟩ = some (.int .u8 0) := hc
        clear hz2 h0 hc
        go_wp2
        go_round
        case rel => exact ⟨m, by omega, HA.out, HZ2.out, _, _, rfl⟩
        case measure => simp
      · have hne : (((xs[m]'hlt).toNat : Int) == 0) = false := by
          have : (xs[m]'hlt).toNat ≠ 0 := fun e => h0 (UInt8.toNat_inj.1 (by simpa using e))
          simp; omega
        clear h0
        go_wp2
        go_ret
        exact ⟨rfl, _, m + 1, rfl, hm, HS.out, HZ.out⟩

set_option maxHeartbeats 400000 in
theorem trimLeft_any (v : Value) (xs : List UInt8) (n : Nat) (w : World) (h : Sl w 1 v n (xs.map Bv)) (hr : n ≤ 140737488351232) :
    Calls Tryz.prog 179 #[v, .int .u8 0] w (CutLeft w xs) := by
  have hxl : xs.length = n := by simpa using h.1
  have HH := Lib.hid h
  have HXL := Lib.hid hxl
  clear h hxl
  go_enter Tryz.func179, Tryz.ntmps179
  go_wp2_with fail
  go_loop [0] (fun v => ∃ m, m ≤ n ∧ Sl w 1 v m ((xs.drop (n - m)).map Bv) ∧ (∀ j, j < n - m → ∀ c, xs[j]? = some c → c = 0) ∧ ∃ a cc, v = .slice a m cc) (fun v => match v with | .slice _ m _ => m | _ => 0)
  case atStart =>
    obtain ⟨a, c, rfl, _⟩ := HH.out.len
    exact ⟨n, Nat.le_refl _, by simpa using HH.out, fun j hj => by omega, _, _, rfl⟩
  case round =>
    obtain ⟨m, hm, hsl, hz, a, cc, rfl⟩ := hrel
    have HZ := Lib.hid hz
    have HS := Lib.hid hsl
    clear hz hsl
    cases m with
    | zero =>
      go_wp2
      go_ret
      refine ⟨rfl, _, 0, _, rfl, ⟨fun _ y hy => ?_, fun _ => rfl⟩⟩
      obtain ⟨j, hj⟩ := List.getElem?_of_mem hy
      exact HZ.out j (by have := (List.getElem?_eq_some_iff.1 hj).1; have := HXL.out; omega) y hj
    | succ m =>
      have hlt : n - (m + 1) < xs.length := by have := HXL.out; omega
      obtain ⟨c0, hc0⟩ : ∃ c0, c0 = xs[n - (m + 1)]'hlt := ⟨_, rfl⟩
      have hg : xs[n - (m + 1)]? = some c0 := by rw [hc0]; exact List.getElem?_eq_getElem hlt
      obtain ⟨b, o, rfl, hc⟩ : ∃ b o, a = some ⟨b, o, none⟩ ∧ w.cell? ⟨b, o, none⟩ = some (.int .u8 (c0.toNat : Int)) := by
        obtain ⟨_, a', cap', e, _, _, hcs⟩ := HS.out
        obtain ⟨b', o', rfl, h0⟩ := hcs 0 (Bv c0) (by simp [hg])
        simp only [Value.slice.injEq] at e
        exact ⟨b', o', e.1, h0⟩
      obtain ⟨A, C, q, hA⟩ := cut_u8_lo HS.out (lo := 1) (by omega)
      rw [List.drop_drop, show n - (m + 1) + 1 = n - m by omega, Nat.add_sub_cancel] at hA
      rw [Nat.add_sub_cancel] at q
      have q1 : ∀ w', (Instr.slice 26 (.slice (some ⟨b, o, none⟩) (m + 1) cc) (some (.int .i64 1)) none none).run Tryz.prog w' = .ok (.slice A m C) w' := q
      clear q
      have HA := Lib.hid hA
      have HG := Lib.hid hg
      clear hA hg hc0
      by_cases h0 : c0 = 0
      · subst h0
        have hc' : w.cell? ⟨b, o, none⟩ = some (.int .u8 0) := hc
        clear hc
        go_wp2
        go_round
        case rel =>
          refine ⟨m, by omega, HA.out, fun j hj c hcj => ?_, _, _, rfl⟩
          rcases Nat.lt_or_ge j (n - (m + 1)) with h | h
          · exact HZ.out j h c hcj
          · obtain rfl : j = n - (m + 1) := by omega
            rw [HG.out] at hcj
            exact (Option.some.inj hcj).symm
        case measure => simp
      · have hne : ((c0.toNat : Int) == 0) = false := by
          have : c0.toNat ≠ 0 := fun e => h0 (UInt8.toNat_inj.1 (by simpa using e))
          simp; omega
        have H0 := Lib.hid h0
        clear h0
        go_wp2
        go_ret
        exact ⟨rfl, _, m + 1, _, rfl, ⟨fun h => by omega, fun h => absurd (h c0 (List.mem_of_getElem? HG.out)) H0.out⟩⟩

/-- All that is trimmed of noughts on both sides is none just if all is noughts. -/
def Trimmed (w : World) (xs : List UInt8) (e : Ending) (w' : World) : Prop :=
  Below w.heap.size w w' ∧ w'.heap.size = w.heap.size ∧ ∃ a L c, e = .returned (.slice a L c) ∧ (L = 0 ↔ ∀ y ∈ xs, y = 0)

set_option maxRecDepth 100000 in
set_option maxHeartbeats 1000000 in
theorem trim_any (v : Value) (xs : List UInt8) (n : Nat) (w : World) (h : Sl w 1 v n (xs.map Bv)) (hr : n ≤ 140737488351232) :
    Calls Tryz.prog 152 #[v, .string ⟨#[0]⟩] w (Trimmed w xs) := by
  have hxl : xs.length = n := by simpa using h.1
  obtain ⟨a, cap, rfl, _⟩ := h.len
  cases n with
  | zero =>
    have hx : xs = [] := List.eq_nil_of_length_eq_zero hxl
    subst hx
    clear h hxl
    go_enter Tryz.func152, Tryz.ntmps152
    go_wp2
    go_ret
    exact ⟨Below.refl _ _, rfl, _, 0, _, rfl, by simp⟩
  | succ n =>
    have HH := Lib.hid h
    have b0 : (((n + 1 : Nat) : Int) == 0) = false := by simp; omega
    clear h hxl
    go_enter Tryz.func152, Tryz.ntmps152
    go_wp2_with fail
    go_region_with (first | (go_at_call 180; refine (trimRight_any (.slice a (n + 1) cap) xs (n + 1) w.drew HH.out hr).mono ?_; rintro e w1 ⟨rfl, v1, m, rfl, hm, hs1, hz1⟩; have H1 := Lib.hid hs1; have HZ1 := Lib.hid hz1; clear hs1 hz1) | (go_at_call 179; refine (trimLeft_any v1 (xs.take m) m w.drew H1.out (by omega)).mono ?_; rintro e w2 ⟨rfl, a2, L, c2, rfl, hL⟩; have HL := Lib.hid hL; clear hL))
    all_goals
      go_wp2
      go_ret
      refine ⟨(Below.refl _ _).drew, rfl, a2, L, c2, rfl, HL.out.trans ⟨fun h y hy => ?_, fun h y hy => h y (List.mem_of_mem_take hy)⟩⟩
      obtain ⟨j, hj⟩ := List.getElem?_of_mem hy
      rcases Nat.lt_or_ge j m with hjm | hjm
      · exact h y (List.mem_of_getElem? (by rw [List.getElem?_take, if_pos hjm]; exact hj))
      · exact HZ1.out j hjm y hj

end Go.Proofs.YtkbnkdokcmpcgaaGreatDoor
namespace Go.Proofs.YtkbnkdokcmpcgaaGreatDoor
open Go.RowKit

/-- The error at the end of bytes. -/
def endE (xs : List UInt8) : Int := if xs.all (· == 0) then 0 else 4
theorem endE_zero {xs : List UInt8} (h : ∀ y ∈ xs, y = 0) : endE xs = 0 := by
  unfold endE; rw [if_pos]; simpa using h
theorem endE_not {xs : List UInt8} (h : ¬ ∀ y ∈ xs, y = 0) : endE xs = 4 := by
  unfold endE; rw [if_neg]; simpa using h

set_option maxHeartbeats 1000000 in
theorem rEnd_any (b : Nat) (xs : List UInt8) (w : World) (h : Rd w b xs) (hr : xs.length ≤ 140737488351232) :
    Calls Tryz.prog 121 #[.pointer (some ⟨b, 0, none⟩)] w fun e w' => e = .returned (.int .i64 (endE xs)) ∧ Rd w' b xs ∧ Below w.heap.size w w' := by
  obtain ⟨a, cap, hc, hf, hb, hs⟩ := take_pre b xs w h
  have HH := Lib.hid h
  have HS := Lib.hid hs
  clear hb hs h hf
  go_enter Tryz.func121, Tryz.ntmps121
  go_wp2_with fail
  refine (trim_any _ xs _ _ HS.out hr).mono ?_
  rintro e w1 ⟨hbel, hsz, a1, L, c1, rfl, hL⟩
  have HB := Lib.hid hbel
  have HL := Lib.hid hL
  clear hbel hsz hL
  cases L with
  | zero =>
    have HE := Lib.hid (endE_zero (HL.out.1 rfl))
    clear HL
    go_wp2
    go_ret
    exact ⟨by rw [HE.out]; rfl, HH.out.below HB.out, HB.out⟩
  | succ L =>
    have b1 : (0 : Int) < ((L + 1 : Nat) : Int) := by omega
    have HE := Lib.hid (endE_not (fun h => by have := HL.out.2 h; omega))
    clear HL
    go_wp2
    go_ret
    exact ⟨by rw [HE.out]; rfl, HH.out.below HB.out, HB.out⟩

theorem alloc_zero32 (w : World) : (w.alloc (.cells ((List.replicate 32 (0 : UInt8)).map Bv).toArray 33)).heap[w.heap.size]? = some (.cells ((List.replicate 32 (0 : UInt8)).map Bv).toArray 33 (0, 0)) := heap_alloc_new _ _

theorem info_hash' : (Tryz.prog.info? 33).map (·.size) = some 32 := by kernel_rfl
/-- A hash and an error, at a return. -/
theorem ret_hash {fn : Func} {p u : Tmp} (h : fn.results = #[.cell p 33, .tmp u]) {tmps : Array Value} {w : World} {g : Nat} {hs : List UInt8} {t : TypeId} (hp : tmps.getD p undef = .pointer (some ⟨g, 0, none⟩))
    (hg : w.heap[g]? = some (.cells (hs.map Bv).toArray t (0, 0))) (hl : hs.length = 32) :
    (results fn tmps).run Tryz.prog w = .ok (.tuple #[.agg (hs.map Bv).toArray, tmps.getD u undef]) w := by
  rw [results_cell_tmp h, hp]
  simp [asAddr, run_loadVar_row w g t 33 _ _ _ hg Tryz.underlying33 rfl (by rw [info_hash']; simp [hl]), Result.andThen]

theorem load_hash' {ops : Array Oper} {rest : List Oper} {o : Oper} {a : Act} {w : World} {Q : Exit → Act → World → Prop} (hgd : o.guard = none) (x : Operand) (ho : o.op = .load 33 x)
    {b off : Nat} (hx : a.eval x = .pointer (some ⟨b, off, none⟩)) {h : List UInt8} (hc : At w b off (h.map Bv)) (hl : h.length = 32)
    (hK : wpList Tryz.prog ops Q rest (a.put o.dst (.agg (h.map Bv).toArray)) w) : wpList Tryz.prog ops Q (o :: rest) a w :=
  wpList_load_at hgd _ x ho b off hx (h.map Bv) _ hc Tryz.underlying33 rfl (by rw [info_hash']; simp [hl]) hK
theorem store_hash {ops : Array Oper} {rest : List Oper} {o : Oper} {a : Act} {w : World} {Q : Exit → Act → World → Prop} (hgd : o.guard = none) (x y : Operand) (ho : o.op = .store 33 x y)
    {b : Nat} (hx : a.eval x = .pointer (some ⟨b, 0, none⟩)) {h : List UInt8} (hy : a.eval y = .agg (h.map Bv).toArray) {old : Array Value} {t : TypeId} (hb : w.heap[b]? = some (.cells old t (0, 0))) (ho2 : old.size = 32) (hl : h.length = 32)
    (hK : ∀ w', w'.heap[b]? = some (.cells (h.map Bv).toArray t (0, 0)) → Fr (fun k => k = b) w w' → wpList Tryz.prog ops Q rest (a.put o.dst undef) w') : wpList Tryz.prog ops Q (o :: rest) a w :=
  wpList_store_row hgd _ x y ho b hx (h.map Bv) hy old t hb (by simp [ho2, hl]) (Bv_oneCell _) (by rw [info_hash']; simp [hl]) (fun w' h1 h2 _ => hK w' h1 h2)

set_option maxRecDepth 100000 in
set_option maxHeartbeats 1000000 in
theorem rHash_ok (b : Nat) (xs : List UInt8) (w : World) (h : Rd w b xs) (hn : 32 ≤ xs.length) (hr : xs.length ≤ 140737488351232) :
    Calls Tryz.prog 151 #[.pointer (some ⟨b, 0, none⟩)] w fun e w' => e = .returned (.tuple #[.agg ((xs.take 32).map Bv).toArray, .int .i64 0]) ∧ Rd w' b (xs.drop 32) ∧ Fr (fun k => k = b) w w' := by
  have hlt := h.lt
  obtain ⟨ob, ho⟩ := h.ob
  have hobl := ho.lt (by intro e; subst e; simp at hn)
  have HH := Lib.hid (ho.fr ((Fr.refl (fun _ => False) w).alloc (.cells ((List.replicate 32 (0 : UInt8)).map Bv).toArray 33)) id (fun _ _ => id))
  have HOL := Lib.hid hobl
  clear h ho hobl
  go_enter Tryz.func151, Tryz.ntmps151
  go_wp2_with fail
  refine (take_stay b ob xs 0 32 _ HH.out (by omega) hr).mono ?_
  rintro e w1 ⟨aa, cc, rfl, hown, hst, hfr⟩
  have HG := Lib.hid ((hfr.block w.heap.size (by simp) (by omega)).trans (alloc_zero32 w))
  have HS := Lib.hid (Sl.own hown)
  have HR := Lib.hid hst
  have HF := Lib.hid hfr
  clear hown hst hfr
  go_wp2_with (refine copy_u8 rfl (.tmp 10) (.tmp 11) rfl HG.out HS.out rfl rfl (by simp) ?_)
  intro w2 hg2 hf2
  have hov : over [0, 0, 0, 0, 0, 0, 0, 0, 0, 0, 0, 0, 0, 0, 0, 0, 0, 0, 0, 0, 0, 0, 0, 0, 0, 0, 0, 0, 0, 0, 0, 0] 0 (List.take 32 (List.take 32 xs)) = xs.take 32 := by
    rw [List.take_take, Nat.min_self]; exact over_all _ _ (by simp; omega)
  obtain ⟨y, hy⟩ : ∃ y, y = xs.take 32 := ⟨_, rfl⟩
  rw [hov, ← hy] at hg2
  have hlen : y.length = 32 := by rw [hy]; simp; omega
  have HG2 := Lib.hid hg2
  have HLn := Lib.hid hlen
  have HY := Lib.hid hy
  have HA2 := Lib.hid (At.of_row (cs := y.map Bv) hg2)
  have hF2 : Fr (fun k => k = b) w w2 := (((Fr.refl (fun k => k = b) w).alloc (.cells ((List.replicate 32 (0 : UInt8)).map Bv).toArray 33)).trans HF.out).step hf2 (fun k hk => Or.inr (by omega))
  have HF2 := Lib.hid hF2
  have HR2 := Lib.hid (HR.out.fr hf2 (by omega) (fun k hk e => by have := HOL.out k hk; omega))
  clear hg2 hf2 hov hlen hF2 hy
  go_wp2_with (first | (refine load_hash' rfl (.tmp 2) rfl rfl HA2.out HLn.out ?_) | (refine store_hash rfl (.tmp 2) (.tmp 13) rfl rfl rfl HG2.out (by rw [List.size_toArray, List.length_map]; exact HLn.out) HLn.out ?_))
  intro w3 hg3 hf3
  have HG3 := Lib.hid hg3
  have HF3 := Lib.hid hf3
  clear hg3 hf3
  go_wp2
  refine bodyPost_ret (ret_hash rfl rfl HG3.out HLn.out) rfl ?_
  refine ⟨by rw [HY.out]; rfl, ?_, HF2.out.step HF3.out (fun k hk => Or.inr (by omega))⟩
  have := (HR2.out.fr HF3.out (by omega) (fun k hk e => by have := HOL.out k hk; omega)).rd
  simpa using this

set_option maxRecDepth 100000 in
set_option maxHeartbeats 1000000 in
theorem rHash_short (b : Nat) (xs : List UInt8) (w : World) (h : Rd w b xs) (hn : xs.length < 32) :
    Calls Tryz.prog 151 #[.pointer (some ⟨b, 0, none⟩)] w fun e w' => e = .returned (.tuple #[.agg ((List.replicate 32 (0 : UInt8)).map Bv).toArray, .int .i64 3]) ∧ Rd w' b xs ∧ Below w.heap.size w w' := by
  have HH := Lib.hid (h.below ((Below.refl _ w).alloc (Nat.le_refl _) (.cells ((List.replicate 32 (0 : UInt8)).map Bv).toArray 33)))
  have HB0 := Lib.hid h
  clear h
  go_enter Tryz.func151, Tryz.ntmps151
  go_wp2_with fail
  refine (take_short b xs 0 32 _ HH.out (by omega) (by omega) (by omega) (by omega)).mono ?_
  rintro e w1 ⟨rfl, hw1⟩
  have hg1 : w1.heap[w.heap.size]? = some (.cells ((List.replicate 32 (0 : UInt8)).map Bv).toArray 33 (0, 0)) := by rw [← hw1]; exact alloc_zero32 w
  have hb1 : Below w.heap.size w w1 := by rw [← hw1]; exact (Below.refl _ _).alloc (Nat.le_refl _) _
  obtain ⟨y, hy⟩ : ∃ y, y = List.replicate 32 (0 : UInt8) := ⟨_, rfl⟩
  rw [← hy] at hg1
  have hlen : y.length = 32 := by rw [hy]; simp
  have HLn := Lib.hid hlen
  have HG := Lib.hid hg1
  have HB1 := Lib.hid hb1
  have HY := Lib.hid hy
  clear hy hlen hg1 hb1 hw1
  go_wp2_with (refine copy_u8 (vs := .slice none 0 0) (n := 0) (ys := []) (cur := y) rfl (.tmp 10) (.tmp 11) rfl HG.out (Sl.nil w1 1) rfl rfl (by simp) ?_)
  intro w2 hg2 hf2
  have hov : over y 0 [] = y := by simp [over]
  have hg2' : w2.heap[w.heap.size]? = some (.cells (y.map Bv).toArray 33 (0, 0)) := by simpa [over] using hg2
  have HG2 := Lib.hid hg2'
  have HA2 := Lib.hid (At.of_row (cs := y.map Bv) hg2')
  have hb2 := HB1.out.trans (hf2.below HB1.out.size (fun k hk => by omega))
  have HB2 := Lib.hid hb2
  clear hg2 hf2 hov hg2' hb2
  go_wp2_with (first | (refine load_hash' rfl (.tmp 2) rfl rfl HA2.out HLn.out ?_) | (refine store_hash rfl (.tmp 2) (.tmp 13) rfl rfl rfl HG2.out (by rw [List.size_toArray, List.length_map]; exact HLn.out) HLn.out ?_))
  intro w3 hg3 hf3
  have HG3 := Lib.hid hg3
  have hb3 := HB2.out.trans (hf3.below HB2.out.size (fun k hk => by omega))
  have HB3 := Lib.hid hb3
  clear hg3 hf3 hb3
  go_wp2
  refine bodyPost_ret (ret_hash rfl rfl HG3.out HLn.out) rfl ?_
  exact ⟨by rw [HY.out]; rfl, HB0.out.below HB3.out, HB3.out⟩

end Go.Proofs.YtkbnkdokcmpcgaaGreatDoor
