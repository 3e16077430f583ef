/- Walk: uber.Put. -/
import Derived.Test.YtdmgmpagnmmehaaDoorUber
import Derived.Test.YtdmgmpagnmmehaaDoorNodeD
import Derived.Test.YtdmgmpagnmmehaaDoorFits
import Derived.Lib.SmallJoins
namespace Go.Proofs.YtdmgmpagnmmehaaDoor
open Go.RowKit

def markB : List UInt8 := [66, 78, 89, 78]
/-- An uber's bytes, ahead of its noughts; and all ahead of its code. -/
def ubH (u : Ub) : List UInt8 := markB ++ putB u.txg 8 ++ putB u.size 4 ++ ptrB u.root
def ubB (u : Ub) : List UInt8 := ubH u ++ List.replicate 420 0
theorem ubH_length {u : Ub} (h : u.Wf) : (ubH u).length = 60 := by unfold ubH; simp [putB_length, ptrB_length _ h.root, markB]
theorem ubB_length {u : Ub} (h : u.Wf) : (ubB u).length = 480 := by unfold ubB; rw [List.length_append, ubH_length h, List.length_replicate]
def ubS (key : List UInt8) (u : Ub) : List UInt8 := ubB u ++ macN key (ubB u)
theorem ubS_length (key : List UInt8) {u : Ub} (h : u.Wf) : (ubS key u).length = 512 := by unfold ubS; rw [List.length_append, ubB_length h, macN_length]
/-- What Put answers. -/
def putU (key : List UInt8) (u : Ub) : List UInt8 := if ubE u = 0 then ubS key u else []

theorem Sl_litm (w : World) (cs : Array Value) (xs : List UInt8) (fr : Nat × Nat) (n : Nat) {g : Nat} (hn : n = xs.length) (hg : g = w.heap.size) (hcs : cs.toList = xs.map Bv) : Sl (w.alloc (.cells cs 5 fr)) 1 (.slice (some ⟨g, 0, none⟩) n n) n (xs.map Bv) := by
  subst hg
  refine ⟨by simp [hn], some ⟨w.heap.size, 0, none⟩, n, rfl, Nat.le_refl _, fun h => (by cases h), fun i u hu => ⟨w.heap.size, 0, rfl, ?_⟩⟩
  rw [Nat.zero_add, cell_of_row _ w.heap.size i cs _ _ (heap_alloc_new _ _), ← hu, ← hcs, Array.getElem?_toList]
def UPr (w : World) (u : Ub) (B : Nat) (xs : List UInt8) (wr : World) : Prop :=
  ∃ row, Wr wr B B row xs ∧ Below w.heap.size w wr ∧ wr.heap[w.heap.size]? = some (.cells u.arr 49 (0, 0)) ∧ w.heap.size < B
theorem UPr.laid {w : World} {u : Ub} {B : Nat} {xs ys : List UInt8} {wr w' : World} {row : Option Nat} (h1 : Wr wr B B row xs) (h2 : Below w.heap.size w wr) (h3 : wr.heap[w.heap.size]? = some (.cells u.arr 49 (0, 0))) (h4 : w.heap.size < B)
    (hl : Laid wr w' B B row ys) : UPr w u B ys w' := by
  obtain ⟨row', a1, a2, a3⟩ := hl
  have hlt := h1.lt
  refine ⟨row', a1, h2.trans (a2.below h2.size (fun j hj => ?_)), (a2.block _ (lt_of_block h3) (fun e => ?_)).trans h3, h4⟩
  · rcases hj with e | e
    · omega
    · have := (hlt.2 j e).1; omega
  · rcases e with e | e
    · omega
    · have := (hlt.2 _ e).1; omega

set_option maxRecDepth 100000 in
set_option maxHeartbeats 4000000 in
theorem ubPut_ok (vk : Value) (key : List UInt8) (u : Ub) (w : World) (hk : Sl w 1 vk key.length (key.map Bv)) (hr : key.length ≤ 140737488351232) (hu : u.Wf) (hc : ubE u = 0) :
    Calls Tryd.prog 18 #[vk, .agg u.arr] w fun e w' => ∃ aa cc, e = .returned (.tuple #[.slice aa 512 cc, .int .i64 0]) ∧ Sl w' 1 (.slice aa 512 cc) 512 ((ubS key u).map Bv) ∧ Below w.heap.size w w' := by
  have hb0 : Below w.heap.size w (w.alloc (.cells u.arr 49)) := (Below.refl _ w).alloc (Nat.le_refl _) _
  have g0 := u.get0
  have g1 := u.get1
  have HB := Lib.hid hb0
  have HU := Lib.hid hu
  have HK := Lib.hid (fun (w' : World) (hh : Below w.heap.size w w') => (hk.below hh : Sl w' 1 vk key.length (key.map Bv)))
  have HAT := Lib.hid (Ub.box w u 49)
  have HG := Lib.hid (heap_alloc_new w (.cells u.arr 49))
  have HC := Lib.hid (fun w1 => hc ▸ ubCheck_any u w1 hu)
  have HFit := Lib.hid (show (4 : Nat) = 8 ∨ u.size < 256 ^ 4 from Or.inr (by have := hu.size; omega))
  have HT := Lib.hid hu.txg
  have HPL := Lib.hid (ptrB_length _ hu.root)
  have HR := Lib.hid hr
  have m32 := hu.size
  have hl60 := ubH_length hu
  have HL60 := Lib.hid hl60
  have HL480 := Lib.hid (ubB_length hu)
  clear hb0 hk hu hc hl60
  go_enter Tryd.func18, Tryd.ntmps18
  go_wp2_with (refine load_ub rfl (.tmp 3) rfl rfl HAT.out HU.out ?_)
  refine (HC.out _).mono ?_
  rintro e w1 ⟨rfl, hb⟩
  have hg := (hb.block w.heap.size (by simp)).trans HG.out
  have hb1 := HB.out.trans (hb.mono HB.out.size)
  have hlt1 := lt_of_block hg
  have HW1 := Lib.hid (Wr.new w1 w1.heap.size)
  have HB1 := Lib.hid (hb1.alloc (show w.heap.size ≤ w1.heap.size by omega) (.cells #[.slice none 0 0] 69))
  have HG1 := Lib.hid ((Below.heap_alloc w1 (.cells #[.slice none 0 0] 69) _ hlt1).trans hg)
  have c0 : w1.cell? ⟨w.heap.size, 0, none⟩ = some (.int .u64 (u.txg : Int)) := (cell_of_row w1 _ 0 _ _ _ hg).trans g0
  clear hb hg hb1
  have q1 := Go.Joins.run_convert_bytes_const_at (P := Tryd.prog) (w1.alloc (.cells #[.slice none 0 0] 69)) 28 5 #[.int .u8 66, .int .u8 78, .int .u8 89, .int .u8 78] 4 4 (w1.heap.size + 1) (by simp) Tryd.underlying28 Tryd.underlying5
  go_wp2_with fail
  have HW1' := Lib.hid (HW1.out.fr (Fr.alloc (Fr.refl (fun _ => False) _) (.cells #[.int .u8 66, .int .u8 78, .int .u8 89, .int .u8 78] 5 (4, 5))) id (fun _ _ => id))
  have HB1' := Lib.hid (HB1.out.alloc HB1.out.size (.cells #[.int .u8 66, .int .u8 78, .int .u8 89, .int .u8 78] 5 (4, 5)))
  have HG1' := Lib.hid ((Below.heap_alloc _ (.cells #[.int .u8 66, .int .u8 78, .int .u8 89, .int .u8 78] 5 (4, 5)) _ (lt_of_block HG1.out)).trans HG1.out)
  refine (wRaw_ok w1.heap.size w1.heap.size none [] markB _ _ HW1'.out (by simp; omega) (Sl_litm _ _ _ _ 4 rfl (by simp) rfl) (by decide)).mono ?_
  rintro e w2 ⟨rfl, hl2⟩
  rw [List.nil_append] at hl2
  obtain ⟨row2, hW2, hB2, hG2, -⟩ := UPr.laid HW1'.out HB1'.out HG1'.out hlt1 hl2
  have HW2 := Lib.hid hW2
  have HB2 := Lib.hid hB2
  have HG2 := Lib.hid hG2
  have c2 : w2.cell? ⟨w.heap.size, 0, none⟩ = some (.int .u64 (u.txg : Int)) := (cell_of_row w2 _ 0 _ _ _ hG2).trans g0
  have hs2 := hW2.lt.1
  clear hl2 hW2 hB2 hG2 c0 q1
  go_wp2_with fail
  refine (wNum_ok w1.heap.size w1.heap.size row2 markB u.txg 8 _ HW2.out (by omega) (by omega) (Or.inl rfl) (by decide)).mono ?_
  rintro e w3 ⟨rfl, hl3⟩
  obtain ⟨row3, hW3, hB3, hG3, -⟩ := UPr.laid HW2.out HB2.out HG2.out hlt1 hl3
  have HW3 := Lib.hid hW3
  have HB3 := Lib.hid hB3
  have HG3 := Lib.hid hG3
  have c3 : w3.cell? ⟨w.heap.size, 1, none⟩ = some (.int .u32 (u.size : Int)) := (cell_of_row w3 _ 1 _ _ _ hG3).trans g1
  have hs3 := hW3.lt.1
  clear hl3 hW3 hB3 hG3 c2
  go_wp2_with fail
  refine (wNum_ok w1.heap.size w1.heap.size row3 (markB ++ putB u.txg 8) u.size 4 _ HW3.out (by omega) (by omega) HFit.out (by rw [List.length_append, putB_length]; decide)).mono ?_
  rintro e w4 ⟨rfl, hl4⟩
  obtain ⟨row4, hW4, hB4, hG4, -⟩ := UPr.laid HW3.out HB3.out HG3.out hlt1 hl4
  have HW4 := Lib.hid hW4
  have HB4 := Lib.hid hB4
  have HG4 := Lib.hid hG4
  have HA4 := Lib.hid (Ub.rootAt (o := 0) (At.of_row hG4))
  have hs4 := hW4.lt.1
  clear hl4 hW4 hB4 hG4 c3
  go_wp2_with (refine load_ptr rfl (.tmp 24) rfl rfl HA4.out HU.out.root ?_)
  refine (ptrPut_ok u.root w1.heap.size w1.heap.size row4 (markB ++ putB u.txg 8 ++ putB u.size 4) _ HW4.out (by omega) HU.out.root (by rw [List.length_append, List.length_append, putB_length, putB_length]; decide)).mono ?_
  rintro e w5 ⟨rfl, hl5⟩
  rw [show markB ++ putB u.txg 8 ++ putB u.size 4 ++ ptrB u.root = ubH u from rfl] at hl5
  obtain ⟨row5, hW5, hB5, hG5, -⟩ := UPr.laid HW4.out HB4.out HG4.out hlt1 hl5
  have HW5 := Lib.hid hW5
  have HB5 := Lib.hid hB5
  have HG5 := Lib.hid hG5
  have hs5 := hW5.lt.1
  clear hl5 hW5 hB5 hG5
  go_wp2_with fail
  refine (wPad_ok w1.heap.size w1.heap.size 480 row5 (ubH u) _ HW5.out (by omega) (by omega) (by rw [HL60.out]; omega)).mono ?_
  rintro e w6 ⟨rfl, hl6⟩
  rw [HL60.out, show ubH u ++ List.replicate (480 - 60) 0 = ubB u from rfl] at hl6
  obtain ⟨row6, hW6, hB6, hG6, -⟩ := UPr.laid HW5.out HB5.out HG5.out hlt1 hl6
  have HW6 := Lib.hid hW6
  have HB6 := Lib.hid hB6
  have HG6 := Lib.hid hG6
  have hs6 := hW6.lt.1
  clear hl6 hW6 hB6 hG6
  go_wp2_with fail
  refine (wBytes_ok w1.heap.size w1.heap.size row6 (ubB u) _ HW6.out (by rw [HL480.out]; omega)).mono ?_
  rintro e w7 ⟨aa7, cc7, rfl, ho7, hb7⟩
  have HS7 := Lib.hid (Sl.own ho7)
  have hb17 := HB6.out.trans (hb7.mono HB6.out.size)
  have HB7 := Lib.hid hb17
  have HK7 := Lib.hid (HK.out w7 hb17)
  have HW7 := Lib.hid (HW6.out.fr (Fr.of_below (S := fun _ => False) hb7) id (fun _ _ => id))
  have HG7 := Lib.hid ((hb7.block _ (lt_of_block HG6.out)).trans HG6.out)
  have hs7 := HW7.out.lt.1
  clear ho7 hb7 hb17
  go_wp2_with fail
  obtain ⟨hv, hhv⟩ : ∃ hv, hv = macN key (ubB u) := ⟨_, rfl⟩
  have hvl : hv.length = 32 := by rw [hhv]; exact macN_length _ _
  have hsub : ubB u ++ hv = ubS key u := by rw [hhv]; rfl
  have hmac := mac_any vk (.slice aa7 (ubB u).length cc7) key (ubB u) w7 HK7.out HS7.out HR.out (by rw [HL480.out]; omega)
  rw [← hhv] at hmac
  have HMac := Lib.hid hmac
  have HVl := Lib.hid hvl
  have HSub := Lib.hid hsub
  clear hmac hvl hsub hhv
  refine HMac.out.mono ?_
  rintro e w8 ⟨rfl, hb8⟩
  have HB8 := Lib.hid (HB7.out.trans (hb8.mono HB7.out.size))
  have HW8 := Lib.hid (HW7.out.fr (Fr.of_below (S := fun _ => False) hb8) id (fun _ _ => id))
  have HG8 := Lib.hid ((hb8.block _ (lt_of_block HG7.out)).trans HG7.out)
  have hs8 := HW8.out.lt.1
  clear hb8
  go_wp2_with fail
  refine (wHash_ok w1.heap.size w1.heap.size row6 (ubB u) hv _ HW8.out (by omega) HVl.out (by rw [HL480.out]; omega)).mono ?_
  rintro e w9 ⟨rfl, hl9⟩
  rw [HSub.out] at hl9
  obtain ⟨row9, hW9, hB9, hG9, -⟩ := UPr.laid HW8.out HB8.out HG8.out hlt1 hl9
  have HW9 := Lib.hid hW9
  have HB9 := Lib.hid hB9
  clear hl9 hW9 hB9 hG9
  go_wp2_with fail
  have hL := ubS_length key HU.out
  refine (wBytes_ok w1.heap.size w1.heap.size row9 (ubS key u) _ HW9.out (by rw [hL]; omega)).mono ?_
  rw [hL]
  rintro e w10 ⟨aa, cc, rfl, ho, hb10⟩
  have HS := Lib.hid (Sl.own ho)
  have HB10 := Lib.hid (HB9.out.trans (hb10.mono HB9.out.size))
  clear ho hb10 hL
  go_wp2
  go_ret2
  exact ⟨aa, cc, rfl, HS.out, HB10.out⟩

set_option maxHeartbeats 1000000 in
theorem ubPut_bad (vk : Value) (u : Ub) (w : World) (hu : u.Wf) (hc : ubE u = 4) :
    Calls Tryd.prog 18 #[vk, .agg u.arr] w fun e w' => e = .returned (.tuple #[.slice none 0 0, .int .i64 4]) ∧ Below w.heap.size w w' := by
  have HB := Lib.hid ((Below.refl _ w).alloc (Nat.le_refl _) (.cells u.arr 49))
  have HU := Lib.hid hu
  have HAT := Lib.hid (Ub.box w u 49)
  have HC := Lib.hid (fun w1 => hc ▸ ubCheck_any u w1 hu)
  clear hu hc
  go_enter Tryd.func18, Tryd.ntmps18
  go_wp2_with (refine load_ub rfl (.tmp 3) rfl rfl HAT.out HU.out ?_)
  refine (HC.out _).mono ?_
  rintro e w1 ⟨rfl, hb⟩
  have HB1 := Lib.hid (HB.out.trans (hb.mono HB.out.size))
  clear hb
  go_wp2
  go_ret2
  exact ⟨rfl, HB1.out⟩

def PutUPost (key : List UInt8) (u : Ub) (w : World) (e : Ending) (w' : World) : Prop := ∃ a n c, e = .returned (.tuple #[.slice a n c, .int .i64 (ubE u)]) ∧ n = (putU key u).length ∧ Sl w' 1 (.slice a n c) n ((putU key u).map Bv) ∧ Below w.heap.size w w'
theorem ubPut_any (vk : Value) (key : List UInt8) (u : Ub) (w : World) (hk : Sl w 1 vk key.length (key.map Bv)) (hr : key.length ≤ 140737488351232) (hu : u.Wf) :
    Calls Tryd.prog 18 #[vk, .agg u.arr] w (PutUPost key u w) := by
  rcases ubE_or u with h | h
  · refine (ubPut_ok vk key u w hk hr hu h).mono ?_
    rintro e w' ⟨aa, cc, rfl, hs, hb⟩
    have hp : putU key u = ubS key u := by unfold putU; rw [if_pos h]
    exact ⟨aa, 512, cc, by rw [h], by rw [hp, ubS_length key hu], by rw [hp]; exact hs, hb⟩
  · refine (ubPut_bad vk u w hu h).mono ?_
    rintro e w' ⟨rfl, hb⟩
    have hp : putU key u = [] := by unfold putU; rw [if_neg (by rw [h]; decide)]
    exact ⟨none, 0, 0, by rw [h], by rw [hp]; rfl, by rw [hp]; exact Sl.nil _ _, hb⟩
end Go.Proofs.YtdmgmpagnmmehaaDoor
