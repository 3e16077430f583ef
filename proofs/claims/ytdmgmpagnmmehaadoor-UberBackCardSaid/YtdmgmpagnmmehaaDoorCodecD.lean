/- Walks: codec.Reader's End, Raw, Hash; the reference's Reader. -/
import Derived.Test.YtdmgmpagnmmehaaDoorTrim
import Derived.Test.YtdmgmpagnmmehaaDoorCopy
namespace Go.Proofs.YtdmgmpagnmmehaaDoor
open Go.RowKit

/-- The error at the end of bytes. -/
def endE (xs : List UInt8) : Int := if xs.all (· == 0) then 0 else 4
theorem endE_zero {xs : List UInt8} (h : ∀ y ∈ xs, y = 0) : endE xs = 0 := by
  unfold endE; rw [if_pos]; simpa using h
theorem endE_not {xs : List UInt8} (h : ¬ ∀ y ∈ xs, y = 0) : endE xs = 4 := by
  unfold endE; rw [if_neg]; simpa using h

set_option maxHeartbeats 1000000 in
theorem rEnd_any (b : Nat) (xs : List UInt8) (w : World) (h : Rd w b xs) (hr : xs.length ≤ 140737488351232) :
    Calls Tryd.prog 38 #[.pointer (some ⟨b, 0, none⟩)] w fun e w' => e = .returned (.int .i64 (endE xs)) ∧ Rd w' b xs ∧ Below w.heap.size w w' := by
  obtain ⟨a, cap, hc, hf, hb, hs⟩ := take_pre b xs w h
  have HH := Lib.hid h
  have HS := Lib.hid hs
  clear hb hs h hf
  go_enter Tryd.func38, Tryd.ntmps38
  go_wp2_with fail
  refine (trim_any _ xs _ _ HS.out hr).mono ?_
  rintro e w1 ⟨hbel, hsz, a1, L, c1, rfl, hL⟩
  have HB := Lib.hid hbel
  have HL := Lib.hid hL
  clear hbel hsz hL
  cases L with
  | zero =>
    have HE := Lib.hid (endE_zero (HL.out.1 rfl))
    clear HL
    go_wp2
    go_ret
    exact ⟨by rw [HE.out]; rfl, HH.out.below HB.out, HB.out⟩
  | succ L =>
    have b1 : (0 : Int) < ((L + 1 : Nat) : Int) := by omega
    have HE := Lib.hid (endE_not (fun h => by have := HL.out.2 h; omega))
    clear HL
    go_wp2
    go_ret
    exact ⟨by rw [HE.out]; rfl, HH.out.below HB.out, HB.out⟩

theorem alloc_zero32 (w : World) : (w.alloc (.cells ((List.replicate 32 (0 : UInt8)).map Bv).toArray 45)).heap[w.heap.size]? = some (.cells ((List.replicate 32 (0 : UInt8)).map Bv).toArray 45 (0, 0)) := heap_alloc_new _ _

theorem info_hash' : (Tryd.prog.info? 45).map (·.size) = some 32 := by kernel_rfl
/-- A hash and an error, at a return. -/
theorem ret_hash {fn : Func} {p u : Tmp} (h : fn.results = #[.cell p 45, .tmp u]) {tmps : Array Value} {w : World} {g : Nat} {hs : List UInt8} {t : TypeId} (hp : tmps.getD p undef = .pointer (some ⟨g, 0, none⟩))
    (hg : w.heap[g]? = some (.cells (hs.map Bv).toArray t (0, 0))) (hl : hs.length = 32) :
    (results fn tmps).run Tryd.prog w = .ok (.tuple #[.agg (hs.map Bv).toArray, tmps.getD u undef]) w := by
  rw [results_cell_tmp h, hp]
  simp [asAddr, run_loadVar_row w g t 45 _ _ _ hg Tryd.underlying45 rfl (by rw [info_hash']; simp [hl]), Result.andThen]

theorem load_hash' {ops : Array Oper} {rest : List Oper} {o : Oper} {a : Act} {w : World} {Q : Exit → Act → World → Prop} (hgd : o.guard = none) (x : Operand) (ho : o.op = .load 45 x)
    {b off : Nat} (hx : a.eval x = .pointer (some ⟨b, off, none⟩)) {h : List UInt8} (hc : At w b off (h.map Bv)) (hl : h.length = 32)
    (hK : wpList Tryd.prog ops Q rest (a.put o.dst (.agg (h.map Bv).toArray)) w) : wpList Tryd.prog ops Q (o :: rest) a w :=
  wpList_load_at hgd _ x ho b off hx (h.map Bv) _ hc Tryd.underlying45 rfl (by rw [info_hash']; simp [hl]) hK
theorem store_hash {ops : Array Oper} {rest : List Oper} {o : Oper} {a : Act} {w : World} {Q : Exit → Act → World → Prop} (hgd : o.guard = none) (x y : Operand) (ho : o.op = .store 45 x y)
    {b : Nat} (hx : a.eval x = .pointer (some ⟨b, 0, none⟩)) {h : List UInt8} (hy : a.eval y = .agg (h.map Bv).toArray) {old : Array Value} {t : TypeId} (hb : w.heap[b]? = some (.cells old t (0, 0))) (ho2 : old.size = 32) (hl : h.length = 32)
    (hK : ∀ w', w'.heap[b]? = some (.cells (h.map Bv).toArray t (0, 0)) → Fr (fun k => k = b) w w' → wpList Tryd.prog ops Q rest (a.put o.dst undef) w') : wpList Tryd.prog ops Q (o :: rest) a w :=
  wpList_store_row hgd _ x y ho b hx (h.map Bv) hy old t hb (by simp [ho2, hl]) (Bv_oneCell _) (by rw [info_hash']; simp [hl]) (fun w' h1 h2 _ => hK w' h1 h2)

set_option maxRecDepth 100000 in
set_option maxHeartbeats 1000000 in
theorem rHash_ok (b : Nat) (xs : List UInt8) (w : World) (h : Rd w b xs) (hn : 32 ≤ xs.length) (hr : xs.length ≤ 140737488351232) :
    Calls Tryd.prog 66 #[.pointer (some ⟨b, 0, none⟩)] w fun e w' => e = .returned (.tuple #[.agg ((xs.take 32).map Bv).toArray, .int .i64 0]) ∧ Rd w' b (xs.drop 32) ∧ Fr (fun k => k = b) w w' := by
  have hlt := h.lt
  obtain ⟨ob, ho⟩ := h.ob
  have hobl := ho.lt (by intro e; subst e; simp at hn)
  have HH := Lib.hid (ho.fr ((Fr.refl (fun _ => False) w).alloc (.cells ((List.replicate 32 (0 : UInt8)).map Bv).toArray 45)) id (fun _ _ => id))
  have HOL := Lib.hid hobl
  clear h ho hobl
  go_enter Tryd.func66, Tryd.ntmps66
  go_wp2_with fail
  refine (take_stay b ob xs 0 32 _ HH.out (by omega) hr).mono ?_
  rintro e w1 ⟨aa, cc, rfl, hown, hst, hfr⟩
  have HG := Lib.hid ((hfr.block w.heap.size (by simp) (by omega)).trans (alloc_zero32 w))
  have HS := Lib.hid (Sl.own hown)
  have HR := Lib.hid hst
  have HF := Lib.hid hfr
  clear hown hst hfr
  go_wp2_with (refine copy_u8 rfl (.tmp 10) (.tmp 11) rfl HG.out HS.out rfl rfl (by simp) ?_)
  intro w2 hg2 hf2
  have hov : over [0, 0, 0, 0, 0, 0, 0, 0, 0, 0, 0, 0, 0, 0, 0, 0, 0, 0, 0, 0, 0, 0, 0, 0, 0, 0, 0, 0, 0, 0, 0, 0] 0 (List.take 32 (List.take 32 xs)) = xs.take 32 := by
    rw [List.take_take, Nat.min_self]; exact over_all _ _ (by simp; omega)
  obtain ⟨y, hy⟩ : ∃ y, y = xs.take 32 := ⟨_, rfl⟩
  rw [hov, ← hy] at hg2
  have hlen : y.length = 32 := by rw [hy]; simp; omega
  have HG2 := Lib.hid hg2
  have HLn := Lib.hid hlen
  have HY := Lib.hid hy
  have HA2 := Lib.hid (At.of_row (cs := y.map Bv) hg2)
  have hF2 : Fr (fun k => k = b) w w2 := (((Fr.refl (fun k => k = b) w).alloc (.cells ((List.replicate 32 (0 : UInt8)).map Bv).toArray 45)).trans HF.out).step hf2 (fun k hk => Or.inr (by omega))
  have HF2 := Lib.hid hF2
  have HR2 := Lib.hid (HR.out.fr hf2 (by omega) (fun k hk e => by have := HOL.out k hk; omega))
  clear hg2 hf2 hov hlen hF2 hy
  go_wp2_with (first | (refine load_hash' rfl (.tmp 2) rfl rfl HA2.out HLn.out ?_) | (refine store_hash rfl (.tmp 2) (.tmp 13) rfl rfl rfl HG2.out (by rw [List.size_toArray, List.length_map]; exact HLn.out) HLn.out ?_))
  intro w3 hg3 hf3
  have HG3 := Lib.hid hg3
  have HF3 := Lib.hid hf3
  clear hg3 hf3
  go_wp2
  refine bodyPost_ret (ret_hash rfl rfl HG3.out HLn.out) rfl ?_
  refine ⟨by rw [HY.out]; rfl, ?_, HF2.out.step HF3.out (fun k hk => Or.inr (by omega))⟩
  have := (HR2.out.fr HF3.out (by omega) (fun k hk e => by have := HOL.out k hk; omega)).rd
  simpa using this

set_option maxRecDepth 100000 in
set_option maxHeartbeats 1000000 in
theorem rHash_short (b : Nat) (xs : List UInt8) (w : World) (h : Rd w b xs) (hn : xs.length < 32) :
    Calls Tryd.prog 66 #[.pointer (some ⟨b, 0, none⟩)] w fun e w' => e = .returned (.tuple #[.agg ((List.replicate 32 (0 : UInt8)).map Bv).toArray, .int .i64 3]) ∧ Rd w' b xs ∧ Below w.heap.size w w' := by
  have HH := Lib.hid (h.below ((Below.refl _ w).alloc (Nat.le_refl _) (.cells ((List.replicate 32 (0 : UInt8)).map Bv).toArray 45)))
  have HB0 := Lib.hid h
  clear h
  go_enter Tryd.func66, Tryd.ntmps66
  go_wp2_with fail
  refine (take_short b xs 0 32 _ HH.out (by omega) (by omega) (by omega) (by omega)).mono ?_
  rintro e w1 ⟨rfl, hw1⟩
  have hg1 : w1.heap[w.heap.size]? = some (.cells ((List.replicate 32 (0 : UInt8)).map Bv).toArray 45 (0, 0)) := by rw [← hw1]; exact alloc_zero32 w
  have hb1 : Below w.heap.size w w1 := by rw [← hw1]; exact (Below.refl _ _).alloc (Nat.le_refl _) _
  obtain ⟨y, hy⟩ : ∃ y, y = List.replicate 32 (0 : UInt8) := ⟨_, rfl⟩
  rw [← hy] at hg1
  have hlen : y.length = 32 := by rw [hy]; simp
  have HLn := Lib.hid hlen
  have HG := Lib.hid hg1
  have HB1 := Lib.hid hb1
  have HY := Lib.hid hy
  clear hy hlen hg1 hb1 hw1
  go_wp2_with (refine copy_u8 (vs := .slice none 0 0) (n := 0) (ys := []) (cur := y) rfl (.tmp 10) (.tmp 11) rfl HG.out (Sl.nil w1 1) rfl rfl (by simp) ?_)
  intro w2 hg2 hf2
  have hov : over y 0 [] = y := by simp [over]
  have hg2' : w2.heap[w.heap.size]? = some (.cells (y.map Bv).toArray 45 (0, 0)) := by simpa [over] using hg2
  have HG2 := Lib.hid hg2'
  have HA2 := Lib.hid (At.of_row (cs := y.map Bv) hg2')
  have hb2 := HB1.out.trans (hf2.below HB1.out.size (fun k hk => by omega))
  have HB2 := Lib.hid hb2
  clear hg2 hf2 hov hg2' hb2
  go_wp2_with (first | (refine load_hash' rfl (.tmp 2) rfl rfl HA2.out HLn.out ?_) | (refine store_hash rfl (.tmp 2) (.tmp 13) rfl rfl rfl HG2.out (by rw [List.size_toArray, List.length_map]; exact HLn.out) HLn.out ?_))
  intro w3 hg3 hf3
  have HG3 := Lib.hid hg3
  have hb3 := HB2.out.trans (hf3.below HB2.out.size (fun k hk => by omega))
  have HB3 := Lib.hid hb3
  clear hg3 hf3 hb3
  go_wp2
  refine bodyPost_ret (ret_hash rfl rfl HG3.out HLn.out) rfl ?_
  exact ⟨by rw [HY.out]; rfl, HB0.out.below HB3.out, HB3.out⟩

end Go.Proofs.YtdmgmpagnmmehaaDoor
