/- Walks: uber.Get, uber.Choose. -/
import Derived.Test.YtdmgmpagnmmehaaDoorUberG
namespace Go.Proofs.YtdmgmpagnmmehaaDoor
open Go.RowKit

/-- What Get answers. -/
def errU (key xs : List UInt8) : Int := if xs.length = 512 then (if macN key (xs.take 480) = xs.drop 480 then (if okU (xs.take 480) then 0 else 4) else 5) else 2
def getU (key xs : List UInt8) : Ub := if errU key xs = 0 then toldU (xs.take 480) else Ub.zero
theorem getU_wf (key xs : List UInt8) : (getU key xs).Wf := by unfold getU; split; (· exact toldU_wf _); (· exact Ub.zero_wf)
theorem errU_or (key xs : List UInt8) : errU key xs = 0 ∨ (errU key xs = 2 ∨ errU key xs = 4 ∨ errU key xs = 5) ∧ getU key xs = Ub.zero := by
  have h : ¬ errU key xs = 0 → getU key xs = Ub.zero := fun h => by unfold getU; rw [if_neg h]
  by_cases h0 : errU key xs = 0
  · exact .inl h0
  · refine .inr ⟨?_, h h0⟩
    unfold errU at h0 ⊢
    split
    · rename_i h1
      rw [if_pos h1] at h0
      split
      · rename_i h2
        rw [if_pos h2] at h0
        split
        · rename_i h3; rw [if_pos h3] at h0; exact absurd rfl h0
        · exact .inr (.inl rfl)
      · exact .inr (.inr rfl)
    · exact .inl rfl

theorem Sl.here {w : World} {a : Option Addr} {n c : Nat} {ys : List UInt8} (h : Sl w 1 (.slice a n c) n (ys.map Bv)) (hn : 0 < n) : ∃ g o, a = some ⟨g, o, none⟩ ∧ At w g o (ys.map Bv) := by
  obtain ⟨hl, a', cap, e, _, _, h4⟩ := h
  simp only [Value.slice.injEq, true_and] at e
  obtain ⟨rfl, -⟩ := e
  have hl' : ys.length = n := by simpa using hl
  obtain ⟨y, l, rfl⟩ : ∃ y l, ys = y :: l := by cases ys with | nil => simp at hl'; omega | cons y l => exact ⟨y, l, rfl⟩
  obtain ⟨g, o, rfl, _⟩ := h4 0 (Bv y) rfl
  refine ⟨g, o, rfl, fun i u hu => ?_⟩
  obtain ⟨g', o', e', hc⟩ := h4 i u hu
  simp only [Option.some.injEq, Addr.mk.injEq, and_true] at e'
  obtain ⟨rfl, rfl⟩ := e'
  exact hc

set_option maxRecDepth 100000 in
set_option maxHeartbeats 4000000 in
theorem ubGet_len (vk v : Value) (xs : List UInt8) (w : World) (h : Sl w 1 v xs.length (xs.map Bv)) (hl : ¬ xs.length = 512) :
    Calls Tryd.prog 23 #[vk, v] w fun e w' => e = .returned (.tuple #[.agg Ub.zero.arr, .int .i64 2]) ∧ Below w.heap.size w w' := by
  obtain ⟨a, c, rfl, hc⟩ := h.len
  have HZ := Lib.hid (heap_alloc_new w (.cells Ub.zero.arr 49))
  have HB := Lib.hid ((Below.refl _ w).alloc (Nat.le_refl _) (.cells Ub.zero.arr 49))
  obtain ⟨n, hn⟩ : ∃ n, n = xs.length := ⟨_, rfl⟩
  rw [← hn] at hl ⊢
  have hb : ((n : Int) != 512) = true := by simp; omega
  clear h hc hn hl
  go_enter Tryd.func23, Tryd.ntmps23
  go_wp2_with (refine store_ub rfl (.tmp 4) (.tmp 11) rfl rfl rfl HZ.out Ub.zero_wf.asize Ub.zero_wf ?_)
  intro w1 hg1 hf1 hs1
  have HG1 := Lib.hid hg1
  have HB1 := Lib.hid (HB.out.trans (hf1.below HB.out.size (fun k hk => by omega)))
  clear hg1 hf1 hs1
  go_wp2
  refine bodyPost_ret (ret_ub rfl rfl HG1.out Ub.zero_wf) rfl ?_
  exact ⟨rfl, HB1.out⟩

set_option maxRecDepth 100000 in
set_option maxHeartbeats 4000000 in
theorem ubGet_512 (vk v : Value) (key xs : List UInt8) (w : World) (hk : Sl w 1 vk key.length (key.map Bv)) (hr : key.length ≤ 140737488351232) (h : Sl w 1 v 512 (xs.map Bv)) :
    Calls Tryd.prog 23 #[vk, v] w fun e w' => e = .returned (.tuple #[.agg (getU key xs).arr, .int .i64 (errU key xs)]) ∧ Below w.heap.size w w' := by
  obtain ⟨a, c, rfl, hc⟩ := h.len
  have hlen : xs.length = 512 := by simpa using h.1
  have hb0 : Below w.heap.size w (w.alloc (.cells Ub.zero.arr 49)) := (Below.refl _ w).alloc (Nat.le_refl _) _
  have HZ := Lib.hid (heap_alloc_new w (.cells Ub.zero.arr 49))
  have HB := Lib.hid hb0
  obtain ⟨A, C, q1, hs1⟩ := cut_u8_hi h (show 480 ≤ 512 by decide)
  obtain ⟨A2, C2, q2, hs2, -⟩ := cut_u8_lo' h (show 480 ≤ 512 by decide)
  obtain ⟨g, o, rfl, hat⟩ := hs2.here (by decide)
  rw [show (512 : Nat) - 480 = 32 from rfl, show ((480 : Nat) : Int) = 480 from rfl] at q2
  rw [show ((480 : Nat) : Int) = 480 from rfl] at q1
  have q3 : ∀ w', (Instr.arrayAt 45 (.slice (some ⟨g, o, none⟩) 32 C2)).run Tryd.prog w' = .ok (.pointer (some ⟨g, o, none⟩)) w' := by
    intro w'; simp [Instr.arrayAt, run_underlying Tryd.underlying45]
  obtain ⟨hd, hhd⟩ : ∃ hd, hd = xs.take 480 := ⟨_, rfl⟩
  obtain ⟨tl, htl⟩ : ∃ tl, tl = xs.drop 480 := ⟨_, rfl⟩
  have hhl : hd.length = 480 := by rw [hhd, List.length_take, hlen]; rfl
  have htll : tl.length = 32 := by rw [htl, List.length_drop, hlen]
  rw [← hhd] at hs1
  rw [← htl] at hs2 hat
  obtain ⟨res, hres⟩ : ∃ res, res = getU key xs := ⟨_, rfl⟩
  obtain ⟨er, her⟩ : ∃ er, er = errU key xs := ⟨_, rfl⟩
  have he : er = if macN key hd = tl then (if okU hd then 0 else 4) else 5 := by rw [her, hhd, htl]; unfold errU; rw [if_pos hlen]
  have hg : res = if er = 0 then toldU hd else Ub.zero := by rw [hres, her, hhd]; rfl
  rw [← hres, ← her]
  obtain ⟨w0, hw0⟩ : ∃ w0, w0 = w.alloc (.cells Ub.zero.arr 49) := ⟨_, rfl⟩
  rw [← hw0] at HZ HB hb0
  rw [zero36] at hw0
  have hsh : Sl w0 1 (.slice A 480 C) hd.length (hd.map Bv) := by rw [hhl]; exact hs1.below hb0
  have hk0 := hk.below hb0
  have hat0 := hat.fr (Fr.of_below (S := fun _ => False) hb0) id
  have HFits := Lib.hid (fun (x : Wd w0.heap.size w0) => Calls.wd x (Nat.le_refl _) (fits_any vk (.slice A 480 C) key hd tl x.to (hk0.below x.hb) (hsh.below x.hb) hr (by rw [hhl]; decide) htll))
  have HUT := Lib.hid (fun w' (hw : ∃ x : Wd w0.heap.size w0, w' = x.to) => (by obtain ⟨x, rfl⟩ := hw; exact x.at hat0 : At w' g o (tl.map Bv)))
  have HE := Lib.hid he
  have HRes := Lib.hid hg
  have HTl := Lib.hid htll
  have HSh := Lib.hid (fun (w' : World) (hh : Below w.heap.size w w') => (hs1.below hh : Sl w' 1 (.slice A 480 C) 480 (hd.map Bv)))
  have HW0 := Lib.hid hw0
  clear h hk hb0 hs1 hs2 hat hhd htl hhl htll hres her he hg hw0 hsh hk0 hat0 hlen hr
  go_enter Tryd.func23, Tryd.ntmps23
  go_wp2_with fail
  have hw0 := HW0.out
  rw [← hw0]
  clear hw0
  refine wp_region_wd w0.heap.size (by kernel_rfl) (by kernel_rfl) ?_
  repeat (first
    | (refine wpQuiet_load_at rfl 45 (.tmp 17) rfl g o rfl (tl.map Bv) _ HUT.out Tryd.underlying45 rfl (by rw [info_hash', List.length_map, HTl.out]) ?_; simp only [Act.put, List.setIfInBounds_toArray, List.set_cons_succ, List.set_cons_zero])
    | go_big_quiet_step (with_reducible exact HFits.out _))
  refine wpQuiet_nil ?_
  rintro w1 ⟨⟨_, hb1⟩, rfl⟩
  have HB1 := Lib.hid (HB.out.trans (hb1.mono HB.out.size))
  have HZ1 := Lib.hid ((hb1.block w.heap.size (lt_of_block HZ.out)).trans HZ.out)
  clear hb1
  by_cases hm : macN key hd = tl
  · rw [decide_eq_true hm]
    have hE2 : er = if okU hd then 0 else 4 := by rw [HE.out, if_pos hm]
    clear hm q2 q3
    have hp := fun (w' : World) (h : Sl w' 1 (.slice A 480 C) 480 (hd.map Bv)) => ubParse_any _ hd w' h
    cases hok : okU hd with
    | true =>
      have hgt : gotU hd = toldU hd := by
        unfold gotU
        rw [if_pos]
        unfold okU at hok
        simp only [Bool.and_eq_true, decide_eq_true_eq] at hok
        exact hok.1.1
      rw [hok, hgt] at hp
      rw [hok, if_pos rfl] at hE2
      have hR := HRes.out
      rw [if_pos hE2] at hR
      rw [← hR] at hp
      have hwf := toldU_wf hd
      rw [← hR] at hwf
      have HU := Lib.hid hwf
      have HP := Lib.hid hp
      have HE2 := Lib.hid hE2
      clear hp hok hgt hR hE2 hwf
      go_wp2_with fail
      refine (HP.out _ (HSh.out _ HB1.out)).mono ?_
      rintro e w2 ⟨rfl, hb2⟩
      have HB2 := Lib.hid (HB1.out.trans (hb2.mono HB1.out.size))
      have HZ2 := Lib.hid ((hb2.block w.heap.size (lt_of_block HZ1.out)).trans HZ1.out)
      clear hb2
      go_wp2_with (refine store_ub rfl (.tmp 6) (.tmp 26) rfl rfl rfl (heap_alloc_new _ _) rfl HU.out ?_)
      intro w3 hg3 hf3 hs3
      have hbel3 : Below w2.heap.size w2 w3 := ((Below.refl _ w2).alloc (Nat.le_refl _) _).trans (hf3.below (by simp) (fun k hk => by omega))
      have HA3 := Lib.hid (show At w3 w2.heap.size 0 res.cells from At.of_row hg3)
      have HB3 := Lib.hid (HB2.out.trans (hbel3.mono HB2.out.size))
      have HZ3 := Lib.hid ((hbel3.block w.heap.size (lt_of_block HZ2.out)).trans HZ2.out)
      clear hg3 hf3 hs3 hbel3
      go_wp2_with (first | (refine load_ub rfl (.tmp 6) rfl rfl HA3.out HU.out ?_) | (refine store_ub rfl (.tmp 4) (.tmp 31) rfl rfl rfl HZ3.out Ub.zero_wf.asize HU.out ?_))
      intro w4 hg4 hf4 hs4
      have HG4 := Lib.hid hg4
      have HB4 := Lib.hid (HB3.out.trans (hf4.below HB3.out.size (fun k hk => by omega)))
      clear hg4 hf4 hs4
      go_wp2
      refine bodyPost_ret (ret_ub rfl rfl HG4.out HU.out) rfl ?_
      exact ⟨by rw [HE2.out]; rfl, HB4.out⟩
    | false =>
      rw [hok] at hp
      rw [hok, if_neg Bool.false_ne_true] at hE2
      have hR := HRes.out
      rw [if_neg (by rw [hE2]; decide)] at hR
      have HU := Lib.hid (gotU_wf hd)
      have HP := Lib.hid hp
      have HE2 := Lib.hid hE2
      have HR := Lib.hid hR
      clear hp hok hR hE2
      go_wp2_with fail
      refine (HP.out _ (HSh.out _ HB1.out)).mono ?_
      rintro e w2 ⟨rfl, hb2⟩
      have HB2 := Lib.hid (HB1.out.trans (hb2.mono HB1.out.size))
      have HZ2 := Lib.hid ((hb2.block w.heap.size (lt_of_block HZ1.out)).trans HZ1.out)
      clear hb2
      go_wp2_with (refine store_ub rfl (.tmp 6) (.tmp 26) rfl rfl rfl (heap_alloc_new _ _) rfl HU.out ?_)
      intro w3 hg3 hf3 hs3
      have hbel3 : Below w2.heap.size w2 w3 := ((Below.refl _ w2).alloc (Nat.le_refl _) _).trans (hf3.below (by simp) (fun k hk => by omega))
      have HB3 := Lib.hid (HB2.out.trans (hbel3.mono HB2.out.size))
      have HZ3 := Lib.hid ((hbel3.block w.heap.size (lt_of_block HZ2.out)).trans HZ2.out)
      clear hg3 hf3 hs3 hbel3
      go_wp2_with (refine store_ub rfl (.tmp 4) (.tmp 30) rfl rfl rfl HZ3.out Ub.zero_wf.asize Ub.zero_wf ?_)
      intro w4 hg4 hf4 hs4
      have HG4 := Lib.hid hg4
      have HB4 := Lib.hid (HB3.out.trans (hf4.below HB3.out.size (fun k hk => by omega)))
      clear hg4 hf4 hs4
      go_wp2
      refine bodyPost_ret (ret_ub rfl rfl HG4.out Ub.zero_wf) rfl ?_
      exact ⟨by rw [HE2.out, HR.out]; rfl, HB4.out⟩
  · rw [decide_eq_false hm]
    have hE2 : er = 5 := by rw [HE.out, if_neg hm]
    have hR := HRes.out
    rw [if_neg (by rw [hE2]; decide)] at hR
    have HE2 := Lib.hid hE2
    have HR := Lib.hid hR
    clear hm q2 q3 q1 hE2 hR
    go_wp2_with (refine store_ub rfl (.tmp 4) (.tmp 21) rfl rfl rfl HZ1.out Ub.zero_wf.asize Ub.zero_wf ?_)
    intro w4 hg4 hf4 hs4
    have HG4 := Lib.hid hg4
    have HB4 := Lib.hid (HB1.out.trans (hf4.below HB1.out.size (fun k hk => by omega)))
    clear hg4 hf4 hs4
    go_wp2
    refine bodyPost_ret (ret_ub rfl rfl HG4.out Ub.zero_wf) rfl ?_
    exact ⟨by rw [HE2.out, HR.out]; rfl, HB4.out⟩

theorem ubGet_any (vk v : Value) (key xs : List UInt8) (w : World) (hk : Sl w 1 vk key.length (key.map Bv)) (hr : key.length ≤ 140737488351232) (h : Sl w 1 v xs.length (xs.map Bv)) :
    Calls Tryd.prog 23 #[vk, v] w fun e w' => e = .returned (.tuple #[.agg (getU key xs).arr, .int .i64 (errU key xs)]) ∧ Below w.heap.size w w' := by
  by_cases hl : xs.length = 512
  · rw [hl] at h
    exact ubGet_512 vk v key xs w hk hr h
  · have h1 : errU key xs = 2 := by unfold errU; rw [if_neg hl]
    have h2 : getU key xs = Ub.zero := by unfold getU; rw [h1]; rfl
    rw [h1, h2]
    exact ubGet_len vk v xs w h hl

theorem index_twoU (v0 v1 : Value) (w : World) : (Instr.index 95 (.agg #[v0, v1]) (.int .i64 0)).run Tryd.prog w = .ok v0 w ∧ (Instr.index 95 (.agg #[v0, v1]) (.int .i64 1)).run Tryd.prog w = .ok v1 w := by
  have hsz : (sizeOf 28).run Tryd.prog w = .ok 1 w := by
    have : ∃ i, Tryd.prog.info? 28 = some i ∧ i.size = 1 := by
      have h1 : (Tryd.prog.info? 28).map (·.size) = some 1 := by kernel_rfl
      cases hq : Tryd.prog.info? 28 with
      | none => simp [hq] at h1
      | some i => exact ⟨i, rfl, by simpa [hq] using h1⟩
    obtain ⟨i, hi, hs⟩ := this
    simp [sizeOf, typeInfo, hi, hs]
  constructor <;> (simp [Instr.index, run_underlying Tryd.underlying95, asIntOf, part, Sem.run_bind, hsz])

/-- One round of Choose; the answer after so many rounds. -/
def chS (s : Ub × Int) (slot : Nat) (g : Ub × Int) : Ub × Int := if g.2 = 0 ∧ g.1.txg % 2 = slot ∧ s.1.txg < g.1.txg then (g.1, 0) else s
def chN (key xa xb : List UInt8) : Nat → Ub × Int
  | 0 => (Ub.zero, 8)
  | 1 => chS (Ub.zero, 8) 0 (getU key xa, errU key xa)
  | _ => chS (chS (Ub.zero, 8) 0 (getU key xa, errU key xa)) 1 (getU key xb, errU key xb)
theorem chS_wf {s : Ub × Int} {k : Nat} {g : Ub × Int} (h1 : s.1.Wf) (h2 : g.1.Wf) : (chS s k g).1.Wf := by unfold chS; split; (· exact h2); (· exact h1)

set_option maxRecDepth 100000 in
set_option maxHeartbeats 8000000 in
theorem ubChoose_any (vk va vb : Value) (key xa xb : List UInt8) (w : World) (hk : Sl w 1 vk key.length (key.map Bv)) (hr : key.length ≤ 140737488351232) (ha : Sl w 1 va xa.length (xa.map Bv)) (hb : Sl w 1 vb xb.length (xb.map Bv)) :
    Calls Tryd.prog 26 #[vk, va, vb] w fun e w' => e = .returned (.tuple #[.agg (chN key xa xb 2).1.arr, .int .i64 (chN key xa xb 2).2]) ∧ Below w.heap.size w w' := by
  obtain ⟨ka, kc, rfl, -⟩ := hk.len
  obtain ⟨aa, ac, rfl, -⟩ := ha.len
  obtain ⟨ba, bc, rfl, -⟩ := hb.len
  have HZ := Lib.hid (heap_alloc_new w (.cells Ub.zero.arr 49))
  have HB := Lib.hid ((Below.refl _ w).alloc (Nat.le_refl _) (.cells Ub.zero.arr 49))
  have HK := Lib.hid (fun (w' : World) (hh : Below w.heap.size w w') => (hk.below hh : Sl w' 1 (.slice ka key.length kc) key.length (key.map Bv)))
  have Hva := Lib.hid (fun (w' : World) (hh : Below w.heap.size w w') => (ha.below hh : Sl w' 1 (.slice aa xa.length ac) xa.length (xa.map Bv)))
  have Hvb := Lib.hid (fun (w' : World) (hh : Below w.heap.size w w') => (hb.below hh : Sl w' 1 (.slice ba xb.length bc) xb.length (xb.map Bv)))
  have HR := Lib.hid hr
  obtain ⟨fin, hfin⟩ : ∃ fin, fin = chN key xa xb 2 := ⟨_, rfl⟩
  rw [← hfin]
  have HFin := Lib.hid hfin
  obtain ⟨vk, hvk⟩ : ∃ vk, vk = Value.slice ka key.length kc := ⟨_, rfl⟩
  rw [← hvk] at HK ⊢
  clear hk ha hb hr hfin hvk
  go_enter Tryd.func26, Tryd.ntmps26
  go_wp2_with fail
  go_loopw [15, 7] (fun i ev wr => ∃ k : Nat, k ≤ 2 ∧ i = .int .i64 k ∧ ∃ (best : Ub) (er0 : Int), best.Wf ∧ chN key xa xb k = (best, er0) ∧ ev = .int .i64 er0 ∧ wr.heap[w.heap.size]? = some (.cells best.arr 49 (0, 0)) ∧ Below w.heap.size w wr) (fun i _ _ => 2 - (intOf i).toNat)
  case atStart => exact ⟨0, Nat.zero_le _, rfl, Ub.zero, 8, Ub.zero_wf, rfl, rfl, HZ.out, HB.out⟩
  case round =>
    obtain ⟨k, hk, rfl, best, er0, hbw, hch, rfl, hz, hbel⟩ := hrel
    have HBw := Lib.hid hbw
    have HZr := Lib.hid hz
    have HBr := Lib.hid hbel
    have HCh := Lib.hid hch
    have HBt := Lib.hid hbw.txg
    clear hbw hch hz hbel
    have ix0 := (index_twoU (.slice aa xa.length ac) (.slice ba xb.length bc) wr).1
    have ix1 := (index_twoU (.slice aa xa.length ac) (.slice ba xb.length bc) wr).2
    obtain rfl | rfl | rfl : k = 0 ∨ k = 1 ∨ k = 2 := by omega
    · obtain ⟨x, hx⟩ : ∃ x, x = getU key xa := ⟨_, rfl⟩
      obtain ⟨er, her⟩ : ∃ er, er = errU key xa := ⟨_, rfl⟩
      obtain ⟨m, hm⟩ : ∃ m, m = x.txg % 2 := ⟨_, rfl⟩
      have hxw : x.Wf := by rw [hx]; exact getU_wf _ _
      have hget := fun w' hk hs => ubGet_any vk (.slice aa xa.length ac) key xa w' hk HR.out hs
      rw [← hx, ← her] at hget
      have hslot := fun w' => ubSlot_any x.txg w' hxw.txg
      rw [← hm] at hslot
      have m2 : m < 2 := by omega
      have HM := Lib.hid hm
      have HV := Hva
      have HXw := Lib.hid hxw
      have HGet := Lib.hid hget
      have HSlot := Lib.hid hslot
      have HNx := Lib.hid (show chN key xa xb 1 = chS (chN key xa xb 0) 0 (x, er) by rw [hx, her]; rfl)
      have HXt := Lib.hid hxw.txg
      clear hx her hm hxw hget hslot
      rw [show ((0 : Nat) : Int) = 0 from rfl]
      go_wp2_with fail
      refine (HGet.out _ (HK.out _ HBr.out) (HV.out _ HBr.out)).mono ?_
      rintro e w2 ⟨rfl, hb2⟩
      have HB2 := Lib.hid (HBr.out.trans (hb2.mono HBr.out.size))
      have HZ2 := Lib.hid ((hb2.block w.heap.size (lt_of_block HZr.out)).trans HZr.out)
      clear hb2
      go_wp2_with (refine store_ub rfl (.tmp 10) (.tmp 23) rfl rfl rfl (heap_alloc_new _ _) rfl HXw.out ?_)
      intro w3 hg3 hf3 hs3
      have hbel3 : Below w2.heap.size w2 w3 := ((Below.refl _ w2).alloc (Nat.le_refl _) _).trans (hf3.below (by simp) (fun k hk => by omega))
      have hz3 := (hbel3.block w.heap.size (lt_of_block HZ2.out)).trans HZ2.out
      have HA3 := Lib.hid (show At w3 w2.heap.size 0 x.cells from At.of_row hg3)
      have HB3 := Lib.hid (HB2.out.trans (hbel3.mono HB2.out.size))
      have HZ3 := Lib.hid hz3
      have cx : w3.cell? ⟨w2.heap.size, 0, none⟩ = some (.int .u64 (x.txg : Int)) := (cell_of_row _ _ 0 _ _ _ hg3).trans x.get0
      have cb : w3.cell? ⟨w.heap.size, 0, none⟩ = some (.int .u64 (best.txg : Int)) := (cell_of_row _ _ 0 _ _ _ hz3).trans best.get0
      clear hg3 hf3 hs3 hbel3 hz3
      by_cases he : er = 0
      · have e0 : (er == 0) = true := by rw [he]; rfl
        by_cases hm : m = 0
        · have e1 : ((m : Int) == 0) = true := by rw [hm]; rfl
          by_cases ht : best.txg < x.txg
          · have e2 : (best.txg : Int) < (x.txg : Int) := by omega
            have HN := Lib.hid (show chS (best, er0) 0 (x, er) = (x, 0) by unfold chS; rw [if_pos ⟨he, by rw [← HM.out]; exact hm, ht⟩])
            clear he hm ht
            go_wp2_with fail
            refine (HSlot.out _).mono ?_
            rintro e w4 ⟨rfl, rfl⟩
            go_wp2_with (first | (refine load_ub rfl (.tmp 10) rfl rfl HA3.out HXw.out ?_) | (refine store_ub rfl (.tmp 6) (.tmp 42) rfl rfl rfl HZ3.out HBw.out.asize HXw.out ?_))
            intro w5 hg5 hf5 hs5
            have HG5 := Lib.hid hg5
            have HB5 := Lib.hid (HB3.out.trans (hf5.below HB3.out.size (fun k hk => by omega)))
            clear hg5 hf5 hs5
            go_wp2_with fail
            go_roundw
            case rel => exact ⟨0 + 1, by omega, by go_num, x, 0, HXw.out, (HNx.out.trans (congrArg (fun s => chS s 0 (x, er)) HCh.out)).trans HN.out, rfl, HG5.out, HB5.out⟩
            case measure => simp [intOf]
          · have e2 : ¬ (best.txg : Int) < (x.txg : Int) := by omega
            have HN := Lib.hid (show chS (best, er0) 0 (x, er) = (best, er0) by unfold chS; rw [if_neg (fun h => ht h.2.2)])
            clear he hm ht
            go_wp2_with fail
            refine (HSlot.out _).mono ?_
            rintro e w4 ⟨rfl, rfl⟩
            go_wp2_with fail
            go_roundw
            case rel => exact ⟨0 + 1, by omega, by go_num, best, er0, HBw.out, (HNx.out.trans (congrArg (fun s => chS s 0 (x, er)) HCh.out)).trans HN.out, rfl, HZ3.out, HB3.out⟩
            case measure => simp [intOf]
        · have e1 : ((m : Int) == 0) = false := by simp; omega
          have HN := Lib.hid (show chS (best, er0) 0 (x, er) = (best, er0) by unfold chS; rw [if_neg (fun h => hm (by rw [HM.out]; exact h.2.1))])
          clear he hm
          go_wp2_with fail
          refine (HSlot.out _).mono ?_
          rintro e w4 ⟨rfl, rfl⟩
          go_wp2_with fail
          go_roundw
          case rel => exact ⟨0 + 1, by omega, by go_num, best, er0, HBw.out, (HNx.out.trans (congrArg (fun s => chS s 0 (x, er)) HCh.out)).trans HN.out, rfl, HZ3.out, HB3.out⟩
          case measure => simp [intOf]
      · have e0 : (er == 0) = false := by rw [beq_eq_false_iff_ne]; exact he
        have HN := Lib.hid (show chS (best, er0) 0 (x, er) = (best, er0) by unfold chS; rw [if_neg (fun h => he h.1)])
        clear he
        go_wp2_with fail
        go_roundw
        case rel => exact ⟨0 + 1, by omega, by go_num, best, er0, HBw.out, (HNx.out.trans (congrArg (fun s => chS s 0 (x, er)) HCh.out)).trans HN.out, rfl, HZ3.out, HB3.out⟩
        case measure => simp [intOf]
    · obtain ⟨x, hx⟩ : ∃ x, x = getU key xb := ⟨_, rfl⟩
      obtain ⟨er, her⟩ : ∃ er, er = errU key xb := ⟨_, rfl⟩
      obtain ⟨m, hm⟩ : ∃ m, m = x.txg % 2 := ⟨_, rfl⟩
      have hxw : x.Wf := by rw [hx]; exact getU_wf _ _
      have hget := fun w' hk hs => ubGet_any vk (.slice ba xb.length bc) key xb w' hk HR.out hs
      rw [← hx, ← her] at hget
      have hslot := fun w' => ubSlot_any x.txg w' hxw.txg
      rw [← hm] at hslot
      have m2 : m < 2 := by omega
      have HM := Lib.hid hm
      have HV := Hvb
      have HXw := Lib.hid hxw
      have HGet := Lib.hid hget
      have HSlot := Lib.hid hslot
      have HNx := Lib.hid (show chN key xa xb 2 = chS (chN key xa xb 1) 1 (x, er) by rw [hx, her]; rfl)
      have HXt := Lib.hid hxw.txg
      clear hx her hm hxw hget hslot
      rw [show ((1 : Nat) : Int) = 1 from rfl]
      go_wp2_with fail
      refine (HGet.out _ (HK.out _ HBr.out) (HV.out _ HBr.out)).mono ?_
      rintro e w2 ⟨rfl, hb2⟩
      have HB2 := Lib.hid (HBr.out.trans (hb2.mono HBr.out.size))
      have HZ2 := Lib.hid ((hb2.block w.heap.size (lt_of_block HZr.out)).trans HZr.out)
      clear hb2
      go_wp2_with (refine store_ub rfl (.tmp 10) (.tmp 23) rfl rfl rfl (heap_alloc_new _ _) rfl HXw.out ?_)
      intro w3 hg3 hf3 hs3
      have hbel3 : Below w2.heap.size w2 w3 := ((Below.refl _ w2).alloc (Nat.le_refl _) _).trans (hf3.below (by simp) (fun k hk => by omega))
      have hz3 := (hbel3.block w.heap.size (lt_of_block HZ2.out)).trans HZ2.out
      have HA3 := Lib.hid (show At w3 w2.heap.size 0 x.cells from At.of_row hg3)
      have HB3 := Lib.hid (HB2.out.trans (hbel3.mono HB2.out.size))
      have HZ3 := Lib.hid hz3
      have cx : w3.cell? ⟨w2.heap.size, 0, none⟩ = some (.int .u64 (x.txg : Int)) := (cell_of_row _ _ 0 _ _ _ hg3).trans x.get0
      have cb : w3.cell? ⟨w.heap.size, 0, none⟩ = some (.int .u64 (best.txg : Int)) := (cell_of_row _ _ 0 _ _ _ hz3).trans best.get0
      clear hg3 hf3 hs3 hbel3 hz3
      by_cases he : er = 0
      · have e0 : (er == 0) = true := by rw [he]; rfl
        by_cases hm : m = 1
        · have e1 : ((m : Int) == 1) = true := by rw [hm]; rfl
          by_cases ht : best.txg < x.txg
          · have e2 : (best.txg : Int) < (x.txg : Int) := by omega
            have HN := Lib.hid (show chS (best, er0) 1 (x, er) = (x, 0) by unfold chS; rw [if_pos ⟨he, by rw [← HM.out]; exact hm, ht⟩])
            clear he hm ht
            go_wp2_with fail
            refine (HSlot.out _).mono ?_
            rintro e w4 ⟨rfl, rfl⟩
            go_wp2_with (first | (refine load_ub rfl (.tmp 10) rfl rfl HA3.out HXw.out ?_) | (refine store_ub rfl (.tmp 6) (.tmp 42) rfl rfl rfl HZ3.out HBw.out.asize HXw.out ?_))
            intro w5 hg5 hf5 hs5
            have HG5 := Lib.hid hg5
            have HB5 := Lib.hid (HB3.out.trans (hf5.below HB3.out.size (fun k hk => by omega)))
            clear hg5 hf5 hs5
            go_wp2_with fail
            go_roundw
            case rel => exact ⟨1 + 1, by omega, by go_num, x, 0, HXw.out, (HNx.out.trans (congrArg (fun s => chS s 1 (x, er)) HCh.out)).trans HN.out, rfl, HG5.out, HB5.out⟩
            case measure => simp [intOf]
          · have e2 : ¬ (best.txg : Int) < (x.txg : Int) := by omega
            have HN := Lib.hid (show chS (best, er0) 1 (x, er) = (best, er0) by unfold chS; rw [if_neg (fun h => ht h.2.2)])
            clear he hm ht
            go_wp2_with fail
            refine (HSlot.out _).mono ?_
            rintro e w4 ⟨rfl, rfl⟩
            go_wp2_with fail
            go_roundw
            case rel => exact ⟨1 + 1, by omega, by go_num, best, er0, HBw.out, (HNx.out.trans (congrArg (fun s => chS s 1 (x, er)) HCh.out)).trans HN.out, rfl, HZ3.out, HB3.out⟩
            case measure => simp [intOf]
        · have e1 : ((m : Int) == 1) = false := by simp; omega
          have HN := Lib.hid (show chS (best, er0) 1 (x, er) = (best, er0) by unfold chS; rw [if_neg (fun h => hm (by rw [HM.out]; exact h.2.1))])
          clear he hm
          go_wp2_with fail
          refine (HSlot.out _).mono ?_
          rintro e w4 ⟨rfl, rfl⟩
          go_wp2_with fail
          go_roundw
          case rel => exact ⟨1 + 1, by omega, by go_num, best, er0, HBw.out, (HNx.out.trans (congrArg (fun s => chS s 1 (x, er)) HCh.out)).trans HN.out, rfl, HZ3.out, HB3.out⟩
          case measure => simp [intOf]
      · have e0 : (er == 0) = false := by rw [beq_eq_false_iff_ne]; exact he
        have HN := Lib.hid (show chS (best, er0) 1 (x, er) = (best, er0) by unfold chS; rw [if_neg (fun h => he h.1)])
        clear he
        go_wp2_with fail
        go_roundw
        case rel => exact ⟨1 + 1, by omega, by go_num, best, er0, HBw.out, (HNx.out.trans (congrArg (fun s => chS s 1 (x, er)) HCh.out)).trans HN.out, rfl, HZ3.out, HB3.out⟩
        case measure => simp [intOf]
    · have HA := Lib.hid (show At wr w.heap.size 0 best.cells from At.of_row HZr.out)
      have HF := Lib.hid (HFin.out.trans HCh.out)
      go_wp2_with (first | (refine load_ub rfl (.tmp 6) rfl rfl HA.out HBw.out ?_) | (refine store_ub rfl (.tmp 6) (.tmp 44) rfl rfl rfl HZr.out HBw.out.asize HBw.out ?_))
      intro w5 hg5 hf5 hs5
      have HG5 := Lib.hid hg5
      have HB5 := Lib.hid (HBr.out.trans (hf5.below HBr.out.size (fun k hk => by omega)))
      clear hg5 hf5 hs5
      go_wp2
      refine bodyPost_ret (ret_ub rfl rfl HG5.out HBw.out) rfl ?_
      exact ⟨by rw [HF.out]; rfl, HB5.out⟩
end Go.Proofs.YtdmgmpagnmmehaaDoor
