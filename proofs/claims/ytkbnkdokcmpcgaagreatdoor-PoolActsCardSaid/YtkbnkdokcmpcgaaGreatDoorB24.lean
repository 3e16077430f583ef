/- What stands aside of a pool's acts, by blocks; a slice of acts. Walk: banyanlaw13.PoolActs: what stands ahead of an act. Walk: banyanlaw13.PoolActs: Begin. Walk: banyanlaw13.PoolActs: Keep. Walk: banyanlaw13's reads: what may not be. -/
import Derived.Test.YtkbnkdokcmpcgaaGreatDoorB23
namespace Go.Proofs.YtkbnkdokcmpcgaaGreatDoor
open Go.RowKit

def objsAt (w : World) (bs : List Nat) : List (Nat × Obj) := bs.filterMap fun b => (w.heap[b]?).map fun o => (b, o)
theorem objsAt_mem {w : World} {bs : List Nat} {b : Nat} {o : Obj} : (b, o) ∈ objsAt w bs ↔ b ∈ bs ∧ w.heap[b]? = some o := by
  unfold objsAt
  rw [List.mem_filterMap]
  constructor
  · rintro ⟨c, hc, h⟩
    obtain ⟨o', ho', e⟩ := Option.map_eq_some_iff.1 h
    injection e with e1 e2
    subst e1 e2
    exact ⟨hc, ho'⟩
  · rintro ⟨h1, h2⟩
    exact ⟨b, h1, by rw [h2]; rfl⟩
theorem objsAt_congr {w w' : World} : ∀ {bs : List Nat}, (∀ b ∈ bs, w'.heap[b]? = w.heap[b]?) → objsAt w' bs = objsAt w bs
  | [], _ => rfl
  | b :: bs, h => by
    have h1 := h b List.mem_cons_self
    have h2 := objsAt_congr (bs := bs) fun c hc => h c (List.mem_cons_of_mem _ hc)
    unfold objsAt at h2 ⊢
    rw [List.filterMap_cons, List.filterMap_cons, h1, h2]
def PSB (B : Nat) (w : World) (P D S W lo : Nat) (ks : List UInt8) (t : Nat → Bool) (birth : Nat) (d : Dv) (bs : List Nat) : Prop := (∀ b ∈ bs, b < w.heap.size) ∧ PS B w P D S W lo ks t birth d (objsAt w bs)
section
variable {B P D S W lo birth birth' : Nat} {w w' : World} {ks : List UInt8} {t t' : Nat → Bool} {d d' : Dv} {bs bs' : List Nat}
theorem PSB.same (h : PSB B w P D S W lo ks t birth d bs) (h' : PS B w' P D S W lo ks t' birth' d' (objsAt w bs)) (hs : w.heap.size ≤ w'.heap.size) : PSB B w' P D S W lo ks t' birth' d' bs ∧ ∀ b ∈ bs, w'.heap[b]? = w.heap[b]? := by
  have hrow : ∀ b ∈ bs, w'.heap[b]? = w.heap[b]? := fun b hb => by
    have hlt := h.1 b hb
    have hr : w.heap[b]? = some w.heap[b] := Array.getElem?_eq_getElem hlt
    rw [hr]
    exact h'.row (objsAt_mem.2 ⟨hb, hr⟩)
  refine ⟨⟨fun b hb => Nat.lt_of_lt_of_le (h.1 b hb) hs, ?_⟩, hrow⟩
  have e : objsAt w' bs = objsAt w bs := by
    exact objsAt_congr hrow
  rw [e]; exact h'
theorem PSB.touch {F : Nat → Prop} (h : PSB B w P D S W lo ks t birth d bs) (hf : Fr F w w') (hF : ∀ k, F k → k ∈ bs) (hb : ∀ b ∈ bs', (b ∈ bs ∨ w.heap.size ≤ b) ∧ b < w'.heap.size) : PSB B w' P D S W lo ks t birth d bs' := by
  refine ⟨fun b hm => (hb b hm).2, h.2.keep hf (fun k hk => ⟨_, objsAt_mem.2 ⟨hF k hk, Array.getElem?_eq_getElem (h.1 k (hF k hk))⟩⟩) fun b o hm => ?_⟩
  obtain ⟨h1, h2⟩ := objsAt_mem.1 hm
  refine ⟨h2, ?_⟩
  rcases (hb b h1).1 with e | e
  · exact Or.inl ⟨_, objsAt_mem.2 ⟨e, Array.getElem?_eq_getElem (h.1 b e)⟩⟩
  · exact Or.inr e
theorem PSB.below (h : PSB B w P D S W lo ks t birth d bs) (hb : Below w.heap.size w w') : PSB B w' P D S W lo ks t birth d bs :=
  h.touch (F := fun _ => False) (Fr.of_below hb) (fun _ h => h.elim) (fun b hm => ⟨Or.inl hm, Nat.lt_of_lt_of_le (h.1 b hm) hb.size⟩)
theorem PSB.sub (h : PSB B w P D S W lo ks t birth d bs) (hs : ∀ b ∈ bs', b ∈ bs) : PSB B w P D S W lo ks t birth d bs' :=
  h.touch (F := fun _ => False) (Fr.refl _ _) (fun _ h => h.elim) (fun b hm => ⟨Or.inl (hs b hm), h.1 b (hs b hm)⟩)
theorem PSB.pl (h : PSB B w P D S W lo ks t birth d bs) : PlAt w P D S W d.size ks t birth := h.2.pl
end

theorem RpAt.blocks {w w' : World} {R S V M size birth : Nat} {t : Nat → Bool} {lies : Lies} (h : RpAt w R S V M size t birth lies) (hb : ∀ k, RpF R S V M k → w'.heap[k]? = w.heap[k]?) : RpAt w' R S V M size t birth lies := by
  obtain ⟨ml, h1, h2⟩ := h.lm
  obtain ⟨a, b, c, d, e, f⟩ := h.sp
  exact ⟨(hb _ (Or.inl rfl)).trans h.row, ⟨a, b, c, d, (hb _ (Or.inr (Or.inl rfl))).trans e, (hb _ (Or.inr (Or.inr (Or.inl rfl)))).trans f⟩, ⟨ml, h1.of_block (hb _ (Or.inr (Or.inr (Or.inr rfl)))), h2⟩, h.nRS, h.nRV⟩

structure Ac13 where
  kind : Int
  which : Int
  count : Int
  arr : Array Value
  n : Nd
  birth : Nat
  v : Value
  us : List Nat
  p : Pt
def Ac13.cells (a : Ac13) : List Value := [.int .i64 a.kind, .int .i64 a.which, .int .i64 a.count] ++ a.arr.toList ++ [.int .u64 (a.birth : Int), a.v] ++ a.p.cells
structure Ac13Is (w : World) (a : Ac13) : Prop where
  nd : NdIs w a.arr a.n
  fits : a.n.Fits
  birth : a.birth < 18446744073709551616
  us : Sl w 1 a.v a.us.length (a.us.map U32)
  u32 : ∀ u ∈ a.us, u < 4294967296
  p : a.p.Wf
  count : -9223372036854775808 ≤ a.count ∧ a.count ≤ 9223372036854775807
  which : -9223372036854775808 ≤ a.which ∧ a.which ≤ 9223372036854775807
theorem Ac13Is.below {w w' : World} {a : Ac13} (h : Ac13Is w a) (hb : Below w.heap.size w w') : Ac13Is w' a := ⟨h.nd.below hb, h.fits, h.birth, h.us.below hb, h.u32, h.p, h.count, h.which⟩
theorem Ac13Is.len {w : World} {a : Ac13} (h : Ac13Is w a) : a.cells.length = 43 := by unfold Ac13.cells; simp [h.nd.size, h.p.len]
theorem Ac13Is.one {w : World} {a : Ac13} (h : Ac13Is w a) : ∀ u ∈ a.cells, u.oneCell' = true := by
  obtain ⟨av, cv, hv, _⟩ := h.us.len
  intro u hu
  unfold Ac13.cells at hu
  simp only [List.mem_append, List.mem_cons, List.not_mem_nil, or_false] at hu
  rcases hu with (((rfl | rfl | rfl) | hu) | (rfl | rfl)) | hu
  · rfl
  · rfl
  · rfl
  · exact h.nd.one u hu
  · rfl
  · rw [hv]; rfl
  · exact a.p.one u (by simpa [Pt.arr] using hu)
theorem Ac13.parts {w0 w : World} {a : Ac13} {b o : Nat} (hi : Ac13Is w0 a) (h : At w b o a.cells) : w.cell? ⟨b, o, none⟩ = some (.int .i64 a.kind) ∧ w.cell? ⟨b, o + 1, none⟩ = some (.int .i64 a.which) ∧ w.cell? ⟨b, o + 2, none⟩ = some (.int .i64 a.count) ∧ At w b (o + 3) a.arr.toList ∧
    w.cell? ⟨b, o + 7, none⟩ = some (.int .u64 (a.birth : Int)) ∧ w.cell? ⟨b, o + 8, none⟩ = some a.v ∧ At w b (o + 9) a.p.cells := by
  have hl : a.arr.toList.length = 4 := by rw [Array.length_toList]; exact hi.nd.size
  have h1 := At.part (xs := [.int .i64 a.kind, .int .i64 a.which, .int .i64 a.count]) (cs := a.arr.toList) (ys := [.int .u64 (a.birth : Int), a.v] ++ a.p.cells) (by unfold Ac13.cells at h; simpa using h)
  have h2 := At.part (xs := [.int .i64 a.kind, .int .i64 a.which, .int .i64 a.count] ++ a.arr.toList) (cs := [.int .u64 (a.birth : Int), a.v]) (ys := a.p.cells) (by unfold Ac13.cells at h; simpa using h)
  have h3 := At.part (xs := [.int .i64 a.kind, .int .i64 a.which, .int .i64 a.count] ++ a.arr.toList ++ [.int .u64 (a.birth : Int), a.v]) (cs := a.p.cells) (ys := []) (by unfold Ac13.cells at h; simpa using h)
  refine ⟨h 0 _ rfl, h 1 _ rfl, h 2 _ rfl, h1, ?_, ?_, ?_⟩
  · have := h2 0 _ rfl; simpa [hi.nd.size] using this
  · have := h2 1 _ rfl; simpa [hi.nd.size] using this
  · simpa [hi.nd.size] using h3
def Acs13 (w : World) (v : Value) (l : List Ac13) : Prop :=
  ∃ a cap, v = .slice a l.length cap ∧ ∀ i (hi : i < l.length), ∃ b o, a = some ⟨b, o, none⟩ ∧ At w b (o + i * 43) l[i].cells ∧ Ac13Is w l[i]
theorem Acs13.below {w w' : World} {v : Value} {l : List Ac13} (h : Acs13 w v l) (hb : Below w.heap.size w w') : Acs13 w' v l := by
  obtain ⟨a, cap, rfl, hel⟩ := h
  refine ⟨a, cap, rfl, fun i hi => ?_⟩
  obtain ⟨b, o, rfl, h1, h2⟩ := hel i hi
  exact ⟨b, o, rfl, h1.fr (Fr.of_below (S := fun _ => False) hb) id, h2.below hb⟩

theorem LieOk.cur {w : World} {ks : List UInt8} {d d' : Dv} {lies : Lies} (h : LieOk w ks d lies) (hs : d'.size = d.size) (hc : ∀ a, d'.cur a = d.cur a) : LieOk w ks d' lies :=
  ⟨fun a z hz => by obtain ⟨b, h1, h2, h3, h4, h5⟩ := h.ok a z hz; exact ⟨b, h1, by rw [hs]; exact h2, h3, by rw [hc]; exact h4, h5⟩⟩
theorem keep_bit (j : Nat) (h : j < 64) : 18446744073709551615 / 2 ^ j % 2 = 1 := by
  have := Nat.testBit_two_pow_sub_one 64 j
  rw [Nat.testBit_eq_decide_div_mod_eq] at this
  rw [show (18446744073709551615 : Nat) = 2 ^ 64 - 1 from rfl]
  exact of_decide_eq_true (this.trans (decide_eq_true h))
theorem crashTo_all (d : Dv) (keep : Nat) (hk : ∀ j, j < 64 → keep / 2 ^ j % 2 = 1) : ∀ n, n ≤ d.waits.length → ∀ a, crashTo d keep (-1) n a = ({ d with waits := d.waits.take n } : Dv).cur a
  | 0, _, a => by
    have e : ({ d with waits := d.waits.take 0 } : Dv).cur a = d.lies a := by unfold Dv.cur; rfl
    rw [e]; rfl
  | n + 1, hn, a => by
    have hlt : n < d.waits.length := by omega
    have e : ({ d with waits := d.waits.take (n + 1) } : Dv) = ({ d with waits := d.waits.take n } : Dv).wrote d.waits[n].1 d.waits[n].2 := by
      unfold Dv.wrote; rw [List.take_succ_eq_append_getElem hlt]
    rw [e, Dv.cur_wrote]
    unfold crashTo crash1
    rw [if_neg (by omega), if_pos (hk _ (Nat.mod_lt _ (by decide)))]
    have hg : d.waits.getD n (0, []) = d.waits[n] := by rw [List.getD_eq_getElem?_getD, List.getElem?_eq_getElem hlt]; rfl
    rw [hg]
    rw [crashTo_all d keep hk n (by omega) a]
theorem crashed_all (d : Dv) (a : Nat) : (d.crashed 18446744073709551615 (-1)).cur a = d.cur a := by
  have h := fun (keep : Nat) (hk : ∀ j, j < 64 → keep / 2 ^ j % 2 = 1) => show (d.crashed keep (-1)).cur a = d.cur a from by
    have h1 : (d.crashed keep (-1)).cur a = crashTo d keep (-1) d.waits.length a := by unfold Dv.crashed Dv.cur; rfl
    rw [h1, crashTo_all d keep hk _ (Nat.le_refl _) a, List.take_length]
  exact h _ keep_bit
theorem miss_cur (d : Dv) (a : Nat) : d.miss.cur a = d.cur a := by
  unfold Dv.miss
  split <;> rfl

theorem keep_psb (B P D S W lo birth : Nat) (ks : List UInt8) (t : Nat → Bool) (d : Dv) (bs : List Nat) (w : World) (n : Nat) (l : List Nat) (v : Value) (h : PSB B w P D S W lo ks t birth d bs) (hB : B ≤ w.heap.size) (hv : Sl w 1 v n (l.map U32)) (hl : ∀ a ∈ l, 2 ≤ a ∧ a < d.size) (hsz : d.size ≤ 4096) (hn : n ≤ 140737488351232)
    (hno : 0 < n → ∀ a m c, v = .slice (some a) m c → a.block < B) :
    Calls Tryz.prog 24 #[.pointer (some ⟨P, 0, none⟩), v] w fun e w' => e = .returned (.int .i64 0) ∧ PSB B w' P D S W lo ks (ofL l) birth d bs ∧ (∀ b ∈ bs, w'.heap[b]? = w.heap[b]?) ∧ Below B w w' := by
  obtain ⟨hbs, F, h1, h2, h3, h4, h5⟩ := h
  refine (poKeep_any0 P D S W d.size birth n ks t l v w h1 hv (fun a ha => by have := hl a ha; omega) hn (fun h0 a m c e hh => by have := hno h0 a m c e; have := (h4 a.block (Or.inr hh)).1; omega)).mono ?_
  rintro e w' ⟨hy, _⟩
  obtain ⟨rfl, hp, hf⟩ := hy hl
  have hSW : ∀ k, F k → ¬ (k = S ∨ k = W) := fun k hk => by rintro (e | e); exact (h4 k (Or.inr (Or.inl e))).2 hk; exact (h4 k (Or.inr (Or.inr e))).2 hk
  have ha := PS.after B P D S W lo birth ks t d (objsAt w bs) w hB h1 h3 h4 h5 rfl hp (h2.fr hf hSW) (fun k hk => Or.inl hk) (hf.mono (fun k _ hk => Or.inr hk))
  have hs := PSB.same ⟨hbs, F, h1, h2, h3, h4, h5⟩ ha.1 hf.size
  exact ⟨rfl, hs.1, hs.2, ha.2⟩
theorem keep_bad (P D S W birth : Nat) (ks : List UInt8) (t : Nat → Bool) (size : Nat) (w : World) (n : Nat) (l : List Nat) (v : Value) (h : PlAt w P D S W size ks t birth) (hv : Sl w 1 v n (l.map U32)) (hu : ∀ a ∈ l, a < 4294967296) (hl : ¬ ∀ a ∈ l, 2 ≤ a ∧ a < size) (hn : n ≤ 140737488351232) (hno : 0 < n → ∀ a m c, v = .slice (some a) m c → ¬ (a.block = S ∨ a.block = W)) :
    Calls Tryz.prog 24 #[.pointer (some ⟨P, 0, none⟩), v] w fun e w' => e = .returned (.int .i64 2) ∧ w = w' := by
  refine (poKeep_any0 P D S W size birth n ks t l v w h hv hu hn hno).mono ?_
  rintro e w' ⟨_, hy⟩
  exact hy hl

end Go.Proofs.YtkbnkdokcmpcgaaGreatDoor
namespace Go.Proofs.YtkbnkdokcmpcgaaGreatDoor
open Go.RowKit

def zeroAc : List Value := [.int .i64 0, .int .i64 0, .int .i64 0] ++ zeroArr.toList ++ [.int .u64 0, .slice none 0 0] ++ Pt.zero.cells
theorem info_ac13 : (Tryz.prog.info? 78).map (·.size) = some 43 := by kernel_rfl

def AcRel (B : Nat) (w2 : World) (P D S W lo : Nat) (ks : List UInt8) (R S2 M n k : Nat) (vA : Value) (wr : World) : Prop :=
  ∃ (d : Dv) (t : Nat → Bool) (birth : Nat) (lies : Lies) (V2 : Nat) (ps : List Pt) (bs : List Nat), PSB B wr P D S W lo ks t birth d bs ∧ Below B w2 wr ∧ d.size = n ∧ d.waits.length ≤ k ∧ birth < 18446744073709551616 ∧ RpAt wr R S2 V2 M n t birth lies ∧ LieOk w2 ks d lies ∧
    wr.ownsRow B 43 34 vA ps.length (ps.map Pt.cells).flatten ∧ (∀ p ∈ ps, p.Wf) ∧ ps.length ≤ k ∧ (∀ q, RpF R S2 V2 M q → q ∈ bs) ∧ (∀ q, vA.ownBlock = some q → q ∈ bs) ∧ (∀ q ∈ bs, B ≤ q)

theorem RpAt.births {w : World} {R S V M size birth : Nat} {t : Nat → Bool} {lies : Lies} (h : RpAt w R S V M size t birth lies) (b : Nat) : RpAt (w.setCell ⟨R, 2, none⟩ (.int .u64 (b : Int))) R S V M size t b lies := by
  have hf := (Fr.refl (fun k => k = R) w).set R 2 rfl (.int .u64 (b : Int))
  obtain ⟨ml, h1, h2⟩ := h.lm
  refine ⟨?_, h.sp.fr hf (Ne.symm h.nRS) (Ne.symm h.nRV), ⟨ml, h1.fr hf ?_, h2⟩, h.nRS, h.nRV⟩
  · exact heap_setCell_same w R 2 _ _ _ h.row
  · intro e
    obtain ⟨es, cl, hm, _⟩ := h1
    rw [e, h.row] at hm
    cases hm
theorem AcRel.below {w2 : World} {P D S W lo : Nat} {ks : List UInt8} {R S2 M n k : Nat} {vA : Value} {w w' : World} (h : AcRel w2.heap.size w2 P D S W lo ks R S2 M n k vA w) (hb : Below w.heap.size w w') : AcRel w2.heap.size w2 P D S W lo ks R S2 M n k vA w' := by
  obtain ⟨d, t, birth, lies, V2, ps, bs, hps, hx, hsz, hwl, hbi, hrp, hlo, hown, hpw, hpl, hbR, hbA, hbB⟩ := h
  exact ⟨d, t, birth, lies, V2, ps, bs, hps.below hb, hx.trans (hb.mono hx.size), hsz, hwl, hbi, hrp.below hb, hlo, hown.blocks fun q hq => hb.block q (hown.lt q hq).2, hpw, hpl, hbR, hbA, hbB⟩
theorem AcRel.next {B : Nat} {w2 : World} {P D S W lo : Nat} {ks : List UInt8} {R S2 M n k : Nat} {vA : Value} {w : World} (h : AcRel B w2 P D S W lo ks R S2 M n k vA w) : AcRel B w2 P D S W lo ks R S2 M n (k + 1) vA w := by
  obtain ⟨d, t, birth, lies, V2, ps, bs, hps, hx, hsz, hwl, hbi, hrp, hlo, hown, hpw, hpl, hbR, hbA, hbB⟩ := h
  exact ⟨d, t, birth, lies, V2, ps, bs, hps, hx, hsz, by omega, hbi, hrp, hlo, hown, hpw, by omega, hbR, hbA, hbB⟩

def blkOf (n : Nat) : Code → Option Code
  | .seq a b => match blkOf n a with
    | some c => some c
    | none => blkOf n b
  | .cond _ a b => match blkOf n a with
    | some c => some c
    | none => blkOf n b
  | .block i c => if i = n then some c else blkOf n c
  | .loop c => blkOf n c
  | _ => none
def blkIn (f : Func) (n : Nat) : Code := ((f.body).bind (blkOf n)).getD .skip

structure AcSt (w2 w8 : World) (P D S W lo : Nat) (ks : List UInt8) (R S2 V2 M n k g1 : Nat) (d : Dv) (t : Nat → Bool) (birth : Nat) (lies : Lies) (ps : List Pt) (bs : List Nat) (vA : Value) (a : Ac13) (aL : Option Addr) (cL : Nat) : Prop where
  HP : PSB w2.heap.size w8 P D S W lo ks t birth d (g1 :: bs)
  HX : Below w2.heap.size w2 w8
  HRp : RpAt w8 R S2 V2 M n t birth lies
  HOw : w8.ownsRow w2.heap.size 43 34 vA ps.length (ps.map Pt.cells).flatten
  HG : w8.heap[g1]? = some (.cells a.cells.toArray 78 (0, 0))
  HI : Ac13Is w2 a
  HVL : a.v = .slice aL a.us.length cL
  HLo : LieOk w2 ks d lies
  HPw : ∀ p ∈ ps, p.Wf
  HBs : (∀ q, RpF R S2 V2 M q → q ∈ bs) ∧ (∀ q, vA.ownBlock = some q → q ∈ bs) ∧ (∀ q ∈ bs, w2.heap.size ≤ q)
  HD : d.size = n ∧ d.waits.length ≤ k ∧ birth < 18446744073709551616 ∧ ps.length ≤ k
  HT : Tz w2
  HK : ks.length = 64
  n35 : n ≤ 35
  us : a.us.length ≤ 100
  k40 : k ≤ 40
  hk : ¬ heavy13 a.n = true

end Go.Proofs.YtkbnkdokcmpcgaaGreatDoor
namespace Go.Proofs.YtkbnkdokcmpcgaaGreatDoor
open Go.RowKit

set_option maxRecDepth 100000 in
set_option maxHeartbeats 16000000 in
theorem act_begin {w2 w8 : World} {P D S W lo : Nat} {ks : List UInt8} {R S2 V2 M n k g1 : Nat} {d : Dv} {t : Nat → Bool} {birth : Nat} {lies : Lies} {ps : List Pt} {bs : List Nat} {vA : Value} {a : Ac13} {aL : Option Addr} {cL : Nat} (h : AcSt w2 w8 P D S W lo ks R S2 V2 M n k g1 d t birth lies ps bs vA a aL cL) (kd : Int) (hkd : kd = a.kind) (hk1 : kd = 1) {Q : Exit → Act → World → Prop} {u0 u1 u2 u3 u4 u8 u9 u11 u12 u14 u15 u16 u17 u18 u19 u20 u21 u22 u23 u24 u25 u26 u27 u28 u29 u30 u31 u32 u33 u34 u35 u36 u37 u38 u39 u40 u41 u42 u43 u44 u45 u46 u47 u48 u49 u50 u51 u52 u53 u54 u55 u56 u57 u59 u60 u61 u62 u63 u64 u65 u66 u67 u68 u69 u70 u71 u72 u73 u74 u75 u76 u77 u78 u79 u80 u81 u82 u83 u84 u85 u86 u87 u88 u89 u90 u91 u92 u93 u94 u95 u96 u97 u98 u99 u100 u101 u102 u103 u104 u105 u106 u107 u108 u109 u110 u111 u112 u113 u114 u115 u116 u117 u118 u119 u120 u121 u122 u123 u124 u125 u126 u127 u128 u129 u130 u131 u132 u133 u134 u135 u136 u137 u138 u139 u140 u141 u142 u143 u144 u145 u146 u147 u148 u149 u150 u151 u152 u153 u154 u155 u156 u157 u158 u159 u160 u161 u162 u163 u164 u165 u166 u167 u168 u169 u170 u171 u172 u173 u174 u175 u176 u177 u178 u179 u180 u181 u182 u183 u184 u185 u186 u187 u188 u189 u190 u191 u192 u193 u194 u195 u196 u197 u198 u199 u200 u201 u202 u203 u204 u205 u206 u207 u208 u209 u210 u211 u212 u213 u214 u215 u216 u217 u218 u219 u220 u221 u222 u223 u224 u225 u226 u227 u228 u229 u230 u231 u232 u233 u234 u235 u236 u237 u238 u239 u240 u241 u242 u243 : Value} (hu : u11 = vA)
    (hn : ∀ (x : Exit) {v4 v11 v14 v15 v16 v17 v18 v19 v20 v21 v59 v60 v61 v62 v63 v64 v65 v66 v67 v68 v69 v70 v71 v72 v73 v74 v75 v76 v77 v78 v79 v80 v81 v82 v83 v84 v85 v86 v87 v88 v89 v90 v91 v92 v93 v94 v95 v96 v97 v98 v99 v100 v101 v102 v103 v104 v105 v106 v107 v108 v109 v110 v111 v112 v113 v114 v115 v116 v117 v118 v119 v120 v121 v122 v123 v124 v125 v126 v127 v128 v129 v130 v131 v132 v133 v134 v135 v136 v137 v138 v139 v140 v141 v142 v143 v144 v145 v146 v147 v148 v149 v150 v151 v152 v153 v154 v155 v156 v157 v158 v159 v160 v161 v162 v163 v164 v165 v166 v167 v168 v169 v170 v171 v172 v173 v174 v175 v176 v177 v178 v179 v180 v181 v182 v183 v184 v185 v186 v187 v188 v189 v190 v191 v192 v193 v194 v195 v196 v197 v198 v199 v200 v201 v202 v203 v204 v205 v206 v207 v208 v209 v210 v211 v212 v213 v214 v215 v216 v217 v218 v219 : Value} {wx : World}, (x = .normal ∨ x = .exit 1) → AcRel w2.heap.size w2 P D S W lo ks R S2 M n (k + 1) v11 wx → Q x ⟨#[u0, u1, u2, u3, v4, .int .i64 (n : Int), .pointer (some ⟨P, 0, none⟩), .pointer (some ⟨D, 0, none⟩), u8, u9, .pointer (some ⟨R, 0, none⟩), v11, u12, .pointer (some ⟨g1, 0, none⟩), v14, v15, v16, v17, v18, v19, v20, v21, u22, u23, u24, u25, u26, u27, u28, u29, u30, u31, u32, u33, u34, u35, u36, u37, u38, u39, u40, u41, u42, u43, u44, u45, u46, u47, u48, u49, u50, u51, u52, u53, u54, u55, u56, u57, .int .i64 kd, v59, v60, v61, v62, v63, v64, v65, v66, v67, v68, v69, v70, v71, v72, v73, v74, v75, v76, v77, v78, v79, v80, v81, v82, v83, v84, v85, v86, v87, v88, v89, v90, v91, v92, v93, v94, v95, v96, v97, v98, v99, v100, v101, v102, v103, v104, v105, v106, v107, v108, v109, v110, v111, v112, v113, v114, v115, v116, v117, v118, v119, v120, v121, v122, v123, v124, v125, v126, v127, v128, v129, v130, v131, v132, v133, v134, v135, v136, v137, v138, v139, v140, v141, v142, v143, v144, v145, v146, v147, v148, v149, v150, v151, v152, v153, v154, v155, v156, v157, v158, v159, v160, v161, v162, v163, v164, v165, v166, v167, v168, v169, v170, v171, v172, v173, v174, v175, v176, v177, v178, v179, v180, v181, v182, v183, v184, v185, v186, v187, v188, v189, v190, v191, v192, v193, v194, v195, v196, v197, v198, v199, v200, v201, v202, v203, v204, v205, v206, v207, v208, v209, v210, v211, v212, v213, v214, v215, v216, v217, v218, v219, u220, u221, u222, u223, u224, u225, u226, u227, u228, u229, u230, u231, u232, u233, u234, u235, u236, u237, u238, u239, u240, u241, u242, u243], []⟩ wx)
    (hp : ∀ c b b' wx, Act.defers b = Act.defers b' → Q (.panic c) b wx → Q (.panic c) b' wx) :
    (Code.block 2 (blkIn Tryz.f9 2)).wp Tryz.prog Q ⟨#[u0, u1, u2, u3, u4, .int .i64 (n : Int), .pointer (some ⟨P, 0, none⟩), .pointer (some ⟨D, 0, none⟩), u8, u9, .pointer (some ⟨R, 0, none⟩), u11, u12, .pointer (some ⟨g1, 0, none⟩), u14, u15, u16, u17, u18, u19, u20, u21, u22, u23, u24, u25, u26, u27, u28, u29, u30, u31, u32, u33, u34, u35, u36, u37, u38, u39, u40, u41, u42, u43, u44, u45, u46, u47, u48, u49, u50, u51, u52, u53, u54, u55, u56, u57, .int .i64 kd, u59, u60, u61, u62, u63, u64, u65, u66, u67, u68, u69, u70, u71, u72, u73, u74, u75, u76, u77, u78, u79, u80, u81, u82, u83, u84, u85, u86, u87, u88, u89, u90, u91, u92, u93, u94, u95, u96, u97, u98, u99, u100, u101, u102, u103, u104, u105, u106, u107, u108, u109, u110, u111, u112, u113, u114, u115, u116, u117, u118, u119, u120, u121, u122, u123, u124, u125, u126, u127, u128, u129, u130, u131, u132, u133, u134, u135, u136, u137, u138, u139, u140, u141, u142, u143, u144, u145, u146, u147, u148, u149, u150, u151, u152, u153, u154, u155, u156, u157, u158, u159, u160, u161, u162, u163, u164, u165, u166, u167, u168, u169, u170, u171, u172, u173, u174, u175, u176, u177, u178, u179, u180, u181, u182, u183, u184, u185, u186, u187, u188, u189, u190, u191, u192, u193, u194, u195, u196, u197, u198, u199, u200, u201, u202, u203, u204, u205, u206, u207, u208, u209, u210, u211, u212, u213, u214, u215, u216, u217, u218, u219, u220, u221, u222, u223, u224, u225, u226, u227, u228, u229, u230, u231, u232, u233, u234, u235, u236, u237, u238, u239, u240, u241, u242, u243], []⟩ w8 := by
  obtain ⟨HP8', HX8', HRp8', HOw8', HG8', HI', HVL', HLo', HPw', HBs', HD', HT', HK', hn35, hu100, hk40, hhv⟩ := h
  have HP8 := Lib.hid HP8'
  have HX8 := Lib.hid HX8'
  have HRp8 := Lib.hid HRp8'
  have HG8 := Lib.hid HG8'
  have HI := Lib.hid HI'
  have HVL := Lib.hid HVL'
  have HLo := Lib.hid HLo'
  have HPw := Lib.hid HPw'
  have HD := Lib.hid HD'
  have HT2 := Lib.hid HT'
  have HKl := Lib.hid HK'
  have HHv := Lib.hid hhv
  obtain ⟨aA, cA, rfl, _⟩ := (Sl.own HOw8').len
  subst hu
  have HOw8 := Lib.hid HOw8'
  have HBs := Lib.hid HBs'
  have HR9 := Lib.hid (show AcRel w2.heap.size w2 P D S W lo ks R S2 M n (k + 1) (.slice aA ps.length cA) w8 from AcRel.next ⟨d, t, birth, lies, V2, ps, bs, HP8'.sub (fun q hq => List.mem_cons_of_mem _ hq), HX8', HD'.1, HD'.2.1, HD'.2.2.1, HRp8', HLo', HOw8', HPw', HD'.2.2.2, HBs'.1, HBs'.2.1, HBs'.2.2⟩)
  have hpp := Ac13.parts HI' (At.of_row HG8')
  rw [HVL', ← hkd] at hpp
  simp only [Nat.zero_add] at hpp
  obtain ⟨p0, p1, p2, p3, p7, p8, p9⟩ := hpp
  have HP3 := Lib.hid p3
  have HP9 := Lib.hid p9
  have HN := Lib.hid hn
  have HPn := Lib.hid hp
  clear p3 p9 hkd hn hp HP8' HX8' HRp8' HOw8' HG8' HI' HVL' HLo' HPw' HBs' HD' HT' HK' hhv
  conv => arg 2; arg 2; whnf
  have hkb : (kd == 1) = true := by simpa using hk1
  clear hk1
  by_cases hb0 : a.birth = 0
  · rw [hb0] at p7
    clear hb0
    go_wp2_with fail
    refine (poBegin_zero P w8).mono ?_
    rintro e w9 ⟨rfl, rfl⟩
    go_wp2_with fail
    exact HN.out .normal (Or.inl rfl) (HR9.out)
  · have hbb : ((a.birth : Int) == 0) = false := by simpa using hb0
    have hbp : (0 : Int) < (a.birth : Int) := by omega
    have HBp := Lib.hid (show 0 < a.birth by omega)
    clear hb0
    go_wp2_with fail
    refine (begin_ps w2.heap.size P D S W lo birth ks t d _ w8 a.birth HP8.out.2 HX8.out.size HBp.out HI.out.birth).mono ?_
    rintro e w9 ⟨rfl, hp9, hx9⟩
    have hsm := HP8.out.same hp9 hx9.size
    have HP9x := Lib.hid hsm.1
    have HRp9 := Lib.hid (HRp8.out.blocks fun q hq => hsm.2 q (List.mem_cons_of_mem _ (HBs.out.1 q hq)))
    have HOw9 := Lib.hid (HOw8.out.blocks fun q hq => hsm.2 q (List.mem_cons_of_mem _ (HBs.out.2.1 q hq)))
    have HG9 := Lib.hid ((hsm.2 g1 List.mem_cons_self).trans HG8.out)
    have HX9 := Lib.hid (HX8.out.trans hx9)
    have q7 : w9.cell? ⟨g1, 7, none⟩ = some (.int .u64 (a.birth : Int)) := by
      have := Ac13.parts HI.out (At.of_row HG9.out)
      simpa using this.2.2.2.2.1
    have r2 := HRp9.out.cells.2.1
    have f2 := HRp9.out.cells.2.2.2 2
    clear hp9 hx9 hsm p0 p1 p2 p7 p8
    go_wp2_with fail
    have HF9 := Lib.hid ((Fr.refl (fun k => k = R) w9).set R 2 rfl (.int .u64 (a.birth : Int)))
    refine HN.out .normal (Or.inl rfl) ?_
    · skip
      refine ⟨d, t, a.birth, lies, V2, ps, bs, HP9x.out.touch HF9.out (fun q e => by rw [e]; exact List.mem_cons_of_mem _ (HBs.out.1 _ (Or.inl rfl))) (fun q hq => ⟨Or.inl (List.mem_cons_of_mem _ hq), Nat.lt_of_lt_of_le (HP9x.out.1 q (List.mem_cons_of_mem _ hq)) HF9.out.size⟩), HX9.out.trans (HF9.out.below HX9.out.size (fun q e => by rw [e]; exact HBs.out.2.2 _ (HBs.out.1 _ (Or.inl rfl)))), HD.out.1, by have := HD.out.2.1; omega, HI.out.birth, HRp9.out.births a.birth, HLo.out, HOw9.out.fr HF9.out ?_, HPw.out, by have := HD.out.2.2.2; omega, HBs.out.1, HBs.out.2.1, HBs.out.2.2⟩
      rintro q hq rfl
      exact HOw9.out.not_at hq HRp9.out.row (by decide)

end Go.Proofs.YtkbnkdokcmpcgaaGreatDoor
namespace Go.Proofs.YtkbnkdokcmpcgaaGreatDoor
open Go.RowKit

set_option maxRecDepth 100000 in
set_option maxHeartbeats 16000000 in
theorem act_keep {w2 w8 : World} {P D S W lo : Nat} {ks : List UInt8} {R S2 V2 M n k g1 : Nat} {d : Dv} {t : Nat → Bool} {birth : Nat} {lies : Lies} {ps : List Pt} {bs : List Nat} {vA : Value} {a : Ac13} {aL : Option Addr} {cL : Nat} (h : AcSt w2 w8 P D S W lo ks R S2 V2 M n k g1 d t birth lies ps bs vA a aL cL) (kd : Int) (hkd : kd = a.kind) (hk1 : ¬ kd = 1) (hk2 : kd = 2) {Q : Exit → Act → World → Prop} {u0 u1 u2 u3 u4 u8 u9 u11 u12 u14 u15 u16 u17 u18 u19 u20 u21 u22 u23 u24 u25 u26 u27 u28 u29 u30 u31 u32 u33 u34 u35 u36 u37 u38 u39 u40 u41 u42 u43 u44 u45 u46 u47 u48 u49 u50 u51 u52 u53 u54 u55 u56 u57 u59 u60 u61 u62 u63 u64 u65 u66 u67 u68 u69 u70 u71 u72 u73 u74 u75 u76 u77 u78 u79 u80 u81 u82 u83 u84 u85 u86 u87 u88 u89 u90 u91 u92 u93 u94 u95 u96 u97 u98 u99 u100 u101 u102 u103 u104 u105 u106 u107 u108 u109 u110 u111 u112 u113 u114 u115 u116 u117 u118 u119 u120 u121 u122 u123 u124 u125 u126 u127 u128 u129 u130 u131 u132 u133 u134 u135 u136 u137 u138 u139 u140 u141 u142 u143 u144 u145 u146 u147 u148 u149 u150 u151 u152 u153 u154 u155 u156 u157 u158 u159 u160 u161 u162 u163 u164 u165 u166 u167 u168 u169 u170 u171 u172 u173 u174 u175 u176 u177 u178 u179 u180 u181 u182 u183 u184 u185 u186 u187 u188 u189 u190 u191 u192 u193 u194 u195 u196 u197 u198 u199 u200 u201 u202 u203 u204 u205 u206 u207 u208 u209 u210 u211 u212 u213 u214 u215 u216 u217 u218 u219 u220 u221 u222 u223 u224 u225 u226 u227 u228 u229 u230 u231 u232 u233 u234 u235 u236 u237 u238 u239 u240 u241 u242 u243 : Value} (hu : u11 = vA)
    (hn : ∀ (x : Exit) {v4 v11 v14 v15 v16 v17 v18 v19 v20 v21 v59 v60 v61 v62 v63 v64 v65 v66 v67 v68 v69 v70 v71 v72 v73 v74 v75 v76 v77 v78 v79 v80 v81 v82 v83 v84 v85 v86 v87 v88 v89 v90 v91 v92 v93 v94 v95 v96 v97 v98 v99 v100 v101 v102 v103 v104 v105 v106 v107 v108 v109 v110 v111 v112 v113 v114 v115 v116 v117 v118 v119 v120 v121 v122 v123 v124 v125 v126 v127 v128 v129 v130 v131 v132 v133 v134 v135 v136 v137 v138 v139 v140 v141 v142 v143 v144 v145 v146 v147 v148 v149 v150 v151 v152 v153 v154 v155 v156 v157 v158 v159 v160 v161 v162 v163 v164 v165 v166 v167 v168 v169 v170 v171 v172 v173 v174 v175 v176 v177 v178 v179 v180 v181 v182 v183 v184 v185 v186 v187 v188 v189 v190 v191 v192 v193 v194 v195 v196 v197 v198 v199 v200 v201 v202 v203 v204 v205 v206 v207 v208 v209 v210 v211 v212 v213 v214 v215 v216 v217 v218 v219 : Value} {wx : World}, (x = .normal ∨ x = .exit 1) → AcRel w2.heap.size w2 P D S W lo ks R S2 M n (k + 1) v11 wx → Q x ⟨#[u0, u1, u2, u3, v4, .int .i64 (n : Int), .pointer (some ⟨P, 0, none⟩), .pointer (some ⟨D, 0, none⟩), u8, u9, .pointer (some ⟨R, 0, none⟩), v11, u12, .pointer (some ⟨g1, 0, none⟩), v14, v15, v16, v17, v18, v19, v20, v21, u22, u23, u24, u25, u26, u27, u28, u29, u30, u31, u32, u33, u34, u35, u36, u37, u38, u39, u40, u41, u42, u43, u44, u45, u46, u47, u48, u49, u50, u51, u52, u53, u54, u55, u56, u57, .int .i64 kd, v59, v60, v61, v62, v63, v64, v65, v66, v67, v68, v69, v70, v71, v72, v73, v74, v75, v76, v77, v78, v79, v80, v81, v82, v83, v84, v85, v86, v87, v88, v89, v90, v91, v92, v93, v94, v95, v96, v97, v98, v99, v100, v101, v102, v103, v104, v105, v106, v107, v108, v109, v110, v111, v112, v113, v114, v115, v116, v117, v118, v119, v120, v121, v122, v123, v124, v125, v126, v127, v128, v129, v130, v131, v132, v133, v134, v135, v136, v137, v138, v139, v140, v141, v142, v143, v144, v145, v146, v147, v148, v149, v150, v151, v152, v153, v154, v155, v156, v157, v158, v159, v160, v161, v162, v163, v164, v165, v166, v167, v168, v169, v170, v171, v172, v173, v174, v175, v176, v177, v178, v179, v180, v181, v182, v183, v184, v185, v186, v187, v188, v189, v190, v191, v192, v193, v194, v195, v196, v197, v198, v199, v200, v201, v202, v203, v204, v205, v206, v207, v208, v209, v210, v211, v212, v213, v214, v215, v216, v217, v218, v219, u220, u221, u222, u223, u224, u225, u226, u227, u228, u229, u230, u231, u232, u233, u234, u235, u236, u237, u238, u239, u240, u241, u242, u243], []⟩ wx)
    (hp : ∀ c b b' wx, Act.defers b = Act.defers b' → Q (.panic c) b wx → Q (.panic c) b' wx) :
    (Code.block 2 (blkIn Tryz.f9 2)).wp Tryz.prog Q ⟨#[u0, u1, u2, u3, u4, .int .i64 (n : Int), .pointer (some ⟨P, 0, none⟩), .pointer (some ⟨D, 0, none⟩), u8, u9, .pointer (some ⟨R, 0, none⟩), u11, u12, .pointer (some ⟨g1, 0, none⟩), u14, u15, u16, u17, u18, u19, u20, u21, u22, u23, u24, u25, u26, u27, u28, u29, u30, u31, u32, u33, u34, u35, u36, u37, u38, u39, u40, u41, u42, u43, u44, u45, u46, u47, u48, u49, u50, u51, u52, u53, u54, u55, u56, u57, .int .i64 kd, u59, u60, u61, u62, u63, u64, u65, u66, u67, u68, u69, u70, u71, u72, u73, u74, u75, u76, u77, u78, u79, u80, u81, u82, u83, u84, u85, u86, u87, u88, u89, u90, u91, u92, u93, u94, u95, u96, u97, u98, u99, u100, u101, u102, u103, u104, u105, u106, u107, u108, u109, u110, u111, u112, u113, u114, u115, u116, u117, u118, u119, u120, u121, u122, u123, u124, u125, u126, u127, u128, u129, u130, u131, u132, u133, u134, u135, u136, u137, u138, u139, u140, u141, u142, u143, u144, u145, u146, u147, u148, u149, u150, u151, u152, u153, u154, u155, u156, u157, u158, u159, u160, u161, u162, u163, u164, u165, u166, u167, u168, u169, u170, u171, u172, u173, u174, u175, u176, u177, u178, u179, u180, u181, u182, u183, u184, u185, u186, u187, u188, u189, u190, u191, u192, u193, u194, u195, u196, u197, u198, u199, u200, u201, u202, u203, u204, u205, u206, u207, u208, u209, u210, u211, u212, u213, u214, u215, u216, u217, u218, u219, u220, u221, u222, u223, u224, u225, u226, u227, u228, u229, u230, u231, u232, u233, u234, u235, u236, u237, u238, u239, u240, u241, u242, u243], []⟩ w8 := by
  obtain ⟨HP8', HX8', HRp8', HOw8', HG8', HI', HVL', HLo', HPw', HBs', HD', HT', HK', hn35, hu100, hk40, hhv⟩ := h
  have HP8 := Lib.hid HP8'
  have HX8 := Lib.hid HX8'
  have HRp8 := Lib.hid HRp8'
  have HG8 := Lib.hid HG8'
  have HI := Lib.hid HI'
  have HVL := Lib.hid HVL'
  have HLo := Lib.hid HLo'
  have HPw := Lib.hid HPw'
  have HD := Lib.hid HD'
  have HT2 := Lib.hid HT'
  have HKl := Lib.hid HK'
  have HHv := Lib.hid hhv
  obtain ⟨aA, cA, rfl, _⟩ := (Sl.own HOw8').len
  subst hu
  have HOw8 := Lib.hid HOw8'
  have HBs := Lib.hid HBs'
  have HR9 := Lib.hid (show AcRel w2.heap.size w2 P D S W lo ks R S2 M n (k + 1) (.slice aA ps.length cA) w8 from AcRel.next ⟨d, t, birth, lies, V2, ps, bs, HP8'.sub (fun q hq => List.mem_cons_of_mem _ hq), HX8', HD'.1, HD'.2.1, HD'.2.2.1, HRp8', HLo', HOw8', HPw', HD'.2.2.2, HBs'.1, HBs'.2.1, HBs'.2.2⟩)
  have hpp := Ac13.parts HI' (At.of_row HG8')
  rw [HVL', ← hkd] at hpp
  simp only [Nat.zero_add] at hpp
  obtain ⟨p0, p1, p2, p3, p7, p8, p9⟩ := hpp
  have HP3 := Lib.hid p3
  have HP9 := Lib.hid p9
  have HN := Lib.hid hn
  have HPn := Lib.hid hp
  clear p3 p9 hkd hn hp HP8' HX8' HRp8' HOw8' HG8' HI' HVL' HLo' HPw' HBs' HD' HT' HK' hhv
  conv => arg 2; arg 2; whnf
  have hkb : (kd == 2) = true := by simpa using hk2
  have hkb1 : (kd == 1) = false := by simpa using hk1
  clear hk1 hk2
  have HSv := Lib.hid (show Sl w2 1 (.slice aL a.us.length cL) a.us.length (a.us.map U32) from by rw [← HVL.out]; exact HI.out.us)
  have HNo := Lib.hid (show 0 < a.us.length → ∀ q m c, Value.slice aL a.us.length cL = .slice (some q) m c → q.block < w2.heap.size from fun h0 q m c e => by
    obtain ⟨_, q', c', e', _, _, h4⟩ := HSv.out
    obtain ⟨vb, vo, rfl, hc⟩ := h4 0 _ (List.getElem?_eq_getElem (by simpa using h0))
    rw [e] at e'
    simp only [Value.slice.injEq, Option.some.injEq] at e'
    rw [e'.1]
    exact World.block_lt_of_cell? w2 ⟨vb, vo + 0, none⟩ hc)
  go_wp2_with fail
  refine wp_region_anyC (fun u => u.heap[R]? = w8.heap[R]? ∧ u.heap[g1]? = w8.heap[g1]?) (by kernel_rfl) ?_
  obtain ⟨wd, hwd⟩ : ∃ wd, wd = { w8 with drawn := w8.drawn + 1 } := ⟨_, rfl⟩
  have HBd := Lib.hid (show Below w8.heap.size w8 wd by rw [hwd]; exact (Below.refl _ w8).drew)
  have HCd := Lib.hid (show wd.heap[R]? = w8.heap[R]? ∧ wd.heap[g1]? = w8.heap[g1]? by rw [hwd]; exact ⟨rfl, rfl⟩)
  rw [← hwd]
  clear hwd
  have HC1 := Lib.hid (show ∀ u : World, (u.heap[R]? = w8.heap[R]? ∧ u.heap[g1]? = w8.heap[g1]?) → u.cell? ⟨R, 1, none⟩ = some (.pointer (some ⟨S2, 0, none⟩)) from fun u hu => cell_of_row _ R 1 _ _ _ (hu.1.trans HRp8.out.row))
  have HC8 := Lib.hid (show ∀ u : World, (u.heap[R]? = w8.heap[R]? ∧ u.heap[g1]? = w8.heap[g1]?) → u.cell? ⟨g1, 8, none⟩ = some (.slice aL a.us.length cL) from fun u hu => by
    have := Ac13.parts HI.out (At.of_row (hu.2.trans HG8.out))
    rw [HVL.out] at this
    simpa using this.2.2.2.2.2.1)
  clear p0 p1 p2 p7 p8
  refine wpAnyCL_take (i := 0) (v := .pointer (some ⟨P, 0, none⟩)) rfl (by kernel_rfl) (fun c b wx h => HPn.out c _ b wx (by rfl) h) (.inl ⟨by rfl, fun w' _ => by go_simp⟩) ?_
  simp only [Act.put, sA, sB, sC]
  refine wpAnyCL_take (i := 1) (v := .pointer (some ⟨g1, 8, none⟩)) rfl (by kernel_rfl) (fun c b wx h => HPn.out c _ b wx (by rfl) h) (.inl ⟨by rfl, fun w' _ => by go_simp⟩) ?_
  simp only [Act.put, sA, sB, sC]
  refine wpAnyCL_take (i := 2) (v := .slice aL a.us.length cL) rfl (by kernel_rfl) (fun c b wx h => HPn.out c _ b wx (by rfl) h) (.inl ⟨by rfl, fun w' hw => by (have h := HC8.out w' hw; go_simp)⟩) ?_
  simp only [Act.put, sA, sB, sC]
  refine wpAnyCL_take (i := 4) (v := .pointer (some ⟨R, 0, none⟩)) rfl (by kernel_rfl) (fun c b wx h => HPn.out c _ b wx (by rfl) h) (.inl ⟨by rfl, fun w' _ => by go_simp⟩) ?_
  simp only [Act.put, sA, sB, sC]
  refine wpAnyCL_take (i := 5) (v := .pointer (some ⟨R, 0, none⟩)) rfl (by kernel_rfl) (fun c b wx h => HPn.out c _ b wx (by rfl) h) (.inl ⟨by rfl, fun w' _ => by go_simp⟩) ?_
  simp only [Act.put, sA, sB, sC]
  refine wpAnyCL_take (i := 6) (v := .pointer (some ⟨R, 1, none⟩)) rfl (by kernel_rfl) (fun c b wx h => HPn.out c _ b wx (by rfl) h) (.inl ⟨by rfl, fun w' _ => by go_simp⟩) ?_
  simp only [Act.put, sA, sB, sC]
  refine wpAnyCL_take (i := 7) (v := .pointer (some ⟨S2, 0, none⟩)) rfl (by kernel_rfl) (fun c b wx h => HPn.out c _ b wx (by rfl) h) (.inl ⟨by rfl, fun w' hw => by (have h := HC1.out w' hw; go_simp)⟩) ?_
  simp only [Act.put, sA, sB, sC]
  refine wpAnyCL_take (i := 8) (v := .pointer (some ⟨g1, 8, none⟩)) rfl (by kernel_rfl) (fun c b wx h => HPn.out c _ b wx (by rfl) h) (.inl ⟨by rfl, fun w' _ => by go_simp⟩) ?_
  simp only [Act.put, sA, sB, sC]
  refine wpAnyCL_take (i := 9) (v := .slice aL a.us.length cL) rfl (by kernel_rfl) (fun c b wx h => HPn.out c _ b wx (by rfl) h) (.inl ⟨by rfl, fun w' hw => by (have h := HC8.out w' hw; go_simp)⟩) ?_
  simp only [Act.put, sA, sB, sC]
  by_cases hall : ∀ u ∈ a.us, 2 ≤ u ∧ u < d.size
  · have HAll := Lib.hid hall
    clear hall
    refine wpAnyCL_forced 3 HCd.out (by kernel_rfl) rfl (by rfl) (fun K' hK' => ?_)
    unfold Oper.wp execOp
    go_simp
    refine (keep_psb w2.heap.size P D S W lo birth ks t d (g1 :: bs) wd a.us.length a.us (.slice aL a.us.length cL) (HP8.out.below HBd.out) (Nat.le_trans HX8.out.size HBd.out.size) (HSv.out.below (HX8.out.trans (HBd.out.mono HX8.out.size))) HAll.out (by rw [HD.out.1]; omega) (by omega) HNo.out).mono ?_
    rintro e x1 ⟨rfl, hp1, hr1, hx1⟩
    have HPx := Lib.hid hp1
    have HXx := Lib.hid ((HX8.out.trans (HBd.out.mono HX8.out.size)).trans hx1)
    have HCx := Lib.hid (show x1.heap[R]? = w8.heap[R]? ∧ x1.heap[g1]? = w8.heap[g1]? from ⟨(hr1 R (List.mem_cons_of_mem _ (HBs.out.1 _ (Or.inl rfl)))).trans HCd.out.1, (hr1 g1 List.mem_cons_self).trans HCd.out.2⟩)
    have HRx := Lib.hid ((HRp8.out.below HBd.out).blocks fun q hq => hr1 q (List.mem_cons_of_mem _ (HBs.out.1 q hq)))
    have HOx := Lib.hid ((HOw8.out.blocks fun q hq => HBd.out.block q (HOw8.out.lt q hq).2).blocks fun q hq => hr1 q (List.mem_cons_of_mem _ (HBs.out.2.1 q hq)))
    clear hp1 hx1 hr1
    refine hK' _ _ ?_
    try simp only [Act.put, sA, sB, sC]
    refine wpAnyCL_forced 10 HCx.out (by kernel_rfl) rfl (by rfl) (fun K' hK' => ?_)
    unfold Oper.wp execOp
    go_simp
    refine (rsSet_any S2 V2 n a.us.length t a.us (.slice aL a.us.length cL) x1 HRx.out.sp (HSv.out.below HXx.out) HI.out.u32 (by omega) (fun h0 q m c e => by have h1 := HNo.out h0 q m c e; have h2 := HBs.out.2.2 S2 (HBs.out.1 _ (Or.inr (Or.inl rfl))); omega)).mono ?_
    rintro e x2 ⟨hy, _⟩
    obtain ⟨rfl, ⟨V', hrs, hV⟩, hf⟩ := hy (by rw [← HD.out.1]; exact HAll.out)
    have HRs := Lib.hid hrs
    have HV' := Lib.hid hV
    have HFx := Lib.hid hf
    have hne : g1 ≠ S2 := fun e => by
      have h1 := HCx.out.2.trans HG8.out
      rw [e, HRx.out.sp.2.2.2.2.1] at h1
      simp only [Option.some.injEq, Obj.cells.injEq] at h1
      exact absurd h1.2.1 (by decide)
    have HCy := Lib.hid (show x2.heap[R]? = w8.heap[R]? ∧ x2.heap[g1]? = w8.heap[g1]? from ⟨(hf.block R (lt_of_block HRx.out.row) HRx.out.nRS).trans HCx.out.1, (hf.block g1 (lt_of_block (HCx.out.2.trans HG8.out)) hne).trans HCx.out.2⟩)
    clear hy hrs hV hf hne
    refine hK' _ _ ?_
    try simp only [Act.put, sA, sB, sC]
    refine wpAnyCL_take (i := 11) (v := .bool false) rfl (by kernel_rfl) (fun c b wx h => HPn.out c _ b wx (by rfl) h) (.inl ⟨by rfl, fun w' _ => by go_simp⟩) ?_
    simp only [Act.put, sA, sB, sC]
    refine wpAnyC_done (by kernel_rfl) HCy.out ?_
    go_wp2_with fail
    refine HN.out .normal (Or.inl rfl) ?_
    · skip
      have hS2 := HBs.out.1 S2 (Or.inr (Or.inl rfl))
      have hB2 := HBs.out.2.2 S2 hS2
      have hVlt := HRs.out.lt.2
      refine ⟨d, ofL a.us, birth, lies, V', ps, V' :: bs, HPx.out.touch HFx.out (fun q e => by rw [e]; exact List.mem_cons_of_mem _ hS2) (fun q hq => ?_), HXx.out.trans (HFx.out.below HXx.out.size (fun q e => by rw [e]; exact hB2)), HD.out.1, by have := HD.out.2.1; omega, HD.out.2.2.1, ?_, HLo.out, HOx.out.fr HFx.out ?_, HPw.out, by have := HD.out.2.2.2; omega, ?_, fun q hq => List.mem_cons_of_mem _ (HBs.out.2.1 q hq), ?_⟩
      · rcases List.mem_cons.1 hq with rfl | hq
        · refine ⟨?_, hVlt⟩
          rcases HV'.out with e | e
          · rw [e]; exact Or.inl (List.mem_cons_of_mem _ (HBs.out.1 V2 (Or.inr (Or.inr (Or.inl rfl)))))
          · exact Or.inr e
        · exact ⟨Or.inl (List.mem_cons_of_mem _ hq), Nat.lt_of_lt_of_le (HPx.out.1 q (List.mem_cons_of_mem _ hq)) HFx.out.size⟩
      · obtain ⟨ml, h1, h2⟩ := HRx.out.lm
        refine ⟨(HFx.out.block R (lt_of_block HRx.out.row) HRx.out.nRS).trans HRx.out.row, HRs.out, ⟨ml, h1.fr HFx.out ?_, h2⟩, HRx.out.nRS, ?_⟩
        · rintro rfl
          obtain ⟨es, cl, hm, _⟩ := h1
          rw [HRx.out.sp.2.2.2.2.1] at hm
          cases hm
        · rcases HV'.out with e | e
          · rw [e]; exact HRx.out.nRV
          · have := lt_of_block HRx.out.row; omega
      · rintro q hq rfl
        exact HOx.out.not_at hq HRx.out.sp.2.2.2.2.1 (by decide)
      · rintro q (rfl | rfl | rfl | rfl)
        · exact List.mem_cons_of_mem _ (HBs.out.1 _ (Or.inl rfl))
        · exact List.mem_cons_of_mem _ (HBs.out.1 _ (Or.inr (Or.inl rfl)))
        · exact List.mem_cons_self
        · exact List.mem_cons_of_mem _ (HBs.out.1 _ (Or.inr (Or.inr (Or.inr rfl))))
      · intro q hq
        rcases List.mem_cons.1 hq with rfl | hq
        · rcases HV'.out with e | e
          · rw [e]; exact HBs.out.2.2 _ (HBs.out.1 V2 (Or.inr (Or.inr (Or.inl rfl))))
          · exact Nat.le_trans HXx.out.size e
        · exact HBs.out.2.2 q hq
  · have HAll := Lib.hid hall
    clear hall
    refine wpAnyCL_forced 3 HCd.out (by kernel_rfl) rfl (by rfl) (fun K' hK' => ?_)
    unfold Oper.wp execOp
    go_simp
    refine (keep_bad P D S W birth ks t d.size wd a.us.length a.us (.slice aL a.us.length cL) (HP8.out.below HBd.out).pl (HSv.out.below (HX8.out.trans (HBd.out.mono HX8.out.size))) HI.out.u32 HAll.out (by omega) (fun h0 q m c e hh => by have h1 := HNo.out h0 q m c e; obtain ⟨_, F, _, _, _, h4, _⟩ := HP8.out; have := (h4 q.block (Or.inr hh)).1; omega)).mono ?_
    rintro e x1 ⟨rfl, rfl⟩
    refine hK' _ _ ?_
    try simp only [Act.put, sA, sB, sC]
    refine wpAnyCL_forced 10 HCd.out (by kernel_rfl) rfl (by rfl) (fun K' hK' => ?_)
    unfold Oper.wp execOp
    go_simp
    refine (rsSet_any S2 V2 n a.us.length t a.us (.slice aL a.us.length cL) wd (HRp8.out.below HBd.out).sp (HSv.out.below (HX8.out.trans (HBd.out.mono HX8.out.size))) HI.out.u32 (by omega) (fun h0 q m c e => by have h1 := HNo.out h0 q m c e; have h2 := HBs.out.2.2 S2 (HBs.out.1 _ (Or.inr (Or.inl rfl))); omega)).mono ?_
    rintro e x2 ⟨_, hy⟩
    obtain ⟨rfl, rfl, _⟩ := hy (by rw [← HD.out.1]; exact HAll.out)
    clear hy
    refine hK' _ _ ?_
    try simp only [Act.put, sA, sB, sC]
    refine wpAnyCL_take (i := 11) (v := .bool false) rfl (by kernel_rfl) (fun c b wx h => HPn.out c _ b wx (by rfl) h) (.inl ⟨by rfl, fun w' _ => by go_simp⟩) ?_
    simp only [Act.put, sA, sB, sC]
    refine wpAnyC_done (by kernel_rfl) HCd.out ?_
    go_wp2_with fail
    exact HN.out .normal (Or.inl rfl) (HR9.out.below HBd.out)

end Go.Proofs.YtkbnkdokcmpcgaaGreatDoor
namespace Go.Proofs.YtkbnkdokcmpcgaaGreatDoor
open Go.RowKit

theorem getN_fitsQ (xs : List UInt8) : (getN xs).Fits := by
  unfold getN
  split
  · split
    · exact toldN_fits xs
    · exact zero_fits
  · exact zero_fits
theorem readE_fits (ks : List UInt8) (d : Dv) (p : Pt) : (readE ks d p).2.Fits := by
  unfold readE
  split
  · exact zero_fits
  · split
    · exact zero_fits
    · split
      · exact getN_fitsQ _
      · exact zero_fits
set_option maxRecDepth 100000 in
set_option maxHeartbeats 8000000 in
theorem reads_null (P D S W birth lo : Nat) (ks : List UInt8) (t : Nat → Bool) (Fd : Nat → Prop) (d : Dv) (R S2 V2 M rb : Nat) (t2 : Nat → Bool) (lies : Lies) (p : Pt) (w : World) (h : PlAt w P D S W d.size ks t birth) (hd : DvIn w lo D Fd d)
    (hr : RpAt w R S2 V2 M d.size t2 rb lies) (hl : LieOk w ks d lies) (hp : p.Wf) (hn : d.waits.length ≤ 1000000) (h0 : p.addr = 0) :
    Calls Tryz.prog 36 #[.pointer (some ⟨P, 0, none⟩), .pointer (some ⟨D, 0, none⟩), .pointer (some ⟨R, 0, none⟩), .int .i64 (d.size : Int), .agg p.arr] w fun e w' => e = .returned (.bool true) ∧ Below w.heap.size w w' := by
  have hb0 : Below w.heap.size w (w.alloc (.cells p.arr 43)) := (Below.refl _ w).alloc (Nat.le_refl _) _
  have hle : d.size ≤ 4096 := h.sp.2.2.1
  have HB0 := Lib.hid hb0
  have HH0 := Lib.hid (h.below hb0)
  have HD0 := Lib.hid (hd.below hb0)
  have HR0 := Lib.hid (hr.below hb0)
  have HA0 := Lib.hid (heap_alloc_new w (.cells p.arr 43))
  have HPw := Lib.hid hp
  have HWn := Lib.hid hn
  have HLi := Lib.hid hl
  have HKl := Lib.hid h.ks
  clear h hd hr hp hn hl hb0
  obtain ⟨er, her⟩ : ∃ er, er = (readE ks d p).1 := ⟨_, rfl⟩
  obtain ⟨nd, hnd⟩ : ∃ nd, nd = (readE ks d p).2 := ⟨_, rfl⟩
  have HE := Lib.hid (show er = (readE ks d p).1 ∧ nd = (readE ks d p).2 from ⟨her, hnd⟩)
  have HNz := Lib.hid (show er ≠ 0 → nd = Nd.zero from fun h => by rw [hnd]; exact readE_zero (by rw [← her]; exact h))
  have HFit := Lib.hid (show nd.Fits from by rw [hnd]; exact readE_fits _ _ _)
  clear her hnd
  go_enter Tryz.func36, Tryz.ntmps36
  go_wp2_with (refine load_ptr rfl (.tmp 9) rfl rfl (At.of_row HA0.out) HPw.out ?_)
  refine (poRead_all P D S W birth lo ks t Fd d p _ HH0.out HD0.out HPw.out HWn.out).mono ?_
  rintro e w1 ⟨arr, rfl, hn1, hb1⟩
  rw [← HE.out.1]
  rw [← HE.out.2] at hn1
  have HN1 := Lib.hid hn1
  have HSz := Lib.hid hn1.size
  have HOne := Lib.hid hn1.one
  have HB1 := Lib.hid (HB0.out.trans (hb1.mono HB0.out.size))
  have HH1 := Lib.hid (HH0.out.below hb1)
  have HD1 := Lib.hid (HD0.out.below hb1)
  have HR1 := Lib.hid (HR0.out.below hb1)
  have HA1 := Lib.hid ((hb1.block _ (lt_of_block HA0.out)).trans HA0.out)
  clear hn1 hb1 HB0 HH0 HD0 HR0 HA0
  obtain rfl : er = 2 := by rw [HE.out.1]; unfold readE; rw [if_pos (Or.inl h0)]
  have HNz := Lib.hid (show nd = Nd.zero from HNz.out (by decide))
  have hnull : decide (p.addr = 0) = true := by simpa using h0
  go_wp2_with (first | (refine store_nd rfl (.tmp 11) (.tmp 20) rfl rfl (arr := arr) rfl (heap_alloc_new w1 (.cells zeroArr 25)) rfl HSz.out HOne.out ?_; intro w2 hg hf hs; have HGw2 := Lib.hid hg; have HBww2 := Lib.hid (show Below w1.heap.size w1 w2 from ((Below.refl _ w1).alloc (Nat.le_refl _) _).trans (hf.below (by simp) (fun j hj => by omega))); clear hg hf hs; have HA2 := Lib.hid ((HBww2.out.block _ (lt_of_block HA1.out)).trans HA1.out)) | (refine gload_nd rfl (.tmp 11) rfl rfl (At_nd HGw2.out) HSz.out ?_))
  have HNs2 := Lib.hid (HN1.out.below HBww2.out)
  refine (nodeSame_any arr zeroArr nd Nd.zero w2 HNs2.out (zero_is _) HFit.out zero_fits).mono ?_
  rintro e w3 ⟨rfl, hb3⟩
  rw [HNz.out, sameN_refl]
  have HA3 := Lib.hid ((hb3.block _ (lt_of_block HA2.out)).trans HA2.out)
  have HB3 := Lib.hid ((HB1.out.trans (HBww2.out.mono HB1.out.size)).trans (hb3.mono (Nat.le_trans HB1.out.size HBww2.out.size)))
  have HG3 := Lib.hid ((hb3.block _ (lt_of_block HGw2.out)).trans HGw2.out)
  have HN3 := Lib.hid (HNs2.out.below hb3)
  have HD3 := Lib.hid ((HD1.out.below HBww2.out).below hb3)
  have HR3 := Lib.hid ((HR1.out.below HBww2.out).below hb3)
  clear hb3 HNs2 HN1 HD1 HR1 HH1 HA1 HA2 HGw2 HBww2
  go_wp2_with (refine load_ptr rfl (.tmp 9) rfl rfl (At.of_row HA3.out) HPw.out ?_)
  refine (ptrNull_any p _).mono ?_
  rintro e w4 ⟨rfl, hb4⟩
  rw [hnull]
  have HA4 := Lib.hid ((hb4.block _ (lt_of_block HA3.out)).trans HA3.out)
  have HB4 := Lib.hid (HB3.out.trans (hb4.mono HB3.out.size))
  have HG4 := Lib.hid ((hb4.block _ (lt_of_block HG3.out)).trans HG3.out)
  have HN4 := Lib.hid (HN3.out.below hb4)
  have HD4 := Lib.hid (HD3.out.below hb4)
  have HR4 := Lib.hid (HR3.out.below hb4)
  clear hb4 HA3 HB3 HG3 HN3 HD3 HR3
  go_wp2_with fail
  go_ret
  exact ⟨rfl, HB4.out⟩
set_option maxRecDepth 100000 in
set_option maxHeartbeats 8000000 in
theorem reads_form (P D S W birth lo : Nat) (ks : List UInt8) (t : Nat → Bool) (Fd : Nat → Prop) (d : Dv) (R S2 V2 M rb : Nat) (t2 : Nat → Bool) (lies : Lies) (p : Pt) (w : World) (h : PlAt w P D S W d.size ks t birth) (hd : DvIn w lo D Fd d)
    (hr : RpAt w R S2 V2 M d.size t2 rb lies) (hl : LieOk w ks d lies) (hp : p.Wf) (hn : d.waits.length ≤ 1000000) (h0 : p.addr ≠ 0) (h1 : ptrE p d.size ≠ 0) :
    Calls Tryz.prog 36 #[.pointer (some ⟨P, 0, none⟩), .pointer (some ⟨D, 0, none⟩), .pointer (some ⟨R, 0, none⟩), .int .i64 (d.size : Int), .agg p.arr] w fun e w' => e = .returned (.bool true) ∧ Below w.heap.size w w' := by
  have hb0 : Below w.heap.size w (w.alloc (.cells p.arr 43)) := (Below.refl _ w).alloc (Nat.le_refl _) _
  have hle : d.size ≤ 4096 := h.sp.2.2.1
  have HB0 := Lib.hid hb0
  have HH0 := Lib.hid (h.below hb0)
  have HD0 := Lib.hid (hd.below hb0)
  have HR0 := Lib.hid (hr.below hb0)
  have HA0 := Lib.hid (heap_alloc_new w (.cells p.arr 43))
  have HPw := Lib.hid hp
  have HWn := Lib.hid hn
  have HLi := Lib.hid hl
  have HKl := Lib.hid h.ks
  clear h hd hr hp hn hl hb0
  obtain ⟨er, her⟩ : ∃ er, er = (readE ks d p).1 := ⟨_, rfl⟩
  obtain ⟨nd, hnd⟩ : ∃ nd, nd = (readE ks d p).2 := ⟨_, rfl⟩
  have HE := Lib.hid (show er = (readE ks d p).1 ∧ nd = (readE ks d p).2 from ⟨her, hnd⟩)
  have HNz := Lib.hid (show er ≠ 0 → nd = Nd.zero from fun h => by rw [hnd]; exact readE_zero (by rw [← her]; exact h))
  have HFit := Lib.hid (show nd.Fits from by rw [hnd]; exact readE_fits _ _ _)
  clear her hnd
  go_enter Tryz.func36, Tryz.ntmps36
  go_wp2_with (refine load_ptr rfl (.tmp 9) rfl rfl (At.of_row HA0.out) HPw.out ?_)
  refine (poRead_all P D S W birth lo ks t Fd d p _ HH0.out HD0.out HPw.out HWn.out).mono ?_
  rintro e w1 ⟨arr, rfl, hn1, hb1⟩
  rw [← HE.out.1]
  rw [← HE.out.2] at hn1
  have HN1 := Lib.hid hn1
  have HSz := Lib.hid hn1.size
  have HOne := Lib.hid hn1.one
  have HB1 := Lib.hid (HB0.out.trans (hb1.mono HB0.out.size))
  have HH1 := Lib.hid (HH0.out.below hb1)
  have HD1 := Lib.hid (HD0.out.below hb1)
  have HR1 := Lib.hid (HR0.out.below hb1)
  have HA1 := Lib.hid ((hb1.block _ (lt_of_block HA0.out)).trans HA0.out)
  clear hn1 hb1 HB0 HH0 HD0 HR0 HA0
  obtain rfl : er = 2 := by rw [HE.out.1]; unfold readE; rw [if_pos (Or.inr h1)]
  have HNz := Lib.hid (show nd = Nd.zero from HNz.out (by decide))
  have hnull : decide (p.addr = 0) = false := by simpa using h0
  go_wp2_with (first | (refine store_nd rfl (.tmp 11) (.tmp 20) rfl rfl (arr := arr) rfl (heap_alloc_new w1 (.cells zeroArr 25)) rfl HSz.out HOne.out ?_; intro w2 hg hf hs; have HGw2 := Lib.hid hg; have HBww2 := Lib.hid (show Below w1.heap.size w1 w2 from ((Below.refl _ w1).alloc (Nat.le_refl _) _).trans (hf.below (by simp) (fun j hj => by omega))); clear hg hf hs; have HA2 := Lib.hid ((HBww2.out.block _ (lt_of_block HA1.out)).trans HA1.out)) | (refine gload_nd rfl (.tmp 11) rfl rfl (At_nd HGw2.out) HSz.out ?_))
  have HNs2 := Lib.hid (HN1.out.below HBww2.out)
  refine (nodeSame_any arr zeroArr nd Nd.zero w2 HNs2.out (zero_is _) HFit.out zero_fits).mono ?_
  rintro e w3 ⟨rfl, hb3⟩
  rw [HNz.out, sameN_refl]
  have HA3 := Lib.hid ((hb3.block _ (lt_of_block HA2.out)).trans HA2.out)
  have HB3 := Lib.hid ((HB1.out.trans (HBww2.out.mono HB1.out.size)).trans (hb3.mono (Nat.le_trans HB1.out.size HBww2.out.size)))
  have HG3 := Lib.hid ((hb3.block _ (lt_of_block HGw2.out)).trans HGw2.out)
  have HN3 := Lib.hid (HNs2.out.below hb3)
  have HD3 := Lib.hid ((HD1.out.below HBww2.out).below hb3)
  have HR3 := Lib.hid ((HR1.out.below HBww2.out).below hb3)
  clear hb3 HNs2 HN1 HD1 HR1 HH1 HA1 HA2 HGw2 HBww2
  go_wp2_with (refine load_ptr rfl (.tmp 9) rfl rfl (At.of_row HA3.out) HPw.out ?_)
  refine (ptrNull_any p _).mono ?_
  rintro e w4 ⟨rfl, hb4⟩
  rw [hnull]
  have HA4 := Lib.hid ((hb4.block _ (lt_of_block HA3.out)).trans HA3.out)
  have HB4 := Lib.hid (HB3.out.trans (hb4.mono HB3.out.size))
  have HG4 := Lib.hid ((hb4.block _ (lt_of_block HG3.out)).trans HG3.out)
  have HN4 := Lib.hid (HN3.out.below hb4)
  have HD4 := Lib.hid (HD3.out.below hb4)
  have HR4 := Lib.hid (HR3.out.below hb4)
  clear hb4 HA3 HB3 HG3 HN3 HD3 HR3
  go_wp2_with (refine gload_ptr rfl (.tmp 9) rfl rfl (At.of_row HA4.out) HPw.out ?_)
  refine (ptrCheck_any p (d.size : Int) w4 HPw.out (by omega)).mono ?_
  rintro e w5 ⟨rfl, hb5⟩
  have HA5 := Lib.hid ((hb5.block _ (lt_of_block HA4.out)).trans HA4.out)
  have HB5 := Lib.hid (HB4.out.trans (hb5.mono HB4.out.size))
  have HG5 := Lib.hid ((hb5.block _ (lt_of_block HG4.out)).trans HG4.out)
  have HN5 := Lib.hid (HN4.out.below hb5)
  have HD5 := Lib.hid (HD4.out.below hb5)
  have HR5 := Lib.hid (HR4.out.below hb5)
  clear hb5 HA4 HB4 HG4 HN4 HD4 HR4
  have hcb : (ptrE p (d.size : Int) != 0) = true := by simpa using h1
  go_wp2_with fail
  go_ret
  exact ⟨rfl, HB5.out⟩
set_option maxRecDepth 100000 in
set_option maxHeartbeats 8000000 in
theorem reads_down (P D S W birth lo : Nat) (ks : List UInt8) (t : Nat → Bool) (Fd : Nat → Prop) (d : Dv) (R S2 V2 M rb : Nat) (t2 : Nat → Bool) (lies : Lies) (p : Pt) (w : World) (h : PlAt w P D S W d.size ks t birth) (hd : DvIn w lo D Fd d)
    (hr : RpAt w R S2 V2 M d.size t2 rb lies) (hl : LieOk w ks d lies) (hp : p.Wf) (hn : d.waits.length ≤ 1000000) (h0 : p.addr ≠ 0) (h1 : ptrE p d.size = 0) (hdn : d.down = true) :
    Calls Tryz.prog 36 #[.pointer (some ⟨P, 0, none⟩), .pointer (some ⟨D, 0, none⟩), .pointer (some ⟨R, 0, none⟩), .int .i64 (d.size : Int), .agg p.arr] w fun e w' => e = .returned (.bool true) ∧ Below w.heap.size w w' := by
  have hb0 : Below w.heap.size w (w.alloc (.cells p.arr 43)) := (Below.refl _ w).alloc (Nat.le_refl _) _
  have hle : d.size ≤ 4096 := h.sp.2.2.1
  have HB0 := Lib.hid hb0
  have HH0 := Lib.hid (h.below hb0)
  have HD0 := Lib.hid (hd.below hb0)
  have HR0 := Lib.hid (hr.below hb0)
  have HA0 := Lib.hid (heap_alloc_new w (.cells p.arr 43))
  have HPw := Lib.hid hp
  have HWn := Lib.hid hn
  have HLi := Lib.hid hl
  have HKl := Lib.hid h.ks
  clear h hd hr hp hn hl hb0
  obtain ⟨er, her⟩ : ∃ er, er = (readE ks d p).1 := ⟨_, rfl⟩
  obtain ⟨nd, hnd⟩ : ∃ nd, nd = (readE ks d p).2 := ⟨_, rfl⟩
  have HE := Lib.hid (show er = (readE ks d p).1 ∧ nd = (readE ks d p).2 from ⟨her, hnd⟩)
  have HNz := Lib.hid (show er ≠ 0 → nd = Nd.zero from fun h => by rw [hnd]; exact readE_zero (by rw [← her]; exact h))
  have HFit := Lib.hid (show nd.Fits from by rw [hnd]; exact readE_fits _ _ _)
  clear her hnd
  go_enter Tryz.func36, Tryz.ntmps36
  go_wp2_with (refine load_ptr rfl (.tmp 9) rfl rfl (At.of_row HA0.out) HPw.out ?_)
  refine (poRead_all P D S W birth lo ks t Fd d p _ HH0.out HD0.out HPw.out HWn.out).mono ?_
  rintro e w1 ⟨arr, rfl, hn1, hb1⟩
  rw [← HE.out.1]
  rw [← HE.out.2] at hn1
  have HN1 := Lib.hid hn1
  have HSz := Lib.hid hn1.size
  have HOne := Lib.hid hn1.one
  have HB1 := Lib.hid (HB0.out.trans (hb1.mono HB0.out.size))
  have HH1 := Lib.hid (HH0.out.below hb1)
  have HD1 := Lib.hid (HD0.out.below hb1)
  have HR1 := Lib.hid (HR0.out.below hb1)
  have HA1 := Lib.hid ((hb1.block _ (lt_of_block HA0.out)).trans HA0.out)
  clear hn1 hb1 HB0 HH0 HD0 HR0 HA0
  obtain rfl : er = 7 := by rw [HE.out.1]; unfold readE; rw [if_neg (by rintro (e | e); exact h0 e; exact e h1), if_pos hdn]
  have HNz := Lib.hid (show nd = Nd.zero from HNz.out (by decide))
  have hnull : decide (p.addr = 0) = false := by simpa using h0
  have HCk := Lib.hid (show ptrE p (d.size : Int) = 0 from h1)
  have HDn := Lib.hid hdn
  clear h1 hdn
  go_wp2_with (first | (refine store_nd rfl (.tmp 11) (.tmp 20) rfl rfl (arr := arr) rfl (heap_alloc_new w1 (.cells zeroArr 25)) rfl HSz.out HOne.out ?_; intro w2 hg hf hs; have HGw2 := Lib.hid hg; have HBww2 := Lib.hid (show Below w1.heap.size w1 w2 from ((Below.refl _ w1).alloc (Nat.le_refl _) _).trans (hf.below (by simp) (fun j hj => by omega))); clear hg hf hs; have HA2 := Lib.hid ((HBww2.out.block _ (lt_of_block HA1.out)).trans HA1.out)) | (refine gload_nd rfl (.tmp 11) rfl rfl (At_nd HGw2.out) HSz.out ?_))
  have HNs2 := Lib.hid (HN1.out.below HBww2.out)
  refine (nodeSame_any arr zeroArr nd Nd.zero w2 HNs2.out (zero_is _) HFit.out zero_fits).mono ?_
  rintro e w3 ⟨rfl, hb3⟩
  rw [HNz.out, sameN_refl]
  have HA3 := Lib.hid ((hb3.block _ (lt_of_block HA2.out)).trans HA2.out)
  have HB3 := Lib.hid ((HB1.out.trans (HBww2.out.mono HB1.out.size)).trans (hb3.mono (Nat.le_trans HB1.out.size HBww2.out.size)))
  have HG3 := Lib.hid ((hb3.block _ (lt_of_block HGw2.out)).trans HGw2.out)
  have HN3 := Lib.hid (HNs2.out.below hb3)
  have HD3 := Lib.hid ((HD1.out.below HBww2.out).below hb3)
  have HR3 := Lib.hid ((HR1.out.below HBww2.out).below hb3)
  clear hb3 HNs2 HN1 HD1 HR1 HH1 HA1 HA2 HGw2 HBww2
  go_wp2_with (refine load_ptr rfl (.tmp 9) rfl rfl (At.of_row HA3.out) HPw.out ?_)
  refine (ptrNull_any p _).mono ?_
  rintro e w4 ⟨rfl, hb4⟩
  rw [hnull]
  have HA4 := Lib.hid ((hb4.block _ (lt_of_block HA3.out)).trans HA3.out)
  have HB4 := Lib.hid (HB3.out.trans (hb4.mono HB3.out.size))
  have HG4 := Lib.hid ((hb4.block _ (lt_of_block HG3.out)).trans HG3.out)
  have HN4 := Lib.hid (HN3.out.below hb4)
  have HD4 := Lib.hid (HD3.out.below hb4)
  have HR4 := Lib.hid (HR3.out.below hb4)
  clear hb4 HA3 HB3 HG3 HN3 HD3 HR3
  go_wp2_with (refine gload_ptr rfl (.tmp 9) rfl rfl (At.of_row HA4.out) HPw.out ?_)
  refine (ptrCheck_any p (d.size : Int) w4 HPw.out (by omega)).mono ?_
  rintro e w5 ⟨rfl, hb5⟩
  have HA5 := Lib.hid ((hb5.block _ (lt_of_block HA4.out)).trans HA4.out)
  have HB5 := Lib.hid (HB4.out.trans (hb5.mono HB4.out.size))
  have HG5 := Lib.hid ((hb5.block _ (lt_of_block HG4.out)).trans HG4.out)
  have HN5 := Lib.hid (HN4.out.below hb5)
  have HD5 := Lib.hid (HD4.out.below hb5)
  have HR5 := Lib.hid (HR4.out.below hb5)
  clear hb5 HA4 HB4 HG4 HN4 HD4 HR4
  rw [HCk.out]
  go_wp2_with fail
  have hc5 : w5.cell? ⟨D, 5, none⟩ = some (.bool d.down) := by
    obtain ⟨L, T, wv, hv, _⟩ := HD5.out
    exact cell_of_row _ D 5 _ _ _ hv.row
  refine (dvDown_any D d.down w5 hc5).mono ?_
  rintro e w6 ⟨rfl, rfl⟩
  rw [HDn.out]
  clear hc5
  go_wp2_with fail
  go_ret
  exact ⟨rfl, HB5.out⟩

end Go.Proofs.YtkbnkdokcmpcgaaGreatDoor
