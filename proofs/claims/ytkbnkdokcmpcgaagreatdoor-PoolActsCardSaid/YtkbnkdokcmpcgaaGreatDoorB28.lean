/- Walk: banyanlaw13.PoolActs: any act. Walk: banyanlaw13.PoolActs. How this program's arguments read: bytes, hashes, texts, acts. Helpers: how the cells of what came in read. How an api.Node reads that came in. How a slice of uint32 that came in reads. How a slice of pool acts that came in reads. -/
import Derived.Test.YtkbnkdokcmpcgaaGreatDoorB0
import Derived.Test.YtkbnkdokcmpcgaaGreatDoorB5
import Derived.Test.YtkbnkdokcmpcgaaGreatDoorB14
import Derived.Test.YtkbnkdokcmpcgaaGreatDoorB24
import Derived.Test.YtkbnkdokcmpcgaaGreatDoorB26
import Derived.Test.YtkbnkdokcmpcgaaGreatDoorB27
import Derived.Deep.DeepCutAuto
import Derived.Deep.CutBlock
import Derived.Deep.Slices
import Derived.SizedLaws
namespace Go.Proofs.YtkbnkdokcmpcgaaGreatDoor
open Go.RowKit

set_option maxRecDepth 100000 in
set_option maxHeartbeats 16000000 in
theorem act_any {w2 w8 : World} {P D S W lo : Nat} {ks : List UInt8} {R S2 V2 M n k g1 : Nat} {d : Dv} {t : Nat → Bool} {birth : Nat} {lies : Lies} {ps : List Pt} {bs : List Nat} {vA : Value} {a : Ac13} {aL : Option Addr} {cL : Nat} (h : AcSt w2 w8 P D S W lo ks R S2 V2 M n k g1 d t birth lies ps bs vA a aL cL) (kd : Int) (hkd : kd = a.kind)  {Q : Exit → Act → World → Prop} {u0 u1 u2 u3 u4 u8 u9 u11 u12 u14 u15 u16 u17 u18 u19 u20 u21 u22 u23 u24 u25 u26 u27 u28 u29 u30 u31 u32 u33 u34 u35 u36 u37 u38 u39 u40 u41 u42 u43 u44 u45 u46 u47 u48 u49 u50 u51 u52 u53 u54 u55 u56 u57 u59 u60 u61 u62 u63 u64 u65 u66 u67 u68 u69 u70 u71 u72 u73 u74 u75 u76 u77 u78 u79 u80 u81 u82 u83 u84 u85 u86 u87 u88 u89 u90 u91 u92 u93 u94 u95 u96 u97 u98 u99 u100 u101 u102 u103 u104 u105 u106 u107 u108 u109 u110 u111 u112 u113 u114 u115 u116 u117 u118 u119 u120 u121 u122 u123 u124 u125 u126 u127 u128 u129 u130 u131 u132 u133 u134 u135 u136 u137 u138 u139 u140 u141 u142 u143 u144 u145 u146 u147 u148 u149 u150 u151 u152 u153 u154 u155 u156 u157 u158 u159 u160 u161 u162 u163 u164 u165 u166 u167 u168 u169 u170 u171 u172 u173 u174 u175 u176 u177 u178 u179 u180 u181 u182 u183 u184 u185 u186 u187 u188 u189 u190 u191 u192 u193 u194 u195 u196 u197 u198 u199 u200 u201 u202 u203 u204 u205 u206 u207 u208 u209 u210 u211 u212 u213 u214 u215 u216 u217 u218 u219 u220 u221 u222 u223 u224 u225 u226 u227 u228 u229 u230 u231 u232 u233 u234 u235 u236 u237 u238 u239 u240 u241 u242 u243 : Value} (hu : u11 = vA)
    (hn : ∀ (x : Exit) {v4 v11 v14 v15 v16 v17 v18 v19 v20 v21 v59 v60 v61 v62 v63 v64 v65 v66 v67 v68 v69 v70 v71 v72 v73 v74 v75 v76 v77 v78 v79 v80 v81 v82 v83 v84 v85 v86 v87 v88 v89 v90 v91 v92 v93 v94 v95 v96 v97 v98 v99 v100 v101 v102 v103 v104 v105 v106 v107 v108 v109 v110 v111 v112 v113 v114 v115 v116 v117 v118 v119 v120 v121 v122 v123 v124 v125 v126 v127 v128 v129 v130 v131 v132 v133 v134 v135 v136 v137 v138 v139 v140 v141 v142 v143 v144 v145 v146 v147 v148 v149 v150 v151 v152 v153 v154 v155 v156 v157 v158 v159 v160 v161 v162 v163 v164 v165 v166 v167 v168 v169 v170 v171 v172 v173 v174 v175 v176 v177 v178 v179 v180 v181 v182 v183 v184 v185 v186 v187 v188 v189 v190 v191 v192 v193 v194 v195 v196 v197 v198 v199 v200 v201 v202 v203 v204 v205 v206 v207 v208 v209 v210 v211 v212 v213 v214 v215 v216 v217 v218 v219 : Value} {wx : World}, (x = .normal ∨ x = .exit 1) → AcRel w2.heap.size w2 P D S W lo ks R S2 M n (k + 1) v11 wx → Q x ⟨#[u0, u1, u2, u3, v4, .int .i64 (n : Int), .pointer (some ⟨P, 0, none⟩), .pointer (some ⟨D, 0, none⟩), u8, u9, .pointer (some ⟨R, 0, none⟩), v11, u12, .pointer (some ⟨g1, 0, none⟩), v14, v15, v16, v17, v18, v19, v20, v21, u22, u23, u24, u25, u26, u27, u28, u29, u30, u31, u32, u33, u34, u35, u36, u37, u38, u39, u40, u41, u42, u43, u44, u45, u46, u47, u48, u49, u50, u51, u52, u53, u54, u55, u56, u57, .int .i64 kd, v59, v60, v61, v62, v63, v64, v65, v66, v67, v68, v69, v70, v71, v72, v73, v74, v75, v76, v77, v78, v79, v80, v81, v82, v83, v84, v85, v86, v87, v88, v89, v90, v91, v92, v93, v94, v95, v96, v97, v98, v99, v100, v101, v102, v103, v104, v105, v106, v107, v108, v109, v110, v111, v112, v113, v114, v115, v116, v117, v118, v119, v120, v121, v122, v123, v124, v125, v126, v127, v128, v129, v130, v131, v132, v133, v134, v135, v136, v137, v138, v139, v140, v141, v142, v143, v144, v145, v146, v147, v148, v149, v150, v151, v152, v153, v154, v155, v156, v157, v158, v159, v160, v161, v162, v163, v164, v165, v166, v167, v168, v169, v170, v171, v172, v173, v174, v175, v176, v177, v178, v179, v180, v181, v182, v183, v184, v185, v186, v187, v188, v189, v190, v191, v192, v193, v194, v195, v196, v197, v198, v199, v200, v201, v202, v203, v204, v205, v206, v207, v208, v209, v210, v211, v212, v213, v214, v215, v216, v217, v218, v219, u220, u221, u222, u223, u224, u225, u226, u227, u228, u229, u230, u231, u232, u233, u234, u235, u236, u237, u238, u239, u240, u241, u242, u243], []⟩ wx)
    (hp : ∀ c b b' wx, Act.defers b = Act.defers b' → Q (.panic c) b wx → Q (.panic c) b' wx) :
    (Code.block 2 (blkIn Tryz.f9 2)).wp Tryz.prog Q ⟨#[u0, u1, u2, u3, u4, .int .i64 (n : Int), .pointer (some ⟨P, 0, none⟩), .pointer (some ⟨D, 0, none⟩), u8, u9, .pointer (some ⟨R, 0, none⟩), u11, u12, .pointer (some ⟨g1, 0, none⟩), u14, u15, u16, u17, u18, u19, u20, u21, u22, u23, u24, u25, u26, u27, u28, u29, u30, u31, u32, u33, u34, u35, u36, u37, u38, u39, u40, u41, u42, u43, u44, u45, u46, u47, u48, u49, u50, u51, u52, u53, u54, u55, u56, u57, .int .i64 kd, u59, u60, u61, u62, u63, u64, u65, u66, u67, u68, u69, u70, u71, u72, u73, u74, u75, u76, u77, u78, u79, u80, u81, u82, u83, u84, u85, u86, u87, u88, u89, u90, u91, u92, u93, u94, u95, u96, u97, u98, u99, u100, u101, u102, u103, u104, u105, u106, u107, u108, u109, u110, u111, u112, u113, u114, u115, u116, u117, u118, u119, u120, u121, u122, u123, u124, u125, u126, u127, u128, u129, u130, u131, u132, u133, u134, u135, u136, u137, u138, u139, u140, u141, u142, u143, u144, u145, u146, u147, u148, u149, u150, u151, u152, u153, u154, u155, u156, u157, u158, u159, u160, u161, u162, u163, u164, u165, u166, u167, u168, u169, u170, u171, u172, u173, u174, u175, u176, u177, u178, u179, u180, u181, u182, u183, u184, u185, u186, u187, u188, u189, u190, u191, u192, u193, u194, u195, u196, u197, u198, u199, u200, u201, u202, u203, u204, u205, u206, u207, u208, u209, u210, u211, u212, u213, u214, u215, u216, u217, u218, u219, u220, u221, u222, u223, u224, u225, u226, u227, u228, u229, u230, u231, u232, u233, u234, u235, u236, u237, u238, u239, u240, u241, u242, u243], []⟩ w8 := by
  by_cases hk1 : kd = 1
  · exact act_begin h kd hkd hk1 hu hn hp
  by_cases hk2 : kd = 2
  · exact act_keep h kd hkd hk1 hk2 hu hn hp
  by_cases hk3 : kd = 3
  · exact act_which h kd hkd hk1 hk2 hk3 hu hn hp
  by_cases hk6 : kd = 6
  · exact act_read h kd hkd hk1 hk2 hk3 hk6 hu hn hp
  by_cases hk4 : kd = 4
  · exact act_limit h kd hkd hk1 hk2 hk3 hk6 (Or.inl hk4) hu hn hp
  by_cases hk5 : kd = 5
  · exact act_limit h kd hkd hk1 hk2 hk3 hk6 (Or.inr ⟨hk4, hk5⟩) hu hn hp
  by_cases hb0 : birth = 0
  · exact act_not h kd hkd hk1 hk2 hk3 hk6 hk4 hk5 (Or.inl hb0) hu hn hp
  by_cases hce : checkE a.n = 0
  case neg => exact act_not h kd hkd hk1 hk2 hk3 hk6 hk4 hk5 (Or.inr (Or.inl ⟨hb0, hce⟩)) hu hn hp
  cases hl : lowT t n with
  | none => exact act_not h kd hkd hk1 hk2 hk3 hk6 hk4 hk5 (Or.inr (Or.inr ⟨hb0, hce, hl⟩)) hu hn hp
  | some a0 =>
    by_cases hno : d.down = true ∨ d.step.down = true
    · exact act_down h kd hkd hk1 hk2 hk3 hk6 hk4 hk5 a0 hb0 hce hl hno hu hn hp
    · have h1 : d.down = false := by cases hd : d.down with
        | false => rfl
        | true => exact absurd (Or.inl hd) hno
      have h2 : d.step.down = false := by cases hd : d.step.down with
        | false => rfl
        | true => exact absurd (Or.inr hd) hno
      exact act_write h kd hkd hk1 hk2 hk3 hk6 hk4 hk5 a0 hb0 hce hl h1 h2 hu hn hp

end Go.Proofs.YtkbnkdokcmpcgaaGreatDoor
namespace Go.Proofs.YtkbnkdokcmpcgaaGreatDoor
open Go.RowKit

set_option maxRecDepth 100000 in
set_option maxHeartbeats 16000000 in
theorem poolActs_any (nb : Nat) (v : Value) (l : List Ac13) (w : World) (h : Acs13 w v l) (hb : nb < 256) (hT : Tz w) :
    Calls Tryz.prog 9 #[.int .u8 (nb : Int), v] w fun e w' => e = .returned (.bool true) ∧ Below w.heap.size w w' := by
  obtain ⟨a1, c1, rfl, hel⟩ := h
  have HNs := Lib.hid (show Acs13 w (.slice a1 l.length c1) l from ⟨a1, c1, rfl, hel⟩)
  have HTw := Lib.hid hT
  clear hel hT
  go_enter Tryz.func9, Tryz.ntmps9
  go_wp2_with fail
  refine (alive13 _ HTw.out).mono ?_
  rintro e w2 ⟨rfl, hb2⟩
  have HB2 := Lib.hid hb2
  have HN2 := Lib.hid (HNs.out.below hb2)
  have HT2 := Lib.hid (HTw.out.below hb2)
  clear hb2 HNs HTw
  by_cases hl : (40 : Int) < (l.length : Int)
  · go_wp2
    go_ret
    exact ⟨rfl, HB2.out⟩
  have hlen : l.length ≤ 40 := by omega
  clear hl
  obtain ⟨n, hn⟩ : ∃ n, n = 16 + nb % 20 := ⟨_, rfl⟩
  have HNn := Lib.hid (show (16 : Int) + (nb : Int) % 20 = (n : Int) by omega)
  have hn16 : 16 ≤ n := by omega
  have hn35 : n ≤ 35 := by omega
  clear hn
  go_wp2_with fail
  rw [HNn.out]
  refine (made_ps n w2 hn16 (by omega)).mono ?_
  rintro e w3 ⟨P, D, S, W, lo, rfl, hps, hb3⟩
  obtain ⟨ks, hks⟩ : ∃ ks, ks = MK := ⟨_, rfl⟩
  rw [← hks] at hps ⊢
  have HKl := Lib.hid (show ks.length = 64 by rw [hks]; exact MK_length)
  have HP3 := Lib.hid (hps w2.heap.size (Nat.le_refl _))
  have HX3 := Lib.hid hb3
  clear hks hps hb3
  go_wp2_with (refine wpList_store_row rfl _ (.tmp 8) (.tmp 36) rfl w3.heap.size rfl (ks.map Bv) rfl _ _ (heap_alloc_new w3 (.cells ((zB 64).map Bv).toArray 35)) (by rw [List.length_map, HKl.out]; rfl) (Bv_oneCell _) (by rw [info_keys, List.length_map, HKl.out]) ?_; intro w4 hg hf hs; have HBww4 := Lib.hid (show Below w3.heap.size w3 w4 from ((Below.refl _ w3).alloc (Nat.le_refl _) _).trans (hf.below (by simp) (fun j hj => by omega))); clear hg hf hs)
  have HP4 := Lib.hid (HP3.out.below HBww4.out)
  have HX4 := Lib.hid (HX3.out.trans (HBww4.out.mono HX3.out.size))
  clear HP3 HX3 HBww4
  refine (rpNew_ok n w4 hn16 (by omega)).mono ?_
  rintro e w5 ⟨R, S2, V2, M, rfl, hrp, hRF, hb5⟩
  have hr5 : AcRel w2.heap.size w2 P D S W lo ks R S2 M n 0 (.slice none 0 0) w5 := by
    refine ⟨Dv.new n, noneT, 0, fun _ => none, V2, [], [R, S2, V2, M], ⟨?_, ?_⟩, HX4.out.trans (hb5.mono HX4.out.size), rfl, Nat.le_refl _, by decide, hrp, ⟨fun a z h => by cases h⟩, World.ownsRow_nil _ _ _ _, by simp, Nat.le_refl _, ?_, ?_, ?_⟩
    · intro q hq
      simp only [List.mem_cons, List.not_mem_nil, or_false] at hq
      exact hrp.lt q hq
    · refine HP4.out.keep (F := fun _ => False) (Fr.of_below hb5) (fun _ h => h.elim) (fun q o hm => ?_)
      obtain ⟨h1, h2⟩ := objsAt_mem.1 hm
      simp only [List.mem_cons, List.not_mem_nil, or_false] at h1
      exact ⟨h2, Or.inr (hRF q h1)⟩
    · intro q hq; simpa [RpF] using hq
    · intro q e; cases e
    · intro q hq
      simp only [List.mem_cons, List.not_mem_nil, or_false] at hq
      exact Nat.le_trans HX4.out.size (hRF q hq)
  have HR5 := Lib.hid hr5
  clear hr5 hrp hRF hb5 HP4 HX4
  go_wp2_with fail
  go_loopw [44, 11, 13, 14, 15, 16, 17, 18, 19, 20, 21] (fun i u11 _ _ _ _ _ _ _ _ _ wr => ∃ k : Nat, k ≤ l.length ∧ i = .int .i64 k ∧ AcRel w2.heap.size w2 P D S W lo ks R S2 M n k u11 wr) (fun i _ _ _ _ _ _ _ _ _ _ _ => l.length - (intOf i).toNat)
  case atStart => exact ⟨0, Nat.zero_le _, rfl, HR5.out⟩
  case round =>
    clear HR5
    obtain ⟨k, hk, rfl, hr⟩ := hrel
    have HR := Lib.hid hr
    clear hr
    rcases Nat.lt_or_ge k l.length with hlt | hge
    · obtain ⟨d, t, birth, lies, V2, ps, bs, hps, hx, hsz, hwl, hbi, hrp, hlo, hown, hpw, hpl, hbR, hbA, hbB⟩ := HR.out
      obtain ⟨a', c', e', hel⟩ := HN2.out
      simp only [Value.slice.injEq, true_and] at e'
      obtain ⟨rfl, rfl⟩ := e'
      obtain ⟨bb, o, rfl, hat2, hai⟩ := hel k hlt
      obtain ⟨a, ha⟩ : ∃ a, a = l[k] := ⟨_, rfl⟩
      rw [← ha] at hat2 hai
      have hat : At wr bb (o + k * 43) a.cells := hat2.fr (Fr.of_below (S := fun _ => False) hx) id
      obtain ⟨aL, cL, hvL, _⟩ := hai.us.len
      have HAt := Lib.hid hat
      have HI := Lib.hid hai
      have HVL := Lib.hid hvL
      have HLen := Lib.hid hai.len
      have HSz := Lib.hid hai.nd.size
      have HP := Lib.hid hps
      have HX := Lib.hid hx
      have HRp := Lib.hid hrp
      have HLo := Lib.hid hlo
      have HOw := Lib.hid hown
      have HPw := Lib.hid hpw
      have HBs := Lib.hid (show (∀ q, RpF R S2 V2 M q → q ∈ bs) ∧ (∀ q, u11.ownBlock = some q → q ∈ bs) ∧ (∀ q ∈ bs, w2.heap.size ≤ q) from ⟨hbR, hbA, hbB⟩)
      have HD := Lib.hid (show d.size = n ∧ d.waits.length ≤ k ∧ birth < 18446744073709551616 ∧ ps.length ≤ k from ⟨hsz, hwl, hbi, hpl⟩)
      clear hel hat hat2 hai ha hvL hps hx hrp hlo hown hpw hbR hbA hbB hsz hwl hbi hpl HR
      go_wp2_with (first | (refine wpList_load_at rfl _ (.tmp 46) rfl bb (o + k * 43) rfl a.cells _ HAt.out Tryz.underlying78 rfl (by rw [info_ac13, HLen.out]) ?_) | (refine wpList_store_row rfl _ (.tmp 13) (.tmp 47) rfl wr.heap.size rfl a.cells rfl zeroAc.toArray _ (heap_alloc_new wr (.cells zeroAc.toArray 78)) (by rw [HLen.out]; rfl) (HI.out.one) (by rw [info_ac13, HLen.out]) ?_; intro w7 hg hf hs; have HGw7 := Lib.hid hg; have HBww7 := Lib.hid (show Below wr.heap.size wr w7 from ((Below.refl _ wr).alloc (Nat.le_refl _) _).trans (hf.below (by simp) (fun j hj => by omega))); have hpp := Ac13.parts HI.out (At.of_row hg); have HA7 := Lib.hid hpp.2.2.2.1; clear hg hf hs hpp) | (refine load_nd rfl (.tmp 48) rfl rfl HA7.out HSz.out ?_))
      have HP7 := Lib.hid (HP.out.touch (F := fun _ => False) (bs' := wr.heap.size :: bs) (Fr.of_below HBww7.out) (fun _ h => h.elim) (fun q hq => by
        rcases List.mem_cons.1 hq with rfl | hq
        · exact ⟨Or.inr (Nat.le_refl _), lt_of_block HGw7.out⟩
        · exact ⟨Or.inl hq, Nat.lt_of_lt_of_le (HP.out.1 q hq) HBww7.out.size⟩))
      have HX7 := Lib.hid (HX.out.trans (HBww7.out.mono HX.out.size))
      have HN7 := Lib.hid (HI.out.nd.below HX7.out)
      clear HA7
      refine (heavy_any a.arr a.n w7 HN7.out HI.out.fits).mono ?_
      rintro e w8 ⟨rfl, hb8⟩
      have HP8 := Lib.hid (HP7.out.below hb8)
      have HX8 := Lib.hid (HX7.out.trans (hb8.mono HX7.out.size))
      have HG8 := Lib.hid ((hb8.block _ (lt_of_block HGw7.out)).trans HGw7.out)
      have HRp8 := Lib.hid ((HRp.out.below HBww7.out).below hb8)
      have HOw8 := Lib.hid ((HOw.out.blocks fun q hq => HBww7.out.block q (HOw.out.lt q hq).2).blocks fun q hq => hb8.block q (Nat.lt_of_lt_of_le (HOw.out.lt q hq).2 HBww7.out.size))
      clear hb8 HP7 HX7 HN7 HP HX HRp HOw HBww7 HGw7 HAt
      cases hhv : heavy13 a.n with
      | true =>
        clear hhv
        go_wp2
        go_ret
        exact ⟨rfl, HB2.out.trans (HX8.out.mono HB2.out.size)⟩
      | false =>
        have HHv := Lib.hid (show ¬ heavy13 a.n = true by rw [hhv]; simp)
        clear hhv
        obtain ⟨g1, hg1⟩ : ∃ g1, g1 = wr.heap.size := ⟨_, rfl⟩
        rw [← hg1] at HP8 HG8 ⊢
        have hpp := Ac13.parts HI.out (At.of_row HG8.out)
        rw [HVL.out] at hpp
        simp only [Nat.zero_add] at hpp
        obtain ⟨p0, p1, p2, p3, p7, p8, p9⟩ := hpp
        have HP3 := Lib.hid p3
        have HP9 := Lib.hid p9
        clear p3 p9 hg1
        by_cases hu : (100 : Int) < (a.us.length : Int)
        · go_wp2
          go_ret
          exact ⟨rfl, HB2.out.trans (HX8.out.mono HB2.out.size)⟩
        have hu100 : a.us.length ≤ 100 := by omega
        clear hu
        go_upto_block 2 with fail
        obtain ⟨kd, hkd⟩ : ∃ kd, kd = a.kind := ⟨_, rfl⟩
        rw [← hkd]
        have HSt := Lib.hid (show AcSt w2 w8 P D S W lo ks R S2 V2 M n k g1 d t birth lies ps bs u11 a aL cL from ⟨HP8.out, HX8.out, HRp8.out, HOw8.out, HG8.out, HI.out, HVL.out, HLo.out, HPw.out, HBs.out, HD.out, HT2.out, HKl.out, hn35, hu100, by omega, HHv.out⟩)
        clear HP8 HX8 HRp8 HOw8 HG8 HVL HLo HPw HBs HD p0 p1 p2 p7 p8 HP3 HP9
        refine act_any HSt.out kd hkd rfl ?_ (fun _ b b2 _ hd h => by cases b; cases b2; cases hd; exact h)
        intro x v4 u11 v14 v15 v16 v17 v18 v19 v20 v21 v59 v60 v61 v62 v63 v64 v65 v66 v67 v68 v69 v70 v71 v72 v73 v74 v75 v76 v77 v78 v79 v80 v81 v82 v83 v84 v85 v86 v87 v88 v89 v90 v91 v92 v93 v94 v95 v96 v97 v98 v99 v100 v101 v102 v103 v104 v105 v106 v107 v108 v109 u110 u111 u112 u113 u114 u115 u116 u117 u118 u119 v120 v121 v122 v123 v124 v125 v126 v127 v128 v129 v130 v131 v132 v133 v134 v135 v136 v137 v138 v139 v140 v141 v142 v143 v144 v145 v146 v147 v148 v149 v150 v151 v152 v153 v154 v155 v156 v157 v158 v159 v160 v161 v162 v163 v164 v165 v166 v167 v168 v169 v170 v171 v172 v173 v174 v175 v176 v177 v178 v179 v180 v181 v182 v183 v184 v185 v186 v187 v188 v189 v190 v191 v192 v193 v194 v195 v196 v197 v198 v199 v200 v201 v202 v203 v204 v205 v206 v207 v208 v209 v210 v211 v212 v213 v214 v215 v216 v217 v218 v219 wc hx hcut
        rcases hx with rfl | rfl
        · clear HSt hkd
          obtain ⟨d', t', birth', lies', V', ps', bs', hps, hx, hsz, hwl, hbi, hrp, hlo, hown, hpw, hpl, hbR, hbA, hbB⟩ := hcut
          have HPl := Lib.hid (show PlAt wc P D S W n ks t' birth' from by have := hps.pl; rw [hsz] at this; exact this)
          have HRp := Lib.hid hrp
          have HTz := Lib.hid (HT2.out.below hx)
          have HAc := Lib.hid (show AcRel w2.heap.size w2 P D S W lo ks R S2 M n (k + 1) u11 wc from ⟨d', t', birth', lies', V', ps', bs', hps, hx, hsz, hwl, hbi, hrp, hlo, hown, hpw, hpl, hbR, hbA, hbB⟩)
          obtain ⟨cn, hcn⟩ : ∃ cn, cn = cntT t' n := ⟨_, rfl⟩
          have hcl : cn ≤ 35 := by rw [hcn]; have := cntT_le t' n; omega
          have HCn := Lib.hid hcn
          clear hps hx hsz hwl hbi hrp hlo hown hpw hpl hbR hbA hbB hcn
          go_wp2_with fail
          refine wp_region_anyC (fun u => Below wc.heap.size wc u) (by kernel_rfl) ?_
          obtain ⟨wd, hwd⟩ : ∃ wd, wd = { wc with drawn := wc.drawn + 1 } := ⟨_, rfl⟩
          have HBd := Lib.hid (show Below wc.heap.size wc wd by rw [hwd]; exact (Below.refl _ wc).drew)
          rw [← hwd]
          clear hwd
          have HC1 := Lib.hid (show ∀ u, Below wc.heap.size wc u → u.cell? ⟨R, 1, none⟩ = some (.pointer (some ⟨S2, 0, none⟩)) from fun u hu => (hu.cell (p := ⟨R, 1, none⟩) (lt_of_block HRp.out.row)).trans HRp.out.cells.1)
          refine wpAnyCL_take (i := 0) (v := .pointer (some ⟨P, 0, none⟩)) rfl (by kernel_rfl) (fun _ _ _ h => h) (.inl ⟨by rfl, fun w' _ => by go_simp⟩) ?_
          simp only [Act.put, sA, sB, sC]
          refine wpAnyCL_take (i := 2) (v := .pointer (some ⟨R, 0, none⟩)) rfl (by kernel_rfl) (fun _ _ _ h => h) (.inl ⟨by rfl, fun w' _ => by go_simp⟩) ?_
          simp only [Act.put, sA, sB, sC]
          refine wpAnyCL_take (i := 3) (v := .pointer (some ⟨R, 0, none⟩)) rfl (by kernel_rfl) (fun _ _ _ h => h) (.inl ⟨by rfl, fun w' _ => by go_simp⟩) ?_
          simp only [Act.put, sA, sB, sC]
          refine wpAnyCL_take (i := 4) (v := .pointer (some ⟨R, 1, none⟩)) rfl (by kernel_rfl) (fun _ _ _ h => h) (.inl ⟨by rfl, fun w' _ => by go_simp⟩) ?_
          simp only [Act.put, sA, sB, sC]
          refine wpAnyCL_take (i := 5) (v := .pointer (some ⟨S2, 0, none⟩)) rfl (by kernel_rfl) (fun _ _ _ h => h) (.inl ⟨by rfl, fun w' hw => by (have h := HC1.out w' hw; go_simp)⟩) ?_
          simp only [Act.put, sA, sB, sC]
          refine wpAnyCL_forced 1 HBd.out (by kernel_rfl) rfl (by rfl) (fun K' hK' => ?_)
          unfold Oper.wp execOp
          go_simp
          refine (poTaken_any P D S W n birth' ks t' wd (HPl.out.below HBd.out) (HTz.out.below HBd.out)).mono ?_
          rintro e x1 ⟨aa1, cc1, rfl, ho1, hb1⟩
          rw [← HCn.out] at ho1 ⊢
          have HB1 := Lib.hid (HBd.out.trans (hb1.mono HBd.out.size))
          have HS1 := Lib.hid (Sl.own ho1)
          clear ho1 hb1
          refine hK' _ _ ?_
          try simp only [Act.put, sA, sB, sC]
          refine wpAnyCL_forced 6 HB1.out (by kernel_rfl) rfl (by rfl) (fun K' hK' => ?_)
          unfold Oper.wp execOp
          go_simp
          refine (rsTaken_any S2 V' n t' x1 (HRp.out.sp.below HB1.out)).mono ?_
          rintro e x2 ⟨aa2, cc2, rfl, ho2, hb2⟩
          rw [← HCn.out] at ho2 ⊢
          have HB2x := Lib.hid (HB1.out.trans (hb2.mono HB1.out.size))
          have HS2x := Lib.hid (Sl.own ho2)
          have HS1x := Lib.hid (HS1.out.below hb2)
          clear ho2 hb2
          refine hK' _ _ ?_
          try simp only [Act.put, sA, sB, sC]
          refine wpAnyCL_forced 7 HB2x.out (by kernel_rfl) rfl (by rfl) (fun K' hK' => ?_)
          unfold Oper.wp execOp
          go_simp
          refine (rsSame_any _ _ cn cn (listT t' n) (listT t' n) x2 HS1x.out HS2x.out (fun q hq => by have := (List.mem_filter.1 hq).1; have := List.mem_range.1 this; omega) (fun q hq => by have := (List.mem_filter.1 hq).1; have := List.mem_range.1 this; omega) (by omega) (by omega)).mono ?_
          rintro e x3 ⟨rfl, hb3⟩
          rw [show decide (listT t' n = listT t' n) = true by simp]
          have HB3x := Lib.hid (HB2x.out.trans (hb3.mono HB2x.out.size))
          clear hb3
          refine hK' _ _ ?_
          try simp only [Act.put, sA, sB, sC]
          refine wpAnyCL_take (i := 8) (v := .bool false) rfl (by kernel_rfl) (fun _ _ _ h => h) (.inl ⟨by rfl, fun w' _ => by go_simp⟩) ?_
          simp only [Act.put, sA, sB, sC]
          refine wpAnyCL_take (i := 9) (v := .bool false) rfl (by kernel_rfl) (fun _ _ _ h => h) (.inl ⟨by rfl, fun w' _ => by go_simp⟩) ?_
          simp only [Act.put, sA, sB, sC]
          refine wpAnyCL_take (i := 10) (v := .pointer (some ⟨P, 0, none⟩)) rfl (by kernel_rfl) (fun _ _ _ h => h) (.inl ⟨by rfl, fun w' _ => by go_simp⟩) ?_
          simp only [Act.put, sA, sB, sC]
          refine wpAnyCL_take (i := 12) (v := .int .i64 (n : Int)) rfl (by kernel_rfl) (fun _ _ _ h => h) (.inl ⟨by rfl, fun w' _ => by go_simp⟩) ?_
          simp only [Act.put, sA, sB, sC]
          refine wpAnyCL_take (i := 13) (v := .int .i64 ((n : Int) - 2)) rfl (by kernel_rfl) (fun _ _ _ h => h) (.inl ⟨by rfl, fun w' _ => by (go_simp; rw [IntKind.wrap_i64]; omega)⟩) ?_
          simp only [Act.put, sA, sB, sC]
          refine wpAnyCL_take (i := 14) (v := .pointer (some ⟨R, 0, none⟩)) rfl (by kernel_rfl) (fun _ _ _ h => h) (.inl ⟨by rfl, fun w' _ => by go_simp⟩) ?_
          simp only [Act.put, sA, sB, sC]
          refine wpAnyCL_take (i := 15) (v := .pointer (some ⟨R, 0, none⟩)) rfl (by kernel_rfl) (fun _ _ _ h => h) (.inl ⟨by rfl, fun w' _ => by go_simp⟩) ?_
          simp only [Act.put, sA, sB, sC]
          refine wpAnyCL_take (i := 16) (v := .pointer (some ⟨R, 1, none⟩)) rfl (by kernel_rfl) (fun _ _ _ h => h) (.inl ⟨by rfl, fun w' _ => by go_simp⟩) ?_
          simp only [Act.put, sA, sB, sC]
          refine wpAnyCL_take (i := 17) (v := .pointer (some ⟨S2, 0, none⟩)) rfl (by kernel_rfl) (fun _ _ _ h => h) (.inl ⟨by rfl, fun w' hw => by (have h := HC1.out w' hw; go_simp)⟩) ?_
          simp only [Act.put, sA, sB, sC]
          refine wpAnyCL_forced 11 HB3x.out (by kernel_rfl) rfl (by rfl) (fun K' hK' => ?_)
          unfold Oper.wp execOp
          go_simp
          refine (poLeft_any P D S W n birth' ks t' x3 (HPl.out.below HB3x.out)).mono ?_
          rintro e x4 ⟨rfl, q4, rfl⟩
          rw [← HCn.out]
          have HB4x := Lib.hid (belowDrewN HB3x.out q4)
          refine hK' _ _ ?_
          try simp only [Act.put, sA, sB, sC]
          refine wpAnyCL_forced 18 HB4x.out (by kernel_rfl) rfl (by rfl) (fun K' hK' => ?_)
          unfold Oper.wp execOp
          go_simp
          refine (rsTaken_any S2 V' n t' _ (HRp.out.sp.below HB4x.out)).mono ?_
          rintro e x5 ⟨aa5, cc5, rfl, ho5, hb5⟩
          rw [← HCn.out]
          have HB5x := Lib.hid (HB4x.out.trans (hb5.mono HB4x.out.size))
          clear ho5 hb5
          refine hK' _ _ ?_
          try simp only [Act.put, sA, sB, sC]
          refine wpAnyCL_take (i := 19) (v := .int .i64 (cn : Int)) rfl (by kernel_rfl) (fun _ _ _ h => h) (.inl ⟨by rfl, fun w' _ => by go_simp⟩) ?_
          simp only [Act.put, sA, sB, sC]
          refine wpAnyCL_take (i := 20) (v := .int .i64 ((n : Int) - 2 - (cn : Int))) rfl (by kernel_rfl) (fun _ _ _ h => h) (.inl ⟨by rfl, fun w' _ => by (go_simp; rw [IntKind.wrap_i64]; omega)⟩) ?_
          simp only [Act.put, sA, sB, sC]
          refine wpAnyCL_take (i := 21) (v := .bool false) rfl (by kernel_rfl) (fun _ _ _ h => h) (.inl ⟨by rfl, fun w' _ => by go_simp⟩) ?_
          simp only [Act.put, sA, sB, sC]
          refine wpAnyCL_take (i := 22) (v := .bool false) rfl (by kernel_rfl) (fun _ _ _ h => h) (.inl ⟨by rfl, fun w' _ => by go_simp⟩) ?_
          simp only [Act.put, sA, sB, sC]
          refine wpAnyC_done (by kernel_rfl) HB5x.out ?_
          have HAe := Lib.hid (HAc.out.below HB5x.out)
          go_wp2_with fail
          go_roundw
          case rel => exact ⟨k + 1, by omega, by go_num, HAe.out⟩
          case measure => simp [intOf]; omega
        · have HAc := Lib.hid hcut
          clear HSt hkd hcut
          go_wp2_with fail
          go_roundw
          case rel => exact ⟨k + 1, by omega, by go_num, HAc.out⟩
          case measure => simp [intOf]; omega
    · obtain rfl : k = l.length := by omega
      obtain ⟨d, t, birth, lies, V2, ps, bs, _, hx, _⟩ := HR.out
      have HX := Lib.hid hx
      clear hx HR
      go_wp2_with fail
      go_ret
      exact ⟨rfl, HB2.out.trans (HX.out.mono HB2.out.size)⟩

end Go.Proofs.YtkbnkdokcmpcgaaGreatDoor
namespace Go.Proofs.YtkbnkdokcmpcgaaGreatDoor
open Go.ChangeShapes Go.WideShapes Go.ChangeAt Go.RowKit Go.Deep

theorem cells_u8 : Tryz.prog.cellsOf 5 = 1 := by kernel_rfl
theorem cells_string : Tryz.prog.cellsOf 9 = 1 := by kernel_rfl
theorem cells_int : Tryz.prog.cellsOf 3 = 1 := by kernel_rfl
theorem cells_u64 : Tryz.prog.cellsOf 40 = 1 := by kernel_rfl
theorem cells_hash : Tryz.prog.cellsOf 33 = 32 := by kernel_rfl
def Light {H : Type} (t : TypeId) (d : DataW H) : Prop := ∀ n ∈ d.weights Tryz.prog t, n ≤ reachBytes

section
variable {H : Type} {enc : TypeId × Value → H} {W : World} {fuel : Nat} {cs : List Value} {x : DataW H × List MemPlace}

theorem open_u8 (h : DataW.trod enc Tryz.prog W 0 (fun _ => true) true fuel 5 cs = some x) : ∃ c : UInt8, cs = [Bv c] := by
  obtain ⟨n, rfl, _, hn⟩ := DataW.trod_int Tryz.underlying5 h
  have b := bounds_u8 hn
  refine ⟨UInt8.ofNat n.toNat, ?_⟩
  rw [Bv, UInt8.toNat_ofNat', Nat.mod_eq_of_lt (by omega), Int.toNat_of_nonneg b.1]

theorem open_hash (h : DataW.trod enc Tryz.prog W 0 (fun _ => true) true fuel 33 cs = some x) : ∃ hs : List UInt8, hs.length = 32 ∧ cs = hs.map Bv := by
  obtain ⟨xs, m, rfl, _, hl, hxl, hi⟩ := DataW.trod_array Tryz.underlying33 h
  rw [cells_hash] at hl
  have each : ∀ i, i < 32 → ∃ c : UInt8, cs[i]? = some (Bv c) := by
    intro i hi'
    have h1 := hi i hi'
    rw [cells_u8, List.getElem?_eq_getElem (by omega)] at h1
    obtain ⟨c, hc⟩ := open_u8 h1
    refine ⟨c, ?_⟩
    have : (List.take 1 (List.drop (i * 1) cs))[0]? = some (Bv c) := by rw [hc]; rfl
    simpa using this
  obtain ⟨f, hf⟩ := choose_lt each
  refine ⟨(List.range 32).map f, by simp, ?_⟩
  apply List.ext_getElem?
  intro i
  by_cases h32 : i < 32
  · rw [hf i h32]; simp [h32]
  · rw [List.getElem?_eq_none (by omega)]; simp [h32]
end

end Go.Proofs.YtkbnkdokcmpcgaaGreatDoor
namespace Go.Proofs.YtkbnkdokcmpcgaaGreatDoor
open Go.ChangeShapes Go.WideShapes Go.ChangeAt Go.RowKit Go.Deep

section
variable {H : Type} {enc : TypeId × Value → H} {W : World} {fuel : Nat} {cs : List Value} {x : DataW H × List MemPlace}

theorem drop_take_one {α : Type} {cs : List α} {i : Nat} {v : α} (h : (cs.drop i).take 1 = [v]) : cs[i]? = some v := by
  have : ((cs.drop i).take 1)[0]? = some v := by rw [h]; rfl
  simpa using this

theorem weights_part {d : DataW H} {t : TypeId} {fs : List TypeId} {ds : List (DataW H)} (hl : ∀ n ∈ DataW.weightsEach Tryz.prog fs ds, n ≤ reachBytes) {j : Nat} (ht : fs[j]? = some t) (hd : ds[j]? = some d) : Light t d :=
  fun n hn => hl n (DataW.weights_mem_each ht hd n hn)

theorem cells?_at {w : World} {b o : Nat} {n : Nat} {cs : List Value} (h : w.cells? 0 ⟨b, o, none⟩ n = some cs) : At w b o cs := by
  obtain ⟨_, hl, hc⟩ := World.cells?_some h
  intro i u hu
  have hi : i < n := by have := (List.getElem?_eq_some_iff.1 hu).1; omega
  have := hc i hi
  rw [Addr.add_lit] at this
  rw [this, hu]

theorem weightsAll_mem {P : Program} {e : TypeId} : ∀ {ds : List (DataW H)} {d : DataW H}, d ∈ ds → ∀ {n : Nat}, n ∈ d.weights P e → n ∈ DataW.weightsAll P e ds
  | d0 :: ds, d, hd, n, hn => by
    simp only [DataW.weightsAll, List.mem_append]
    rcases List.mem_cons.1 hd with rfl | hd
    · exact Or.inl hn
    · exact Or.inr (weightsAll_mem hd hn)

theorem cells?_spot {P : Program} {w : World} {a : Addr} {m n k : Nat} {e : TypeId} {D : Nat → DataW H} {Pl : Nat → List MemPlace}
    (hel : ∀ i, i < m → ∃ cs', w.cells? 0 (a.add (i * k)) k = some cs' ∧ DataW.trod enc P w 0 (fun _ => true) true n e cs' = some (D i, Pl i)) (hm : 0 < m) (hk : 0 < k := by decide) : a.spot = none := by
  obtain ⟨cs', hc, _⟩ := hel 0 hm
  obtain ⟨_, hl, hx⟩ := World.cells?_some hc
  have h0 := hx 0 hk
  have e0 : (a.add (0 * k)).add 0 = a := by simp [Addr.add]
  rw [e0, List.getElem?_eq_getElem (by omega)] at h0
  unfold World.cell? at h0
  split at h0
  · split at h0
    · cases h0
    · rename_i hs; simpa using hs
  · cases h0

end
end Go.Proofs.YtkbnkdokcmpcgaaGreatDoor
namespace Go.Proofs.YtkbnkdokcmpcgaaGreatDoor
open Go.ChangeShapes Go.WideShapes Go.ChangeAt Go.RowKit Go.Deep

theorem cells_ptr : Tryz.prog.cellsOf 43 = 34 := by kernel_rfl
theorem bytes_ptr : Tryz.prog.bytesOf 43 = 48 := by kernel_rfl
theorem bytes_str : Tryz.prog.bytesOf 9 = 16 := by kernel_rfl
theorem cells_node : Tryz.prog.cellsOf 25 = 4 := by kernel_rfl
theorem cells_bool : Tryz.prog.cellsOf 4 = 1 := by kernel_rfl
theorem cells_u32 : Tryz.prog.cellsOf 41 = 1 := by kernel_rfl
theorem cells_strs : Tryz.prog.cellsOf 22 = 1 := by kernel_rfl
theorem cells_ptrs : Tryz.prog.cellsOf 23 = 1 := by kernel_rfl

section
variable {H : Type} {enc : TypeId × Value → H} {W : World} {fuel : Nat} {cs : List Value} {x : DataW H × List MemPlace}

theorem open_str (h : DataW.trod enc Tryz.prog W 0 (fun _ => true) true fuel 9 cs = some x) (hl : Light 9 x.1) : ∃ s : ByteArray, cs = [.string s] ∧ s.size ≤ 140737488351232 := by
  obtain ⟨s, c3, h3, -⟩ := DataW.trod_string Tryz.underlying9 h
  refine ⟨s, c3, ?_⟩
  have := hl s.data.toList.length (by rw [h3]; simp [DataW.weights])
  simpa [reachBytes] using this

theorem open_strs (h : DataW.trod enc Tryz.prog W 0 (fun _ => true) true fuel 22 cs = some x) (hl : Light 22 x.1) :
    ∃ (v : Value) (l : List ByteArray), cs = [v] ∧ StrsIn W v l ∧ l.length ≤ 140737488351232 ∧ ∀ s ∈ l, s.size ≤ 140737488351232 := by
  rcases open_slice Tryz.underlying22 h with ⟨rfl, _⟩ | ⟨a, len, cap, m, n, D, Pl, rfl, _, hlc, hm, hmm, hx, hel⟩
  · exact ⟨_, [], rfl, Sl.nil W 1, by simp, by simp⟩
  · simp only [if_true] at hmm
    subst hmm
    have hw : ∀ n ∈ ((len + (m - len)) * 16 :: (DataW.weightsAll Tryz.prog 9 ((List.range len).map D) ++ DataW.weightsAll Tryz.prog 9 ((List.range (m - len)).map fun j => D (len + j)))), n ≤ reachBytes := by
      intro n hn
      refine hl n ?_
      rw [hx]
      simpa [DataW.weights, Tryz.underlying22, bytes_str] using hn
    have hreach : len ≤ 140737488351232 := by
      have := hw _ (List.mem_cons_self ..)
      simp only [reachBytes] at this
      omega
    have hD : ∀ i, i < len → Light 9 (D i) := by
      intro i hi n hn
      refine hw n (List.mem_cons_of_mem _ (List.mem_append_left _ ?_))
      exact weightsAll_mem (List.mem_map.2 ⟨i, List.mem_range.2 hi, rfl⟩) hn
    have each : ∀ i, i < len → ∃ p : ByteArray × Nat × Nat, a = ⟨p.2.1, p.2.2, none⟩ ∧ W.cell? ⟨p.2.1, p.2.2 + i, none⟩ = some (.string p.1) ∧ p.1.size ≤ 140737488351232 := by
      intro i hi
      obtain ⟨cs', hc, ht⟩ := hel i (by omega)
      obtain ⟨s, rfl, hbd⟩ := open_str ht (hD i hi)
      have hsp := cells?_spot hel (by omega : 0 < m) (by rw [cells_string]; decide)
      obtain ⟨b, o, sp⟩ := a
      simp only at hsp
      subst hsp
      rw [cells_string, Addr.add_lit, Nat.mul_one] at hc
      exact ⟨(s, b, o), rfl, by simpa using cells?_at hc 0 _ rfl, hbd⟩
    have : Inhabited (ByteArray × Nat × Nat) := ⟨(ByteArray.empty, 0, 0)⟩
    obtain ⟨f, hf⟩ := choose_lt each
    refine ⟨_, (List.range len).map (fun i => (f i).1), rfl, ?_, by simpa using hreach, ?_⟩
    · unfold StrsIn
      have hll : ((List.range len).map (fun i => (f i).1)).length = len := by simp
      rw [hll]
      refine ⟨by simp, some a, _, rfl, hlc, fun h => (by cases h), fun i u hu => ?_⟩
      have hi : i < len := by have := (List.getElem?_eq_some_iff.1 hu).1; simpa using this
      obtain ⟨h1, h2, _⟩ := hf i hi
      refine ⟨_, _, by rw [h1], h2.trans ?_⟩
      rw [← hu]; simp [hi]
    · intro s hs
      obtain ⟨i, hi, rfl⟩ := List.mem_map.1 hs
      exact (hf i (List.mem_range.1 hi)).2.2

set_option maxRecDepth 100000 in
theorem open_pt (h : DataW.trod enc Tryz.prog W 0 (fun _ => true) true fuel 43 cs = some x) : ∃ p : Pt, p.Wf ∧ cs = p.cells := by
  obtain ⟨xs, n, rfl, hx, hlen, hxl, hf⟩ := DataW.trod_struct Tryz.underlying43 h
  rw [cells_ptr] at hlen
  have hxl' : xs.length = 3 := hxl
  have e0 : DataW.trod enc Tryz.prog W 0 (fun _ => true) true n 41 ((cs.drop 0).take (Tryz.prog.cellsOf 41)) = xs[0]? := hf 0 _ rfl
  have e1 : DataW.trod enc Tryz.prog W 0 (fun _ => true) true n 40 ((cs.drop 1).take (Tryz.prog.cellsOf 40)) = xs[1]? := hf 1 _ rfl
  have e2 : DataW.trod enc Tryz.prog W 0 (fun _ => true) true n 33 ((cs.drop 2).take (Tryz.prog.cellsOf 33)) = xs[2]? := hf 2 _ rfl
  rw [cells_u32] at e0
  rw [cells_u64] at e1
  rw [cells_hash] at e2
  match xs, hxl' with
  | [x0, x1, x2], _ =>
  obtain ⟨k0, c0, -, w0⟩ := DataW.trod_int Tryz.underlying41 e0
  obtain ⟨k1, c1, -, w1⟩ := DataW.trod_int Tryz.underlying40 e1
  obtain ⟨hs, hh, c2⟩ := open_hash e2
  have b0 := bounds_u32 w0
  have b1 := bounds_u64 w1
  obtain ⟨n0, rfl⟩ := Int.eq_ofNat_of_zero_le b0.1
  obtain ⟨n1, rfl⟩ := Int.eq_ofNat_of_zero_le b1.1
  refine ⟨⟨n0, n1, hs⟩, ⟨by simp only; omega, by simp only; omega, hh⟩, ?_⟩
  have g0 := drop_take_one c0
  have g1 := drop_take_one c1
  unfold Pt.cells
  apply List.ext_getElem?
  intro i
  rcases i with _ | _ | i
  · simpa using g0
  · simpa using g1
  · simp only [List.getElem?_cons_succ]
    rw [← c2]
    by_cases hi : i < 32
    · rw [List.getElem?_take, if_pos hi, List.getElem?_drop]; congr 1; omega
    · rw [List.getElem?_eq_none (by omega), List.getElem?_eq_none (by simp; omega)]

theorem open_pts (h : DataW.trod enc Tryz.prog W 0 (fun _ => true) true fuel 23 cs = some x) (hl : Light 23 x.1) :
    ∃ (v : Value) (l : List Pt), cs = [v] ∧ PtsIn W v l ∧ l.length ≤ 4139337892682 := by
  rcases open_slice Tryz.underlying23 h with ⟨rfl, _⟩ | ⟨a, len, cap, m, n, D, Pl, rfl, _, hlc, hm, hmm, hx, hel⟩
  · exact ⟨_, [], rfl, ⟨Sl.nil W 34, by simp⟩, by simp⟩
  · simp only [if_true] at hmm
    subst hmm
    have hw : ∀ n ∈ ((len + (m - len)) * 48 :: (DataW.weightsAll Tryz.prog 43 ((List.range len).map D) ++ DataW.weightsAll Tryz.prog 43 ((List.range (m - len)).map fun j => D (len + j)))), n ≤ reachBytes := by
      intro n hn
      refine hl n ?_
      rw [hx]
      simpa [DataW.weights, Tryz.underlying23, bytes_ptr] using hn
    have hreach : len ≤ 4139337892682 := by
      have := hw _ (List.mem_cons_self ..)
      simp only [reachBytes] at this
      omega
    have each : ∀ i, i < len → ∃ p : Pt × Nat × Nat, a = ⟨p.2.1, p.2.2, none⟩ ∧ At W p.2.1 (p.2.2 + i * 34) p.1.cells ∧ p.1.Wf := by
      intro i hi
      obtain ⟨cs', hc, ht⟩ := hel i (by omega)
      obtain ⟨p, hp, rfl⟩ := open_pt ht
      have hsp := cells?_spot hel (by omega : 0 < m) (by rw [cells_ptr]; decide)
      obtain ⟨b, o, sp⟩ := a
      simp only at hsp
      subst hsp
      rw [cells_ptr, Addr.add_lit] at hc
      exact ⟨(p, b, o), rfl, by simpa using cells?_at hc, hp⟩
    have : Inhabited (Pt × Nat × Nat) := ⟨(Pt.zero, 0, 0)⟩
    obtain ⟨f, hf⟩ := choose_lt each
    have hwf : ∀ p ∈ (List.range len).map (fun i => (f i).1), p.Wf := by
      intro p hp
      obtain ⟨i, hi, rfl⟩ := List.mem_map.1 hp
      exact (hf i (List.mem_range.1 hi)).2.2
    refine ⟨_, (List.range len).map (fun i => (f i).1), rfl, ⟨?_, hwf⟩, by simpa using hreach⟩
    have hll : ((List.range len).map (fun i => (f i).1)).length = len := by simp
    have hlen34 : ∀ l ∈ ((List.range len).map (fun i => (f i).1)).map Pt.cells, l.length = 34 := by
      intro l hl
      obtain ⟨p, hp, rfl⟩ := List.mem_map.1 hl
      exact (hwf p hp).len
    have hfl : ∀ (ls : List (List Value)), (∀ l ∈ ls, l.length = 34) → ls.flatten.length = ls.length * 34 := by
      intro ls
      induction ls with
      | nil => intro _; simp
      | cons l ls ih =>
        intro h
        rw [List.flatten_cons, List.length_append, ih (fun x hx => h x (by simp [hx])), h l (by simp), List.length_cons]; omega
    rw [hll]
    have hfl2 := hfl _ hlen34
    rw [List.length_map, hll] at hfl2
    refine ⟨hfl2, some a, _, rfl, hlc, fun h => (by cases h), fun i u hu => ?_⟩
    have hi : i < len * 34 := by have := (List.getElem?_eq_some_iff.1 hu).1; omega
    have hq : i / 34 < len := by omega
    have hr : i % 34 < 34 := Nat.mod_lt _ (by decide)
    have hi2 : i = i / 34 * 34 + i % 34 := by omega
    obtain ⟨h1, h2, _⟩ := hf (i / 34) hq
    rw [hi2, flat_get 34 _ hlen34 (i / 34) (by simpa using hq) (i % 34) hr] at hu
    have := h2 (i % 34) u (by simpa using hu)
    refine ⟨_, _, by rw [h1], ?_⟩
    rw [← this]
    congr 2
    omega

theorem open_node (h : DataW.trod enc Tryz.prog W 0 (fun _ => true) true fuel 25 cs = some x) (hl : Light 25 x.1) : ∃ n : Nd, NdIs W cs.toArray n ∧ n.Fits := by
  obtain ⟨xs, k, rfl, hx, hlen, hxl, hf⟩ := DataW.trod_struct Tryz.underlying25 h
  rw [cells_node] at hlen
  have hxl' : xs.length = 4 := hxl
  have e0 : DataW.trod enc Tryz.prog W 0 (fun _ => true) true k 4 ((cs.drop 0).take (Tryz.prog.cellsOf 4)) = xs[0]? := hf 0 _ rfl
  have e1 : DataW.trod enc Tryz.prog W 0 (fun _ => true) true k 22 ((cs.drop 1).take (Tryz.prog.cellsOf 22)) = xs[1]? := hf 1 _ rfl
  have e2 : DataW.trod enc Tryz.prog W 0 (fun _ => true) true k 22 ((cs.drop 2).take (Tryz.prog.cellsOf 22)) = xs[2]? := hf 2 _ rfl
  have e3 : DataW.trod enc Tryz.prog W 0 (fun _ => true) true k 23 ((cs.drop 3).take (Tryz.prog.cellsOf 23)) = xs[3]? := hf 3 _ rfl
  rw [cells_bool] at e0
  rw [cells_strs] at e1 e2
  rw [cells_ptrs] at e3
  match xs, hxl' with
  | [x0, x1, x2, x3], _ =>
  have hlw : ∀ n ∈ DataW.weightsEach Tryz.prog [4, 22, 22, 23] [x0.1, x1.1, x2.1, x3.1], n ≤ reachBytes := by
    intro n hn
    refine hl n ?_
    rw [hx]
    simpa [DataW.weights, Tryz.underlying25] using hn
  obtain ⟨b, c0, -⟩ := DataW.trod_bool Tryz.underlying4 e0
  obtain ⟨v1, l1, c1, s1, n1, m1⟩ := open_strs e1 (weights_part hlw (j := 1) rfl rfl)
  obtain ⟨v2, l2, c2, s2, n2, m2⟩ := open_strs e2 (weights_part hlw (j := 2) rfl rfl)
  obtain ⟨v3, l3, c3, s3, n3⟩ := open_pts e3 (weights_part hlw (j := 3) rfl rfl)
  have g0 := drop_take_one c0
  have g1 := drop_take_one c1
  have g2 := drop_take_one c2
  have g3 := drop_take_one c3
  refine ⟨⟨b, l1, l2, l3⟩, ⟨v1, v2, v3, ?_, s1, s2, s3⟩, ⟨n1, n2, n3, m1, m2⟩⟩
  apply Array.toList_inj.1
  apply List.ext_getElem?
  intro i
  rcases i with _ | _ | _ | _ | i
  · simpa using g0
  · simpa using g1
  · simpa using g2
  · simpa using g3
  · rw [List.getElem?_eq_none (by simp; omega), List.getElem?_eq_none (by simp)]

end
end Go.Proofs.YtkbnkdokcmpcgaaGreatDoor
namespace Go.Proofs.YtkbnkdokcmpcgaaGreatDoor
open Go.ChangeShapes Go.WideShapes Go.ChangeAt Go.RowKit Go.Deep

theorem cells_u32o : Tryz.prog.cellsOf 41 = 1 := by kernel_rfl
theorem bytes_u32o : Tryz.prog.bytesOf 41 = 4 := by kernel_rfl
section
variable {H : Type} {enc : TypeId × Value → H} {W : World} {fuel : Nat} {cs : List Value} {x : DataW H × List MemPlace}
theorem open_u32s (h : DataW.trod enc Tryz.prog W 0 (fun _ => true) true fuel 54 cs = some x) (hl : Light 54 x.1) :
    ∃ (v : Value) (us : List Nat), cs = [v] ∧ Sl W 1 v us.length (us.map U32) ∧ us.length ≤ 140737488351232 ∧ ∀ u ∈ us, u < 4294967296 := by
  rcases open_ints Tryz.underlying54 Tryz.underlying41 cells_u32o h with ⟨rfl, _⟩ | ⟨a, len, cap, zs, rfl, _, hlc, hm, hz, hx, hcell, hwf⟩
  · exact ⟨_, [], rfl, Sl.nil W 1, by simp, by simp⟩
  · simp only [if_true] at hz
    have hreach : len ≤ 140737488351232 := by
      have := hl (((zs.take len).length + (zs.drop len).length) * 4) (by
        rw [hx]; simp [DataW.weights, Tryz.underlying54, bytes_u32o, lits])
      simp only [List.length_take, List.length_drop, reachBytes] at this
      omega
    refine ⟨_, (zs.take len).map Int.toNat, rfl, ?_, by simp; omega, fun u hu => ?_⟩
    · have hll : ((zs.take len).map Int.toNat).length = len := by simp; omega
      rw [hll]
      refine ⟨by simp [hz]; omega, some a, cap, rfl, hlc, fun h => (by cases h), fun i u hu => ?_⟩
      have hi : i < len := by have := (List.getElem?_eq_some_iff.1 hu).1; simp at this; omega
      have hzi : i < zs.length := by omega
      have hc := hcell i hzi
      have hsp : a.spot = none := by
        have h0 := hcell 0 (by omega)
        have e0 : a.add 0 = a := by simp [Addr.add]
        rw [e0] at h0
        unfold World.cell? at h0
        split at h0
        · split at h0
          · cases h0
          · rename_i hs; simpa using hs
        · cases h0
      obtain ⟨b, o, sp⟩ := a
      simp only at hsp
      subst hsp
      refine ⟨b, o, rfl, ?_⟩
      rw [Addr.add_lit] at hc
      rw [hc]
      have e : (((zs.take len).map Int.toNat).map U32)[i]? = some (U32 zs[i].toNat) := by simp [hi, hzi]
      rw [e] at hu
      rw [← hu]
      have hw := bounds_u32 (hwf zs[i] (List.getElem_mem hzi))
      congr 1
      simp only [List.getD, List.getElem?_eq_getElem hzi, Option.getD_some]
      rw [U32, Int.toNat_of_nonneg hw.1]
    · obtain ⟨z, hz, rfl⟩ := List.mem_map.1 hu
      have hw := bounds_u32 (hwf z (List.mem_of_mem_take hz))
      omega
end
end Go.Proofs.YtkbnkdokcmpcgaaGreatDoor
namespace Go.Proofs.YtkbnkdokcmpcgaaGreatDoor
open Go.ChangeShapes Go.WideShapes Go.ChangeAt Go.RowKit Go.Deep

theorem cells_ac13 : Tryz.prog.cellsOf 78 = 43 := by kernel_rfl
theorem bytes_ac13 : Tryz.prog.bytesOf 78 = 184 := by kernel_rfl

section
variable {H : Type} {enc : TypeId × Value → H} {W : World} {fuel : Nat} {cs : List Value} {x : DataW H × List MemPlace}
set_option maxRecDepth 100000 in
theorem open_ac13 (h : DataW.trod enc Tryz.prog W 0 (fun _ => true) true fuel 78 cs = some x) (hl : Light 78 x.1) :
    ∃ a : Ac13, cs = a.cells ∧ Ac13Is W a := by
  obtain ⟨xs, n, rfl, hx, hlen, hxl, hf⟩ := DataW.trod_struct Tryz.underlying78 h
  rw [cells_ac13] at hlen
  have hxl' : xs.length = 7 := hxl
  have e0 : DataW.trod enc Tryz.prog W 0 (fun _ => true) true n 3 ((cs.drop 0).take (Tryz.prog.cellsOf 3)) = xs[0]? := hf 0 _ rfl
  have e1 : DataW.trod enc Tryz.prog W 0 (fun _ => true) true n 3 ((cs.drop 1).take (Tryz.prog.cellsOf 3)) = xs[1]? := hf 1 _ rfl
  have e2 : DataW.trod enc Tryz.prog W 0 (fun _ => true) true n 3 ((cs.drop 2).take (Tryz.prog.cellsOf 3)) = xs[2]? := hf 2 _ rfl
  have e3 : DataW.trod enc Tryz.prog W 0 (fun _ => true) true n 25 ((cs.drop 3).take (Tryz.prog.cellsOf 25)) = xs[3]? := hf 3 _ rfl
  have e4 : DataW.trod enc Tryz.prog W 0 (fun _ => true) true n 40 ((cs.drop 7).take (Tryz.prog.cellsOf 40)) = xs[4]? := hf 4 _ rfl
  have e5 : DataW.trod enc Tryz.prog W 0 (fun _ => true) true n 54 ((cs.drop 8).take (Tryz.prog.cellsOf 54)) = xs[5]? := hf 5 _ rfl
  have e6 : DataW.trod enc Tryz.prog W 0 (fun _ => true) true n 43 ((cs.drop 9).take (Tryz.prog.cellsOf 43)) = xs[6]? := hf 6 _ rfl
  have cu : Tryz.prog.cellsOf 54 = 1 := by kernel_rfl
  rw [cells_int] at e0 e1 e2
  rw [cells_node] at e3
  rw [cells_u64] at e4
  rw [cu] at e5
  rw [cells_ptr] at e6
  match xs, hxl' with
  | [x0, x1, x2, x3, x4, x5, x6], _ =>
  have hlw : ∀ n ∈ DataW.weightsEach Tryz.prog [3, 3, 3, 25, 40, 54, 43] [x0.1, x1.1, x2.1, x3.1, x4.1, x5.1, x6.1], n ≤ reachBytes := by
    intro n hn
    refine hl n ?_
    rw [hx]
    simpa [DataW.weights, Tryz.underlying78] using hn
  obtain ⟨k0, c0, -, w0⟩ := DataW.trod_int Tryz.underlying3 e0
  obtain ⟨k1, c1, -, w1⟩ := DataW.trod_int Tryz.underlying3 e1
  obtain ⟨k2, c2, -, w2⟩ := DataW.trod_int Tryz.underlying3 e2
  obtain ⟨nd, hnd, hft⟩ := open_node e3 (weights_part hlw (j := 3) rfl rfl)
  obtain ⟨k4, c4, -, w4⟩ := DataW.trod_int Tryz.underlying40 e4
  obtain ⟨v5, us, c5, hus, _, hlt⟩ := open_u32s e5 (weights_part hlw (j := 5) rfl rfl)
  obtain ⟨p, hp, c6⟩ := open_pt e6
  have b1 := bounds_i64 w1
  have b2 := bounds_i64 w2
  have b4 := bounds_u64 w4
  obtain ⟨n4, rfl⟩ := Int.eq_ofNat_of_zero_le b4.1
  clear e0 e1 e2 e3 e4 e5 e6 hf h hx hlw hl
  obtain ⟨y0, cs, rfl⟩ := List.exists_cons_of_length_eq_add_one hlen
  obtain ⟨y1, cs, rfl⟩ := List.exists_cons_of_length_eq_add_one (by simpa using hlen : cs.length = 42)
  obtain ⟨y2, cs, rfl⟩ := List.exists_cons_of_length_eq_add_one (by simpa using hlen : cs.length = 41)
  obtain ⟨y3, cs, rfl⟩ := List.exists_cons_of_length_eq_add_one (by simpa using hlen : cs.length = 40)
  obtain ⟨y4, cs, rfl⟩ := List.exists_cons_of_length_eq_add_one (by simpa using hlen : cs.length = 39)
  obtain ⟨y5, cs, rfl⟩ := List.exists_cons_of_length_eq_add_one (by simpa using hlen : cs.length = 38)
  obtain ⟨y6, cs, rfl⟩ := List.exists_cons_of_length_eq_add_one (by simpa using hlen : cs.length = 37)
  obtain ⟨y7, cs, rfl⟩ := List.exists_cons_of_length_eq_add_one (by simpa using hlen : cs.length = 36)
  obtain ⟨y8, cs, rfl⟩ := List.exists_cons_of_length_eq_add_one (by simpa using hlen : cs.length = 35)
  have hl34 : cs.length = 34 := by simpa using hlen
  simp only [List.drop_succ_cons, List.drop_zero, List.take_succ_cons, List.take_zero, List.cons.injEq, and_true] at c0 c1 c2 c4 c5 c6 hnd
  rw [List.take_of_length_le (by omega)] at c6
  subst c0 c1 c2 c4 c5 c6
  exact ⟨⟨k0, k1, k2, #[y3, y4, y5, y6], nd, n4, y8, us, p⟩, rfl, hnd, hft, by simp only; omega, hus, hlt, hp, b2, b1⟩

theorem open_acs13 (h : DataW.trod enc Tryz.prog W 0 (fun _ => true) true fuel 74 cs = some x) (hl : Light 74 x.1) :
    ∃ (v : Value) (l : List Ac13), cs = [v] ∧ Acs13 W v l := by
  rcases open_slice Tryz.underlying74 h with ⟨rfl, _⟩ | ⟨a, len, cap, m, n, D, Pl, rfl, _, hlc, hm, hmm, hx, hel⟩
  · exact ⟨_, [], rfl, none, 0, rfl, fun i hi => by simp at hi⟩
  · simp only [if_true] at hmm
    subst hmm
    have hw : ∀ n ∈ ((len + (m - len)) * 184 :: (DataW.weightsAll Tryz.prog 78 ((List.range len).map D) ++ DataW.weightsAll Tryz.prog 78 ((List.range (m - len)).map fun j => D (len + j)))), n ≤ reachBytes := by
      intro n hn
      refine hl n ?_
      rw [hx]
      simpa [DataW.weights, Tryz.underlying74, bytes_ac13] using hn
    have hD : ∀ i, i < len → Light 78 (D i) := by
      intro i hi n hn
      refine hw n (List.mem_cons_of_mem _ (List.mem_append_left _ ?_))
      exact weightsAll_mem (List.mem_map.2 ⟨i, List.mem_range.2 hi, rfl⟩) hn
    have each : ∀ i, i < len → ∃ p : Ac13 × Nat × Nat, a = ⟨p.2.1, p.2.2, none⟩ ∧ At W p.2.1 (p.2.2 + i * 43) p.1.cells ∧ Ac13Is W p.1 := by
      intro i hi
      obtain ⟨cs', hc, ht⟩ := hel i (by omega)
      obtain ⟨ac, rfl, hac⟩ := open_ac13 ht (hD i hi)
      have hsp := cells?_spot hel (by omega : 0 < m) (by rw [cells_ac13]; decide)
      obtain ⟨b, o, sp⟩ := a
      simp only at hsp
      subst hsp
      rw [cells_ac13, Addr.add_lit] at hc
      exact ⟨(ac, b, o), rfl, by simpa using cells?_at hc, hac⟩
    have : Inhabited (Ac13 × Nat × Nat) := ⟨(⟨0, 0, 0, #[], Nd.zero, 0, .bool false, [], Pt.zero⟩, 0, 0)⟩
    obtain ⟨f, hf⟩ := choose_lt each
    refine ⟨_, (List.range len).map (fun i => (f i).1), rfl, some a, _, by simp; rfl, fun i hi => ?_⟩
    have hi' : i < len := by simpa using hi
    obtain ⟨h1, h2, h3⟩ := hf i hi'
    exact ⟨_, (f i).2.2, by rw [h1], by simpa using h2, by simpa using h3⟩
end
end Go.Proofs.YtkbnkdokcmpcgaaGreatDoor
