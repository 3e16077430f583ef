/- Walk: banyanlaw13.PoolActs: Write of what is not written. Walk: banyanlaw13.PoolActs: Write, of a device that is down. Walk: banyanlaw13.PoolActs: Write. -/
import Derived.Test.YtkbnkdokcmpcgaaGreatDoorB24
namespace Go.Proofs.YtkbnkdokcmpcgaaGreatDoor
open Go.RowKit

set_option maxRecDepth 100000 in
set_option maxHeartbeats 16000000 in
theorem act_not {w2 w8 : World} {P D S W lo : Nat} {ks : List UInt8} {R S2 V2 M n k g1 : Nat} {d : Dv} {t : Nat → Bool} {birth : Nat} {lies : Lies} {ps : List Pt} {bs : List Nat} {vA : Value} {a : Ac13} {aL : Option Addr} {cL : Nat} (h : AcSt w2 w8 P D S W lo ks R S2 V2 M n k g1 d t birth lies ps bs vA a aL cL) (kd : Int) (hkd : kd = a.kind) (hk1 : ¬ kd = 1) (hk2 : ¬ kd = 2) (hk3 : ¬ kd = 3) (hk6 : ¬ kd = 6) (hk4 : ¬ kd = 4) (hk5 : ¬ kd = 5) (hcs : birth = 0 ∨ (birth ≠ 0 ∧ checkE a.n ≠ 0) ∨ (birth ≠ 0 ∧ checkE a.n = 0 ∧ lowT t n = none)) {Q : Exit → Act → World → Prop} {u0 u1 u2 u3 u4 u8 u9 u11 u12 u14 u15 u16 u17 u18 u19 u20 u21 u22 u23 u24 u25 u26 u27 u28 u29 u30 u31 u32 u33 u34 u35 u36 u37 u38 u39 u40 u41 u42 u43 u44 u45 u46 u47 u48 u49 u50 u51 u52 u53 u54 u55 u56 u57 u59 u60 u61 u62 u63 u64 u65 u66 u67 u68 u69 u70 u71 u72 u73 u74 u75 u76 u77 u78 u79 u80 u81 u82 u83 u84 u85 u86 u87 u88 u89 u90 u91 u92 u93 u94 u95 u96 u97 u98 u99 u100 u101 u102 u103 u104 u105 u106 u107 u108 u109 u110 u111 u112 u113 u114 u115 u116 u117 u118 u119 u120 u121 u122 u123 u124 u125 u126 u127 u128 u129 u130 u131 u132 u133 u134 u135 u136 u137 u138 u139 u140 u141 u142 u143 u144 u145 u146 u147 u148 u149 u150 u151 u152 u153 u154 u155 u156 u157 u158 u159 u160 u161 u162 u163 u164 u165 u166 u167 u168 u169 u170 u171 u172 u173 u174 u175 u176 u177 u178 u179 u180 u181 u182 u183 u184 u185 u186 u187 u188 u189 u190 u191 u192 u193 u194 u195 u196 u197 u198 u199 u200 u201 u202 u203 u204 u205 u206 u207 u208 u209 u210 u211 u212 u213 u214 u215 u216 u217 u218 u219 u220 u221 u222 u223 u224 u225 u226 u227 u228 u229 u230 u231 u232 u233 u234 u235 u236 u237 u238 u239 u240 u241 u242 u243 : Value} (hu : u11 = vA)
    (hn : ∀ (x : Exit) {v4 v11 v14 v15 v16 v17 v18 v19 v20 v21 v59 v60 v61 v62 v63 v64 v65 v66 v67 v68 v69 v70 v71 v72 v73 v74 v75 v76 v77 v78 v79 v80 v81 v82 v83 v84 v85 v86 v87 v88 v89 v90 v91 v92 v93 v94 v95 v96 v97 v98 v99 v100 v101 v102 v103 v104 v105 v106 v107 v108 v109 v110 v111 v112 v113 v114 v115 v116 v117 v118 v119 v120 v121 v122 v123 v124 v125 v126 v127 v128 v129 v130 v131 v132 v133 v134 v135 v136 v137 v138 v139 v140 v141 v142 v143 v144 v145 v146 v147 v148 v149 v150 v151 v152 v153 v154 v155 v156 v157 v158 v159 v160 v161 v162 v163 v164 v165 v166 v167 v168 v169 v170 v171 v172 v173 v174 v175 v176 v177 v178 v179 v180 v181 v182 v183 v184 v185 v186 v187 v188 v189 v190 v191 v192 v193 v194 v195 v196 v197 v198 v199 v200 v201 v202 v203 v204 v205 v206 v207 v208 v209 v210 v211 v212 v213 v214 v215 v216 v217 v218 v219 : Value} {wx : World}, (x = .normal ∨ x = .exit 1) → AcRel w2.heap.size w2 P D S W lo ks R S2 M n (k + 1) v11 wx → Q x ⟨#[u0, u1, u2, u3, v4, .int .i64 (n : Int), .pointer (some ⟨P, 0, none⟩), .pointer (some ⟨D, 0, none⟩), u8, u9, .pointer (some ⟨R, 0, none⟩), v11, u12, .pointer (some ⟨g1, 0, none⟩), v14, v15, v16, v17, v18, v19, v20, v21, u22, u23, u24, u25, u26, u27, u28, u29, u30, u31, u32, u33, u34, u35, u36, u37, u38, u39, u40, u41, u42, u43, u44, u45, u46, u47, u48, u49, u50, u51, u52, u53, u54, u55, u56, u57, .int .i64 kd, v59, v60, v61, v62, v63, v64, v65, v66, v67, v68, v69, v70, v71, v72, v73, v74, v75, v76, v77, v78, v79, v80, v81, v82, v83, v84, v85, v86, v87, v88, v89, v90, v91, v92, v93, v94, v95, v96, v97, v98, v99, v100, v101, v102, v103, v104, v105, v106, v107, v108, v109, v110, v111, v112, v113, v114, v115, v116, v117, v118, v119, v120, v121, v122, v123, v124, v125, v126, v127, v128, v129, v130, v131, v132, v133, v134, v135, v136, v137, v138, v139, v140, v141, v142, v143, v144, v145, v146, v147, v148, v149, v150, v151, v152, v153, v154, v155, v156, v157, v158, v159, v160, v161, v162, v163, v164, v165, v166, v167, v168, v169, v170, v171, v172, v173, v174, v175, v176, v177, v178, v179, v180, v181, v182, v183, v184, v185, v186, v187, v188, v189, v190, v191, v192, v193, v194, v195, v196, v197, v198, v199, v200, v201, v202, v203, v204, v205, v206, v207, v208, v209, v210, v211, v212, v213, v214, v215, v216, v217, v218, v219, u220, u221, u222, u223, u224, u225, u226, u227, u228, u229, u230, u231, u232, u233, u234, u235, u236, u237, u238, u239, u240, u241, u242, u243], []⟩ wx)
    (hp : ∀ c b b' wx, Act.defers b = Act.defers b' → Q (.panic c) b wx → Q (.panic c) b' wx) :
    (Code.block 2 (blkIn Tryz.f9 2)).wp Tryz.prog Q ⟨#[u0, u1, u2, u3, u4, .int .i64 (n : Int), .pointer (some ⟨P, 0, none⟩), .pointer (some ⟨D, 0, none⟩), u8, u9, .pointer (some ⟨R, 0, none⟩), u11, u12, .pointer (some ⟨g1, 0, none⟩), u14, u15, u16, u17, u18, u19, u20, u21, u22, u23, u24, u25, u26, u27, u28, u29, u30, u31, u32, u33, u34, u35, u36, u37, u38, u39, u40, u41, u42, u43, u44, u45, u46, u47, u48, u49, u50, u51, u52, u53, u54, u55, u56, u57, .int .i64 kd, u59, u60, u61, u62, u63, u64, u65, u66, u67, u68, u69, u70, u71, u72, u73, u74, u75, u76, u77, u78, u79, u80, u81, u82, u83, u84, u85, u86, u87, u88, u89, u90, u91, u92, u93, u94, u95, u96, u97, u98, u99, u100, u101, u102, u103, u104, u105, u106, u107, u108, u109, u110, u111, u112, u113, u114, u115, u116, u117, u118, u119, u120, u121, u122, u123, u124, u125, u126, u127, u128, u129, u130, u131, u132, u133, u134, u135, u136, u137, u138, u139, u140, u141, u142, u143, u144, u145, u146, u147, u148, u149, u150, u151, u152, u153, u154, u155, u156, u157, u158, u159, u160, u161, u162, u163, u164, u165, u166, u167, u168, u169, u170, u171, u172, u173, u174, u175, u176, u177, u178, u179, u180, u181, u182, u183, u184, u185, u186, u187, u188, u189, u190, u191, u192, u193, u194, u195, u196, u197, u198, u199, u200, u201, u202, u203, u204, u205, u206, u207, u208, u209, u210, u211, u212, u213, u214, u215, u216, u217, u218, u219, u220, u221, u222, u223, u224, u225, u226, u227, u228, u229, u230, u231, u232, u233, u234, u235, u236, u237, u238, u239, u240, u241, u242, u243], []⟩ w8 := by
  obtain ⟨HP8', HX8', HRp8', HOw8', HG8', HI', HVL', HLo', HPw', HBs', HD', HT', HK', hn35, hu100, hk40, hhv⟩ := h
  have HP8 := Lib.hid HP8'
  have HX8 := Lib.hid HX8'
  have HRp8 := Lib.hid HRp8'
  have HG8 := Lib.hid HG8'
  have HI := Lib.hid HI'
  have HVL := Lib.hid HVL'
  have HLo := Lib.hid HLo'
  have HPw := Lib.hid HPw'
  have HD := Lib.hid HD'
  have HT2 := Lib.hid HT'
  have HKl := Lib.hid HK'
  have HHv := Lib.hid hhv
  obtain ⟨aA, cA, rfl, _⟩ := (Sl.own HOw8').len
  subst hu
  have HOw8 := Lib.hid HOw8'
  have HBs := Lib.hid HBs'
  have HR9 := Lib.hid (show AcRel w2.heap.size w2 P D S W lo ks R S2 M n (k + 1) (.slice aA ps.length cA) w8 from AcRel.next ⟨d, t, birth, lies, V2, ps, bs, HP8'.sub (fun q hq => List.mem_cons_of_mem _ hq), HX8', HD'.1, HD'.2.1, HD'.2.2.1, HRp8', HLo', HOw8', HPw', HD'.2.2.2, HBs'.1, HBs'.2.1, HBs'.2.2⟩)
  have hpp := Ac13.parts HI' (At.of_row HG8')
  rw [HVL', ← hkd] at hpp
  simp only [Nat.zero_add] at hpp
  obtain ⟨p0, p1, p2, p3, p7, p8, p9⟩ := hpp
  have HP3 := Lib.hid p3
  have HP9 := Lib.hid p9
  have HN := Lib.hid hn
  have HPn := Lib.hid hp
  clear p3 p9 hkd hn hp HP8' HX8' HRp8' HOw8' HG8' HI' HVL' HLo' HPw' HBs' HD' HT' HK' hhv
  conv => arg 2; arg 2; whnf
  have hkb1 : (kd == 1) = false := by simpa using hk1
  have hkb2 : (kd == 2) = false := by simpa using hk2
  have hkb3 : (kd == 3) = false := by simpa using hk3
  have hkb6 : (kd == 6) = false := by simpa using hk6
  have hkb4 : (kd == 4) = false := by simpa using hk4
  have hkb5 : (kd == 5) = false := by simpa using hk5
  clear hk1 hk2 hk3 hk6 hk4 hk5
  have HSz := Lib.hid HI.out.nd.size
  have HK255 := Lib.hid (show a.n.keys.length ≤ 255 from by
    have hv := HHv.out
    unfold heavy13 at hv
    simp only [Bool.or_eq_true, decide_eq_true_eq, not_or] at hv
    omega)
  have HN8 := Lib.hid (HI.out.nd.below HX8.out)
  rcases hcs with hb0 | ⟨hb0, hce⟩ | ⟨hb0, hce, hl⟩
  · clear HPn
    subst hb0
    go_wp2_with (refine load_nd rfl (.tmp 61) rfl rfl HP3.out HSz.out ?_)
    refine (rpWrite_any R S2 V2 M n 0 t lies a.arr a.n w8 HRp8.out HN8.out HI.out.fits HK255.out).mono ?_
    intro e w9 hq
    unfold RqPost at hq
    rw [if_pos rfl] at hq
    obtain ⟨rfl, hb9⟩ := hq
    have HBw9 := Lib.hid hb9
    have HP39 := Lib.hid (HP3.out.fr (Fr.of_below (S := fun _ => False) hb9) id)
    have HN9 := Lib.hid (HN8.out.below hb9)
    clear hb9
    go_wp2_with (refine load_nd rfl (.tmp 68) rfl rfl HP39.out HSz.out ?_)
    refine (poWrite_zero P D S W d.size ks t a.arr a.n w9 ((HP8.out.below HBw9.out).pl) HN9.out).mono ?_
    rintro e w10 ⟨rfl, hf10⟩
    have hbx : Below w9.heap.size w9 w10 := hf10.below (Nat.le_refl _) (fun k e => e.elim)
    clear hf10
    have HBx := Lib.hid (HBw9.out.trans (hbx.mono HBw9.out.size))
    clear hbx
    go_wp2_with (refine store_ptr rfl (.tmp 18) (.tmp 71) rfl rfl (p := Pt.zero) rfl (heap_alloc_new w10 (.cells Pt.zero.arr 43)) Pt.zero_wf.size Pt.zero_wf ?_; intro w11 hg hf hs; have HGw11 := Lib.hid hg; have HBww11 := Lib.hid (show Below w10.heap.size w10 w11 from ((Below.refl _ w10).alloc (Nat.le_refl _) _).trans (hf.below (by simp) (fun j hj => by omega))); clear hg hf hs)
    exact HN.out .normal (Or.inl rfl) (HR9.out.below (HBx.out.trans (HBww11.out.mono HBx.out.size)))
  · clear HPn
    have HB0 := Lib.hid (show 0 < birth by omega)
    have HCe := Lib.hid hce
    go_wp2_with (refine load_nd rfl (.tmp 61) rfl rfl HP3.out HSz.out ?_)
    refine (rpWrite_any R S2 V2 M n birth t lies a.arr a.n w8 HRp8.out HN8.out HI.out.fits HK255.out).mono ?_
    intro e w9 hq
    unfold RqPost at hq
    rw [if_neg hb0, if_pos hce] at hq
    obtain ⟨rfl, hb9⟩ := hq
    obtain ⟨er, her⟩ : ∃ er, er = checkE a.n := ⟨_, rfl⟩
    have HEr := Lib.hid her
    rw [← her] at hce ⊢
    have hc0 : (er == 0) = false := by simpa using hce
    have hc1 : (er != er) = false := by simp
    have hc2 : (er != 0) = true := by simpa using hce
    clear her hb0 hce
    have HBw9 := Lib.hid hb9
    have HP39 := Lib.hid (HP3.out.fr (Fr.of_below (S := fun _ => False) hb9) id)
    have HN9 := Lib.hid (HN8.out.below hb9)
    clear hb9
    go_wp2_with (refine load_nd rfl (.tmp 68) rfl rfl HP39.out HSz.out ?_)
    refine (write_ps_bad w2.heap.size P D S W lo birth ks t d _ w9 a.arr a.n (HP8.out.below HBw9.out).2 HN9.out HB0.out HI.out.fits HCe.out).mono ?_
    rintro e w10 ⟨rfl, _, hbx⟩
    rw [← HEr.out]
    have HBx := Lib.hid (HBw9.out.trans (hbx.mono HBw9.out.size))
    clear hbx
    go_wp2_with (refine store_ptr rfl (.tmp 18) (.tmp 71) rfl rfl (p := Pt.zero) rfl (heap_alloc_new w10 (.cells Pt.zero.arr 43)) Pt.zero_wf.size Pt.zero_wf ?_; intro w11 hg hf hs; have HGw11 := Lib.hid hg; have HBww11 := Lib.hid (show Below w10.heap.size w10 w11 from ((Below.refl _ w10).alloc (Nat.le_refl _) _).trans (hf.below (by simp) (fun j hj => by omega))); clear hg hf hs)
    exact HN.out .normal (Or.inl rfl) (HR9.out.below (HBx.out.trans (HBww11.out.mono HBx.out.size)))
  · clear HPn
    have HB0 := Lib.hid (show 0 < birth by omega)
    have HCs := Lib.hid (checkE_split.1 hce)
    have HL := Lib.hid hl
    go_wp2_with (refine load_nd rfl (.tmp 61) rfl rfl HP3.out HSz.out ?_)
    refine (rpWrite_any R S2 V2 M n birth t lies a.arr a.n w8 HRp8.out HN8.out HI.out.fits HK255.out).mono ?_
    intro e w9 hq
    unfold RqPost at hq
    rw [if_neg hb0, if_neg (by rw [hce]; simp), hl] at hq
    obtain ⟨rfl, hb9⟩ := hq
    clear hb0 hce hl
    have HBw9 := Lib.hid hb9
    have HP39 := Lib.hid (HP3.out.fr (Fr.of_below (S := fun _ => False) hb9) id)
    have HN9 := Lib.hid (HN8.out.below hb9)
    clear hb9
    go_wp2_with (refine load_nd rfl (.tmp 68) rfl rfl HP39.out HSz.out ?_)
    refine (write_ps_full w2.heap.size P D S W lo birth ks t d _ w9 a.arr a.n (HP8.out.below HBw9.out).2 HN9.out (HT2.out.below (HX8.out.trans (HBw9.out.mono HX8.out.size))) HB0.out HI.out.fits HCs.out.1 HCs.out.2 (by rw [HD.out.1]; exact HL.out)).mono ?_
    rintro e w10 ⟨rfl, _, hbx⟩
    have HBx := Lib.hid (HBw9.out.trans (hbx.mono HBw9.out.size))
    clear hbx
    go_wp2_with (refine store_ptr rfl (.tmp 18) (.tmp 71) rfl rfl (p := Pt.zero) rfl (heap_alloc_new w10 (.cells Pt.zero.arr 43)) Pt.zero_wf.size Pt.zero_wf ?_; intro w11 hg hf hs; have HGw11 := Lib.hid hg; have HBww11 := Lib.hid (show Below w10.heap.size w10 w11 from ((Below.refl _ w10).alloc (Nat.le_refl _) _).trans (hf.below (by simp) (fun j hj => by omega))); clear hg hf hs)
    exact HN.out .normal (Or.inl rfl) (HR9.out.below (HBx.out.trans (HBww11.out.mono HBx.out.size)))

end Go.Proofs.YtkbnkdokcmpcgaaGreatDoor
namespace Go.Proofs.YtkbnkdokcmpcgaaGreatDoor
open Go.RowKit

theorem RpAt.withSp {w w' : World} {R S V M size birth : Nat} {t t' : Nat → Bool} {lies : Lies} (h : RpAt w R S V M size t birth lies) (hr : RsAt w' S V size t') (hf : Fr (fun k => k = V) w w') : RpAt w' R S V M size t' birth lies := by
  obtain ⟨ml, h1, h2⟩ := h.lm
  refine ⟨(hf.block _ (lt_of_block h.row) h.nRV).trans h.row, hr, ⟨ml, h1.fr hf ?_, h2⟩, h.nRS, h.nRV⟩
  rintro rfl
  obtain ⟨es, cl, hm, _⟩ := h1
  rw [h.sp.2.2.2.2.2] at hm
  cases hm
theorem gneq_ptr {ops : Array Oper} {rest : List Oper} {o : Oper} {a : Act} {w : World} {Q : Exit → Act → World → Prop} (hw : Region.wanted o (yielded ops a.tmps) = true) (x y : Operand) (yt : TypeId) (ho : o.op = .binOp .neq 43 x y yt)
    {p q : Pt} (hx : a.eval x = .agg p.arr) (hy : a.eval y = .agg q.arr) (h1 : p.Wf) (h2 : q.Wf)
    (hK : wpList Tryz.prog ops Q rest (a.put o.dst (.bool (!decide (p = q)))) w) : wpList Tryz.prog ops Q (o :: rest) a w := by
  refine BigFrame.wpList_want hw fun K hKK => ?_
  unfold Oper.wp execOp
  simp only [ho, hx, hy, Sem.run_bind, run_eqGuard_agg w _ _ _ _ _ _ guard_ptr, Result.andThen_ok, run_neq_struct, run_equalIn_ptr p q h1 h2 w]
  exact hKK _ _ hK
set_option maxRecDepth 100000 in
set_option maxHeartbeats 16000000 in
theorem act_down {w2 w8 : World} {P D S W lo : Nat} {ks : List UInt8} {R S2 V2 M n k g1 : Nat} {d : Dv} {t : Nat → Bool} {birth : Nat} {lies : Lies} {ps : List Pt} {bs : List Nat} {vA : Value} {a : Ac13} {aL : Option Addr} {cL : Nat} (h : AcSt w2 w8 P D S W lo ks R S2 V2 M n k g1 d t birth lies ps bs vA a aL cL) (kd : Int) (hkd : kd = a.kind) (hk1 : ¬ kd = 1) (hk2 : ¬ kd = 2) (hk3 : ¬ kd = 3) (hk6 : ¬ kd = 6) (hk4 : ¬ kd = 4) (hk5 : ¬ kd = 5) (a0 : Nat) (hb0 : birth ≠ 0) (hce : checkE a.n = 0) (hl : lowT t n = some a0) (hno : d.down = true ∨ d.step.down = true) {Q : Exit → Act → World → Prop} {u0 u1 u2 u3 u4 u8 u9 u11 u12 u14 u15 u16 u17 u18 u19 u20 u21 u22 u23 u24 u25 u26 u27 u28 u29 u30 u31 u32 u33 u34 u35 u36 u37 u38 u39 u40 u41 u42 u43 u44 u45 u46 u47 u48 u49 u50 u51 u52 u53 u54 u55 u56 u57 u59 u60 u61 u62 u63 u64 u65 u66 u67 u68 u69 u70 u71 u72 u73 u74 u75 u76 u77 u78 u79 u80 u81 u82 u83 u84 u85 u86 u87 u88 u89 u90 u91 u92 u93 u94 u95 u96 u97 u98 u99 u100 u101 u102 u103 u104 u105 u106 u107 u108 u109 u110 u111 u112 u113 u114 u115 u116 u117 u118 u119 u120 u121 u122 u123 u124 u125 u126 u127 u128 u129 u130 u131 u132 u133 u134 u135 u136 u137 u138 u139 u140 u141 u142 u143 u144 u145 u146 u147 u148 u149 u150 u151 u152 u153 u154 u155 u156 u157 u158 u159 u160 u161 u162 u163 u164 u165 u166 u167 u168 u169 u170 u171 u172 u173 u174 u175 u176 u177 u178 u179 u180 u181 u182 u183 u184 u185 u186 u187 u188 u189 u190 u191 u192 u193 u194 u195 u196 u197 u198 u199 u200 u201 u202 u203 u204 u205 u206 u207 u208 u209 u210 u211 u212 u213 u214 u215 u216 u217 u218 u219 u220 u221 u222 u223 u224 u225 u226 u227 u228 u229 u230 u231 u232 u233 u234 u235 u236 u237 u238 u239 u240 u241 u242 u243 : Value} (hu : u11 = vA)
    (hn : ∀ (x : Exit) {v4 v11 v14 v15 v16 v17 v18 v19 v20 v21 v59 v60 v61 v62 v63 v64 v65 v66 v67 v68 v69 v70 v71 v72 v73 v74 v75 v76 v77 v78 v79 v80 v81 v82 v83 v84 v85 v86 v87 v88 v89 v90 v91 v92 v93 v94 v95 v96 v97 v98 v99 v100 v101 v102 v103 v104 v105 v106 v107 v108 v109 v110 v111 v112 v113 v114 v115 v116 v117 v118 v119 v120 v121 v122 v123 v124 v125 v126 v127 v128 v129 v130 v131 v132 v133 v134 v135 v136 v137 v138 v139 v140 v141 v142 v143 v144 v145 v146 v147 v148 v149 v150 v151 v152 v153 v154 v155 v156 v157 v158 v159 v160 v161 v162 v163 v164 v165 v166 v167 v168 v169 v170 v171 v172 v173 v174 v175 v176 v177 v178 v179 v180 v181 v182 v183 v184 v185 v186 v187 v188 v189 v190 v191 v192 v193 v194 v195 v196 v197 v198 v199 v200 v201 v202 v203 v204 v205 v206 v207 v208 v209 v210 v211 v212 v213 v214 v215 v216 v217 v218 v219 : Value} {wx : World}, (x = .normal ∨ x = .exit 1) → AcRel w2.heap.size w2 P D S W lo ks R S2 M n (k + 1) v11 wx → Q x ⟨#[u0, u1, u2, u3, v4, .int .i64 (n : Int), .pointer (some ⟨P, 0, none⟩), .pointer (some ⟨D, 0, none⟩), u8, u9, .pointer (some ⟨R, 0, none⟩), v11, u12, .pointer (some ⟨g1, 0, none⟩), v14, v15, v16, v17, v18, v19, v20, v21, u22, u23, u24, u25, u26, u27, u28, u29, u30, u31, u32, u33, u34, u35, u36, u37, u38, u39, u40, u41, u42, u43, u44, u45, u46, u47, u48, u49, u50, u51, u52, u53, u54, u55, u56, u57, .int .i64 kd, v59, v60, v61, v62, v63, v64, v65, v66, v67, v68, v69, v70, v71, v72, v73, v74, v75, v76, v77, v78, v79, v80, v81, v82, v83, v84, v85, v86, v87, v88, v89, v90, v91, v92, v93, v94, v95, v96, v97, v98, v99, v100, v101, v102, v103, v104, v105, v106, v107, v108, v109, v110, v111, v112, v113, v114, v115, v116, v117, v118, v119, v120, v121, v122, v123, v124, v125, v126, v127, v128, v129, v130, v131, v132, v133, v134, v135, v136, v137, v138, v139, v140, v141, v142, v143, v144, v145, v146, v147, v148, v149, v150, v151, v152, v153, v154, v155, v156, v157, v158, v159, v160, v161, v162, v163, v164, v165, v166, v167, v168, v169, v170, v171, v172, v173, v174, v175, v176, v177, v178, v179, v180, v181, v182, v183, v184, v185, v186, v187, v188, v189, v190, v191, v192, v193, v194, v195, v196, v197, v198, v199, v200, v201, v202, v203, v204, v205, v206, v207, v208, v209, v210, v211, v212, v213, v214, v215, v216, v217, v218, v219, u220, u221, u222, u223, u224, u225, u226, u227, u228, u229, u230, u231, u232, u233, u234, u235, u236, u237, u238, u239, u240, u241, u242, u243], []⟩ wx)
    (hp : ∀ c b b' wx, Act.defers b = Act.defers b' → Q (.panic c) b wx → Q (.panic c) b' wx) :
    (Code.block 2 (blkIn Tryz.f9 2)).wp Tryz.prog Q ⟨#[u0, u1, u2, u3, u4, .int .i64 (n : Int), .pointer (some ⟨P, 0, none⟩), .pointer (some ⟨D, 0, none⟩), u8, u9, .pointer (some ⟨R, 0, none⟩), u11, u12, .pointer (some ⟨g1, 0, none⟩), u14, u15, u16, u17, u18, u19, u20, u21, u22, u23, u24, u25, u26, u27, u28, u29, u30, u31, u32, u33, u34, u35, u36, u37, u38, u39, u40, u41, u42, u43, u44, u45, u46, u47, u48, u49, u50, u51, u52, u53, u54, u55, u56, u57, .int .i64 kd, u59, u60, u61, u62, u63, u64, u65, u66, u67, u68, u69, u70, u71, u72, u73, u74, u75, u76, u77, u78, u79, u80, u81, u82, u83, u84, u85, u86, u87, u88, u89, u90, u91, u92, u93, u94, u95, u96, u97, u98, u99, u100, u101, u102, u103, u104, u105, u106, u107, u108, u109, u110, u111, u112, u113, u114, u115, u116, u117, u118, u119, u120, u121, u122, u123, u124, u125, u126, u127, u128, u129, u130, u131, u132, u133, u134, u135, u136, u137, u138, u139, u140, u141, u142, u143, u144, u145, u146, u147, u148, u149, u150, u151, u152, u153, u154, u155, u156, u157, u158, u159, u160, u161, u162, u163, u164, u165, u166, u167, u168, u169, u170, u171, u172, u173, u174, u175, u176, u177, u178, u179, u180, u181, u182, u183, u184, u185, u186, u187, u188, u189, u190, u191, u192, u193, u194, u195, u196, u197, u198, u199, u200, u201, u202, u203, u204, u205, u206, u207, u208, u209, u210, u211, u212, u213, u214, u215, u216, u217, u218, u219, u220, u221, u222, u223, u224, u225, u226, u227, u228, u229, u230, u231, u232, u233, u234, u235, u236, u237, u238, u239, u240, u241, u242, u243], []⟩ w8 := by
  obtain ⟨HP8', HX8', HRp8', HOw8', HG8', HI', HVL', HLo', HPw', HBs', HD', HT', HK', hn35, hu100, hk40, hhv⟩ := h
  have HP8 := Lib.hid HP8'
  have HX8 := Lib.hid HX8'
  have HRp8 := Lib.hid HRp8'
  have HG8 := Lib.hid HG8'
  have HI := Lib.hid HI'
  have HVL := Lib.hid HVL'
  have HLo := Lib.hid HLo'
  have HPw := Lib.hid HPw'
  have HD := Lib.hid HD'
  have HT2 := Lib.hid HT'
  have HKl := Lib.hid HK'
  have HHv := Lib.hid hhv
  obtain ⟨aA, cA, rfl, _⟩ := (Sl.own HOw8').len
  subst hu
  have HOw8 := Lib.hid HOw8'
  have HBs := Lib.hid HBs'
  have HR9 := Lib.hid (show AcRel w2.heap.size w2 P D S W lo ks R S2 M n (k + 1) (.slice aA ps.length cA) w8 from AcRel.next ⟨d, t, birth, lies, V2, ps, bs, HP8'.sub (fun q hq => List.mem_cons_of_mem _ hq), HX8', HD'.1, HD'.2.1, HD'.2.2.1, HRp8', HLo', HOw8', HPw', HD'.2.2.2, HBs'.1, HBs'.2.1, HBs'.2.2⟩)
  have hpp := Ac13.parts HI' (At.of_row HG8')
  rw [HVL', ← hkd] at hpp
  simp only [Nat.zero_add] at hpp
  obtain ⟨p0, p1, p2, p3, p7, p8, p9⟩ := hpp
  have HP3 := Lib.hid p3
  have HP9 := Lib.hid p9
  have HN := Lib.hid hn
  have HPn := Lib.hid hp
  clear p3 p9 hkd hn hp HP8' HX8' HRp8' HOw8' HG8' HI' HVL' HLo' HPw' HBs' HD' HT' HK' hhv
  conv => arg 2; arg 2; whnf
  have hkb1 : (kd == 1) = false := by simpa using hk1
  have hkb2 : (kd == 2) = false := by simpa using hk2
  have hkb3 : (kd == 3) = false := by simpa using hk3
  have hkb6 : (kd == 6) = false := by simpa using hk6
  have hkb4 : (kd == 4) = false := by simpa using hk4
  have hkb5 : (kd == 5) = false := by simpa using hk5
  clear hk1 hk2 hk3 hk6 hk4 hk5
  have HSz := Lib.hid HI.out.nd.size
  have HK255 := Lib.hid (show a.n.keys.length ≤ 255 from by
    have hv := HHv.out
    unfold heavy13 at hv
    simp only [Bool.or_eq_true, decide_eq_true_eq, not_or] at hv
    omega)
  have HN8 := Lib.hid (HI.out.nd.below HX8.out)
  have hmd : d.miss.down = true ∧ d.miss.waits = d.waits := by
    unfold Dv.miss
    by_cases hd : d.down = true
    · rw [if_pos hd]; exact ⟨hd, rfl⟩
    · rw [if_neg hd]; exact ⟨hno.resolve_left hd, rfl⟩
  have HMd := Lib.hid hmd
  have HNo := Lib.hid hno
  clear hmd hno
  go_wp2_with (refine load_nd rfl (.tmp 61) rfl rfl HP3.out HSz.out ?_)
  refine (rpWrite_any R S2 V2 M n birth t lies a.arr a.n w8 HRp8.out HN8.out HI.out.fits HK255.out).mono ?_
  intro e w9 hq
  unfold RqPost at hq
  rw [if_neg hb0, if_neg (by rw [hce]; simp), hl] at hq
  obtain ⟨rfl, hr9, hf9⟩ := hq
  have hag := lowT_get hl
  have HA := Lib.hid hag
  have HL := Lib.hid hl
  have HCs := Lib.hid (checkE_split.1 hce)
  have HB0 := Lib.hid (show 0 < birth by omega)
  have hV2 := HBs.out.1 V2 (Or.inr (Or.inr (Or.inl rfl)))
  have hgV : g1 ≠ V2 := fun e => by
    have h1 := HG8.out
    rw [e, HRp8.out.sp.2.2.2.2.2] at h1
    simp only [Option.some.injEq, Obj.cells.injEq] at h1
    exact absurd h1.2.1 (by decide)
  have HG9 := Lib.hid ((hf9.block g1 (lt_of_block HG8.out) hgV).trans HG8.out)
  have HRp9 := Lib.hid hr9
  have HP9 := Lib.hid (HP8.out.touch hf9 (fun q e => by rw [e]; exact List.mem_cons_of_mem _ hV2) (fun q hq => ⟨Or.inl hq, Nat.lt_of_lt_of_le (HP8.out.1 q hq) hf9.size⟩))
  have HX9 := Lib.hid (HX8.out.trans (hf9.below HX8.out.size (fun q e => by rw [e]; exact HBs.out.2.2 _ hV2)))
  have HOw9 := Lib.hid (HOw8.out.fr hf9 (by rintro q hq rfl; exact HOw8.out.not_at hq HRp8.out.sp.2.2.2.2.2 (by decide)))
  have HP39 := Lib.hid (show At w9 g1 3 a.arr.toList from by have := (Ac13.parts HI.out (At.of_row HG9.out)).2.2.2.1; simpa using this)
  have HN9 := Lib.hid (HI.out.nd.below HX9.out)
  have ha32 : a0 < 4294967296 := by have := hag.2.1; omega
  clear hr9 hf9 hl hce hb0 hag hgV hV2
  go_wp2_with (refine load_nd rfl (.tmp 68) rfl rfl HP39.out HSz.out ?_)
  refine (write_ps_down w2.heap.size P D S W lo birth ks t d _ w9 a.arr a.n HP9.out.2 HX9.out.size HN9.out (HT2.out.below HX9.out) HB0.out HI.out.fits HCs.out.1 HCs.out.2 a0 (by rw [HD.out.1]; exact HL.out) HNo.out).mono ?_
  rintro e w10 ⟨rfl, hp10, hx10⟩
  have hsm := HP9.out.same hp10 hx10.size
  have HP10 := Lib.hid hsm.1
  have HX10 := Lib.hid (HX9.out.trans hx10)
  have HRp10 := Lib.hid (HRp9.out.blocks fun q hq => hsm.2 q (List.mem_cons_of_mem _ (HBs.out.1 q hq)))
  have HOw10 := Lib.hid (HOw9.out.blocks fun q hq => hsm.2 q (List.mem_cons_of_mem _ (HBs.out.2.1 q hq)))
  have HG10 := Lib.hid ((hsm.2 g1 List.mem_cons_self).trans HG9.out)
  clear hp10 hx10 hsm
  go_wp2_with (refine store_ptr rfl (.tmp 18) (.tmp 71) rfl rfl (p := Pt.zero) rfl (heap_alloc_new w10 (.cells Pt.zero.arr 43)) Pt.zero_wf.size Pt.zero_wf ?_; intro w11 hg hf hs; have HGw11 := Lib.hid hg; have HBww11 := Lib.hid (show Below w10.heap.size w10 w11 from ((Below.refl _ w10).alloc (Nat.le_refl _) _).trans (hf.below (by simp) (fun j hj => by omega))); have HRp11 := Lib.hid (HRp10.out.below HBww11.out); have r1 := HRp11.out.cells.1; clear hg hf hs)
  refine (rsFree_ok S2 V2 n a0 (updT t a0 true) w11 HRp11.out.sp ⟨HA.out.1, HA.out.2.1⟩ (by unfold updT; rw [if_pos rfl])).mono ?_
  rintro e w12 ⟨rfl, hr12, hf12⟩
  rw [updT_back, updT_same t a0 false HA.out.2.2] at hr12
  have hV2 := HBs.out.1 V2 (Or.inr (Or.inr (Or.inl rfl)))
  have HRp12 := Lib.hid (HRp11.out.withSp hr12 hf12)
  have HP11 := Lib.hid (HP10.out.below HBww11.out)
  have HP12 := Lib.hid (HP11.out.touch hf12 (fun q e => by rw [e]; exact List.mem_cons_of_mem _ hV2) (fun q hq => ⟨Or.inl hq, Nat.lt_of_lt_of_le (HP11.out.1 q hq) hf12.size⟩))
  have hX11 := HX10.out.trans (HBww11.out.mono HX10.out.size)
  have HX12 := Lib.hid (hX11.trans (hf12.below hX11.size (fun q e => by rw [e]; exact HBs.out.2.2 _ hV2)))
  have HOw12 := Lib.hid ((HOw10.out.blocks fun q hq => HBww11.out.block q (HOw10.out.lt q hq).2).fr hf12 (by rintro q hq rfl; exact (HOw10.out.blocks fun q hq => HBww11.out.block q (HOw10.out.lt q hq).2).not_at hq HRp11.out.sp.2.2.2.2.2 (by decide)))
  have HG12 := Lib.hid ((hf12.block w10.heap.size (lt_of_block HGw11.out) (fun e => by have := HRp10.out.sp.lt.2; omega)).trans HGw11.out)
  have hc5 : w12.cell? ⟨D, 5, none⟩ = some (.bool true) := by
    obtain ⟨Fd, L, T, wv, hv, _⟩ := HP12.out.2.dv
    rw [← HMd.out.1]
    exact cell_of_row _ D 5 _ _ _ hv.row
  have HDn := Lib.hid (dvDown_any D true w12 hc5)
  clear hr12 hf12 hV2 hX11 hc5 r1
  go_wp2_with fail
  refine HDn.out.mono ?_
  rintro e w13 ⟨rfl, rfl⟩
  go_wp2_with (first | (refine gload_ptr rfl (.tmp 18) rfl rfl (At.of_row HG12.out) Pt.zero_wf ?_) | (refine gneq_ptr rfl (.tmp 89) (.tmp 90) _ rfl (p := Pt.zero) (q := Pt.zero) rfl rfl Pt.zero_wf Pt.zero_wf ?_; rw [show (!decide (Pt.zero = Pt.zero)) = false by simp]))
  exact HN.out .normal (Or.inl rfl) ⟨d.miss, t, birth, lies, V2, ps, bs, HP12.out.sub (fun q hq => List.mem_cons_of_mem _ hq), HX12.out, (by rw [Dv.miss_size]; exact HD.out.1), (by rw [HMd.out.2]; have := HD.out.2.1; omega), HD.out.2.2.1, HRp12.out, HLo.out.cur d.miss_size (fun q => miss_cur d q), HOw12.out, HPw.out, (by have := HD.out.2.2.2; omega), HBs.out.1, HBs.out.2.1, HBs.out.2.2⟩

end Go.Proofs.YtkbnkdokcmpcgaaGreatDoor
namespace Go.Proofs.YtkbnkdokcmpcgaaGreatDoor
open Go.RowKit

theorem und_blk : Tryz.prog.underlying 88 = some (.struct (Tryz.prog.fieldsOf 88)) := by
  kernel_rfl
theorem places_blk (w : World) : (placesOf (Tryz.prog.fieldsOf 88)).run Tryz.prog w = .ok #[(0, 34), (34, 4)] w := by kernel_rfl
set_option maxRecDepth 100000 in
theorem run_build_blk (p : Pt) (arr : Array Value) (hp : p.Wf) (ha : arr.size = 4) (w : World) : (Instr.build 88 #[(0, .agg p.arr), (1, .agg arr)]).run Tryz.prog w = .ok (.agg (BlkL p arr).toArray) w := by
  have e1 : p.arr.size = 34 := hp.size
  obtain ⟨cs, h1, h2⟩ := fill_all ((#[(0, 34), (34, 4)] : Array (Nat × Nat))[·]?) [.agg p.arr, .agg arr] 0 0 zeroBlk.toArray (fun i q hi => by
    simp only [List.map_cons, List.map_nil, Value.cells, e1, ha] at hi
    rw [Nat.zero_add]
    match i, hi with
    | 0, hi => exact hi
    | 1, hi => exact hi) (by simp only [List.map_cons, List.map_nil, Value.cells, e1, ha]; exact Nat.le_refl 38)
  have hcs : cs = (BlkL p arr).toArray := by
    apply Array.toList_inj.1
    rw [h2]
    simp only [List.map_cons, List.map_nil, Value.cells, e1, ha]
    rw [show (zeroBlk.toArray.toList.drop (0 + sumL [34, 4])) = [] from rfl]
    simp [flatL, Value.cells, BlkL, Pt.arr]
  have hz : ((Value.agg zeroBlk.toArray).cells) = zeroBlk.toArray := rfl
  have hpl := places_blk w
  unfold placesOf at hpl
  unfold Instr.build
  simp only [Sem.run_bind, zero_blk w, Result.andThen_ok, run_underlying und_blk, hpl, hz]
  have h1' : Instr.fill (fun x => (#[(0, 34), (34, 4)] : Array (Nat × Nat))[x]?) zeroBlk.toArray [(0, .agg p.arr), (1, .agg arr)] = some cs := h1
  rw [h1', hcs]
  rfl
theorem yields_build_blk {ops : Array Oper} {C : World → Prop} {o : Oper} {a : Act} (hw : Region.wanted o (yielded ops a.tmps) = true) (x y : Operand) (ho : o.op = .build 88 #[(0, x), (1, y)]) {p : Pt} {arr : Array Value} (hx : a.eval x = .agg p.arr) (hy : a.eval y = .agg arr) (hp : p.Wf) (ha : arr.size = 4) :
    YieldsC Tryz.prog ops C o (.agg (BlkL p arr).toArray) a :=
  .inl ⟨hw, fun w' _ => by
    have h := run_build_blk p arr hp ha w'
    unfold execOp
    simp only [ho, List.map_toArray, List.map_cons, List.map_nil, hx, hy, Sem.run_bind, h, Result.andThen_ok, Sem.run_pure]⟩
theorem wp_update_blk {o : Oper} {a : Act} {w : World} {K : Act → World → Prop} {Q : Exit → Act → World → Prop} (m x v : Operand) (ho : o.op = .mapUpdate 80 m x v)
    {T n : Nat} {mt : List (Nat × Value)} {val : Value} (hm : a.eval m = .map (some T)) (hx : a.eval x = .int .u32 (n : Int)) (hv : a.eval v = val) (hu : UM w T mt)
    (hK : ∀ w', UM w' T (putU mt n val) → Fr (fun k => k = T) w w' → K (a.put o.dst undef) w') : Oper.wp Tryz.prog o a w K Q := by
  obtain ⟨w', hr, h1, h2, _⟩ := run_mapUpdate_um (P := Tryz.prog) (v := val) hu Tryz.underlying80 Tryz.underlying41 (n := n)
  unfold kU at hr
  unfold Oper.wp execOp
  simp only [ho, hm, hx, hv, Sem.run_bind, hr, Result.andThen_ok]
  exact hK w' h1 h2
theorem append_ptr {w : World} {ops : Array Oper} {rest : List Oper} {o : Oper} {a : Act} {Q : Exit → Act → World → Prop} (hgd : o.guard = none) (s x : Operand)
    (ho : o.op = .call { callee := .builtin .append, args := #[s, x], argTypes := #[23, 23] })
    {base : Nat} {v : Value} {n : Nat} {xs : List Value} (hown : w.ownsRow base 43 34 v n xs) {vx : Value} {news : List Value} (hx : Sl w 34 vx 1 news) (h1 : ∀ u ∈ news, u.oneCell' = true)
    (hs : a.eval s = v) (hxe : a.eval x = vx) (hr : n ≤ 1000000) (hbase : base ≤ w.heap.size)
    (h : ∀ aa cc w', w'.ownsRow base 43 34 (.slice aa (n + 1) cc) (n + 1) (xs ++ news) → Fr (fun k => v.ownBlock = some k) w w' → ((Value.slice aa (n + 1) cc).ownBlock = v.ownBlock ∨ (Value.slice aa (n + 1) cc).ownBlock = some w.heap.size) →
      wpList Tryz.prog ops Q rest (a.put o.dst (.slice aa (n + 1) cc)) w') : wpList Tryz.prog ops Q (o :: rest) a w := by
  obtain ⟨i0, z, hi, hz0, hz1, hz2, hz3⟩ := infoz_ptr
  refine wpList_append_sl hgd s x 23 ho base 43 i0 z 34 48 Tryz.underlying23 hi hz0 hz1 hz2 hz3 (by decide) v n _ hs hown vx 1 _ hxe hx h1 (by unfold maxLen; omega) (by omega) hbase ?_
  intro aa cc w' h2 hg h3
  exact h aa cc w' h2 ((Fr.refl _ w).grown hg (fun k hk => Or.inl hk)) h3
theorem Sl_onep (w : World) (p : Pt) (hp : p.Wf) : Sl (w.alloc (.cells p.arr 43)) 34 (.slice (some ⟨w.heap.size, 0, none⟩) 1 1) 1 p.arr.toList := by
  refine ⟨by rw [Array.length_toList, hp.size], some ⟨w.heap.size, 0, none⟩, 1, rfl, Nat.le_refl _, (fun h => by cases h), fun i u hu => ⟨w.heap.size, 0, rfl, ?_⟩⟩
  rw [Nat.zero_add, cell_of_row _ _ i _ _ _ (heap_alloc_new w _), ← hu, Array.getElem?_toList]
theorem RpAt.notM {w : World} {R S V M size birth : Nat} {t : Nat → Bool} {lies : Lies} (h : RpAt w R S V M size t birth lies) {q : Nat} {cs : Array Value} {ty : TypeId} {fz : Nat × Nat} (hq : w.heap[q]? = some (.cells cs ty fz)) : q ≠ M := by
  rintro rfl
  obtain ⟨ml, ⟨es, cl, hm, _⟩, _⟩ := h.lm
  rw [hm] at hq
  cases hq
theorem RpAt.withMap {w w' : World} {R S V M size birth : Nat} {t : Nat → Bool} {lies lies' : Lies} (h : RpAt w R S V M size t birth lies) {ml : List (Nat × Value)} (hu : UM w' M ml) (hl : LiM ml lies') (hf : Fr (fun k => k = M) w w') : RpAt w' R S V M size t birth lies' :=
  ⟨(hf.block _ (lt_of_block h.row) (h.notM h.row)).trans h.row, h.sp.fr hf (h.notM h.sp.2.2.2.2.1) (h.notM h.sp.2.2.2.2.2), ⟨ml, hu, hl⟩, h.nRS, h.nRV⟩
def putL (lies : Lies) (a : Nat) (z : Pt × Array Value × Nd) : Lies := fun c => if c = a then some z else lies c
theorem LiM.put {ml : List (Nat × Value)} {lies : Lies} (h : LiM ml lies) (a : Nat) (z : Pt × Array Value × Nd) : LiM (putU ml a (.agg (BlkL z.1 z.2.1).toArray)) (putL lies a z) := fun c => by
  rw [getU_put]
  unfold putL
  by_cases e : c = a
  · rw [if_pos e, if_pos e]; rfl
  · rw [if_neg e, if_neg e]; exact h c
set_option maxRecDepth 100000 in
set_option maxHeartbeats 16000000 in
theorem act_write {w2 w8 : World} {P D S W lo : Nat} {ks : List UInt8} {R S2 V2 M n k g1 : Nat} {d : Dv} {t : Nat → Bool} {birth : Nat} {lies : Lies} {ps : List Pt} {bs : List Nat} {vA : Value} {a : Ac13} {aL : Option Addr} {cL : Nat} (h : AcSt w2 w8 P D S W lo ks R S2 V2 M n k g1 d t birth lies ps bs vA a aL cL) (kd : Int) (hkd : kd = a.kind) (hk1 : ¬ kd = 1) (hk2 : ¬ kd = 2) (hk3 : ¬ kd = 3) (hk6 : ¬ kd = 6) (hk4 : ¬ kd = 4) (hk5 : ¬ kd = 5) (a0 : Nat) (hb0 : birth ≠ 0) (hce : checkE a.n = 0) (hl : lowT t n = some a0) (hdn : d.down = false) (hst : d.step.down = false) {Q : Exit → Act → World → Prop} {u0 u1 u2 u3 u4 u8 u9 u11 u12 u14 u15 u16 u17 u18 u19 u20 u21 u22 u23 u24 u25 u26 u27 u28 u29 u30 u31 u32 u33 u34 u35 u36 u37 u38 u39 u40 u41 u42 u43 u44 u45 u46 u47 u48 u49 u50 u51 u52 u53 u54 u55 u56 u57 u59 u60 u61 u62 u63 u64 u65 u66 u67 u68 u69 u70 u71 u72 u73 u74 u75 u76 u77 u78 u79 u80 u81 u82 u83 u84 u85 u86 u87 u88 u89 u90 u91 u92 u93 u94 u95 u96 u97 u98 u99 u100 u101 u102 u103 u104 u105 u106 u107 u108 u109 u110 u111 u112 u113 u114 u115 u116 u117 u118 u119 u120 u121 u122 u123 u124 u125 u126 u127 u128 u129 u130 u131 u132 u133 u134 u135 u136 u137 u138 u139 u140 u141 u142 u143 u144 u145 u146 u147 u148 u149 u150 u151 u152 u153 u154 u155 u156 u157 u158 u159 u160 u161 u162 u163 u164 u165 u166 u167 u168 u169 u170 u171 u172 u173 u174 u175 u176 u177 u178 u179 u180 u181 u182 u183 u184 u185 u186 u187 u188 u189 u190 u191 u192 u193 u194 u195 u196 u197 u198 u199 u200 u201 u202 u203 u204 u205 u206 u207 u208 u209 u210 u211 u212 u213 u214 u215 u216 u217 u218 u219 u220 u221 u222 u223 u224 u225 u226 u227 u228 u229 u230 u231 u232 u233 u234 u235 u236 u237 u238 u239 u240 u241 u242 u243 : Value} (hu : u11 = vA)
    (hn : ∀ (x : Exit) {v4 v11 v14 v15 v16 v17 v18 v19 v20 v21 v59 v60 v61 v62 v63 v64 v65 v66 v67 v68 v69 v70 v71 v72 v73 v74 v75 v76 v77 v78 v79 v80 v81 v82 v83 v84 v85 v86 v87 v88 v89 v90 v91 v92 v93 v94 v95 v96 v97 v98 v99 v100 v101 v102 v103 v104 v105 v106 v107 v108 v109 v110 v111 v112 v113 v114 v115 v116 v117 v118 v119 v120 v121 v122 v123 v124 v125 v126 v127 v128 v129 v130 v131 v132 v133 v134 v135 v136 v137 v138 v139 v140 v141 v142 v143 v144 v145 v146 v147 v148 v149 v150 v151 v152 v153 v154 v155 v156 v157 v158 v159 v160 v161 v162 v163 v164 v165 v166 v167 v168 v169 v170 v171 v172 v173 v174 v175 v176 v177 v178 v179 v180 v181 v182 v183 v184 v185 v186 v187 v188 v189 v190 v191 v192 v193 v194 v195 v196 v197 v198 v199 v200 v201 v202 v203 v204 v205 v206 v207 v208 v209 v210 v211 v212 v213 v214 v215 v216 v217 v218 v219 : Value} {wx : World}, (x = .normal ∨ x = .exit 1) → AcRel w2.heap.size w2 P D S W lo ks R S2 M n (k + 1) v11 wx → Q x ⟨#[u0, u1, u2, u3, v4, .int .i64 (n : Int), .pointer (some ⟨P, 0, none⟩), .pointer (some ⟨D, 0, none⟩), u8, u9, .pointer (some ⟨R, 0, none⟩), v11, u12, .pointer (some ⟨g1, 0, none⟩), v14, v15, v16, v17, v18, v19, v20, v21, u22, u23, u24, u25, u26, u27, u28, u29, u30, u31, u32, u33, u34, u35, u36, u37, u38, u39, u40, u41, u42, u43, u44, u45, u46, u47, u48, u49, u50, u51, u52, u53, u54, u55, u56, u57, .int .i64 kd, v59, v60, v61, v62, v63, v64, v65, v66, v67, v68, v69, v70, v71, v72, v73, v74, v75, v76, v77, v78, v79, v80, v81, v82, v83, v84, v85, v86, v87, v88, v89, v90, v91, v92, v93, v94, v95, v96, v97, v98, v99, v100, v101, v102, v103, v104, v105, v106, v107, v108, v109, v110, v111, v112, v113, v114, v115, v116, v117, v118, v119, v120, v121, v122, v123, v124, v125, v126, v127, v128, v129, v130, v131, v132, v133, v134, v135, v136, v137, v138, v139, v140, v141, v142, v143, v144, v145, v146, v147, v148, v149, v150, v151, v152, v153, v154, v155, v156, v157, v158, v159, v160, v161, v162, v163, v164, v165, v166, v167, v168, v169, v170, v171, v172, v173, v174, v175, v176, v177, v178, v179, v180, v181, v182, v183, v184, v185, v186, v187, v188, v189, v190, v191, v192, v193, v194, v195, v196, v197, v198, v199, v200, v201, v202, v203, v204, v205, v206, v207, v208, v209, v210, v211, v212, v213, v214, v215, v216, v217, v218, v219, u220, u221, u222, u223, u224, u225, u226, u227, u228, u229, u230, u231, u232, u233, u234, u235, u236, u237, u238, u239, u240, u241, u242, u243], []⟩ wx)
    (hp : ∀ c b b' wx, Act.defers b = Act.defers b' → Q (.panic c) b wx → Q (.panic c) b' wx) :
    (Code.block 2 (blkIn Tryz.f9 2)).wp Tryz.prog Q ⟨#[u0, u1, u2, u3, u4, .int .i64 (n : Int), .pointer (some ⟨P, 0, none⟩), .pointer (some ⟨D, 0, none⟩), u8, u9, .pointer (some ⟨R, 0, none⟩), u11, u12, .pointer (some ⟨g1, 0, none⟩), u14, u15, u16, u17, u18, u19, u20, u21, u22, u23, u24, u25, u26, u27, u28, u29, u30, u31, u32, u33, u34, u35, u36, u37, u38, u39, u40, u41, u42, u43, u44, u45, u46, u47, u48, u49, u50, u51, u52, u53, u54, u55, u56, u57, .int .i64 kd, u59, u60, u61, u62, u63, u64, u65, u66, u67, u68, u69, u70, u71, u72, u73, u74, u75, u76, u77, u78, u79, u80, u81, u82, u83, u84, u85, u86, u87, u88, u89, u90, u91, u92, u93, u94, u95, u96, u97, u98, u99, u100, u101, u102, u103, u104, u105, u106, u107, u108, u109, u110, u111, u112, u113, u114, u115, u116, u117, u118, u119, u120, u121, u122, u123, u124, u125, u126, u127, u128, u129, u130, u131, u132, u133, u134, u135, u136, u137, u138, u139, u140, u141, u142, u143, u144, u145, u146, u147, u148, u149, u150, u151, u152, u153, u154, u155, u156, u157, u158, u159, u160, u161, u162, u163, u164, u165, u166, u167, u168, u169, u170, u171, u172, u173, u174, u175, u176, u177, u178, u179, u180, u181, u182, u183, u184, u185, u186, u187, u188, u189, u190, u191, u192, u193, u194, u195, u196, u197, u198, u199, u200, u201, u202, u203, u204, u205, u206, u207, u208, u209, u210, u211, u212, u213, u214, u215, u216, u217, u218, u219, u220, u221, u222, u223, u224, u225, u226, u227, u228, u229, u230, u231, u232, u233, u234, u235, u236, u237, u238, u239, u240, u241, u242, u243], []⟩ w8 := by
  obtain ⟨HP8', HX8', HRp8', HOw8', HG8', HI', HVL', HLo', HPw', HBs', HD', HT', HK', hn35, hu100, hk40, hhv⟩ := h
  have HP8 := Lib.hid HP8'
  have HX8 := Lib.hid HX8'
  have HRp8 := Lib.hid HRp8'
  have HG8 := Lib.hid HG8'
  have HI := Lib.hid HI'
  have HVL := Lib.hid HVL'
  have HLo := Lib.hid HLo'
  have HPw := Lib.hid HPw'
  have HD := Lib.hid HD'
  have HT2 := Lib.hid HT'
  have HKl := Lib.hid HK'
  have HHv := Lib.hid hhv
  obtain ⟨aA, cA, rfl, _⟩ := (Sl.own HOw8').len
  subst hu
  have HOw8 := Lib.hid HOw8'
  have HBs := Lib.hid HBs'
  have HR9 := Lib.hid (show AcRel w2.heap.size w2 P D S W lo ks R S2 M n (k + 1) (.slice aA ps.length cA) w8 from AcRel.next ⟨d, t, birth, lies, V2, ps, bs, HP8'.sub (fun q hq => List.mem_cons_of_mem _ hq), HX8', HD'.1, HD'.2.1, HD'.2.2.1, HRp8', HLo', HOw8', HPw', HD'.2.2.2, HBs'.1, HBs'.2.1, HBs'.2.2⟩)
  have hpp := Ac13.parts HI' (At.of_row HG8')
  rw [HVL', ← hkd] at hpp
  simp only [Nat.zero_add] at hpp
  obtain ⟨p0, p1, p2, p3, p7, p8, p9⟩ := hpp
  have HP3 := Lib.hid p3
  have HP9 := Lib.hid p9
  have HN := Lib.hid hn
  have HPn := Lib.hid hp
  clear p3 p9 hkd hn hp HP8' HX8' HRp8' HOw8' HG8' HI' HVL' HLo' HPw' HBs' HD' HT' HK' hhv
  conv => arg 2; arg 2; whnf
  have hkb1 : (kd == 1) = false := by simpa using hk1
  have hkb2 : (kd == 2) = false := by simpa using hk2
  have hkb3 : (kd == 3) = false := by simpa using hk3
  have hkb6 : (kd == 6) = false := by simpa using hk6
  have hkb4 : (kd == 4) = false := by simpa using hk4
  have hkb5 : (kd == 5) = false := by simpa using hk5
  clear hk1 hk2 hk3 hk6 hk4 hk5
  have HSz := Lib.hid HI.out.nd.size
  have HK255 := Lib.hid (show a.n.keys.length ≤ 255 from by
    have hv := HHv.out
    unfold heavy13 at hv
    simp only [Bool.or_eq_true, decide_eq_true_eq, not_or] at hv
    omega)
  have HN8 := Lib.hid (HI.out.nd.below HX8.out)
  have HDn := Lib.hid (show d.down = false ∧ d.step.down = false from ⟨hdn, hst⟩)
  clear hdn hst
  go_wp2_with (refine load_nd rfl (.tmp 61) rfl rfl HP3.out HSz.out ?_)
  refine (rpWrite_any R S2 V2 M n birth t lies a.arr a.n w8 HRp8.out HN8.out HI.out.fits HK255.out).mono ?_
  intro e w9 hq
  unfold RqPost at hq
  rw [if_neg hb0, if_neg (by rw [hce]; simp), hl] at hq
  obtain ⟨rfl, hr9, hf9⟩ := hq
  have hag := lowT_get hl
  have HA := Lib.hid hag
  have HL := Lib.hid hl
  have HCs := Lib.hid (checkE_split.1 hce)
  have HB0 := Lib.hid (show 0 < birth by omega)
  have hV2 := HBs.out.1 V2 (Or.inr (Or.inr (Or.inl rfl)))
  have hgV : g1 ≠ V2 := fun e => by
    have h1 := HG8.out
    rw [e, HRp8.out.sp.2.2.2.2.2] at h1
    simp only [Option.some.injEq, Obj.cells.injEq] at h1
    exact absurd h1.2.1 (by decide)
  have HG9 := Lib.hid ((hf9.block g1 (lt_of_block HG8.out) hgV).trans HG8.out)
  have HRp9 := Lib.hid hr9
  have HP9 := Lib.hid (HP8.out.touch hf9 (fun q e => by rw [e]; exact List.mem_cons_of_mem _ hV2) (fun q hq => ⟨Or.inl hq, Nat.lt_of_lt_of_le (HP8.out.1 q hq) hf9.size⟩))
  have HX9 := Lib.hid (HX8.out.trans (hf9.below HX8.out.size (fun q e => by rw [e]; exact HBs.out.2.2 _ hV2)))
  have HOw9 := Lib.hid (HOw8.out.fr hf9 (by rintro q hq rfl; exact HOw8.out.not_at hq HRp8.out.sp.2.2.2.2.2 (by decide)))
  have HP39 := Lib.hid (show At w9 g1 3 a.arr.toList from by have := (Ac13.parts HI.out (At.of_row HG9.out)).2.2.2.1; simpa using this)
  have HN9 := Lib.hid (HI.out.nd.below HX9.out)
  have ha32 : a0 < 4294967296 := by have := hag.2.1; omega
  clear hr9 hf9 hl hce hb0 hag hgV hV2
  go_wp2_with (refine load_nd rfl (.tmp 68) rfl rfl HP39.out HSz.out ?_)
  refine (write_ps_ok w2.heap.size P D S W lo birth ks t d _ w9 a.arr a.n HP9.out.2 HX9.out.size HN9.out (HT2.out.below HX9.out) HB0.out HI.out.fits HCs.out.1 HCs.out.2 a0 (by rw [HD.out.1]; exact HL.out) HDn.out.1 HDn.out.2 (by have := HD.out.2.1; omega)).mono ?_
  rintro e w10 ⟨rfl, hp10, hx10⟩
  obtain ⟨p, hp⟩ : ∃ p, p = sealP ks birth a0 (nodeB a.n) := ⟨_, rfl⟩
  obtain ⟨d', hd'⟩ : ∃ d', d' = d.step.wrote a0 (cryptB (ks.take 32) (nonceB birth a0) (nodeB a.n)) := ⟨_, rfl⟩
  have hcur : d'.cur a0 = cryptB (ks.take 32) (nonceB birth a0) (nodeB a.n) := by rw [hd', Dv.cur_wrote, if_pos rfl]
  have HPw1 := Lib.hid (show p.Wf by rw [hp]; exact sealP_wf _ _ _ _ HD.out.2.2.1 ha32)
  have HPv := Lib.hid (show p.addr = a0 ∧ p.birth = birth ∧ p.sum = hashN (d'.cur a0) from by rw [hcur, hp]; exact ⟨rfl, rfl, rfl⟩)
  have HPe := Lib.hid hp
  have HD' := Lib.hid (show d'.size = n ∧ d'.down = false ∧ d'.waits.length ≤ k + 1 from by
    rw [hd']
    refine ⟨HD.out.1, HDn.out.2, ?_⟩
    show (d.waits ++ [_]).length ≤ _
    rw [List.length_append]; have := HD.out.2.1; simp; omega)
  have HCu := Lib.hid (show d'.cur a0 = cryptB (ks.take 32) (nonceB birth a0) (nodeB a.n) ∧ ∀ c, c ≠ a0 → d'.cur c = d.cur c from ⟨hcur, fun c hc => by rw [hd', Dv.cur_wrote, if_neg hc]; rfl⟩)
  rw [← hd'] at hp10
  rw [← hp]
  clear hcur hp hd'
  have hsm := HP9.out.same hp10 hx10.size
  have HP10 := Lib.hid hsm.1
  have HX10 := Lib.hid (HX9.out.trans hx10)
  have HRp10 := Lib.hid (HRp9.out.blocks fun q hq => hsm.2 q (List.mem_cons_of_mem _ (HBs.out.1 q hq)))
  have HOw10 := Lib.hid (HOw9.out.blocks fun q hq => hsm.2 q (List.mem_cons_of_mem _ (HBs.out.2.1 q hq)))
  have HG10 := Lib.hid ((hsm.2 g1 List.mem_cons_self).trans HG9.out)
  clear hp10 hx10 hsm
  go_wp2_with (refine store_ptr rfl (.tmp 18) (.tmp 71) rfl rfl (p := p) rfl (heap_alloc_new w10 (.cells Pt.zero.arr 43)) Pt.zero_wf.size HPw1.out ?_; intro w11 hg hf hs; have HGw11 := Lib.hid hg; have HBww11 := Lib.hid (show Below w10.heap.size w10 w11 from ((Below.refl _ w10).alloc (Nat.le_refl _) _).trans (hf.below (by simp) (fun j hj => by omega))); have HRp11 := Lib.hid (HRp10.out.below HBww11.out); have r1 := HRp11.out.cells.1; have c0 : w11.cell? ⟨w10.heap.size, 0, none⟩ = some (.int .u32 (a0 : Int)) := (by rw [cell_of_row _ _ 0 _ _ _ HGw11.out]; show some (Value.int .u32 (p.addr : Int)) = _; rw [HPv.out.1]); clear hg hf hs)
  have HP11 := Lib.hid (HP10.out.below HBww11.out)
  have HX11 := Lib.hid (HX10.out.trans (HBww11.out.mono HX10.out.size))
  have HOw11 := Lib.hid (HOw10.out.blocks fun q hq => HBww11.out.block q (HOw10.out.lt q hq).2)
  have HG11 := Lib.hid ((HBww11.out.block g1 (lt_of_block HG10.out)).trans HG10.out)
  obtain ⟨Fd, hdv⟩ := HP11.out.2.dv
  refine (dvRead_ok D a0 lo Fd d' w11 hdv (by rw [HD'.out.1]; exact HA.out.2.1) HD'.out.2.1 (by have := HD'.out.2.2; omega)).mono ?_
  rintro e w12 ⟨rfl, hs12, hb12⟩
  have hc512 : (d'.cur a0).length = 512 := by
    obtain ⟨L, T, wv, hv, _⟩ := hdv
    exact hv.wf.cur _
  have HSl := Lib.hid (show Sl w12 1 (.slice (some ⟨w11.heap.size, 0, none⟩) 512 512) (d'.cur a0).length ((d'.cur a0).map Bv) from by
    rw [hc512]
    refine ⟨by simp [hc512], some ⟨w11.heap.size, 0, none⟩, 512, rfl, Nat.le_refl _, fun h => (by cases h), fun i u hu => ⟨w11.heap.size, 0, rfl, ?_⟩⟩
    rw [Nat.zero_add, cell_of_row _ _ i _ _ _ hs12, List.getElem?_toArray]; exact hu)
  have HCl := Lib.hid hc512
  have HRp12 := Lib.hid (HRp11.out.below hb12)
  have HP12 := Lib.hid (HP11.out.below hb12)
  have HX12 := Lib.hid (HX11.out.trans (hb12.mono HX11.out.size))
  have HOw12 := Lib.hid (HOw11.out.blocks fun q hq => hb12.block q (HOw11.out.lt q hq).2)
  have HG12 := Lib.hid ((hb12.block g1 (lt_of_block HG11.out)).trans HG11.out)
  have HGp12 := Lib.hid ((hb12.block w10.heap.size (lt_of_block HGw11.out)).trans HGw11.out)
  clear hdv hs12 hb12 hc512 c0 r1
  have HPs12 := Lib.hid (show At w12 w10.heap.size 2 (p.sum.map Bv) from by
    have h2 := At.part (xs := [.int .u32 (p.addr : Int), .int .u64 (p.birth : Int)]) (cs := p.sum.map Bv) (ys := []) (by have := At.of_row HGp12.out; simpa [Pt.cells] using this)
    simpa using h2)
  have HSq := Lib.hid (show decide (p.sum = hashN (d'.cur a0)) = true from by rw [HPv.out.2.2]; simp)
  go_wp2_with fail
  have k0 : w12.cell? ⟨w10.heap.size, 0, none⟩ = some (.int .u32 (a0 : Int)) := by rw [cell_of_row _ _ 0 _ _ _ HGp12.out]; show some (Value.int .u32 (p.addr : Int)) = _; rw [HPv.out.1]
  have k1 : w12.cell? ⟨w10.heap.size, 1, none⟩ = some (.int .u64 (birth : Int)) := by rw [cell_of_row _ _ 1 _ _ _ HGp12.out]; show some (Value.int .u64 (p.birth : Int)) = _; rw [HPv.out.2.1]
  have uk0 := fun (u : Wd w12.heap.size w12) => u.cell' k0
  have uk1 := fun (u : Wd w12.heap.size w12) => u.cell' k1
  have uk2 := fun (u : Wd w12.heap.size w12) => u.cell' HRp12.out.cells.2.1
  have HUs := Lib.hid (fun u : Wd w12.heap.size w12 => u.at HPs12.out)
  have HSm := Lib.hid (fun u : Wd w12.heap.size w12 => Calls.wd (B := w12.heap.size) u (Nat.le_refl _) (shaSum_any _ _ u.to (HSl.out.below u.hb) (by rw [HCl.out]; decide)))
  clear k0 k1
  refine wp_region_wd w12.heap.size (by kernel_rfl) (by kernel_rfl) ?_
  repeat (first
    | (refine wpQuiet_load_at rfl 33 (.tmp 123) rfl w10.heap.size 2 rfl _ _ (fun _ hw' => by obtain ⟨u, rfl⟩ := hw'; exact HUs.out u) Tryz.underlying33 rfl (by rw [info_hash, List.length_map, HPw1.out.sum]) ?_; simp only [Act.put, sA, sB, sC])
    | (refine quiet_neq_hash rfl (.tmp 124) (.tmp 126) _ rfl rfl rfl HPw1.out.sum (hashN_length _) ?_; rw [HSq.out]; simp only [Act.put, sA, sB, sC])
    | go_big_quiet_step (with_reducible exact HSm.out _))
  refine wpQuiet_nil ?_
  rintro wE ⟨⟨_, hbE⟩, rfl⟩
  have HRpE := Lib.hid (HRp12.out.below hbE)
  have HPE := Lib.hid (HP12.out.below hbE)
  have HXE := Lib.hid (HX12.out.trans (hbE.mono HX12.out.size))
  have HOwE := Lib.hid (HOw12.out.blocks fun q hq => hbE.block q (HOw12.out.lt q hq).2)
  have HGE := Lib.hid ((hbE.block g1 (lt_of_block HG12.out)).trans HG12.out)
  have HGpE := Lib.hid ((hbE.block w10.heap.size (lt_of_block HGp12.out)).trans HGp12.out)
  have HSz10 := Lib.hid (show w10.heap.size < wE.heap.size from lt_of_block HGpE.out)
  have HLt10 := Lib.hid (show (∀ q, (Value.slice aA ps.length cA).ownBlock = some q → q < w10.heap.size) ∧ (∀ q, RpF R S2 V2 M q → q < w10.heap.size) ∧ ∀ q ∈ g1 :: bs, q < w10.heap.size from ⟨fun q hq => (HOw10.out.lt q hq).2, HRp10.out.lt, HP10.out.1⟩)
  clear hbE uk0 uk1 uk2 HUs HSm HSl HRp12 HP12 HX12 HOw12 HG12 HGp12 HPs12 HRp11 HP11 HX11 HOw11 HG11 HGw11 HBww11 HRp10 HP10 HX10 HOw10 HG10 HRp9 HP9 HX9 HOw9 HG9 HP39 HN9
  go_wp2_with fail
  have HnM := Lib.hid (show ∀ q cs ty fz, wE.heap[q]? = some (.cells cs ty fz) → q ≠ M from fun q cs ty fz hq => HRpE.out.notM hq)
  have HC3 := Lib.hid (show ∀ u, Fr (fun k => k = M) wE u → u.cell? ⟨R, 3, none⟩ = some (.map (some M)) from fun u hu => cell_of_row _ R 3 _ _ _ ((hu.block R (lt_of_block HRpE.out.row) (HnM.out _ _ _ _ HRpE.out.row)).trans HRpE.out.row))
  have HCp := Lib.hid (show ∀ u, Fr (fun k => k = M) wE u → At u w10.heap.size 0 p.cells from fun u hu => At.of_row ((hu.block _ (lt_of_block HGpE.out) (HnM.out _ _ _ _ HGpE.out)).trans HGpE.out))
  have HCa := Lib.hid (show ∀ u, Fr (fun k => k = M) wE u → At u g1 3 a.arr.toList from fun u hu => by
    have := (Ac13.parts HI.out (At.of_row ((hu.block _ (lt_of_block HGE.out) (HnM.out _ _ _ _ HGE.out)).trans HGE.out))).2.2.2.1
    simpa using this)
  refine wp_region_anyC (fun u => Fr (fun k => k = M) wE u) (by kernel_rfl) ?_
  obtain ⟨wd, hwd⟩ : ∃ wd, wd = { wE with drawn := wE.drawn + 1 } := ⟨_, rfl⟩
  have HBd := Lib.hid (show Fr (fun k => k = M) wE wd by rw [hwd]; exact (Fr.refl _ wE).drew)
  have HLm := Lib.hid (show ∃ ml, UM wd M ml ∧ LiM ml lies by obtain ⟨ml, h1, h2⟩ := HRpE.out.lm; exact ⟨ml, h1.of_block (by rw [hwd]), h2⟩)
  rw [← hwd]
  clear hwd
  refine wpAnyCL_take (i := 0) (v := .pointer (some ⟨R, 0, none⟩)) rfl (by kernel_rfl) (fun c b wx h => HPn.out c _ b wx (by rfl) h) (.inl ⟨by rfl, fun w' _ => by go_simp⟩) ?_
  simp only [Act.put, sA, sB, sC]
  refine wpAnyCL_take (i := 1) (v := .pointer (some ⟨R, 0, none⟩)) rfl (by kernel_rfl) (fun c b wx h => HPn.out c _ b wx (by rfl) h) (.inl ⟨by rfl, fun w' _ => by go_simp⟩) ?_
  simp only [Act.put, sA, sB, sC]
  refine wpAnyCL_take (i := 2) (v := .pointer (some ⟨R, 3, none⟩)) rfl (by kernel_rfl) (fun c b wx h => HPn.out c _ b wx (by rfl) h) (.inl ⟨by rfl, fun w' _ => by go_simp⟩) ?_
  simp only [Act.put, sA, sB, sC]
  refine wpAnyCL_take (i := 3) (v := .map (some M)) rfl (by kernel_rfl) (fun c b wx h => HPn.out c _ b wx (by rfl) h) (.inl ⟨by rfl, fun w' hw => by (have h := HC3.out w' hw; go_simp)⟩) ?_
  simp only [Act.put, sA, sB, sC]
  refine wpAnyCL_take (i := 4) (v := .int .u32 (a0 : Int)) rfl (by kernel_rfl) (fun c b wx h => HPn.out c _ b wx (by rfl) h) (.inl ⟨by rfl, fun w' _ => by go_simp⟩) ?_
  simp only [Act.put, sA, sB, sC]
  refine wpAnyCL_take (i := 5) (v := .agg p.cells.toArray) rfl (by kernel_rfl) (fun c b wx h => HPn.out c _ b wx (by rfl) h) (yields_load (by rfl) 43 (.tmp 18) (by rfl) w10.heap.size 0 (by rfl) p.cells _ HCp.out Tryz.underlying43 rfl (by rw [info_ptr, HPw1.out.len])) ?_
  simp only [Act.put, sA, sB, sC]
  refine wpAnyCL_take (i := 6) (v := .pointer (some ⟨g1, 3, none⟩)) rfl (by kernel_rfl) (fun c b wx h => HPn.out c _ b wx (by rfl) h) (.inl ⟨by rfl, fun w' _ => by go_simp⟩) ?_
  simp only [Act.put, sA, sB, sC]
  refine wpAnyCL_take (i := 7) (v := .agg a.arr.toList.toArray) rfl (by kernel_rfl) (fun c b wx h => HPn.out c _ b wx (by rfl) h) (yields_load (by rfl) 25 (.tmp 135) (by rfl) g1 3 (by rfl) a.arr.toList _ HCa.out Tryz.underlying25 rfl (by rw [info_nd4, Array.length_toList, HSz.out])) ?_
  simp only [Act.put, sA, sB, sC]
  refine wpAnyCL_take (i := 8) (v := .agg (BlkL p a.arr).toArray) rfl (by kernel_rfl) (fun c b wx h => HPn.out c _ b wx (by rfl) h) (yields_build_blk (by rfl) (.tmp 134) (.tmp 136) (by rfl) (by rfl) (by rfl) HPw1.out HSz.out) ?_
  simp only [Act.put, sA, sB, sC]
  obtain ⟨ml, hum, hlm⟩ := HLm.out
  refine wpAnyCL_forced 9 HBd.out (by kernel_rfl) rfl (by rfl) (fun K' hK' => ?_)
  refine wp_update_blk (.tmp 132) (.tmp 133) (.tmp 137) rfl rfl rfl rfl hum ?_
  intro wF hF1 hF2
  refine hK' _ _ ?_
  have hFr := HBd.out.trans hF2
  have HRpF := Lib.hid (HRpE.out.withMap (lies' := putL lies a0 (p, a.arr, a.n)) hF1 (hlm.put a0 (p, a.arr, a.n)) hFr)
  have HFF := Lib.hid hFr
  clear hF1 hF2 hum hlm HLm hFr
  simp only [Act.put]
  refine wpAnyC_done (by kernel_rfl) HFF.out ?_
  have hMin := HBs.out.1 M (Or.inr (Or.inr (Or.inr rfl)))
  have HPF := Lib.hid (HPE.out.touch HFF.out (fun q e => by rw [e]; exact List.mem_cons_of_mem _ hMin) (fun q hq => ⟨Or.inl hq, Nat.lt_of_lt_of_le (HPE.out.1 q hq) HFF.out.size⟩))
  have HXF := Lib.hid (HXE.out.trans (HFF.out.below HXE.out.size (fun q e => by rw [e]; exact HBs.out.2.2 _ hMin)))
  have HOwF := Lib.hid (HOwE.out.fr HFF.out (fun q hq e => by
    rcases HOwE.out.2 with ⟨e0, _⟩ | ⟨g, cap, cur, e0, _, hg, _⟩
    · rw [e0] at hq; cases hq
    · rw [e0] at hq
      obtain rfl : g = q := by simpa [Value.ownBlock] using hq
      exact HnM.out _ _ _ _ hg e))
  have HGpF := Lib.hid ((HFF.out.block _ (lt_of_block HGpE.out) (HnM.out _ _ _ _ HGpE.out)).trans HGpE.out)
  clear hMin
  obtain ⟨ip, zp, hip, hzp, hsp, _, hzsp⟩ := infoz_ptr
  go_wp2_with (first | (refine load_ptr rfl (.tmp 18) rfl rfl (At.of_row HGpF.out) HPw1.out ?_) | (refine build_one rfl 23 43 (.tmp 139) rfl (arr := p.arr) rfl Tryz.underlying23 ip zp 34 hip hzp hsp hzsp HPw1.out.size (by decide) (by decide) ?_) | (refine append_ptr rfl (.tmp 138) (.tmp 140) rfl (HOwF.out.alloc _) (Sl_onep wF p HPw1.out) p.one rfl rfl (by have := HD.out.2.2.2; omega) (by simp; have := HXF.out.size; omega) ?_; intro aa cc wG hoG hfG horG; have HOwG := Lib.hid hoG; have HFG := Lib.hid (((Fr.refl _ wF).alloc (.cells p.arr 43)).trans hfG); have HOr := Lib.hid horG; clear hoG hfG horG))
  refine HN.out .normal (Or.inl rfl) ⟨d', updT t a0 true, birth, putL lies a0 (p, a.arr, a.n), V2, ps ++ [p], (Value.slice aa (ps.length + 1) cc).ownBlock.toList ++ bs, HPF.out.touch HFG.out (fun q hq => List.mem_cons_of_mem _ (HBs.out.2.1 q hq)) (fun q hq => ?_), HXF.out.trans (HFG.out.below HXF.out.size (fun q hq => (HOwF.out.lt q hq).1)), HD'.out.1, HD'.out.2.2, HD.out.2.2.1, HRpF.out.fr HFG.out ?_, ?_, ?_, ?_, ?_, fun q hq => List.mem_append_right _ (HBs.out.1 q hq), fun q hq => List.mem_append_left _ (by rw [hq]; exact List.mem_singleton.2 rfl), ?_⟩
  · rcases List.mem_append.1 hq with hq | hq
    · have hq' : (Value.slice aa (ps.length + 1) cc).ownBlock = some q := by simpa [Option.mem_toList] using hq
      refine ⟨?_, (HOwG.out.lt q hq').2⟩
      rcases HOr.out with e | e
      · rw [e] at hq'; exact Or.inl (List.mem_cons_of_mem _ (HBs.out.2.1 q hq'))
      · rw [e] at hq'; injection hq' with hq'; rw [← hq']; exact Or.inr (by simp)
    · exact ⟨Or.inl (List.mem_cons_of_mem _ hq), Nat.lt_of_lt_of_le (HPF.out.1 q (List.mem_cons_of_mem _ hq)) HFG.out.size⟩
  · rintro q (rfl | rfl | rfl | rfl) hq
    · exact HOwF.out.not_at hq HRpF.out.row (by decide)
    · exact HOwF.out.not_at hq HRpF.out.sp.2.2.2.2.1 (by decide)
    · exact HOwF.out.not_at hq HRpF.out.sp.2.2.2.2.2 (by decide)
    · rcases HOwF.out.2 with ⟨e0, _⟩ | ⟨g, cap, cur, e0, _, hg, _⟩
      · rw [e0] at hq; cases hq
      · rw [e0] at hq
        obtain rfl : g = q := by simpa [Value.ownBlock] using hq
        exact HRpF.out.notM hg rfl
  · refine ⟨fun c z hz => ?_⟩
    unfold putL at hz
    by_cases hc : c = a0
    · rw [if_pos hc] at hz
      injection hz with hz
      subst hz hc
      exact ⟨birth, HD.out.2.2.1, by rw [HD'.out.1]; exact HA.out.2.1, HPe.out, HCu.out.1, HCs.out.1, HCs.out.2, HI.out.nd, HI.out.fits⟩
    · rw [if_neg hc] at hz
      obtain ⟨b, h1, h2, h3, h4, h5⟩ := HLo.out.ok c z hz
      exact ⟨b, h1, by rw [HD'.out.1]; rw [HD.out.1] at h2; exact h2, h3, by rw [HCu.out.2 c hc]; exact h4, h5⟩
  · rw [List.length_append, List.length_singleton, List.map_append, List.flatten_append]
    have := HOwG.out
    simpa [Pt.arr] using this
  · intro q hq
    rcases List.mem_append.1 hq with hq | hq
    · exact HPw.out q hq
    · rw [List.mem_singleton.1 hq]; exact HPw1.out
  · rw [List.length_append]; have := HD.out.2.2.2; simp; omega
  · intro q hq
    rcases List.mem_append.1 hq with hq | hq
    · have hq' : (Value.slice aa (ps.length + 1) cc).ownBlock = some q := by simpa [Option.mem_toList] using hq
      exact (HOwG.out.lt q hq').1
    · exact HBs.out.2.2 q hq

end Go.Proofs.YtkbnkdokcmpcgaaGreatDoor
