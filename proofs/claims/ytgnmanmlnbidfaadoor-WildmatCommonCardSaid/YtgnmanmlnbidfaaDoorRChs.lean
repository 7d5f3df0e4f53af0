/- Wildmat: the reference's Common, in parts: the characters at a node of the table. -/
import Derived.Test.YtgnmanmlnbidfaaDoorRChr
namespace Go.Proofs.YtgnmanmlnbidfaaDoor
open Go.RowKit

set_option maxRecDepth 100000 in
set_option maxHeartbeats 8000000 in
theorem rc_chars {v0 v1 v4 v5 v15 v16 v17 v18 v19 v20 v21 v22 v23 v24 v25 v26 v27 v28 v29 v30 v31 v32 v33 v34 v35 v36 v37 v38 v39 v40 v41 v42 v43 v44 v45 v46 v47 v48 v49 v50 v51 v52 v53 v54 v55 v56 v57 v58 v59 v60 v61 v62 v63 v64 v65 v66 v67 v68 v69 v70 v71 v72 v73 v74 v75 v76 v77 v78 v79 v80 v81 v82 v83 v84 v85 v86 v87 v88 v89 v90 v91 v92 v93 v94 v95 v96 v97 v98 v99 v100 v101 v102 v103 v104 v105 v106 v107 v108 v109 v110 v111 v112 v113 v114 v115 v116 v117 v118 v119 v120 v121 v122 v123 v124 v125 v126 v127 v128 v129 v130 v131 v132 v133 v134 v135 v136 v137 v138 v139 v140 v141 v142 v143 v144 v145 v146 v147 v148 v149 v150 v151 v152 v153 v154 v155 v156 v157 v158 v159 v160 v161 v162 v163 v164 v165 v166 v167 v168 v169 v170 v171 v172 v173 v174 v175 v176 v177 v178 v179 v180 v181 v182 v183 v184 v185 v186 v187 v188 v189 v190 v191 v192 v193 v194 v195 v196 v197 v198 v199 v200 v201 v202 v203 v204 v205 v206 v207 v208 v209 v210 v211 v212 v213 v214 v215 v216 v217 v218 v219 v220 v221 v222 v223 v224 v225 v226 v227 v228 v229 v230 v231 v232 v233 v234 v235 v236 v237 v238 v239 v240 v241 v242 v243 v244 v245 v246 v247 v248 v249 : Value} {Q' : Exit → Act → World → Prop} {P Q : List El} {AP AQ : Option Addr} {cp cq pb qb ob i j : Nat} {w0 : World} (lP : P.length ≤ 80) (lQ : Q.length ≤ 80) (hN : NodeIn P Q AP AQ cp cq pb qb ob i j w0) (okP : ∀ e ∈ P, e.ok) (okQ : ∀ e ∈ Q, e.ok) (hi : i ≤ P.length) (hj : j ≤ Q.length)
    (hQ : ∀ (u14 u15 u16 u17 u18 u127 u128 u129 u130 u131 u132 u133 u134 u135 u136 u137 u138 u139 u140 u141 u142 u143 u144 u145 u146 u147 u148 u149 u150 u151 u152 u153 u154 u155 u156 u157 u158 u159 u160 u161 u162 u163 u164 u165 u166 u167 u168 u169 u170 u171 u172 u173 u174 u175 u176 u177 u178 u179 u180 u181 u182 u183 u184 u185 u186 u187 u188 u189 u190 u191 u192 u193 u194 u195 u196 u197 u198 u199 u200 u201 u202 u203 u204 u205 u206 u207 u208 u209 u210 u211 u212 u213 u214 u215 u216 u217 u218 u219 u220 u221 u222 u223 u224 u225 : Value) (w' : World), Below w0.heap.size w0 w' → Q' .normal ⟨#[v0, v1, .pointer (some ⟨pb, 0, none⟩), .pointer (some ⟨qb, 0, none⟩), v4, v5, .int .i64 P.length, .int .i64 Q.length, .slice (some ⟨ob, 0, none⟩) (P.length + 1) (P.length + 1), .slice (some ⟨ob + 1, 0, none⟩) (P.length + 1) (P.length + 1), .int .i64 i, .int .i64 j, .string (ansS (TabF P Q i j)), .bool (TabF P Q i j).isSome, u14, u15, u16, u17, u18, v19, v20, v21, v22, v23, v24, v25, v26, v27, v28, v29, v30, v31, v32, v33, v34, v35, v36, v37, v38, v39, v40, v41, v42, v43, v44, v45, v46, v47, v48, v49, v50, v51, v52, v53, v54, v55, v56, v57, v58, v59, v60, v61, v62, v63, v64, v65, v66, v67, v68, v69, v70, v71, v72, v73, v74, v75, v76, v77, v78, v79, v80, v81, v82, v83, v84, v85, v86, v87, v88, v89, v90, v91, v92, v93, v94, v95, v96, v97, v98, v99, v100, v101, v102, v103, v104, v105, v106, v107, v108, v109, v110, v111, v112, v113, v114, v115, v116, v117, v118, v119, v120, v121, v122, v123, v124, v125, v126, u127, u128, u129, u130, u131, u132, u133, u134, u135, u136, u137, u138, u139, u140, u141, u142, u143, u144, u145, u146, u147, u148, u149, u150, u151, u152, u153, u154, u155, u156, u157, u158, u159, u160, u161, u162, u163, u164, u165, u166, u167, u168, u169, u170, u171, u172, u173, u174, u175, u176, u177, u178, u179, u180, u181, u182, u183, u184, u185, u186, u187, u188, u189, u190, u191, u192, u193, u194, u195, u196, u197, u198, u199, u200, u201, u202, u203, u204, u205, u206, u207, u208, u209, u210, u211, u212, u213, u214, u215, u216, u217, u218, u219, u220, u221, u222, u223, u224, u225, v226, v227, v228, v229, v230, v231, v232, v233, v234, v235, v236, v237, v238, v239, v240, v241, v242, v243, v244, v245, v246, v247, v248, v249], []⟩ w') :
    Code.wp Tryd.prog (subC [true, true, true, true, false, true, false, false, true, false, false, true, true, false, false, true, false, false, true, true, true, false, true] (Tryd.f20.body.getD .skip)) Q' ⟨#[v0, v1, .pointer (some ⟨pb, 0, none⟩), .pointer (some ⟨qb, 0, none⟩), v4, v5, .int .i64 P.length, .int .i64 Q.length, .slice (some ⟨ob, 0, none⟩) (P.length + 1) (P.length + 1), .slice (some ⟨ob + 1, 0, none⟩) (P.length + 1) (P.length + 1), .int .i64 i, .int .i64 j, .string (ansS (tab2 P Q i j)), .bool (tab2 P Q i j).isSome, .int .i64 0, v15, v16, v17, v18, v19, v20, v21, v22, v23, v24, v25, v26, v27, v28, v29, v30, v31, v32, v33, v34, v35, v36, v37, v38, v39, v40, v41, v42, v43, v44, v45, v46, v47, v48, v49, v50, v51, v52, v53, v54, v55, v56, v57, v58, v59, v60, v61, v62, v63, v64, v65, v66, v67, v68, v69, v70, v71, v72, v73, v74, v75, v76, v77, v78, v79, v80, v81, v82, v83, v84, v85, v86, v87, v88, v89, v90, v91, v92, v93, v94, v95, v96, v97, v98, v99, v100, v101, v102, v103, v104, v105, v106, v107, v108, v109, v110, v111, v112, v113, v114, v115, v116, v117, v118, v119, v120, v121, v122, v123, v124, v125, v126, v127, v128, v129, v130, v131, v132, v133, v134, v135, v136, v137, v138, v139, v140, v141, v142, v143, v144, v145, v146, v147, v148, v149, v150, v151, v152, v153, v154, v155, v156, v157, v158, v159, v160, v161, v162, v163, v164, v165, v166, v167, v168, v169, v170, v171, v172, v173, v174, v175, v176, v177, v178, v179, v180, v181, v182, v183, v184, v185, v186, v187, v188, v189, v190, v191, v192, v193, v194, v195, v196, v197, v198, v199, v200, v201, v202, v203, v204, v205, v206, v207, v208, v209, v210, v211, v212, v213, v214, v215, v216, v217, v218, v219, v220, v221, v222, v223, v224, v225, v226, v227, v228, v229, v230, v231, v232, v233, v234, v235, v236, v237, v238, v239, v240, v241, v242, v243, v244, v245, v246, v247, v248, v249], []⟩ w0 := by
  have HN := Lib.hid hN
  have HQ := Lib.hid hQ
  have HOP := Lib.hid okP
  have HOQ := Lib.hid okQ
  have HST := Lib.hid (tabD_zero P Q i j)
  clear hN hQ okP okQ
  conv => arg 2; whnf
  rw [← HST.out]
  clear HST
  go_wp2_with fail
  go_loopw [12, 13, 14] (fun v12 v13 v14 wq => ∃ c : Nat, c ≤ 128 ∧ v12 = .string (ansS (tabD P Q i j c)) ∧ v13 = .bool (tabD P Q i j c).isSome ∧ v14 = .int .i64 c ∧ Hid (Below w0.heap.size w0 wq)) (fun _ _ v14 _ => (128 - intOf v14).toNat)
  case atStart => exact ⟨0, by omega, rfl, rfl, rfl, Lib.hid (Below.refl _ _)⟩
  case round =>
    obtain ⟨c, hc, rfl, rfl, rfl, HB⟩ := hrel
    by_cases h : c < 128 ∧ i < P.length ∧ j < Q.length
    · obtain ⟨h1, h2, h3⟩ := h
      have e1 : decide ((c : Int) < 128) = true := decide_eq_true (by omega)
      have e2 : decide ((i : Int) < (P.length : Int)) = true := decide_eq_true (by omega)
      have e3 : decide ((j : Int) < (Q.length : Int)) = true := decide_eq_true (by omega)
      go_upto_block 5 with fail
      clear e1 e2 e3
      refine rc_char lP lQ (HN.out.mono HB.out) h2 h3 h1 ?_
      intro u15 u16 u17 u18 u141 u142 u143 u144 u145 u146 u147 u148 u149 u150 u151 u152 u153 u154 u155 u156 u157 u158 u159 u160 u161 u162 u163 u164 u165 u166 u167 u168 u169 u170 u171 u172 u173 u174 u175 u176 u177 u178 u179 u180 u181 u182 u183 u184 u185 u186 u187 u188 u189 u190 u191 u192 u193 u194 u195 u196 u197 u198 u199 u200 u201 u202 u203 u204 u205 u206 u207 u208 u209 u210 u211 u212 u213 u214 u215 u216 u217 u218 u219 u220 u221 u222 u223 u224 u225 w5 hb
      go_wp2_with fail
      go_roundw
      case measure => simp [intOf]; omega
      case rel => exact ⟨c + 1, by omega, rfl, rfl, by go_num, Lib.hid (HB.out.trans (hb.mono HB.out.size))⟩
    · have hE := tabD_end HOP.out HOQ.out hi hj hc h
      rw [hE]
      clear hE
      by_cases h1 : c < 128
      · have e1 : decide ((c : Int) < 128) = true := decide_eq_true (by omega)
        by_cases h2 : i < P.length
        · have e2 : decide ((i : Int) < (P.length : Int)) = true := decide_eq_true (by omega)
          have e3 : decide ((j : Int) < (Q.length : Int)) = false := decide_eq_false (by omega)
          have e4 : ¬ j < Q.length := by omega
          clear h
          go_wp2_with fail
          exact HQ.out _ _ _ _ _ _ _ _ _ _ _ _ _ _ _ _ _ _ _ _ _ _ _ _ _ _ _ _ _ _ _ _ _ _ _ _ _ _ _ _ _ _ _ _ _ _ _ _ _ _ _ _ _ _ _ _ _ _ _ _ _ _ _ _ _ _ _ _ _ _ _ _ _ _ _ _ _ _ _ _ _ _ _ _ _ _ _ _ _ _ _ _ _ _ _ _ _ _ _ _ _ _ _ _ _ HB.out
        · have e2 : decide ((i : Int) < (P.length : Int)) = false := decide_eq_false (by omega)
          clear h
          go_wp2_with fail
          exact HQ.out _ _ _ _ _ _ _ _ _ _ _ _ _ _ _ _ _ _ _ _ _ _ _ _ _ _ _ _ _ _ _ _ _ _ _ _ _ _ _ _ _ _ _ _ _ _ _ _ _ _ _ _ _ _ _ _ _ _ _ _ _ _ _ _ _ _ _ _ _ _ _ _ _ _ _ _ _ _ _ _ _ _ _ _ _ _ _ _ _ _ _ _ _ _ _ _ _ _ _ _ _ _ _ _ _ HB.out
      · have e1 : decide ((c : Int) < 128) = false := decide_eq_false (by omega)
        clear h
        go_wp2_with fail
        exact HQ.out _ _ _ _ _ _ _ _ _ _ _ _ _ _ _ _ _ _ _ _ _ _ _ _ _ _ _ _ _ _ _ _ _ _ _ _ _ _ _ _ _ _ _ _ _ _ _ _ _ _ _ _ _ _ _ _ _ _ _ _ _ _ _ _ _ _ _ _ _ _ _ _ _ _ _ _ _ _ _ _ _ _ _ _ _ _ _ _ _ _ _ _ _ _ _ _ _ _ _ _ _ _ _ _ _ HB.out

end Go.Proofs.YtgnmanmlnbidfaaDoor
