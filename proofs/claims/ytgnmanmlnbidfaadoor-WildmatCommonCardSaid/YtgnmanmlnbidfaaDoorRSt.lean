/- Wildmat: the reference's Common, in parts: the stars at a node, and its store. -/
import Derived.Test.YtgnmanmlnbidfaaDoorRChr
namespace Go.Proofs.YtgnmanmlnbidfaaDoor
open Go.RowKit

set_option maxRecDepth 100000 in
set_option maxHeartbeats 8000000 in
theorem rc_starP {v0 v1 v4 v5 v14 v15 v16 v17 v18 v19 v20 v21 v22 v23 v24 v25 v26 v27 v28 v29 v30 v31 v32 v33 v34 v35 v36 v37 v38 v39 v40 v41 v42 v43 v44 v45 v46 v47 v48 v49 v50 v51 v52 v53 v54 v55 v56 v57 v58 v59 v60 v61 v62 v63 v64 v65 v66 v67 v68 v69 v70 v71 v72 v73 v74 v75 v76 v77 v78 v79 v80 v81 v82 v83 v84 v85 v86 v87 v88 v89 v90 v91 v92 v93 v94 v95 v96 v97 v98 v99 v100 v101 v102 v103 v104 v105 v106 v107 v108 v109 v110 v111 v112 v113 v114 v115 v116 v117 v118 v119 v120 v121 v122 v123 v124 v125 v126 v127 v128 v129 v130 v131 v132 v133 v134 v135 v136 v137 v138 v139 v140 v141 v142 v143 v144 v145 v146 v147 v148 v149 v150 v151 v152 v153 v154 v155 v156 v157 v158 v159 v160 v161 v162 v163 v164 v165 v166 v167 v168 v169 v170 v171 v172 v173 v174 v175 v176 v177 v178 v179 v180 v181 v182 v183 v184 v185 v186 v187 v188 v189 v190 v191 v192 v193 v194 v195 v196 v197 v198 v199 v200 v201 v202 v203 v204 v205 v206 v207 v208 v209 v210 v211 v212 v213 v214 v215 v216 v217 v218 v219 v220 v221 v222 v223 v224 v225 v226 v227 v228 v229 v230 v231 v232 v233 v234 v235 v236 v237 v238 v239 v240 v241 v242 v243 v244 v245 v246 v247 v248 v249 : Value} {Q' : Exit → Act → World → Prop} {P Q : List El} {AP AQ : Option Addr} {cp cq pb qb ob i j : Nat} {w0 : World} (lP : P.length ≤ 80) (lQ : Q.length ≤ 80) (hN : NodeIn P Q AP AQ cp cq pb qb ob i j w0) (hi : i ≤ P.length) (hj : j ≤ Q.length)
    (hQ : ∀ (u61 u62 u63 u64 u65 u66 u67 u68 u69 u70 u71 u72 u73 u74 u75 u76 u77 u78 u79 u80 u81 u82 u83 u84 u85 u86 u87 u88 u89 u90 u91 u92 u93 : Value) (w' : World), Below w0.heap.size w0 w' → Q' .normal ⟨#[v0, v1, .pointer (some ⟨pb, 0, none⟩), .pointer (some ⟨qb, 0, none⟩), v4, v5, .int .i64 P.length, .int .i64 Q.length, .slice (some ⟨ob, 0, none⟩) (P.length + 1) (P.length + 1), .slice (some ⟨ob + 1, 0, none⟩) (P.length + 1) (P.length + 1), .int .i64 i, .int .i64 j, .string (ansS (tab1 P Q i j)), .bool (tab1 P Q i j).isSome, v14, v15, v16, v17, v18, v19, v20, v21, v22, v23, v24, v25, v26, v27, v28, v29, v30, v31, v32, v33, v34, v35, v36, v37, v38, v39, v40, v41, v42, v43, v44, v45, v46, v47, v48, v49, v50, v51, v52, v53, v54, v55, v56, v57, v58, v59, v60, u61, u62, u63, u64, u65, u66, u67, u68, u69, u70, u71, u72, u73, u74, u75, u76, u77, u78, u79, u80, u81, u82, u83, u84, u85, u86, u87, u88, u89, u90, u91, u92, u93, v94, v95, v96, v97, v98, v99, v100, v101, v102, v103, v104, v105, v106, v107, v108, v109, v110, v111, v112, v113, v114, v115, v116, v117, v118, v119, v120, v121, v122, v123, v124, v125, v126, v127, v128, v129, v130, v131, v132, v133, v134, v135, v136, v137, v138, v139, v140, v141, v142, v143, v144, v145, v146, v147, v148, v149, v150, v151, v152, v153, v154, v155, v156, v157, v158, v159, v160, v161, v162, v163, v164, v165, v166, v167, v168, v169, v170, v171, v172, v173, v174, v175, v176, v177, v178, v179, v180, v181, v182, v183, v184, v185, v186, v187, v188, v189, v190, v191, v192, v193, v194, v195, v196, v197, v198, v199, v200, v201, v202, v203, v204, v205, v206, v207, v208, v209, v210, v211, v212, v213, v214, v215, v216, v217, v218, v219, v220, v221, v222, v223, v224, v225, v226, v227, v228, v229, v230, v231, v232, v233, v234, v235, v236, v237, v238, v239, v240, v241, v242, v243, v244, v245, v246, v247, v248, v249], []⟩ w') :
    Code.wp Tryd.prog (subC [true, true, true, true, false, true, false, false, true, false, false, true, true, false, false, true, false, false, true, false] (Tryd.f20.body.getD .skip)) Q' ⟨#[v0, v1, .pointer (some ⟨pb, 0, none⟩), .pointer (some ⟨qb, 0, none⟩), v4, v5, .int .i64 P.length, .int .i64 Q.length, .slice (some ⟨ob, 0, none⟩) (P.length + 1) (P.length + 1), .slice (some ⟨ob + 1, 0, none⟩) (P.length + 1) (P.length + 1), .int .i64 i, .int .i64 j, .string (ansS (tab0 P Q i j)), .bool (tab0 P Q i j).isSome, v14, v15, v16, v17, v18, v19, v20, v21, v22, v23, v24, v25, v26, v27, v28, v29, v30, v31, v32, v33, v34, v35, v36, v37, v38, v39, v40, v41, v42, v43, v44, v45, v46, v47, v48, v49, v50, v51, v52, v53, v54, v55, v56, v57, v58, v59, v60, v61, v62, v63, v64, v65, v66, v67, v68, v69, v70, v71, v72, v73, v74, v75, v76, v77, v78, v79, v80, v81, v82, v83, v84, v85, v86, v87, v88, v89, v90, v91, v92, v93, v94, v95, v96, v97, v98, v99, v100, v101, v102, v103, v104, v105, v106, v107, v108, v109, v110, v111, v112, v113, v114, v115, v116, v117, v118, v119, v120, v121, v122, v123, v124, v125, v126, v127, v128, v129, v130, v131, v132, v133, v134, v135, v136, v137, v138, v139, v140, v141, v142, v143, v144, v145, v146, v147, v148, v149, v150, v151, v152, v153, v154, v155, v156, v157, v158, v159, v160, v161, v162, v163, v164, v165, v166, v167, v168, v169, v170, v171, v172, v173, v174, v175, v176, v177, v178, v179, v180, v181, v182, v183, v184, v185, v186, v187, v188, v189, v190, v191, v192, v193, v194, v195, v196, v197, v198, v199, v200, v201, v202, v203, v204, v205, v206, v207, v208, v209, v210, v211, v212, v213, v214, v215, v216, v217, v218, v219, v220, v221, v222, v223, v224, v225, v226, v227, v228, v229, v230, v231, v232, v233, v234, v235, v236, v237, v238, v239, v240, v241, v242, v243, v244, v245, v246, v247, v248, v249], []⟩ w0 := by
  have HN := Lib.hid hN
  have HQ := Lib.hid hQ
  clear hN hQ
  conv => arg 2; whnf
  by_cases h1 : i < P.length
  · obtain ⟨b, off, hA, g1, g2, _⟩ := HN.out.ep w0 (Below.refl _ _) h1
    rw [hA] at g1
    have e1 : (i : Int) < (P.length : Int) := by omega
    obtain ⟨st, hst⟩ : ∃ st, (elAt P i).isStar = st := ⟨_, rfl⟩
    rw [hst] at g2
    cases st with
    | true =>
      have E3 := Lib.hid (show tab1 P Q i j = best2 (tab0 P Q i j) (TabF P Q (i + 1) j) by rw [tab1, if_pos ⟨h1, hst⟩])
      rw [E3.out] at HQ
      have BQ := fun W => best_q W (good_0 P Q i j) (good_tab lP lQ (i + 1) j) (by omega)
      generalize tab0 P Q i j = o0 at *
      obtain ⟨X, Y, n1, n2, n3, n4⟩ := HN.out.nx w0 j (Below.refl _ _) h1 hj
      generalize TabF P Q (i + 1) j = o1 at *
      have e2 : (i : Int) + 1 < (P.length : Int) + 1 := by omega
      have e3 : (j : Int) < (Q.length : Int) + 1 := by omega
      clear hst E3
      subst hA
      go_upto_region 13 with fail
      have hw2 := wraps_i64 ((i : Int) + 1) (by omega) (by omega)
      go_quiet ((go_at_call 42; exact Calls.quiet_of_same (BQ _)))
      clear hw2
      go_wp2_with fail
      exact HQ.out _ _ _ _ _ _ _ _ _ _ _ _ _ _ _ _ _ _ _ _ _ _ _ _ _ _ _ _ _ _ _ _ _ _ (below_drewN (Below.refl _ _) _)
    | false =>
      have E3 := Lib.hid (show tab1 P Q i j = tab0 P Q i j by rw [tab1, if_neg (fun h => by rw [hst] at h; cases h.2)])
      rw [E3.out] at HQ
      clear hst E3
      subst hA
      go_wp2_with fail
      exact HQ.out _ _ _ _ _ _ _ _ _ _ _ _ _ _ _ _ _ _ _ _ _ _ _ _ _ _ _ _ _ _ _ _ _ _ (Below.refl _ _)
  · have e1 : decide ((i : Int) < (P.length : Int)) = false := decide_eq_false (by omega)
    have E3 := Lib.hid (show tab1 P Q i j = tab0 P Q i j by rw [tab1, if_neg (fun h => h1 h.1)])
    rw [E3.out] at HQ
    clear E3
    go_wp2_with fail
    exact HQ.out _ _ _ _ _ _ _ _ _ _ _ _ _ _ _ _ _ _ _ _ _ _ _ _ _ _ _ _ _ _ _ _ _ _ (Below.refl _ _)

set_option maxRecDepth 100000 in
set_option maxHeartbeats 8000000 in
theorem rc_starQ {v0 v1 v4 v5 v14 v15 v16 v17 v18 v19 v20 v21 v22 v23 v24 v25 v26 v27 v28 v29 v30 v31 v32 v33 v34 v35 v36 v37 v38 v39 v40 v41 v42 v43 v44 v45 v46 v47 v48 v49 v50 v51 v52 v53 v54 v55 v56 v57 v58 v59 v60 v61 v62 v63 v64 v65 v66 v67 v68 v69 v70 v71 v72 v73 v74 v75 v76 v77 v78 v79 v80 v81 v82 v83 v84 v85 v86 v87 v88 v89 v90 v91 v92 v93 v94 v95 v96 v97 v98 v99 v100 v101 v102 v103 v104 v105 v106 v107 v108 v109 v110 v111 v112 v113 v114 v115 v116 v117 v118 v119 v120 v121 v122 v123 v124 v125 v126 v127 v128 v129 v130 v131 v132 v133 v134 v135 v136 v137 v138 v139 v140 v141 v142 v143 v144 v145 v146 v147 v148 v149 v150 v151 v152 v153 v154 v155 v156 v157 v158 v159 v160 v161 v162 v163 v164 v165 v166 v167 v168 v169 v170 v171 v172 v173 v174 v175 v176 v177 v178 v179 v180 v181 v182 v183 v184 v185 v186 v187 v188 v189 v190 v191 v192 v193 v194 v195 v196 v197 v198 v199 v200 v201 v202 v203 v204 v205 v206 v207 v208 v209 v210 v211 v212 v213 v214 v215 v216 v217 v218 v219 v220 v221 v222 v223 v224 v225 v226 v227 v228 v229 v230 v231 v232 v233 v234 v235 v236 v237 v238 v239 v240 v241 v242 v243 v244 v245 v246 v247 v248 v249 : Value} {Q' : Exit → Act → World → Prop} {P Q : List El} {AP AQ : Option Addr} {cp cq pb qb ob i j : Nat} {w0 : World} (lP : P.length ≤ 80) (lQ : Q.length ≤ 80) (hN : NodeIn P Q AP AQ cp cq pb qb ob i j w0) (hi : i ≤ P.length) (hj : j ≤ Q.length)
    (hQ : ∀ (u94 u95 u96 u97 u98 u99 u100 u101 u102 u103 u104 u105 u106 u107 u108 u109 u110 u111 u112 u113 u114 u115 u116 u117 u118 u119 u120 u121 u122 u123 u124 u125 u126 : Value) (w' : World), Below w0.heap.size w0 w' → Q' .normal ⟨#[v0, v1, .pointer (some ⟨pb, 0, none⟩), .pointer (some ⟨qb, 0, none⟩), v4, v5, .int .i64 P.length, .int .i64 Q.length, .slice (some ⟨ob, 0, none⟩) (P.length + 1) (P.length + 1), .slice (some ⟨ob + 1, 0, none⟩) (P.length + 1) (P.length + 1), .int .i64 i, .int .i64 j, .string (ansS (tab2 P Q i j)), .bool (tab2 P Q i j).isSome, v14, v15, v16, v17, v18, v19, v20, v21, v22, v23, v24, v25, v26, v27, v28, v29, v30, v31, v32, v33, v34, v35, v36, v37, v38, v39, v40, v41, v42, v43, v44, v45, v46, v47, v48, v49, v50, v51, v52, v53, v54, v55, v56, v57, v58, v59, v60, v61, v62, v63, v64, v65, v66, v67, v68, v69, v70, v71, v72, v73, v74, v75, v76, v77, v78, v79, v80, v81, v82, v83, v84, v85, v86, v87, v88, v89, v90, v91, v92, v93, u94, u95, u96, u97, u98, u99, u100, u101, u102, u103, u104, u105, u106, u107, u108, u109, u110, u111, u112, u113, u114, u115, u116, u117, u118, u119, u120, u121, u122, u123, u124, u125, u126, v127, v128, v129, v130, v131, v132, v133, v134, v135, v136, v137, v138, v139, v140, v141, v142, v143, v144, v145, v146, v147, v148, v149, v150, v151, v152, v153, v154, v155, v156, v157, v158, v159, v160, v161, v162, v163, v164, v165, v166, v167, v168, v169, v170, v171, v172, v173, v174, v175, v176, v177, v178, v179, v180, v181, v182, v183, v184, v185, v186, v187, v188, v189, v190, v191, v192, v193, v194, v195, v196, v197, v198, v199, v200, v201, v202, v203, v204, v205, v206, v207, v208, v209, v210, v211, v212, v213, v214, v215, v216, v217, v218, v219, v220, v221, v222, v223, v224, v225, v226, v227, v228, v229, v230, v231, v232, v233, v234, v235, v236, v237, v238, v239, v240, v241, v242, v243, v244, v245, v246, v247, v248, v249], []⟩ w') :
    Code.wp Tryd.prog (subC [true, true, true, true, false, true, false, false, true, false, false, true, true, false, false, true, false, false, true, true, false] (Tryd.f20.body.getD .skip)) Q' ⟨#[v0, v1, .pointer (some ⟨pb, 0, none⟩), .pointer (some ⟨qb, 0, none⟩), v4, v5, .int .i64 P.length, .int .i64 Q.length, .slice (some ⟨ob, 0, none⟩) (P.length + 1) (P.length + 1), .slice (some ⟨ob + 1, 0, none⟩) (P.length + 1) (P.length + 1), .int .i64 i, .int .i64 j, .string (ansS (tab1 P Q i j)), .bool (tab1 P Q i j).isSome, v14, v15, v16, v17, v18, v19, v20, v21, v22, v23, v24, v25, v26, v27, v28, v29, v30, v31, v32, v33, v34, v35, v36, v37, v38, v39, v40, v41, v42, v43, v44, v45, v46, v47, v48, v49, v50, v51, v52, v53, v54, v55, v56, v57, v58, v59, v60, v61, v62, v63, v64, v65, v66, v67, v68, v69, v70, v71, v72, v73, v74, v75, v76, v77, v78, v79, v80, v81, v82, v83, v84, v85, v86, v87, v88, v89, v90, v91, v92, v93, v94, v95, v96, v97, v98, v99, v100, v101, v102, v103, v104, v105, v106, v107, v108, v109, v110, v111, v112, v113, v114, v115, v116, v117, v118, v119, v120, v121, v122, v123, v124, v125, v126, v127, v128, v129, v130, v131, v132, v133, v134, v135, v136, v137, v138, v139, v140, v141, v142, v143, v144, v145, v146, v147, v148, v149, v150, v151, v152, v153, v154, v155, v156, v157, v158, v159, v160, v161, v162, v163, v164, v165, v166, v167, v168, v169, v170, v171, v172, v173, v174, v175, v176, v177, v178, v179, v180, v181, v182, v183, v184, v185, v186, v187, v188, v189, v190, v191, v192, v193, v194, v195, v196, v197, v198, v199, v200, v201, v202, v203, v204, v205, v206, v207, v208, v209, v210, v211, v212, v213, v214, v215, v216, v217, v218, v219, v220, v221, v222, v223, v224, v225, v226, v227, v228, v229, v230, v231, v232, v233, v234, v235, v236, v237, v238, v239, v240, v241, v242, v243, v244, v245, v246, v247, v248, v249], []⟩ w0 := by
  have HN := Lib.hid hN
  have HQ := Lib.hid hQ
  clear hN hQ
  conv => arg 2; whnf
  by_cases h1 : j < Q.length
  · obtain ⟨b, off, hA, g1, g2, _⟩ := HN.out.eq w0 (Below.refl _ _) h1
    rw [hA] at g1
    have e1 : (j : Int) < (Q.length : Int) := by omega
    obtain ⟨st, hst⟩ : ∃ st, (elAt Q j).isStar = st := ⟨_, rfl⟩
    rw [hst] at g2
    cases st with
    | true =>
      have E3 := Lib.hid (show tab2 P Q i j = best2 (tab1 P Q i j) (TabF P Q i (j + 1)) by rw [tab2, if_pos ⟨h1, hst⟩])
      rw [E3.out] at HQ
      have BQ := fun W => best_q W (good_1 lP lQ i j) (good_tab lP lQ i (j + 1)) (by omega)
      generalize tab1 P Q i j = o0 at *
      obtain ⟨X, Y, n1, n2, n3, n4⟩ := HN.out.th w0 (Below.refl _ _) h1
      generalize TabF P Q i (j + 1) = o1 at *
      have e2 : (i : Int) < (P.length : Int) + 1 := by omega
      have e3 : (j : Int) + 1 < (Q.length : Int) + 1 := by omega
      clear hst E3
      subst hA
      go_upto_region 15 with fail
      have hw2 := wraps_i64 ((j : Int) + 1) (by omega) (by omega)
      go_quiet ((go_at_call 42; exact Calls.quiet_of_same (BQ _)))
      clear hw2
      go_wp2_with fail
      exact HQ.out _ _ _ _ _ _ _ _ _ _ _ _ _ _ _ _ _ _ _ _ _ _ _ _ _ _ _ _ _ _ _ _ _ _ (below_drewN (Below.refl _ _) _)
    | false =>
      have E3 := Lib.hid (show tab2 P Q i j = tab1 P Q i j by rw [tab2, if_neg (fun h => by rw [hst] at h; cases h.2)])
      rw [E3.out] at HQ
      clear hst E3
      subst hA
      go_wp2_with fail
      exact HQ.out _ _ _ _ _ _ _ _ _ _ _ _ _ _ _ _ _ _ _ _ _ _ _ _ _ _ _ _ _ _ _ _ _ _ (Below.refl _ _)
  · have e1 : decide ((j : Int) < (Q.length : Int)) = false := decide_eq_false (by omega)
    have E3 := Lib.hid (show tab2 P Q i j = tab1 P Q i j by rw [tab2, if_neg (fun h => h1 h.1)])
    rw [E3.out] at HQ
    clear E3
    go_wp2_with fail
    exact HQ.out _ _ _ _ _ _ _ _ _ _ _ _ _ _ _ _ _ _ _ _ _ _ _ _ _ _ _ _ _ _ _ _ _ _ (Below.refl _ _)

set_option maxRecDepth 100000 in
set_option maxHeartbeats 8000000 in
theorem rc_store {v0 v1 v2 v3 v4 v5 v6 v7 v14 v15 v16 v17 v18 v19 v20 v21 v22 v23 v24 v25 v26 v27 v28 v29 v30 v31 v32 v33 v34 v35 v36 v37 v38 v39 v40 v41 v42 v43 v44 v45 v46 v47 v48 v49 v50 v51 v52 v53 v54 v55 v56 v57 v58 v59 v60 v61 v62 v63 v64 v65 v66 v67 v68 v69 v70 v71 v72 v73 v74 v75 v76 v77 v78 v79 v80 v81 v82 v83 v84 v85 v86 v87 v88 v89 v90 v91 v92 v93 v94 v95 v96 v97 v98 v99 v100 v101 v102 v103 v104 v105 v106 v107 v108 v109 v110 v111 v112 v113 v114 v115 v116 v117 v118 v119 v120 v121 v122 v123 v124 v125 v126 v127 v128 v129 v130 v131 v132 v133 v134 v135 v136 v137 v138 v139 v140 v141 v142 v143 v144 v145 v146 v147 v148 v149 v150 v151 v152 v153 v154 v155 v156 v157 v158 v159 v160 v161 v162 v163 v164 v165 v166 v167 v168 v169 v170 v171 v172 v173 v174 v175 v176 v177 v178 v179 v180 v181 v182 v183 v184 v185 v186 v187 v188 v189 v190 v191 v192 v193 v194 v195 v196 v197 v198 v199 v200 v201 v202 v203 v204 v205 v206 v207 v208 v209 v210 v211 v212 v213 v214 v215 v216 v217 v218 v219 v220 v221 v222 v223 v224 v225 v226 v227 v228 v229 v230 v231 v232 v233 v234 v235 v236 v237 v238 v239 v240 v241 v242 v243 v244 v245 v246 v247 v248 v249 : Value} {Q' : Exit → Act → World → Prop} {P Q : List El} {ob i j x y : Nat} {s : ByteArray} {q : Bool} {S T : List Value} {w0 : World} (g1 : w0.cell? ⟨ob, i, none⟩ = some (.slice (some ⟨x, 0, none⟩) (Q.length + 1) (Q.length + 1))) (g2 : w0.cell? ⟨ob + 1, i, none⟩ = some (.slice (some ⟨y, 0, none⟩) (Q.length + 1) (Q.length + 1))) (hx : w0.heap[x]? = some (rowB S 9)) (hy : w0.heap[y]? = some (rowB T 4)) (hxy : x ≠ y) (hox : ob + 1 < x) (hoy : ob + 1 < y) (hjS : j < S.length) (hjT : j < T.length) (hi : i ≤ P.length) (hj : j ≤ Q.length)
    (hQ : ∀ (u226 u227 u228 u229 u230 u231 u232 u233 u234 u235 u236 u237 u238 u239 : Value) (w' : World), w' = ((w0.setCell ⟨x, j, none⟩ (.string s)).setCell ⟨y, j, none⟩ (.bool q)).drew → Q' .normal ⟨#[v0, v1, v2, v3, v4, v5, v6, v7, .slice (some ⟨ob, 0, none⟩) (P.length + 1) (P.length + 1), .slice (some ⟨ob + 1, 0, none⟩) (P.length + 1) (P.length + 1), .int .i64 i, .int .i64 j, .string s, .bool q, v14, v15, v16, v17, v18, v19, v20, v21, v22, v23, v24, v25, v26, v27, v28, v29, v30, v31, v32, v33, v34, v35, v36, v37, v38, v39, v40, v41, v42, v43, v44, v45, v46, v47, v48, v49, v50, v51, v52, v53, v54, v55, v56, v57, v58, v59, v60, v61, v62, v63, v64, v65, v66, v67, v68, v69, v70, v71, v72, v73, v74, v75, v76, v77, v78, v79, v80, v81, v82, v83, v84, v85, v86, v87, v88, v89, v90, v91, v92, v93, v94, v95, v96, v97, v98, v99, v100, v101, v102, v103, v104, v105, v106, v107, v108, v109, v110, v111, v112, v113, v114, v115, v116, v117, v118, v119, v120, v121, v122, v123, v124, v125, v126, v127, v128, v129, v130, v131, v132, v133, v134, v135, v136, v137, v138, v139, v140, v141, v142, v143, v144, v145, v146, v147, v148, v149, v150, v151, v152, v153, v154, v155, v156, v157, v158, v159, v160, v161, v162, v163, v164, v165, v166, v167, v168, v169, v170, v171, v172, v173, v174, v175, v176, v177, v178, v179, v180, v181, v182, v183, v184, v185, v186, v187, v188, v189, v190, v191, v192, v193, v194, v195, v196, v197, v198, v199, v200, v201, v202, v203, v204, v205, v206, v207, v208, v209, v210, v211, v212, v213, v214, v215, v216, v217, v218, v219, v220, v221, v222, v223, v224, v225, u226, u227, u228, u229, u230, u231, u232, u233, u234, u235, u236, u237, u238, u239, v240, v241, v242, v243, v244, v245, v246, v247, v248, v249], []⟩ w') :
    Code.wp Tryd.prog (subC [true, true, true, true, false, true, false, false, true, false, false, true, true, false, false, true, false, false, true, true, true, true] (Tryd.f20.body.getD .skip)) Q' ⟨#[v0, v1, v2, v3, v4, v5, v6, v7, .slice (some ⟨ob, 0, none⟩) (P.length + 1) (P.length + 1), .slice (some ⟨ob + 1, 0, none⟩) (P.length + 1) (P.length + 1), .int .i64 i, .int .i64 j, .string s, .bool q, v14, v15, v16, v17, v18, v19, v20, v21, v22, v23, v24, v25, v26, v27, v28, v29, v30, v31, v32, v33, v34, v35, v36, v37, v38, v39, v40, v41, v42, v43, v44, v45, v46, v47, v48, v49, v50, v51, v52, v53, v54, v55, v56, v57, v58, v59, v60, v61, v62, v63, v64, v65, v66, v67, v68, v69, v70, v71, v72, v73, v74, v75, v76, v77, v78, v79, v80, v81, v82, v83, v84, v85, v86, v87, v88, v89, v90, v91, v92, v93, v94, v95, v96, v97, v98, v99, v100, v101, v102, v103, v104, v105, v106, v107, v108, v109, v110, v111, v112, v113, v114, v115, v116, v117, v118, v119, v120, v121, v122, v123, v124, v125, v126, v127, v128, v129, v130, v131, v132, v133, v134, v135, v136, v137, v138, v139, v140, v141, v142, v143, v144, v145, v146, v147, v148, v149, v150, v151, v152, v153, v154, v155, v156, v157, v158, v159, v160, v161, v162, v163, v164, v165, v166, v167, v168, v169, v170, v171, v172, v173, v174, v175, v176, v177, v178, v179, v180, v181, v182, v183, v184, v185, v186, v187, v188, v189, v190, v191, v192, v193, v194, v195, v196, v197, v198, v199, v200, v201, v202, v203, v204, v205, v206, v207, v208, v209, v210, v211, v212, v213, v214, v215, v216, v217, v218, v219, v220, v221, v222, v223, v224, v225, v226, v227, v228, v229, v230, v231, v232, v233, v234, v235, v236, v237, v238, v239, v240, v241, v242, v243, v244, v245, v246, v247, v248, v249], []⟩ w0 := by
  have HQ := Lib.hid hQ
  have hlx := lt_of_block hx
  have hly := lt_of_block hy
  have hx2 : (w0.setCell ⟨x, j, none⟩ (.string s)).heap[y]? = some (rowB T 4) := by rw [Below.heap_setCell _ _ _ _ (by simpa using Ne.symm hxy)]; exact hy
  have d1 : w0.drew.cell? ⟨ob, i, none⟩ = _ := g1
  have d2 : w0.drew.cell? ⟨ob + 1, i, none⟩ = _ := g2
  have d3 : w0.drew.cell? ⟨x, j, none⟩ = _ := rowB_cell hx hjS
  have d4 : w0.drew.frozen? ⟨x, j, none⟩ = false := rowB_free hx j
  have d5 : w0.drew.cell? ⟨y, j, none⟩ = _ := rowB_cell hy hjT
  have d6 : w0.drew.frozen? ⟨y, j, none⟩ = false := rowB_free hy j
  have a1 : (w0.setCell ⟨x, j, none⟩ (.string s)).drew.cell? ⟨ob, i, none⟩ = _ := (cell_other (show ob ≠ x by omega)).trans g1
  have a2 : (w0.setCell ⟨x, j, none⟩ (.string s)).drew.cell? ⟨ob + 1, i, none⟩ = _ := (cell_other (show ob + 1 ≠ x by omega)).trans g2
  have a5 : (w0.setCell ⟨x, j, none⟩ (.string s)).drew.cell? ⟨y, j, none⟩ = _ := rowB_cell hx2 hjT
  have a6 : (w0.setCell ⟨x, j, none⟩ (.string s)).drew.frozen? ⟨y, j, none⟩ = false := rowB_free hx2 j
  have i1 : (i : Int) < (P.length : Int) + 1 := by omega
  have i2 : (j : Int) < (Q.length : Int) + 1 := by omega
  clear hQ hx hy hx2 hlx hly g1 g2
  conv => arg 2; whnf
  refine wp_region_noPanic ?_
  go_region
  all_goals exact HQ.out _ _ _ _ _ _ _ _ _ _ _ _ _ _ _ rfl

end Go.Proofs.YtgnmanmlnbidfaaDoor
