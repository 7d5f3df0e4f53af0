/- Wildmat: the reference's Common, in parts: a row of the table. -/
import Derived.Test.YtgnmanmlnbidfaaDoorRNod
namespace Go.Proofs.YtgnmanmlnbidfaaDoor
open Go.RowKit

set_option maxRecDepth 100000 in
set_option maxHeartbeats 8000000 in
theorem rc_row {v0 v1 v4 v5 v11 v12 v13 v14 v15 v16 v17 v18 v19 v20 v21 v22 v23 v24 v25 v26 v27 v28 v29 v30 v31 v32 v33 v34 v35 v36 v37 v38 v39 v40 v41 v42 v43 v44 v45 v46 v47 v48 v49 v50 v51 v52 v53 v54 v55 v56 v57 v58 v59 v60 v61 v62 v63 v64 v65 v66 v67 v68 v69 v70 v71 v72 v73 v74 v75 v76 v77 v78 v79 v80 v81 v82 v83 v84 v85 v86 v87 v88 v89 v90 v91 v92 v93 v94 v95 v96 v97 v98 v99 v100 v101 v102 v103 v104 v105 v106 v107 v108 v109 v110 v111 v112 v113 v114 v115 v116 v117 v118 v119 v120 v121 v122 v123 v124 v125 v126 v127 v128 v129 v130 v131 v132 v133 v134 v135 v136 v137 v138 v139 v140 v141 v142 v143 v144 v145 v146 v147 v148 v149 v150 v151 v152 v153 v154 v155 v156 v157 v158 v159 v160 v161 v162 v163 v164 v165 v166 v167 v168 v169 v170 v171 v172 v173 v174 v175 v176 v177 v178 v179 v180 v181 v182 v183 v184 v185 v186 v187 v188 v189 v190 v191 v192 v193 v194 v195 v196 v197 v198 v199 v200 v201 v202 v203 v204 v205 v206 v207 v208 v209 v210 v211 v212 v213 v214 v215 v216 v217 v218 v219 v220 v221 v222 v223 v224 v225 v226 v227 v228 v229 v230 v231 v232 v233 v234 v235 v236 v237 v238 v239 v240 v241 v242 v243 v244 v245 v246 v247 v248 v249 : Value} {Q' : Exit → Act → World → Prop} {P Q : List El} {AP AQ : Option Addr} {cp cq pb qb ob i : Nat} {w0 : World} (lP : P.length ≤ 80) (lQ : Q.length ≤ 80) (okP : ∀ e ∈ P, e.ok) (okQ : ∀ e ∈ Q, e.ok) (hi : i ≤ P.length) {V : World} {x y : Nat} (hN : ∀ j W', j ≤ Q.length → Below V.heap.size V W' → W'.heap[x]? = some (rowB (xsF P Q i (j + 1)) 9) → W'.heap[y]? = some (rowB (ysF P Q i (j + 1)) 4) → NodeIn P Q AP AQ cp cq pb qb ob i j W') (hV : Below V.heap.size V w0) (hxV : V.heap.size ≤ x) (hyV : V.heap.size ≤ y) (hsV : ob + 1 < V.heap.size) (hxy : x ≠ y) (c1 : V.cell? ⟨ob, i, none⟩ = some (.slice (some ⟨x, 0, none⟩) (Q.length + 1) (Q.length + 1))) (c2 : V.cell? ⟨ob + 1, i, none⟩ = some (.slice (some ⟨y, 0, none⟩) (Q.length + 1) (Q.length + 1))) (hx : w0.heap[x]? = some (rowB (xsF P Q i (Q.length + 1)) 9)) (hy : w0.heap[y]? = some (rowB (ysF P Q i (Q.length + 1)) 4))
    (hQ : ∀ (u11 u12 u13 u14 u15 u16 u17 u18 u48 u49 u50 u51 u52 u53 u54 u55 u56 u57 u58 u59 u60 u61 u62 u63 u64 u65 u66 u67 u68 u69 u70 u71 u72 u73 u74 u75 u76 u77 u78 u79 u80 u81 u82 u83 u84 u85 u86 u87 u88 u89 u90 u91 u92 u93 u94 u95 u96 u97 u98 u99 u100 u101 u102 u103 u104 u105 u106 u107 u108 u109 u110 u111 u112 u113 u114 u115 u116 u117 u118 u119 u120 u121 u122 u123 u124 u125 u126 u127 u128 u129 u130 u131 u132 u133 u134 u135 u136 u137 u138 u139 u140 u141 u142 u143 u144 u145 u146 u147 u148 u149 u150 u151 u152 u153 u154 u155 u156 u157 u158 u159 u160 u161 u162 u163 u164 u165 u166 u167 u168 u169 u170 u171 u172 u173 u174 u175 u176 u177 u178 u179 u180 u181 u182 u183 u184 u185 u186 u187 u188 u189 u190 u191 u192 u193 u194 u195 u196 u197 u198 u199 u200 u201 u202 u203 u204 u205 u206 u207 u208 u209 u210 u211 u212 u213 u214 u215 u216 u217 u218 u219 u220 u221 u222 u223 u224 u225 u226 u227 u228 u229 u230 u231 u232 u233 u234 u235 u236 u237 u238 u239 : Value) (w' : World), Below V.heap.size V w' ∧ w'.heap[x]? = some (rowB (xsF P Q i 0) 9) ∧ w'.heap[y]? = some (rowB (ysF P Q i 0) 4) → Q' .normal ⟨#[v0, v1, .pointer (some ⟨pb, 0, none⟩), .pointer (some ⟨qb, 0, none⟩), v4, v5, .int .i64 P.length, .int .i64 Q.length, .slice (some ⟨ob, 0, none⟩) (P.length + 1) (P.length + 1), .slice (some ⟨ob + 1, 0, none⟩) (P.length + 1) (P.length + 1), .int .i64 i, u11, u12, u13, u14, u15, u16, u17, u18, v19, v20, v21, v22, v23, v24, v25, v26, v27, v28, v29, v30, v31, v32, v33, v34, v35, v36, v37, v38, v39, v40, v41, v42, v43, v44, v45, v46, v47, u48, u49, u50, u51, u52, u53, u54, u55, u56, u57, u58, u59, u60, u61, u62, u63, u64, u65, u66, u67, u68, u69, u70, u71, u72, u73, u74, u75, u76, u77, u78, u79, u80, u81, u82, u83, u84, u85, u86, u87, u88, u89, u90, u91, u92, u93, u94, u95, u96, u97, u98, u99, u100, u101, u102, u103, u104, u105, u106, u107, u108, u109, u110, u111, u112, u113, u114, u115, u116, u117, u118, u119, u120, u121, u122, u123, u124, u125, u126, u127, u128, u129, u130, u131, u132, u133, u134, u135, u136, u137, u138, u139, u140, u141, u142, u143, u144, u145, u146, u147, u148, u149, u150, u151, u152, u153, u154, u155, u156, u157, u158, u159, u160, u161, u162, u163, u164, u165, u166, u167, u168, u169, u170, u171, u172, u173, u174, u175, u176, u177, u178, u179, u180, u181, u182, u183, u184, u185, u186, u187, u188, u189, u190, u191, u192, u193, u194, u195, u196, u197, u198, u199, u200, u201, u202, u203, u204, u205, u206, u207, u208, u209, u210, u211, u212, u213, u214, u215, u216, u217, u218, u219, u220, u221, u222, u223, u224, u225, u226, u227, u228, u229, u230, u231, u232, u233, u234, u235, u236, u237, u238, u239, v240, v241, v242, v243, v244, v245, v246, v247, v248, v249], []⟩ w') :
    Code.wp Tryd.prog (subC [true, true, true, true, false, true, false, false, true, false, false, true] (Tryd.f20.body.getD .skip)) Q' ⟨#[v0, v1, .pointer (some ⟨pb, 0, none⟩), .pointer (some ⟨qb, 0, none⟩), v4, v5, .int .i64 P.length, .int .i64 Q.length, .slice (some ⟨ob, 0, none⟩) (P.length + 1) (P.length + 1), .slice (some ⟨ob + 1, 0, none⟩) (P.length + 1) (P.length + 1), .int .i64 i, v11, v12, v13, v14, v15, v16, v17, v18, v19, v20, v21, v22, v23, v24, v25, v26, v27, v28, v29, v30, v31, v32, v33, v34, v35, v36, v37, v38, v39, v40, v41, v42, v43, v44, v45, v46, v47, v48, v49, v50, v51, v52, v53, v54, v55, v56, v57, v58, v59, v60, v61, v62, v63, v64, v65, v66, v67, v68, v69, v70, v71, v72, v73, v74, v75, v76, v77, v78, v79, v80, v81, v82, v83, v84, v85, v86, v87, v88, v89, v90, v91, v92, v93, v94, v95, v96, v97, v98, v99, v100, v101, v102, v103, v104, v105, v106, v107, v108, v109, v110, v111, v112, v113, v114, v115, v116, v117, v118, v119, v120, v121, v122, v123, v124, v125, v126, v127, v128, v129, v130, v131, v132, v133, v134, v135, v136, v137, v138, v139, v140, v141, v142, v143, v144, v145, v146, v147, v148, v149, v150, v151, v152, v153, v154, v155, v156, v157, v158, v159, v160, v161, v162, v163, v164, v165, v166, v167, v168, v169, v170, v171, v172, v173, v174, v175, v176, v177, v178, v179, v180, v181, v182, v183, v184, v185, v186, v187, v188, v189, v190, v191, v192, v193, v194, v195, v196, v197, v198, v199, v200, v201, v202, v203, v204, v205, v206, v207, v208, v209, v210, v211, v212, v213, v214, v215, v216, v217, v218, v219, v220, v221, v222, v223, v224, v225, v226, v227, v228, v229, v230, v231, v232, v233, v234, v235, v236, v237, v238, v239, v240, v241, v242, v243, v244, v245, v246, v247, v248, v249], []⟩ w0 := by
  have HN := Lib.hid hN
  have HQ := Lib.hid hQ
  have HV := Lib.hid hV
  have HX := Lib.hid hx
  have HY := Lib.hid hy
  have C1 := Lib.hid c1
  have C2 := Lib.hid c2
  have HOP := Lib.hid okP
  have HOQ := Lib.hid okQ
  clear hN hQ hV hx hy c1 c2 okP okQ
  conv => arg 2; whnf
  dsimp only
  go_wp2_with fail
  go_loopw [11] (fun v11 wq => ∃ (l : Nat) (z : Int), l ≤ Q.length + 1 ∧ z = (l : Int) - 1 ∧ v11 = .int .i64 z ∧ Hid (Below V.heap.size V wq) ∧ Hid (wq.heap[x]? = some (rowB (xsF P Q i l) 9)) ∧ Hid (wq.heap[y]? = some (rowB (ysF P Q i l) 4))) (fun v11 _ => (intOf v11 + 1).toNat)
  case atStart => exact ⟨Q.length + 1, Q.length, by omega, by omega, rfl, HV, HX, HY⟩
  case round =>
    clear HV HX HY
    obtain ⟨l, z, hl, hz, rfl, HV, HX, HY⟩ := hrel
    cases l with
    | zero =>
      obtain rfl : z = -1 := by omega
      clear hz
      go_wp2_with fail
      exact HQ.out _ _ _ _ _ _ _ _ _ _ _ _ _ _ _ _ _ _ _ _ _ _ _ _ _ _ _ _ _ _ _ _ _ _ _ _ _ _ _ _ _ _ _ _ _ _ _ _ _ _ _ _ _ _ _ _ _ _ _ _ _ _ _ _ _ _ _ _ _ _ _ _ _ _ _ _ _ _ _ _ _ _ _ _ _ _ _ _ _ _ _ _ _ _ _ _ _ _ _ _ _ _ _ _ _ _ _ _ _ _ _ _ _ _ _ _ _ _ _ _ _ _ _ _ _ _ _ _ _ _ _ _ _ _ _ _ _ _ _ _ _ _ _ _ _ _ _ _ _ _ _ _ _ _ _ _ _ _ _ _ _ _ _ _ _ _ _ _ _ _ _ _ _ _ _ _ _ _ _ _ _ _ _ _ _ _ _ _ _ _ _ _ _ _ _ _ _ _ _ _ _ ⟨HV.out, HX.out, HY.out⟩
    | succ j =>
      obtain rfl : z = (j : Int) := by omega
      clear hz
      go_upto_block 3 with fail
      refine rc_node lP lQ (HN.out j _ (by omega) HV.out HX.out HY.out) HOP.out HOQ.out hi (by omega) HV.out hxV hyV hsV hxy C1.out C2.out HX.out HY.out ?_
      intro u12 u13 u14 u15 u16 u17 u18 u53 u54 u55 u56 u57 u58 u59 u60 u61 u62 u63 u64 u65 u66 u67 u68 u69 u70 u71 u72 u73 u74 u75 u76 u77 u78 u79 u80 u81 u82 u83 u84 u85 u86 u87 u88 u89 u90 u91 u92 u93 u94 u95 u96 u97 u98 u99 u100 u101 u102 u103 u104 u105 u106 u107 u108 u109 u110 u111 u112 u113 u114 u115 u116 u117 u118 u119 u120 u121 u122 u123 u124 u125 u126 u127 u128 u129 u130 u131 u132 u133 u134 u135 u136 u137 u138 u139 u140 u141 u142 u143 u144 u145 u146 u147 u148 u149 u150 u151 u152 u153 u154 u155 u156 u157 u158 u159 u160 u161 u162 u163 u164 u165 u166 u167 u168 u169 u170 u171 u172 u173 u174 u175 u176 u177 u178 u179 u180 u181 u182 u183 u184 u185 u186 u187 u188 u189 u190 u191 u192 u193 u194 u195 u196 u197 u198 u199 u200 u201 u202 u203 u204 u205 u206 u207 u208 u209 u210 u211 u212 u213 u214 u215 u216 u217 u218 u219 u220 u221 u222 u223 u224 u225 u226 u227 u228 u229 u230 u231 u232 u233 u234 u235 u236 u237 u238 u239 w5 ⟨b5, x5, y5⟩
      have B5 := Lib.hid b5
      have X5 := Lib.hid x5
      have Y5 := Lib.hid y5
      clear b5 x5 y5 HV HX HY
      go_wp2_with fail
      go_roundw
      case measure => simp [intOf] <;> omega
      case rel => exact ⟨j, (j : Int) - 1, by omega, rfl, rfl, B5, X5, Y5⟩

end Go.Proofs.YtgnmanmlnbidfaaDoor
