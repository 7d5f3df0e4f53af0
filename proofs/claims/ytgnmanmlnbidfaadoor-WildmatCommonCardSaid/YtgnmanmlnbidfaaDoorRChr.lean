/- Wildmat: the reference's Common, in parts: one character at a node of the table. -/
import Derived.Test.YtgnmanmlnbidfaaDoorRTab
import Derived.Deep.RegionWith
import Derived.Laws.BytesArg
import Derived.Deep.RegionHeld3
namespace Go.Proofs.YtgnmanmlnbidfaaDoor
open Go.RowKit

/-- A part of a code. -/
noncomputable def subC : List Bool → Code → Code
  | [], c => c
  | false :: p, .seq a _ => subC p a
  | true :: p, .seq _ b => subC p b
  | false :: p, .cond _ a _ => subC p a
  | true :: p, .cond _ _ b => subC p b
  | _ :: p, .block _ c => subC p c
  | _ :: p, .loop c => subC p c
  | _ :: _, c => c

theorem wrap8 (c : Nat) (hc : c < 128) : IntKind.u8.wrap (c : Int) = (c : Int) := by
  have : ∀ k : Nat, k < 128 → IntKind.u8.wrap (k : Int) = (k : Int) := by decide +kernel
  exact this c hc

/-- A string of one byte. -/
theorem conv_cell (c : Nat) (hc : c < 128) (W : World) (b : Nat) (h : W.cell? ⟨b, 0, none⟩ = some (.int .u8 (IntKind.u8.wrap c))) : (convert 93 9 (.slice (some ⟨b, 0, none⟩) 1 1)).run Tryd.prog W = .ok (.string (bytesOf [c])) W := by
  have h := run_convert_bytes_arg (P := Tryd.prog) W 93 5 Tryd.underlying93 Tryd.underlying5 b 0 1 1 [(c : Int)] rfl (fun i hi => by
    obtain rfl : i = 0 := by omega
    rw [wrap8 c hc] at h
    exact h) 9 Tryd.underlying9
  rw [h]
  simp [strOfNums, bytesOf]

theorem byte_cell (c : Nat) (w : World) : (w.alloc (.cells #[.int .u8 (IntKind.u8.wrap c)] 5)).cell? ⟨w.heap.size, 0, none⟩ = some (.int .u8 (IntKind.u8.wrap c)) := by
  simp only [World.cell?, heap_alloc_new]
  rfl

/-- What a node of the table may read. -/
structure NodeIn (P Q : List El) (AP AQ : Option Addr) (cp cq pb qb ob i j : Nat) (w0 : World) : Prop where
  nx : ∀ W' c, Below w0.heap.size w0 W' → i < P.length → c ≤ Q.length → ∃ X Y, W'.cell? ⟨ob, i + 1, none⟩ = some (.slice (some ⟨X, 0, none⟩) (Q.length + 1) (Q.length + 1)) ∧ W'.cell? ⟨ob + 1, i + 1, none⟩ = some (.slice (some ⟨Y, 0, none⟩) (Q.length + 1) (Q.length + 1)) ∧ W'.cell? ⟨X, c, none⟩ = some (.string (ansS (TabF P Q (i + 1) c))) ∧ W'.cell? ⟨Y, c, none⟩ = some (.bool (TabF P Q (i + 1) c).isSome)
  th : ∀ W', Below w0.heap.size w0 W' → j < Q.length → ∃ X Y, W'.cell? ⟨ob, i, none⟩ = some (.slice (some ⟨X, 0, none⟩) (Q.length + 1) (Q.length + 1)) ∧ W'.cell? ⟨ob + 1, i, none⟩ = some (.slice (some ⟨Y, 0, none⟩) (Q.length + 1) (Q.length + 1)) ∧ W'.cell? ⟨X, j + 1, none⟩ = some (.string (ansS (TabF P Q i (j + 1)))) ∧ W'.cell? ⟨Y, j + 1, none⟩ = some (.bool (TabF P Q i (j + 1)).isSome)
  ep : ∀ W', Below w0.heap.size w0 W' → i < P.length → ∃ b off, AP = some ⟨b, off, none⟩ ∧ W'.cell? ⟨pb, 1, none⟩ = some (.slice AP P.length cp) ∧ W'.cell? ⟨b, off + i * 129, none⟩ = some (.bool (elAt P i).isStar) ∧ ∀ c, c < 128 → W'.cell? ⟨b, off + i * 129 + 1 + c, none⟩ = some (.bool ((elAt P i).bit c))
  eq : ∀ W', Below w0.heap.size w0 W' → j < Q.length → ∃ b off, AQ = some ⟨b, off, none⟩ ∧ W'.cell? ⟨qb, 1, none⟩ = some (.slice AQ Q.length cq) ∧ W'.cell? ⟨b, off + j * 129, none⟩ = some (.bool (elAt Q j).isStar) ∧ ∀ c, c < 128 → W'.cell? ⟨b, off + j * 129 + 1 + c, none⟩ = some (.bool ((elAt Q j).bit c))

theorem NodeIn.mono {P Q : List El} {AP AQ : Option Addr} {cp cq pb qb ob i j : Nat} {w0 w1 : World} (h : NodeIn P Q AP AQ cp cq pb qb ob i j w0) (hb : Below w0.heap.size w0 w1) : NodeIn P Q AP AQ cp cq pb qb ob i j w1 :=
  ⟨fun W' c h1 => h.nx W' c (hb.trans (h1.mono hb.size)), fun W' h1 => h.th W' (hb.trans (h1.mono hb.size)), fun W' h1 => h.ep W' (hb.trans (h1.mono hb.size)), fun W' h1 => h.eq W' (hb.trans (h1.mono hb.size))⟩

set_option maxRecDepth 100000 in
set_option maxHeartbeats 8000000 in
theorem rc_best {v0 v1 v2 v3 v4 v5 v6 v7 v10 v11 v15 v16 v19 v20 v21 v22 v23 v24 v25 v26 v27 v28 v29 v30 v31 v32 v33 v34 v35 v36 v37 v38 v39 v40 v41 v42 v43 v44 v45 v46 v47 v48 v49 v50 v51 v52 v53 v54 v55 v56 v57 v58 v59 v60 v61 v62 v63 v64 v65 v66 v67 v68 v69 v70 v71 v72 v73 v74 v75 v76 v77 v78 v79 v80 v81 v82 v83 v84 v85 v86 v87 v88 v89 v90 v91 v92 v93 v94 v95 v96 v97 v98 v99 v100 v101 v102 v103 v104 v105 v106 v107 v108 v109 v110 v111 v112 v113 v114 v115 v116 v117 v118 v119 v120 v121 v122 v123 v124 v125 v126 v127 v128 v129 v130 v131 v132 v133 v134 v135 v136 v137 v138 v139 v140 v141 v142 v143 v144 v145 v146 v147 v148 v149 v150 v151 v152 v153 v154 v155 v156 v157 v158 v159 v160 v161 v162 v163 v164 v165 v166 v167 v168 v169 v170 v171 v172 v173 v174 v175 v176 v177 v178 v179 v180 v181 v182 v183 v184 v185 v186 v187 v188 v189 v190 v191 v192 v193 v194 v195 v196 v197 v198 v199 v200 v201 v202 v203 v204 v205 v206 v207 v208 v209 v210 v211 v212 v213 v214 v215 v216 v217 v218 v219 v220 v221 v222 v223 v224 v225 v226 v227 v228 v229 v230 v231 v232 v233 v234 v235 v236 v237 v238 v239 v240 v241 v242 v243 v244 v245 v246 v247 v248 v249 : Value} {Q' : Exit → Act → World → Prop} {P Q : List El} {o o2 : Option (List Nat)} {ob r cc X Y c : Nat} {w0 : World} (g1 : w0.cell? ⟨ob, r, none⟩ = some (.slice (some ⟨X, 0, none⟩) (Q.length + 1) (Q.length + 1))) (g2 : w0.cell? ⟨ob + 1, r, none⟩ = some (.slice (some ⟨Y, 0, none⟩) (Q.length + 1) (Q.length + 1))) (g3 : w0.cell? ⟨X, cc, none⟩ = some (.string (ansS o2))) (g4 : w0.cell? ⟨Y, cc, none⟩ = some (.bool o2.isSome)) (ho : Good o 161) (ho2 : Good o2 161) (hr : r ≤ P.length) (hcc : cc ≤ Q.length) (hc : c < 128)
    (hQ : ∀ (u201 u202 u203 u204 u205 u206 u207 u208 u209 u210 u211 u212 u213 u214 u215 u216 u217 u218 u219 u220 u221 u222 u223 u224 u225 : Value) (w' : World), Below w0.heap.size w0 w' → Q' .normal ⟨#[v0, v1, v2, v3, v4, v5, v6, v7, .slice (some ⟨ob, 0, none⟩) (P.length + 1) (P.length + 1), .slice (some ⟨ob + 1, 0, none⟩) (P.length + 1) (P.length + 1), v10, v11, .string (ansS (best2 o (o2.map (c :: ·)))), .bool (best2 o (o2.map (c :: ·))).isSome, .int .i64 c, v15, v16, .int .i64 r, .int .i64 cc, v19, v20, v21, v22, v23, v24, v25, v26, v27, v28, v29, v30, v31, v32, v33, v34, v35, v36, v37, v38, v39, v40, v41, v42, v43, v44, v45, v46, v47, v48, v49, v50, v51, v52, v53, v54, v55, v56, v57, v58, v59, v60, v61, v62, v63, v64, v65, v66, v67, v68, v69, v70, v71, v72, v73, v74, v75, v76, v77, v78, v79, v80, v81, v82, v83, v84, v85, v86, v87, v88, v89, v90, v91, v92, v93, v94, v95, v96, v97, v98, v99, v100, v101, v102, v103, v104, v105, v106, v107, v108, v109, v110, v111, v112, v113, v114, v115, v116, v117, v118, v119, v120, v121, v122, v123, v124, v125, v126, v127, v128, v129, v130, v131, v132, v133, v134, v135, v136, v137, v138, v139, v140, v141, v142, v143, v144, v145, v146, v147, v148, v149, v150, v151, v152, v153, v154, v155, v156, v157, v158, v159, v160, v161, v162, v163, v164, v165, v166, v167, v168, v169, v170, v171, v172, v173, v174, v175, v176, v177, v178, v179, v180, v181, v182, v183, v184, v185, v186, v187, v188, v189, v190, v191, v192, v193, v194, v195, v196, v197, v198, v199, v200, u201, u202, u203, u204, u205, u206, u207, u208, u209, u210, u211, u212, u213, u214, u215, u216, u217, u218, u219, u220, u221, u222, u223, u224, u225, v226, v227, v228, v229, v230, v231, v232, v233, v234, v235, v236, v237, v238, v239, v240, v241, v242, v243, v244, v245, v246, v247, v248, v249], []⟩ w') :
    Code.wp Tryd.prog (subC [true, true, true, true, false, true, false, false, true, false, false, true, true, false, false, true, false, false, true, true, true, false, true, false, false, true, false, false, true, true, true, true, true] (Tryd.f20.body.getD .skip)) Q' ⟨#[v0, v1, v2, v3, v4, v5, v6, v7, .slice (some ⟨ob, 0, none⟩) (P.length + 1) (P.length + 1), .slice (some ⟨ob + 1, 0, none⟩) (P.length + 1) (P.length + 1), v10, v11, .string (ansS o), .bool o.isSome, .int .i64 c, v15, v16, .int .i64 r, .int .i64 cc, v19, v20, v21, v22, v23, v24, v25, v26, v27, v28, v29, v30, v31, v32, v33, v34, v35, v36, v37, v38, v39, v40, v41, v42, v43, v44, v45, v46, v47, v48, v49, v50, v51, v52, v53, v54, v55, v56, v57, v58, v59, v60, v61, v62, v63, v64, v65, v66, v67, v68, v69, v70, v71, v72, v73, v74, v75, v76, v77, v78, v79, v80, v81, v82, v83, v84, v85, v86, v87, v88, v89, v90, v91, v92, v93, v94, v95, v96, v97, v98, v99, v100, v101, v102, v103, v104, v105, v106, v107, v108, v109, v110, v111, v112, v113, v114, v115, v116, v117, v118, v119, v120, v121, v122, v123, v124, v125, v126, v127, v128, v129, v130, v131, v132, v133, v134, v135, v136, v137, v138, v139, v140, v141, v142, v143, v144, v145, v146, v147, v148, v149, v150, v151, v152, v153, v154, v155, v156, v157, v158, v159, v160, v161, v162, v163, v164, v165, v166, v167, v168, v169, v170, v171, v172, v173, v174, v175, v176, v177, v178, v179, v180, v181, v182, v183, v184, v185, v186, v187, v188, v189, v190, v191, v192, v193, v194, v195, v196, v197, v198, v199, v200, v201, v202, v203, v204, v205, v206, v207, v208, v209, v210, v211, v212, v213, v214, v215, v216, v217, v218, v219, v220, v221, v222, v223, v224, v225, v226, v227, v228, v229, v230, v231, v232, v233, v234, v235, v236, v237, v238, v239, v240, v241, v242, v243, v244, v245, v246, v247, v248, v249], []⟩ w0 := by
  have HQ := Lib.hid hQ
  have HBC := Lib.hid (fun W => best_cons_any o o2 c W ho ho2 (by omega) (by omega))
  have b2 : Below w0.heap.size w0 (w0.alloc (.cells #[.int .u8 (IntKind.u8.wrap c)] 5)) := (Below.refl _ _).alloc (Nat.le_refl _) _
  have d1 : w0.drew.cell? ⟨ob, r, none⟩ = _ := g1
  have d2 : w0.drew.cell? ⟨ob + 1, r, none⟩ = _ := g2
  have d3 : w0.drew.cell? ⟨X, cc, none⟩ = _ := g3
  have d4 : w0.drew.cell? ⟨Y, cc, none⟩ = _ := g4
  have a1 : (w0.alloc (.cells #[.int .u8 (IntKind.u8.wrap c)] 5)).drew.cell? ⟨ob, r, none⟩ = _ := (b2.cell (p := ⟨ob, r, none⟩) (World.block_lt_of_cell? _ _ g1)).trans g1
  have a2 : (w0.alloc (.cells #[.int .u8 (IntKind.u8.wrap c)] 5)).drew.cell? ⟨ob + 1, r, none⟩ = _ := (b2.cell (p := ⟨ob + 1, r, none⟩) (World.block_lt_of_cell? _ _ g2)).trans g2
  have a3 : (w0.alloc (.cells #[.int .u8 (IntKind.u8.wrap c)] 5)).drew.cell? ⟨X, cc, none⟩ = _ := (b2.cell (p := ⟨X, cc, none⟩) (World.block_lt_of_cell? _ _ g3)).trans g3
  have a4 : (w0.alloc (.cells #[.int .u8 (IntKind.u8.wrap c)] 5)).drew.cell? ⟨Y, cc, none⟩ = _ := (b2.cell (p := ⟨Y, cc, none⟩) (World.block_lt_of_cell? _ _ g4)).trans g4
  have BA := Lib.hid b2.drew
  have i1 : (r : Int) < (P.length : Int) + 1 := by omega
  have i2 : (cc : Int) < (Q.length : Int) + 1 := by omega
  have hsz : ¬ 9223372036854775807 < (bytesOf [c]).size + (ansS o2).size := by
    have h1 : (bytesOf [c]).size = 1 := bytesOf_size _
    have h2 : (ansS o2).size = (o2.getD []).length := bytesOf_size _
    have := ho2.len
    omega
  have cv1 := conv_cell c hc (w0.alloc (.cells #[.int .u8 (IntKind.u8.wrap c)] 5)) w0.heap.size (byte_cell c w0)
  have cv2 := conv_cell c hc (w0.alloc (.cells #[.int .u8 (IntKind.u8.wrap c)] 5)).drew w0.heap.size (byte_cell c w0)
  have cv3 := conv_cell c hc (w0.drew.alloc (.cells #[.int .u8 (IntKind.u8.wrap c)] 5)) w0.heap.size (byte_cell c w0.drew)
  clear b2 hQ
  conv => arg 2; whnf
  refine wp_region_noPanic ?_
  go_region_held (fun W' => W'.cell? ⟨ob, r, none⟩ = some (.slice (some ⟨X, 0, none⟩) (Q.length + 1) (Q.length + 1)) ∧ W'.cell? ⟨ob + 1, r, none⟩ = some (.slice (some ⟨Y, 0, none⟩) (Q.length + 1) (Q.length + 1)) ∧ W'.cell? ⟨X, cc, none⟩ = some (.string (ansS o2)) ∧ W'.cell? ⟨Y, cc, none⟩ = some (.bool o2.isSome)) (first | exact ⟨g1, g2, g3, g4⟩ | exact ⟨d1, d2, d3, d4⟩ | exact ⟨a1, a2, a3, a4⟩) (first | (go_at_call 42; refine (HBC.out _).mono ?_; rintro e3 w3 ⟨rfl, rfl⟩))
  exact HQ.out _ _ _ _ _ _ _ _ _ _ _ _ _ _ _ _ _ _ _ _ _ _ _ _ _ _ BA.out

set_option maxRecDepth 100000 in
set_option maxHeartbeats 8000000 in
theorem rc_char {v0 v1 v4 v5 v15 v16 v17 v18 v19 v20 v21 v22 v23 v24 v25 v26 v27 v28 v29 v30 v31 v32 v33 v34 v35 v36 v37 v38 v39 v40 v41 v42 v43 v44 v45 v46 v47 v48 v49 v50 v51 v52 v53 v54 v55 v56 v57 v58 v59 v60 v61 v62 v63 v64 v65 v66 v67 v68 v69 v70 v71 v72 v73 v74 v75 v76 v77 v78 v79 v80 v81 v82 v83 v84 v85 v86 v87 v88 v89 v90 v91 v92 v93 v94 v95 v96 v97 v98 v99 v100 v101 v102 v103 v104 v105 v106 v107 v108 v109 v110 v111 v112 v113 v114 v115 v116 v117 v118 v119 v120 v121 v122 v123 v124 v125 v126 v127 v128 v129 v130 v131 v132 v133 v134 v135 v136 v137 v138 v139 v140 v141 v142 v143 v144 v145 v146 v147 v148 v149 v150 v151 v152 v153 v154 v155 v156 v157 v158 v159 v160 v161 v162 v163 v164 v165 v166 v167 v168 v169 v170 v171 v172 v173 v174 v175 v176 v177 v178 v179 v180 v181 v182 v183 v184 v185 v186 v187 v188 v189 v190 v191 v192 v193 v194 v195 v196 v197 v198 v199 v200 v201 v202 v203 v204 v205 v206 v207 v208 v209 v210 v211 v212 v213 v214 v215 v216 v217 v218 v219 v220 v221 v222 v223 v224 v225 v226 v227 v228 v229 v230 v231 v232 v233 v234 v235 v236 v237 v238 v239 v240 v241 v242 v243 v244 v245 v246 v247 v248 v249 : Value} {Q' : Exit → Act → World → Prop} {P Q : List El} {AP AQ : Option Addr} {cp cq pb qb ob i j : Nat} {w0 : World} (lP : P.length ≤ 80) (lQ : Q.length ≤ 80) (hN : NodeIn P Q AP AQ cp cq pb qb ob i j w0) {c : Nat} (hi : i < P.length) (hj : j < Q.length) (hc : c < 128)
    (hQ : ∀ (u15 u16 u17 u18 u141 u142 u143 u144 u145 u146 u147 u148 u149 u150 u151 u152 u153 u154 u155 u156 u157 u158 u159 u160 u161 u162 u163 u164 u165 u166 u167 u168 u169 u170 u171 u172 u173 u174 u175 u176 u177 u178 u179 u180 u181 u182 u183 u184 u185 u186 u187 u188 u189 u190 u191 u192 u193 u194 u195 u196 u197 u198 u199 u200 u201 u202 u203 u204 u205 u206 u207 u208 u209 u210 u211 u212 u213 u214 u215 u216 u217 u218 u219 u220 u221 u222 u223 u224 u225 : Value) (w' : World), Below w0.heap.size w0 w' → Q' .normal ⟨#[v0, v1, .pointer (some ⟨pb, 0, none⟩), .pointer (some ⟨qb, 0, none⟩), v4, v5, .int .i64 P.length, .int .i64 Q.length, .slice (some ⟨ob, 0, none⟩) (P.length + 1) (P.length + 1), .slice (some ⟨ob + 1, 0, none⟩) (P.length + 1) (P.length + 1), .int .i64 i, .int .i64 j, .string (ansS (tabD P Q i j (c + 1))), .bool (tabD P Q i j (c + 1)).isSome, .int .i64 c, u15, u16, u17, u18, v19, v20, v21, v22, v23, v24, v25, v26, v27, v28, v29, v30, v31, v32, v33, v34, v35, v36, v37, v38, v39, v40, v41, v42, v43, v44, v45, v46, v47, v48, v49, v50, v51, v52, v53, v54, v55, v56, v57, v58, v59, v60, v61, v62, v63, v64, v65, v66, v67, v68, v69, v70, v71, v72, v73, v74, v75, v76, v77, v78, v79, v80, v81, v82, v83, v84, v85, v86, v87, v88, v89, v90, v91, v92, v93, v94, v95, v96, v97, v98, v99, v100, v101, v102, v103, v104, v105, v106, v107, v108, v109, v110, v111, v112, v113, v114, v115, v116, v117, v118, v119, v120, v121, v122, v123, v124, v125, v126, v127, v128, v129, v130, v131, v132, v133, v134, v135, v136, v137, v138, v139, v140, u141, u142, u143, u144, u145, u146, u147, u148, u149, u150, u151, u152, u153, u154, u155, u156, u157, u158, u159, u160, u161, u162, u163, u164, u165, u166, u167, u168, u169, u170, u171, u172, u173, u174, u175, u176, u177, u178, u179, u180, u181, u182, u183, u184, u185, u186, u187, u188, u189, u190, u191, u192, u193, u194, u195, u196, u197, u198, u199, u200, u201, u202, u203, u204, u205, u206, u207, u208, u209, u210, u211, u212, u213, u214, u215, u216, u217, u218, u219, u220, u221, u222, u223, u224, u225, v226, v227, v228, v229, v230, v231, v232, v233, v234, v235, v236, v237, v238, v239, v240, v241, v242, v243, v244, v245, v246, v247, v248, v249], []⟩ w') :
    Code.wp Tryd.prog (subC [true, true, true, true, false, true, false, false, true, false, false, true, true, false, false, true, false, false, true, true, true, false, true, false, false, true, false] (Tryd.f20.body.getD .skip)) Q' ⟨#[v0, v1, .pointer (some ⟨pb, 0, none⟩), .pointer (some ⟨qb, 0, none⟩), v4, v5, .int .i64 P.length, .int .i64 Q.length, .slice (some ⟨ob, 0, none⟩) (P.length + 1) (P.length + 1), .slice (some ⟨ob + 1, 0, none⟩) (P.length + 1) (P.length + 1), .int .i64 i, .int .i64 j, .string (ansS (tabD P Q i j c)), .bool (tabD P Q i j c).isSome, .int .i64 c, v15, v16, v17, v18, v19, v20, v21, v22, v23, v24, v25, v26, v27, v28, v29, v30, v31, v32, v33, v34, v35, v36, v37, v38, v39, v40, v41, v42, v43, v44, v45, v46, v47, v48, v49, v50, v51, v52, v53, v54, v55, v56, v57, v58, v59, v60, v61, v62, v63, v64, v65, v66, v67, v68, v69, v70, v71, v72, v73, v74, v75, v76, v77, v78, v79, v80, v81, v82, v83, v84, v85, v86, v87, v88, v89, v90, v91, v92, v93, v94, v95, v96, v97, v98, v99, v100, v101, v102, v103, v104, v105, v106, v107, v108, v109, v110, v111, v112, v113, v114, v115, v116, v117, v118, v119, v120, v121, v122, v123, v124, v125, v126, v127, v128, v129, v130, v131, v132, v133, v134, v135, v136, v137, v138, v139, v140, v141, v142, v143, v144, v145, v146, v147, v148, v149, v150, v151, v152, v153, v154, v155, v156, v157, v158, v159, v160, v161, v162, v163, v164, v165, v166, v167, v168, v169, v170, v171, v172, v173, v174, v175, v176, v177, v178, v179, v180, v181, v182, v183, v184, v185, v186, v187, v188, v189, v190, v191, v192, v193, v194, v195, v196, v197, v198, v199, v200, v201, v202, v203, v204, v205, v206, v207, v208, v209, v210, v211, v212, v213, v214, v215, v216, v217, v218, v219, v220, v221, v222, v223, v224, v225, v226, v227, v228, v229, v230, v231, v232, v233, v234, v235, v236, v237, v238, v239, v240, v241, v242, v243, v244, v245, v246, v247, v248, v249], []⟩ w0 := by
  have HN := Lib.hid hN
  have HQ := Lib.hid hQ
  have hD := Lib.hid (tabD_next hi hj c)
  have hG := Lib.hid (good_D lP lQ i j c)
  clear hN hQ
  generalize tabD P Q i j c = o at *
  obtain ⟨bp, offp, hAP, p1, p2, p3⟩ := HN.out.ep w0 (Below.refl _ _) hi
  obtain ⟨bq, offq, hAQ, q1, q2, q3⟩ := HN.out.eq w0 (Below.refl _ _) hj
  rw [hAP] at p1
  rw [hAQ] at q1
  have p3c := p3 c hc
  have q3c := q3 c hc
  clear p3 q3
  obtain ⟨e, he⟩ : ∃ e, elAt P i = e := ⟨_, rfl⟩
  obtain ⟨f, hf⟩ : ∃ f, elAt Q j = f := ⟨_, rfl⟩
  have HE := Lib.hid he
  have HF := Lib.hid hf
  rw [he] at p2 p3c hD
  rw [hf] at q2 q3c hD
  clear he hf
  have hii : (i : Int) < (P.length : Int) := by omega
  have hjj : (j : Int) < (Q.length : Int) := by omega
  have hcc : (c : Int) < 128 := by omega
  conv => arg 2; whnf
  go_upto_region 19 with fail
  go_quiet (fail)
  go_upto_region 20 with fail
  have B1 : Hid (Below w0.heap.size w0 (w0.drewN nq)) := Lib.hid (below_drewN (Below.refl _ _) _)
  generalize w0.drewN nq = w1 at *
  clear p1 p2 p3c q1 q2 q3c
  have HN1 := Lib.hid (HN.out.mono B1.out)
  go_cut [15, 16, 192] from 141 to 192 (fun v15 v16 v wx => v15 = .bool e.isStar ∧ v16 = .bool f.isStar ∧ v = .bool (!goes e f c) ∧ wx = w1)
  case first =>
    obtain ⟨bp, offp, hA1, p1, p2, p3⟩ := HN1.out.ep w1 (Below.refl _ _) hi
    obtain ⟨bq, offq, hA2, q1, q2, q3⟩ := HN1.out.eq w1 (Below.refl _ _) hj
    have p3c := p3 c hc
    have q3c := q3 c hc
    rw [HE.out] at p3c
    rw [HF.out] at q3c
    rw [hA1] at p1
    rw [hA2] at q1
    have HG2 : Hid (goes e f c = (!(e.isStar && f.isStar) && namedB c && (e.isStar || e.bit c) && (f.isStar || f.bit c))) := Lib.hid (by
      unfold goes
      cases he : e.isStar <;> cases hf : f.isStar <;> simp [he, hf, bit_has])
    clear p3 q3 p2 q2
    obtain ⟨sa, hsa⟩ : ∃ sa, e.isStar = sa := ⟨_, rfl⟩
    obtain ⟨sb, hsb⟩ : ∃ sb, f.isStar = sb := ⟨_, rfl⟩
    rw [hsa, hsb] at HG2
    rw [hsa, hsb]
    have HSA := Lib.hid hsa
    have HSB := Lib.hid hsb
    clear hsa hsb
    cases sa with
    | true =>
      cases sb with
      | true =>
        have E : Hid (goes e f c = false) := Lib.hid (by rw [HG2.out]; rfl)
        go_wp2_with fail
        go_meet
        case rel => exact ⟨by rw [HSA.out], by rw [HSB.out], by rw [E.out]; rfl, rfl⟩
      | false =>
        cases hn : namedB c with
        | false =>
          have E : Hid (goes e f c = false) := Lib.hid (by rw [HG2.out, hn]; simp)
          have HNM := Lib.hid hn
          clear hn
          go_wp2_with fail
          refine (Char_any c _).mono ?_
          rintro e3 w3 ⟨rfl, rfl⟩
          rw [HNM.out]
          go_wp2_with fail
          go_meet
          case rel => exact ⟨by rw [HSA.out], by rw [HSB.out], by rw [E.out]; rfl, rfl⟩
        | true =>
          cases hq : f.bit c with
          | false =>
            have E : Hid (goes e f c = false) := Lib.hid (by rw [HG2.out, hq]; simp)
            have HNM := Lib.hid hn
            rw [hq] at q3c
            clear hn hq
            go_wp2_with fail
            refine (Char_any c _).mono ?_
            rintro e3 w3 ⟨rfl, rfl⟩
            rw [HNM.out]
            go_wp2_with fail
            go_meet
            case rel => exact ⟨by rw [HSA.out], by rw [HSB.out], by rw [E.out]; rfl, rfl⟩
          | true =>
            have E : Hid (goes e f c = true) := Lib.hid (by rw [HG2.out, hn, hq]; rfl)
            have HNM := Lib.hid hn
            rw [hq] at q3c
            clear hn hq
            go_wp2_with fail
            refine (Char_any c _).mono ?_
            rintro e3 w3 ⟨rfl, rfl⟩
            rw [HNM.out]
            go_wp2_with fail
            go_meet
            case rel => exact ⟨by rw [HSA.out], by rw [HSB.out], by rw [E.out]; rfl, rfl⟩
    | false =>
      cases hn : namedB c with
      | false =>
        have E : Hid (goes e f c = false) := Lib.hid (by rw [HG2.out, hn]; simp)
        have HNM := Lib.hid hn
        clear hn
        go_wp2_with fail
        refine (Char_any c _).mono ?_
        rintro e3 w3 ⟨rfl, rfl⟩
        rw [HNM.out]
        go_wp2_with fail
        go_meet
        case rel => exact ⟨by rw [HSA.out], by rw [HSB.out], by rw [E.out]; rfl, rfl⟩
      | true =>
        have HNM := Lib.hid hn
        cases hp : e.bit c with
        | false =>
          have E : Hid (goes e f c = false) := Lib.hid (by rw [HG2.out, hp]; simp)
          rw [hp] at p3c
          clear hn hp
          go_wp2_with fail
          refine (Char_any c _).mono ?_
          rintro e3 w3 ⟨rfl, rfl⟩
          rw [HNM.out]
          go_wp2_with fail
          go_meet
          case rel => exact ⟨by rw [HSA.out], by rw [HSB.out], by rw [E.out]; rfl, rfl⟩
        | true =>
          rw [hp] at p3c
          cases sb with
          | true =>
            have E : Hid (goes e f c = true) := Lib.hid (by rw [HG2.out, hn, hp]; rfl)
            clear hn hp
            go_wp2_with fail
            refine (Char_any c _).mono ?_
            rintro e3 w3 ⟨rfl, rfl⟩
            rw [HNM.out]
            go_wp2_with fail
            go_meet
            case rel => exact ⟨by rw [HSA.out], by rw [HSB.out], by rw [E.out]; rfl, rfl⟩
          | false =>
            cases hq : f.bit c with
            | false =>
              have E : Hid (goes e f c = false) := Lib.hid (by rw [HG2.out, hq]; simp)
              rw [hq] at q3c
              clear hn hp hq
              go_wp2_with fail
              refine (Char_any c _).mono ?_
              rintro e3 w3 ⟨rfl, rfl⟩
              rw [HNM.out]
              go_wp2_with fail
              go_meet
              case rel => exact ⟨by rw [HSA.out], by rw [HSB.out], by rw [E.out]; rfl, rfl⟩
            | true =>
              have E : Hid (goes e f c = true) := Lib.hid (by rw [HG2.out, hn, hp, hq]; rfl)
              rw [hq] at q3c
              clear hn hp hq
              go_wp2_with fail
              refine (Char_any c _).mono ?_
              rintro e3 w3 ⟨rfl, rfl⟩
              rw [HNM.out]
              go_wp2_with fail
              go_meet
              case rel => exact ⟨by rw [HSA.out], by rw [HSB.out], by rw [E.out]; rfl, rfl⟩
  case rest =>
    obtain ⟨rfl, rfl, rfl, hw⟩ := hcut
    subst hw
    generalize wc = w1 at *
    cases hg : goes e f c with
    | false =>
      have HD2 : Hid (tabD P Q i j (c + 1) = o) := Lib.hid (by rw [hD.out, hg]; rfl)
      rw [HD2.out] at HQ
      clear hg
      go_wp2_with fail
      exact HQ.out _ _ _ _ _ _ _ _ _ _ _ _ _ _ _ _ _ _ _ _ _ _ _ _ _ _ _ _ _ _ _ _ _ _ _ _ _ _ _ _ _ _ _ _ _ _ _ _ _ _ _ _ _ _ _ _ _ _ _ _ _ _ _ _ _ _ _ _ _ _ _ _ _ _ _ _ _ _ _ _ _ _ _ _ _ _ _ _ _ _ B1.out
    | true =>
      have HD2 := Lib.hid (hD.out.trans (if_pos hg))
      have hne : (e.isStar && f.isStar) = false := by
        simp only [goes, Bool.and_eq_true, Bool.not_eq_true'] at hg
        exact hg.1.1.1
      have hG2 := Lib.hid (hG.out)
      rw [HD2.out] at HQ
      clear hg
      obtain ⟨sa, hsa⟩ : ∃ sa, e.isStar = sa := ⟨_, rfl⟩
      obtain ⟨sb, hsb⟩ : ∃ sb, f.isStar = sb := ⟨_, rfl⟩
      rw [hsa, hsb] at HQ hne
      rw [hsa, hsb]
      clear hsa hsb
      cases sa with
      | true =>
        cases sb with
        | true => cases hne
        | false =>
          rw [if_pos rfl, if_neg (by simp)] at HQ
          obtain ⟨X, Y, g1, g2, g3, g4⟩ := HN1.out.th w1 (Below.refl _ _) hj
          have good_tab2 := good_tab lP lQ i (j + 1)
          generalize TabF P Q i (j + 1) = o2 at *
          go_upto_region 26 with fail
          refine rc_best (P := P) (Q := Q) (r := i) (cc := j + 1) g1 g2 g3 g4 hG.out (good_tab2.mono (by omega)) (by omega) (by omega) hc ?_
          intro u201 u202 u203 u204 u205 u206 u207 u208 u209 u210 u211 u212 u213 u214 u215 u216 u217 u218 u219 u220 u221 u222 u223 u224 u225 w5 hb
          go_wp2_with fail
          exact HQ.out _ _ _ _ _ _ _ _ _ _ _ _ _ _ _ _ _ _ _ _ _ _ _ _ _ _ _ _ _ _ _ _ _ _ _ _ _ _ _ _ _ _ _ _ _ _ _ _ _ _ _ _ _ _ _ _ _ _ _ _ _ _ _ _ _ _ _ _ _ _ _ _ _ _ _ _ _ _ _ _ _ _ _ _ _ _ _ _ _ _ (B1.out.trans (hb.mono B1.out.size))
      | false =>
        cases sb with
        | true =>
          rw [if_neg (by simp), if_pos rfl] at HQ
          obtain ⟨X, Y, g1, g2, g3, g4⟩ := HN1.out.nx w1 j (Below.refl _ _) hi (by omega)
          have good_tab2 := good_tab lP lQ (i + 1) j
          generalize TabF P Q (i + 1) j = o2 at *
          go_upto_region 26 with fail
          refine rc_best (P := P) (Q := Q) (r := i + 1) (cc := j) g1 g2 g3 g4 hG.out (good_tab2.mono (by omega)) (by omega) (by omega) hc ?_
          intro u201 u202 u203 u204 u205 u206 u207 u208 u209 u210 u211 u212 u213 u214 u215 u216 u217 u218 u219 u220 u221 u222 u223 u224 u225 w5 hb
          go_wp2_with fail
          exact HQ.out _ _ _ _ _ _ _ _ _ _ _ _ _ _ _ _ _ _ _ _ _ _ _ _ _ _ _ _ _ _ _ _ _ _ _ _ _ _ _ _ _ _ _ _ _ _ _ _ _ _ _ _ _ _ _ _ _ _ _ _ _ _ _ _ _ _ _ _ _ _ _ _ _ _ _ _ _ _ _ _ _ _ _ _ _ _ _ _ _ _ (B1.out.trans (hb.mono B1.out.size))
        | false =>
          rw [if_neg (by simp), if_neg (by simp)] at HQ
          obtain ⟨X, Y, g1, g2, g3, g4⟩ := HN1.out.nx w1 (j + 1) (Below.refl _ _) hi (by omega)
          have good_tab2 := good_tab lP lQ (i + 1) (j + 1)
          generalize TabF P Q (i + 1) (j + 1) = o2 at *
          go_upto_region 26 with fail
          refine rc_best (P := P) (Q := Q) (r := i + 1) (cc := j + 1) g1 g2 g3 g4 hG.out (good_tab2.mono (by omega)) (by omega) (by omega) hc ?_
          intro u201 u202 u203 u204 u205 u206 u207 u208 u209 u210 u211 u212 u213 u214 u215 u216 u217 u218 u219 u220 u221 u222 u223 u224 u225 w5 hb
          go_wp2_with fail
          exact HQ.out _ _ _ _ _ _ _ _ _ _ _ _ _ _ _ _ _ _ _ _ _ _ _ _ _ _ _ _ _ _ _ _ _ _ _ _ _ _ _ _ _ _ _ _ _ _ _ _ _ _ _ _ _ _ _ _ _ _ _ _ _ _ _ _ _ _ _ _ _ _ _ _ _ _ _ _ _ _ _ _ _ _ _ _ _ _ _ _ _ _ (B1.out.trans (hb.mono B1.out.size))

end Go.Proofs.YtgnmanmlnbidfaaDoor
