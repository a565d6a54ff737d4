/-
 The document's Parse of a class's text: a line in the state 0, 1, 8, walked. (Printed by gen_docP.py.)
-/
import Derived.Test.YtjjdlgjofjfgmaaGreatDoorKN
set_option linter.unusedSimpArgs false
set_option linter.unusedVariables false
namespace Go.Proofs.YtjjdlgjofjfgmaaGreatDoor
open Go.RowKit Go.Sort
set_option maxHeartbeats 40000000 in
set_option maxRecDepth 100000 in
theorem doc_st0 (w wq : World) (ls : List (List UInt8)) (n0 g cap gw capw i : Nat) (nm sup : List UInt8) (ifs : List (List UInt8)) (fl ld : Int) (ms : List MethS) (vi vm : Value) (cs : List Value) (x : List UInt8) (ps : List (List UInt8))
  (hwf : (⟨nm, sup, ifs, fl, ld, ms, 0⟩ : RdS).wf i) (hin : i ≤ 40001) (hi : i < ls.length) (hln : ls.length ≤ 40001) (Hx0 : Hid (∀ W, RowAt W g ls → W.cell? ⟨g, i, none⟩ = some (.string (bs x)))) (hxl : x.length ≤ 40000) (hpsn : 0 < ps.length) (hpsl : ps.length ≤ 40001)
  (HRW : Hid (RowAt wq gw ps)) (HXq : Hid (DocX w n0 g ls ⟨nm, sup, ifs, fl, ld, ms, 0⟩ vi vm cs wq)) (Hjl : Hid (∀ k, (Lib.join (ps.drop k) [32]).length ≤ 40000)) (Hne : Hid (ps ≠ [])) (hps : splitL 32 x = ps)
  (u0 u1 u3 u4 u10 u11 u12 u13 u14 u15 u16 u17 u18 u19 u20 u21 u22 u23 u24 u25 u26 u27 u28 u29 u30 u31 u32 u33 u34 u35 u36 u37 u38 u39 u40 u41 u42 u43 u45 u46 u47 u48 u49 u50 u51 u52 u53 u54 u55 u56 u57 u58 u59 u60 u61 u62 u63 u64 u65 u66 u67 u68 u69 u70 u71 u72 u73 u74 u75 u76 u77 u78 u79 u80 u81 u82 u83 u84 u85 u86 u87 u88 u89 u90 u91 u92 u93 u94 u95 u96 u97 u98 u99 u100 u101 u102 u103 u104 u105 u106 u107 u108 u109 u110 u111 u112 u113 u114 u115 u116 u117 u118 u119 u120 u121 u122 u123 u124 u125 u126 u127 u128 u129 u130 u131 u132 u133 u134 u135 u136 u137 u138 u139 u140 u141 u142 u143 u144 u145 u146 u147 u148 u149 u150 u151 u152 u153 u154 u155 u156 u157 u158 u159 u160 u161 u162 u163 u164 u165 u166 u167 u168 u169 u170 u171 u172 u173 u174 u175 u176 u177 u178 u179 u180 u181 u182 u183 u184 u185 u186 u187 u188 u189 u190 u191 u192 u193 u194 u195 u196 u197 u198 u199 u200 u201 u202 u203 u204 u205 u206 u207 u208 u209 u210 u211 u212 u213 u214 u215 u216 u217 u218 u219 u220 u221 u222 u223 u224 u225 u226 u227 u228 u229 u230 u231 u232 u233 u234 u235 u236 u237 u238 u239 u240 u241 u242 u243 u244 u245 u246 u247 u248 u249 u250 u251 u252 u253 u254 u255 : Value) (K : Act → World → Prop) (Q : Exit → Act → World → Prop)
  (hK : ∀ (t6 t9 v10 v11 v12 v13 v14 v15 v16 v17 v18 v19 v20 v21 v22 v23 v24 v25 v45 v46 v47 v48 v49 v50 v51 v52 v53 v54 v55 v56 v57 v58 v59 v60 v61 v62 v63 v64 v65 v66 v67 v68 v69 v70 v71 v72 v73 v74 v75 v76 v77 v78 v79 v80 v81 v82 v83 v84 v85 v86 v87 v88 v89 v90 v91 v92 v93 v94 v95 v96 v97 v98 v99 v100 v101 v102 v103 v104 v105 v106 v107 v108 v109 v110 v111 v112 v113 v114 v115 v116 v117 v118 v119 v120 v121 v122 v123 v124 v125 v126 v127 v128 v129 v130 v131 v132 v133 v134 v135 v136 v137 v138 v139 v140 v141 v142 v143 v144 v145 v146 v147 v148 v149 v150 v151 v152 v153 v154 v155 v156 v157 v158 v159 v160 v161 v162 v163 v164 v165 v166 v167 v168 v169 v170 v171 v172 v173 v174 v175 v176 v177 v178 v179 v180 v181 v182 v183 v184 v185 v186 v187 v188 v189 v190 v191 v192 v193 v194 v195 v196 v197 v198 v199 v200 v201 v202 v203 v204 v205 v206 v207 v208 v209 v210 v211 v212 v213 v214 v215 v216 v217 v218 v219 v220 v221 v222 v223 v224 v225 v226 v227 v228 v229 v230 v231 : Value) (wx : World), cutPost w n0 g ls (stepL ⟨nm, sup, ifs, fl, ld, ms, 0⟩ x) t9 t6 wx → K ⟨#[u0, u1, .pointer (some ⟨w.heap.size, 0, none⟩), u3, u4, .slice (some ⟨g, 0, none⟩) ls.length cap, t6, .int .i64 (i : Int), .slice (some ⟨gw, 0, none⟩) ps.length capw, t9, v10, v11, v12, v13, v14, v15, v16, v17, v18, v19, v20, v21, v22, v23, v24, v25, u26, u27, u28, u29, u30, u31, u32, u33, u34, u35, u36, u37, u38, u39, u40, u41, u42, u43, .int .i64 ((0 : Nat) : Int), v45, v46, v47, v48, v49, v50, v51, v52, v53, v54, v55, v56, v57, v58, v59, v60, v61, v62, v63, v64, v65, v66, v67, v68, v69, v70, v71, v72, v73, v74, v75, v76, v77, v78, v79, v80, v81, v82, v83, v84, v85, v86, v87, v88, v89, v90, v91, v92, v93, v94, v95, v96, v97, v98, v99, v100, v101, v102, v103, v104, v105, v106, v107, v108, v109, v110, v111, v112, v113, v114, v115, v116, v117, v118, v119, v120, v121, v122, v123, v124, v125, v126, v127, v128, v129, v130, v131, v132, v133, v134, v135, v136, v137, v138, v139, v140, v141, v142, v143, v144, v145, v146, v147, v148, v149, v150, v151, v152, v153, v154, v155, v156, v157, v158, v159, v160, v161, v162, v163, v164, v165, v166, v167, v168, v169, v170, v171, v172, v173, v174, v175, v176, v177, v178, v179, v180, v181, v182, v183, v184, v185, v186, v187, v188, v189, v190, v191, v192, v193, v194, v195, v196, v197, v198, v199, v200, v201, v202, v203, v204, v205, v206, v207, v208, v209, v210, v211, v212, v213, v214, v215, v216, v217, v218, v219, v220, v221, v222, v223, v224, v225, v226, v227, v228, v229, v230, v231, u232, u233, u234, u235, u236, u237, u238, u239, u240, u241, u242, u243, u244, u245, u246, u247, u248, u249, u250, u251, u252, u253, u254, u255], []⟩ wx) :
  Code.wp Tryz.prog docBlk (Exit.then K Q) ⟨#[u0, u1, .pointer (some ⟨w.heap.size, 0, none⟩), u3, u4, .slice (some ⟨g, 0, none⟩) ls.length cap, .int .i64 ((0 : Nat) : Int), .int .i64 (i : Int), .slice (some ⟨gw, 0, none⟩) ps.length capw, .bool false, u10, u11, u12, u13, u14, u15, u16, u17, u18, u19, u20, u21, u22, u23, u24, u25, u26, u27, u28, u29, u30, u31, u32, u33, u34, u35, u36, u37, u38, u39, u40, u41, u42, u43, .int .i64 ((0 : Nat) : Int), u45, u46, u47, u48, u49, u50, u51, u52, u53, u54, u55, u56, u57, u58, u59, u60, u61, u62, u63, u64, u65, u66, u67, u68, u69, u70, u71, u72, u73, u74, u75, u76, u77, u78, u79, u80, u81, u82, u83, u84, u85, u86, u87, u88, u89, u90, u91, u92, u93, u94, u95, u96, u97, u98, u99, u100, u101, u102, u103, u104, u105, u106, u107, u108, u109, u110, u111, u112, u113, u114, u115, u116, u117, u118, u119, u120, u121, u122, u123, u124, u125, u126, u127, u128, u129, u130, u131, u132, u133, u134, u135, u136, u137, u138, u139, u140, u141, u142, u143, u144, u145, u146, u147, u148, u149, u150, u151, u152, u153, u154, u155, u156, u157, u158, u159, u160, u161, u162, u163, u164, u165, u166, u167, u168, u169, u170, u171, u172, u173, u174, u175, u176, u177, u178, u179, u180, u181, u182, u183, u184, u185, u186, u187, u188, u189, u190, u191, u192, u193, u194, u195, u196, u197, u198, u199, u200, u201, u202, u203, u204, u205, u206, u207, u208, u209, u210, u211, u212, u213, u214, u215, u216, u217, u218, u219, u220, u221, u222, u223, u224, u225, u226, u227, u228, u229, u230, u231, u232, u233, u234, u235, u236, u237, u238, u239, u240, u241, u242, u243, u244, u245, u246, u247, u248, u249, u250, u251, u252, u253, u254, u255], []⟩ wq := by
 have hil : (i : Int) < (ls.length : Int) := by omega
 have hlb := HXq.out.blk.lt
 conv => arg 2; whnf
 have hS : stepL ⟨nm, sup, ifs, fl, ld, ms, 0⟩ x = (namedP wClass (splitL 32 x)).map fun s => ⟨s, sup, ifs, fl, ld, ms, 1⟩ := rfl
 rw [hps] at hS
 have hwd : (⟨#[99, 108, 97, 115, 115]⟩ : ByteArray) = bs wClass := rfl
 obtain ⟨on, hon⟩ : ∃ on, namedP wClass ps = on := ⟨_, rfl⟩
 have Hnm := fun W h => hid (namedR_any gw capw ps wClass W h (by omega))
 rw [hon] at Hnm hS
 have HS := hid hS
 clear hon hS
 cases on with
 | none =>
  simp only [Option.getD_none, Option.isSome_none] at Hnm
  go_wp2_with fail
  refine (Hnm _ HRW.out).out.mono ?_
  rintro e w1 ⟨rfl, hU1⟩
  simp only []
  have HX1 := hid (HXq.out.upd hU1)
  clear hU1 Hnm HXq HRW
  have hltz := HX1.out.blk.lt
  have z0 := (HX1.out.blk.cell 0).trans (show _ = some (.string (bs nm)) from rfl)
  have fz0 := HX1.out.blk.frozen 0
  go_wp2
  rw [HS.out]
  exact ⟨rfl, ⟨1, rfl⟩, bad_of (HX1.out.blk.set_ 0 _) (by simp [clsCells]) (HX1.out.os.setCell (.inr (Nat.le_refl _)) _)⟩
 | some s =>
  simp only [Option.getD_some, Option.isSome_some] at Hnm
  go_wp2_with fail
  refine (Hnm _ HRW.out).out.mono ?_
  rintro e w1 ⟨rfl, hU1⟩
  simp only []
  have HX1 := hid (HXq.out.upd hU1)
  clear hU1 Hnm HXq HRW
  have hltz := HX1.out.blk.lt
  have z0 := (HX1.out.blk.cell 0).trans (show _ = some (.string (bs nm)) from rfl)
  have fz0 := HX1.out.blk.frozen 0
  go_wp2
  rw [HS.out]
  exact ⟨rfl, rfl, vi, vm, cs, hid (HX1.out.store (r' := ⟨s, sup, ifs, fl, ld, ms, 1⟩) 0 (.string (bs s)) rfl rfl rfl)⟩
set_option maxHeartbeats 40000000 in
set_option maxRecDepth 100000 in
theorem doc_st1 (w wq : World) (ls : List (List UInt8)) (n0 g cap gw capw i : Nat) (nm sup : List UInt8) (ifs : List (List UInt8)) (fl ld : Int) (ms : List MethS) (vi vm : Value) (cs : List Value) (x : List UInt8) (ps : List (List UInt8))
  (hwf : (⟨nm, sup, ifs, fl, ld, ms, 1⟩ : RdS).wf i) (hin : i ≤ 40001) (hi : i < ls.length) (hln : ls.length ≤ 40001) (Hx0 : Hid (∀ W, RowAt W g ls → W.cell? ⟨g, i, none⟩ = some (.string (bs x)))) (hxl : x.length ≤ 40000) (hpsn : 0 < ps.length) (hpsl : ps.length ≤ 40001)
  (HRW : Hid (RowAt wq gw ps)) (HXq : Hid (DocX w n0 g ls ⟨nm, sup, ifs, fl, ld, ms, 1⟩ vi vm cs wq)) (Hjl : Hid (∀ k, (Lib.join (ps.drop k) [32]).length ≤ 40000)) (Hne : Hid (ps ≠ [])) (hps : splitL 32 x = ps)
  (u0 u1 u3 u4 u10 u11 u12 u13 u14 u15 u16 u17 u18 u19 u20 u21 u22 u23 u24 u25 u26 u27 u28 u29 u30 u31 u32 u33 u34 u35 u36 u37 u38 u39 u40 u41 u42 u43 u45 u46 u47 u48 u49 u50 u51 u52 u53 u54 u55 u56 u57 u58 u59 u60 u61 u62 u63 u64 u65 u66 u67 u68 u69 u70 u71 u72 u73 u74 u75 u76 u77 u78 u79 u80 u81 u82 u83 u84 u85 u86 u87 u88 u89 u90 u91 u92 u93 u94 u95 u96 u97 u98 u99 u100 u101 u102 u103 u104 u105 u106 u107 u108 u109 u110 u111 u112 u113 u114 u115 u116 u117 u118 u119 u120 u121 u122 u123 u124 u125 u126 u127 u128 u129 u130 u131 u132 u133 u134 u135 u136 u137 u138 u139 u140 u141 u142 u143 u144 u145 u146 u147 u148 u149 u150 u151 u152 u153 u154 u155 u156 u157 u158 u159 u160 u161 u162 u163 u164 u165 u166 u167 u168 u169 u170 u171 u172 u173 u174 u175 u176 u177 u178 u179 u180 u181 u182 u183 u184 u185 u186 u187 u188 u189 u190 u191 u192 u193 u194 u195 u196 u197 u198 u199 u200 u201 u202 u203 u204 u205 u206 u207 u208 u209 u210 u211 u212 u213 u214 u215 u216 u217 u218 u219 u220 u221 u222 u223 u224 u225 u226 u227 u228 u229 u230 u231 u232 u233 u234 u235 u236 u237 u238 u239 u240 u241 u242 u243 u244 u245 u246 u247 u248 u249 u250 u251 u252 u253 u254 u255 : Value) (K : Act → World → Prop) (Q : Exit → Act → World → Prop)
  (hK : ∀ (t6 t9 v10 v11 v12 v13 v14 v15 v16 v17 v18 v19 v20 v21 v22 v23 v24 v25 v45 v46 v47 v48 v49 v50 v51 v52 v53 v54 v55 v56 v57 v58 v59 v60 v61 v62 v63 v64 v65 v66 v67 v68 v69 v70 v71 v72 v73 v74 v75 v76 v77 v78 v79 v80 v81 v82 v83 v84 v85 v86 v87 v88 v89 v90 v91 v92 v93 v94 v95 v96 v97 v98 v99 v100 v101 v102 v103 v104 v105 v106 v107 v108 v109 v110 v111 v112 v113 v114 v115 v116 v117 v118 v119 v120 v121 v122 v123 v124 v125 v126 v127 v128 v129 v130 v131 v132 v133 v134 v135 v136 v137 v138 v139 v140 v141 v142 v143 v144 v145 v146 v147 v148 v149 v150 v151 v152 v153 v154 v155 v156 v157 v158 v159 v160 v161 v162 v163 v164 v165 v166 v167 v168 v169 v170 v171 v172 v173 v174 v175 v176 v177 v178 v179 v180 v181 v182 v183 v184 v185 v186 v187 v188 v189 v190 v191 v192 v193 v194 v195 v196 v197 v198 v199 v200 v201 v202 v203 v204 v205 v206 v207 v208 v209 v210 v211 v212 v213 v214 v215 v216 v217 v218 v219 v220 v221 v222 v223 v224 v225 v226 v227 v228 v229 v230 v231 : Value) (wx : World), cutPost w n0 g ls (stepL ⟨nm, sup, ifs, fl, ld, ms, 1⟩ x) t9 t6 wx → K ⟨#[u0, u1, .pointer (some ⟨w.heap.size, 0, none⟩), u3, u4, .slice (some ⟨g, 0, none⟩) ls.length cap, t6, .int .i64 (i : Int), .slice (some ⟨gw, 0, none⟩) ps.length capw, t9, v10, v11, v12, v13, v14, v15, v16, v17, v18, v19, v20, v21, v22, v23, v24, v25, u26, u27, u28, u29, u30, u31, u32, u33, u34, u35, u36, u37, u38, u39, u40, u41, u42, u43, .int .i64 ((1 : Nat) : Int), v45, v46, v47, v48, v49, v50, v51, v52, v53, v54, v55, v56, v57, v58, v59, v60, v61, v62, v63, v64, v65, v66, v67, v68, v69, v70, v71, v72, v73, v74, v75, v76, v77, v78, v79, v80, v81, v82, v83, v84, v85, v86, v87, v88, v89, v90, v91, v92, v93, v94, v95, v96, v97, v98, v99, v100, v101, v102, v103, v104, v105, v106, v107, v108, v109, v110, v111, v112, v113, v114, v115, v116, v117, v118, v119, v120, v121, v122, v123, v124, v125, v126, v127, v128, v129, v130, v131, v132, v133, v134, v135, v136, v137, v138, v139, v140, v141, v142, v143, v144, v145, v146, v147, v148, v149, v150, v151, v152, v153, v154, v155, v156, v157, v158, v159, v160, v161, v162, v163, v164, v165, v166, v167, v168, v169, v170, v171, v172, v173, v174, v175, v176, v177, v178, v179, v180, v181, v182, v183, v184, v185, v186, v187, v188, v189, v190, v191, v192, v193, v194, v195, v196, v197, v198, v199, v200, v201, v202, v203, v204, v205, v206, v207, v208, v209, v210, v211, v212, v213, v214, v215, v216, v217, v218, v219, v220, v221, v222, v223, v224, v225, v226, v227, v228, v229, v230, v231, u232, u233, u234, u235, u236, u237, u238, u239, u240, u241, u242, u243, u244, u245, u246, u247, u248, u249, u250, u251, u252, u253, u254, u255], []⟩ wx) :
  Code.wp Tryz.prog docBlk (Exit.then K Q) ⟨#[u0, u1, .pointer (some ⟨w.heap.size, 0, none⟩), u3, u4, .slice (some ⟨g, 0, none⟩) ls.length cap, .int .i64 ((1 : Nat) : Int), .int .i64 (i : Int), .slice (some ⟨gw, 0, none⟩) ps.length capw, .bool false, u10, u11, u12, u13, u14, u15, u16, u17, u18, u19, u20, u21, u22, u23, u24, u25, u26, u27, u28, u29, u30, u31, u32, u33, u34, u35, u36, u37, u38, u39, u40, u41, u42, u43, .int .i64 ((1 : Nat) : Int), u45, u46, u47, u48, u49, u50, u51, u52, u53, u54, u55, u56, u57, u58, u59, u60, u61, u62, u63, u64, u65, u66, u67, u68, u69, u70, u71, u72, u73, u74, u75, u76, u77, u78, u79, u80, u81, u82, u83, u84, u85, u86, u87, u88, u89, u90, u91, u92, u93, u94, u95, u96, u97, u98, u99, u100, u101, u102, u103, u104, u105, u106, u107, u108, u109, u110, u111, u112, u113, u114, u115, u116, u117, u118, u119, u120, u121, u122, u123, u124, u125, u126, u127, u128, u129, u130, u131, u132, u133, u134, u135, u136, u137, u138, u139, u140, u141, u142, u143, u144, u145, u146, u147, u148, u149, u150, u151, u152, u153, u154, u155, u156, u157, u158, u159, u160, u161, u162, u163, u164, u165, u166, u167, u168, u169, u170, u171, u172, u173, u174, u175, u176, u177, u178, u179, u180, u181, u182, u183, u184, u185, u186, u187, u188, u189, u190, u191, u192, u193, u194, u195, u196, u197, u198, u199, u200, u201, u202, u203, u204, u205, u206, u207, u208, u209, u210, u211, u212, u213, u214, u215, u216, u217, u218, u219, u220, u221, u222, u223, u224, u225, u226, u227, u228, u229, u230, u231, u232, u233, u234, u235, u236, u237, u238, u239, u240, u241, u242, u243, u244, u245, u246, u247, u248, u249, u250, u251, u252, u253, u254, u255], []⟩ wq := by
 have hil : (i : Int) < (ls.length : Int) := by omega
 have hlb := HXq.out.blk.lt
 conv => arg 2; whnf
 have hS : stepL ⟨nm, sup, ifs, fl, ld, ms, 1⟩ x = (namedP wSuper (splitL 32 x)).map fun s => ⟨nm, s, ifs, fl, ld, ms, 2⟩ := rfl
 rw [hps] at hS
 have hwd : (⟨#[115, 117, 112, 101, 114]⟩ : ByteArray) = bs wSuper := rfl
 obtain ⟨on, hon⟩ : ∃ on, namedP wSuper ps = on := ⟨_, rfl⟩
 have Hnm := fun W h => hid (namedR_any gw capw ps wSuper W h (by omega))
 rw [hon] at Hnm hS
 have HS := hid hS
 clear hon hS
 cases on with
 | none =>
  simp only [Option.getD_none, Option.isSome_none] at Hnm
  go_wp2_with fail
  refine (Hnm _ HRW.out).out.mono ?_
  rintro e w1 ⟨rfl, hU1⟩
  simp only []
  have HX1 := hid (HXq.out.upd hU1)
  clear hU1 Hnm HXq HRW
  have hltz := HX1.out.blk.lt
  have z1 := (HX1.out.blk.cell 1).trans (show _ = some (.string (bs sup)) from rfl)
  have fz1 := HX1.out.blk.frozen 1
  go_wp2
  rw [HS.out]
  exact ⟨rfl, ⟨2, rfl⟩, bad_of (HX1.out.blk.set_ 1 _) (by simp [clsCells]) (HX1.out.os.setCell (.inr (Nat.le_refl _)) _)⟩
 | some s =>
  simp only [Option.getD_some, Option.isSome_some] at Hnm
  go_wp2_with fail
  refine (Hnm _ HRW.out).out.mono ?_
  rintro e w1 ⟨rfl, hU1⟩
  simp only []
  have HX1 := hid (HXq.out.upd hU1)
  clear hU1 Hnm HXq HRW
  have hltz := HX1.out.blk.lt
  have z1 := (HX1.out.blk.cell 1).trans (show _ = some (.string (bs sup)) from rfl)
  have fz1 := HX1.out.blk.frozen 1
  go_wp2
  rw [HS.out]
  exact ⟨rfl, rfl, vi, vm, cs, hid (HX1.out.store (r' := ⟨nm, s, ifs, fl, ld, ms, 2⟩) 1 (.string (bs s)) rfl rfl rfl)⟩
set_option maxHeartbeats 40000000 in
set_option maxRecDepth 100000 in
theorem doc_st8 (w wq : World) (ls : List (List UInt8)) (n0 g cap gw capw i : Nat) (nm sup : List UInt8) (ifs : List (List UInt8)) (fl ld : Int) (ms : List MethS) (vi vm : Value) (cs : List Value) (x : List UInt8) (ps : List (List UInt8))
  (hwf : (⟨nm, sup, ifs, fl, ld, ms, 8⟩ : RdS).wf i) (hin : i ≤ 40001) (hi : i < ls.length) (hln : ls.length ≤ 40001) (Hx0 : Hid (∀ W, RowAt W g ls → W.cell? ⟨g, i, none⟩ = some (.string (bs x)))) (hxl : x.length ≤ 40000) (hpsn : 0 < ps.length) (hpsl : ps.length ≤ 40001)
  (HRW : Hid (RowAt wq gw ps)) (HXq : Hid (DocX w n0 g ls ⟨nm, sup, ifs, fl, ld, ms, 8⟩ vi vm cs wq)) (Hjl : Hid (∀ k, (Lib.join (ps.drop k) [32]).length ≤ 40000)) (Hne : Hid (ps ≠ [])) (hps : splitL 32 x = ps)
  (u0 u1 u3 u4 u10 u11 u12 u13 u14 u15 u16 u17 u18 u19 u20 u21 u22 u23 u24 u25 u26 u27 u28 u29 u30 u31 u32 u33 u34 u35 u36 u37 u38 u39 u40 u41 u42 u43 u45 u46 u47 u48 u49 u50 u51 u52 u53 u54 u55 u56 u57 u58 u59 u60 u61 u62 u63 u64 u65 u66 u67 u68 u69 u70 u71 u72 u73 u74 u75 u76 u77 u78 u79 u80 u81 u82 u83 u84 u85 u86 u87 u88 u89 u90 u91 u92 u93 u94 u95 u96 u97 u98 u99 u100 u101 u102 u103 u104 u105 u106 u107 u108 u109 u110 u111 u112 u113 u114 u115 u116 u117 u118 u119 u120 u121 u122 u123 u124 u125 u126 u127 u128 u129 u130 u131 u132 u133 u134 u135 u136 u137 u138 u139 u140 u141 u142 u143 u144 u145 u146 u147 u148 u149 u150 u151 u152 u153 u154 u155 u156 u157 u158 u159 u160 u161 u162 u163 u164 u165 u166 u167 u168 u169 u170 u171 u172 u173 u174 u175 u176 u177 u178 u179 u180 u181 u182 u183 u184 u185 u186 u187 u188 u189 u190 u191 u192 u193 u194 u195 u196 u197 u198 u199 u200 u201 u202 u203 u204 u205 u206 u207 u208 u209 u210 u211 u212 u213 u214 u215 u216 u217 u218 u219 u220 u221 u222 u223 u224 u225 u226 u227 u228 u229 u230 u231 u232 u233 u234 u235 u236 u237 u238 u239 u240 u241 u242 u243 u244 u245 u246 u247 u248 u249 u250 u251 u252 u253 u254 u255 : Value) (K : Act → World → Prop) (Q : Exit → Act → World → Prop)
  (hK : ∀ (t6 t9 v10 v11 v12 v13 v14 v15 v16 v17 v18 v19 v20 v21 v22 v23 v24 v25 v45 v46 v47 v48 v49 v50 v51 v52 v53 v54 v55 v56 v57 v58 v59 v60 v61 v62 v63 v64 v65 v66 v67 v68 v69 v70 v71 v72 v73 v74 v75 v76 v77 v78 v79 v80 v81 v82 v83 v84 v85 v86 v87 v88 v89 v90 v91 v92 v93 v94 v95 v96 v97 v98 v99 v100 v101 v102 v103 v104 v105 v106 v107 v108 v109 v110 v111 v112 v113 v114 v115 v116 v117 v118 v119 v120 v121 v122 v123 v124 v125 v126 v127 v128 v129 v130 v131 v132 v133 v134 v135 v136 v137 v138 v139 v140 v141 v142 v143 v144 v145 v146 v147 v148 v149 v150 v151 v152 v153 v154 v155 v156 v157 v158 v159 v160 v161 v162 v163 v164 v165 v166 v167 v168 v169 v170 v171 v172 v173 v174 v175 v176 v177 v178 v179 v180 v181 v182 v183 v184 v185 v186 v187 v188 v189 v190 v191 v192 v193 v194 v195 v196 v197 v198 v199 v200 v201 v202 v203 v204 v205 v206 v207 v208 v209 v210 v211 v212 v213 v214 v215 v216 v217 v218 v219 v220 v221 v222 v223 v224 v225 v226 v227 v228 v229 v230 v231 : Value) (wx : World), cutPost w n0 g ls (stepL ⟨nm, sup, ifs, fl, ld, ms, 8⟩ x) t9 t6 wx → K ⟨#[u0, u1, .pointer (some ⟨w.heap.size, 0, none⟩), u3, u4, .slice (some ⟨g, 0, none⟩) ls.length cap, t6, .int .i64 (i : Int), .slice (some ⟨gw, 0, none⟩) ps.length capw, t9, v10, v11, v12, v13, v14, v15, v16, v17, v18, v19, v20, v21, v22, v23, v24, v25, u26, u27, u28, u29, u30, u31, u32, u33, u34, u35, u36, u37, u38, u39, u40, u41, u42, u43, .int .i64 ((8 : Nat) : Int), v45, v46, v47, v48, v49, v50, v51, v52, v53, v54, v55, v56, v57, v58, v59, v60, v61, v62, v63, v64, v65, v66, v67, v68, v69, v70, v71, v72, v73, v74, v75, v76, v77, v78, v79, v80, v81, v82, v83, v84, v85, v86, v87, v88, v89, v90, v91, v92, v93, v94, v95, v96, v97, v98, v99, v100, v101, v102, v103, v104, v105, v106, v107, v108, v109, v110, v111, v112, v113, v114, v115, v116, v117, v118, v119, v120, v121, v122, v123, v124, v125, v126, v127, v128, v129, v130, v131, v132, v133, v134, v135, v136, v137, v138, v139, v140, v141, v142, v143, v144, v145, v146, v147, v148, v149, v150, v151, v152, v153, v154, v155, v156, v157, v158, v159, v160, v161, v162, v163, v164, v165, v166, v167, v168, v169, v170, v171, v172, v173, v174, v175, v176, v177, v178, v179, v180, v181, v182, v183, v184, v185, v186, v187, v188, v189, v190, v191, v192, v193, v194, v195, v196, v197, v198, v199, v200, v201, v202, v203, v204, v205, v206, v207, v208, v209, v210, v211, v212, v213, v214, v215, v216, v217, v218, v219, v220, v221, v222, v223, v224, v225, v226, v227, v228, v229, v230, v231, u232, u233, u234, u235, u236, u237, u238, u239, u240, u241, u242, u243, u244, u245, u246, u247, u248, u249, u250, u251, u252, u253, u254, u255], []⟩ wx) :
  Code.wp Tryz.prog docBlk (Exit.then K Q) ⟨#[u0, u1, .pointer (some ⟨w.heap.size, 0, none⟩), u3, u4, .slice (some ⟨g, 0, none⟩) ls.length cap, .int .i64 ((8 : Nat) : Int), .int .i64 (i : Int), .slice (some ⟨gw, 0, none⟩) ps.length capw, .bool false, u10, u11, u12, u13, u14, u15, u16, u17, u18, u19, u20, u21, u22, u23, u24, u25, u26, u27, u28, u29, u30, u31, u32, u33, u34, u35, u36, u37, u38, u39, u40, u41, u42, u43, .int .i64 ((8 : Nat) : Int), u45, u46, u47, u48, u49, u50, u51, u52, u53, u54, u55, u56, u57, u58, u59, u60, u61, u62, u63, u64, u65, u66, u67, u68, u69, u70, u71, u72, u73, u74, u75, u76, u77, u78, u79, u80, u81, u82, u83, u84, u85, u86, u87, u88, u89, u90, u91, u92, u93, u94, u95, u96, u97, u98, u99, u100, u101, u102, u103, u104, u105, u106, u107, u108, u109, u110, u111, u112, u113, u114, u115, u116, u117, u118, u119, u120, u121, u122, u123, u124, u125, u126, u127, u128, u129, u130, u131, u132, u133, u134, u135, u136, u137, u138, u139, u140, u141, u142, u143, u144, u145, u146, u147, u148, u149, u150, u151, u152, u153, u154, u155, u156, u157, u158, u159, u160, u161, u162, u163, u164, u165, u166, u167, u168, u169, u170, u171, u172, u173, u174, u175, u176, u177, u178, u179, u180, u181, u182, u183, u184, u185, u186, u187, u188, u189, u190, u191, u192, u193, u194, u195, u196, u197, u198, u199, u200, u201, u202, u203, u204, u205, u206, u207, u208, u209, u210, u211, u212, u213, u214, u215, u216, u217, u218, u219, u220, u221, u222, u223, u224, u225, u226, u227, u228, u229, u230, u231, u232, u233, u234, u235, u236, u237, u238, u239, u240, u241, u242, u243, u244, u245, u246, u247, u248, u249, u250, u251, u252, u253, u254, u255], []⟩ wq := by
 have hil : (i : Int) < (ls.length : Int) := by omega
 have hlb := HXq.out.blk.lt
 conv => arg 2; whnf
 have HS : Hid (stepL ⟨nm, sup, ifs, fl, ld, ms, 8⟩ x = none) := hid rfl
 go_wp2
 rw [HS.out]
 exact ⟨rfl, ⟨8, rfl⟩, bad_of HXq.out.blk (by simp [clsCells]) HXq.out.os⟩
end Go.Proofs.YtjjdlgjofjfgmaaGreatDoor
/-
 The document's Parse of a class's text: a line in the state 2, walked. (Printed by gen_docP.py.)
-/
set_option linter.unusedSimpArgs false
set_option linter.unusedVariables false
namespace Go.Proofs.YtjjdlgjofjfgmaaGreatDoor
open Go.RowKit Go.Sort
set_option maxHeartbeats 40000000 in
set_option maxRecDepth 100000 in
theorem doc_st2 (w wq : World) (ls : List (List UInt8)) (n0 g cap gw capw i : Nat) (nm sup : List UInt8) (ifs : List (List UInt8)) (fl ld : Int) (ms : List MethS) (vi vm : Value) (cs : List Value) (x : List UInt8) (ps : List (List UInt8))
  (hwf : (⟨nm, sup, ifs, fl, ld, ms, 2⟩ : RdS).wf i) (hin : i ≤ 40001) (hi : i < ls.length) (hln : ls.length ≤ 40001) (Hx0 : Hid (∀ W, RowAt W g ls → W.cell? ⟨g, i, none⟩ = some (.string (bs x)))) (hxl : x.length ≤ 40000) (hpsn : 0 < ps.length) (hpsl : ps.length ≤ 40001)
  (HRW : Hid (RowAt wq gw ps)) (HXq : Hid (DocX w n0 g ls ⟨nm, sup, ifs, fl, ld, ms, 2⟩ vi vm cs wq)) (Hjl : Hid (∀ k, (Lib.join (ps.drop k) [32]).length ≤ 40000)) (Hne : Hid (ps ≠ [])) (hps : splitL 32 x = ps)
  (u0 u1 u3 u4 u10 u11 u12 u13 u14 u15 u16 u17 u18 u19 u20 u21 u22 u23 u24 u25 u26 u27 u28 u29 u30 u31 u32 u33 u34 u35 u36 u37 u38 u39 u40 u41 u42 u43 u45 u46 u47 u48 u49 u50 u51 u52 u53 u54 u55 u56 u57 u58 u59 u60 u61 u62 u63 u64 u65 u66 u67 u68 u69 u70 u71 u72 u73 u74 u75 u76 u77 u78 u79 u80 u81 u82 u83 u84 u85 u86 u87 u88 u89 u90 u91 u92 u93 u94 u95 u96 u97 u98 u99 u100 u101 u102 u103 u104 u105 u106 u107 u108 u109 u110 u111 u112 u113 u114 u115 u116 u117 u118 u119 u120 u121 u122 u123 u124 u125 u126 u127 u128 u129 u130 u131 u132 u133 u134 u135 u136 u137 u138 u139 u140 u141 u142 u143 u144 u145 u146 u147 u148 u149 u150 u151 u152 u153 u154 u155 u156 u157 u158 u159 u160 u161 u162 u163 u164 u165 u166 u167 u168 u169 u170 u171 u172 u173 u174 u175 u176 u177 u178 u179 u180 u181 u182 u183 u184 u185 u186 u187 u188 u189 u190 u191 u192 u193 u194 u195 u196 u197 u198 u199 u200 u201 u202 u203 u204 u205 u206 u207 u208 u209 u210 u211 u212 u213 u214 u215 u216 u217 u218 u219 u220 u221 u222 u223 u224 u225 u226 u227 u228 u229 u230 u231 u232 u233 u234 u235 u236 u237 u238 u239 u240 u241 u242 u243 u244 u245 u246 u247 u248 u249 u250 u251 u252 u253 u254 u255 : Value) (K : Act → World → Prop) (Q : Exit → Act → World → Prop)
  (hK : ∀ (t6 t9 v10 v11 v12 v13 v14 v15 v16 v17 v18 v19 v20 v21 v22 v23 v24 v25 v45 v46 v47 v48 v49 v50 v51 v52 v53 v54 v55 v56 v57 v58 v59 v60 v61 v62 v63 v64 v65 v66 v67 v68 v69 v70 v71 v72 v73 v74 v75 v76 v77 v78 v79 v80 v81 v82 v83 v84 v85 v86 v87 v88 v89 v90 v91 v92 v93 v94 v95 v96 v97 v98 v99 v100 v101 v102 v103 v104 v105 v106 v107 v108 v109 v110 v111 v112 v113 v114 v115 v116 v117 v118 v119 v120 v121 v122 v123 v124 v125 v126 v127 v128 v129 v130 v131 v132 v133 v134 v135 v136 v137 v138 v139 v140 v141 v142 v143 v144 v145 v146 v147 v148 v149 v150 v151 v152 v153 v154 v155 v156 v157 v158 v159 v160 v161 v162 v163 v164 v165 v166 v167 v168 v169 v170 v171 v172 v173 v174 v175 v176 v177 v178 v179 v180 v181 v182 v183 v184 v185 v186 v187 v188 v189 v190 v191 v192 v193 v194 v195 v196 v197 v198 v199 v200 v201 v202 v203 v204 v205 v206 v207 v208 v209 v210 v211 v212 v213 v214 v215 v216 v217 v218 v219 v220 v221 v222 v223 v224 v225 v226 v227 v228 v229 v230 v231 : Value) (wx : World), cutPost w n0 g ls (stepL ⟨nm, sup, ifs, fl, ld, ms, 2⟩ x) t9 t6 wx → K ⟨#[u0, u1, .pointer (some ⟨w.heap.size, 0, none⟩), u3, u4, .slice (some ⟨g, 0, none⟩) ls.length cap, t6, .int .i64 (i : Int), .slice (some ⟨gw, 0, none⟩) ps.length capw, t9, v10, v11, v12, v13, v14, v15, v16, v17, v18, v19, v20, v21, v22, v23, v24, v25, u26, u27, u28, u29, u30, u31, u32, u33, u34, u35, u36, u37, u38, u39, u40, u41, u42, u43, .int .i64 ((2 : Nat) : Int), v45, v46, v47, v48, v49, v50, v51, v52, v53, v54, v55, v56, v57, v58, v59, v60, v61, v62, v63, v64, v65, v66, v67, v68, v69, v70, v71, v72, v73, v74, v75, v76, v77, v78, v79, v80, v81, v82, v83, v84, v85, v86, v87, v88, v89, v90, v91, v92, v93, v94, v95, v96, v97, v98, v99, v100, v101, v102, v103, v104, v105, v106, v107, v108, v109, v110, v111, v112, v113, v114, v115, v116, v117, v118, v119, v120, v121, v122, v123, v124, v125, v126, v127, v128, v129, v130, v131, v132, v133, v134, v135, v136, v137, v138, v139, v140, v141, v142, v143, v144, v145, v146, v147, v148, v149, v150, v151, v152, v153, v154, v155, v156, v157, v158, v159, v160, v161, v162, v163, v164, v165, v166, v167, v168, v169, v170, v171, v172, v173, v174, v175, v176, v177, v178, v179, v180, v181, v182, v183, v184, v185, v186, v187, v188, v189, v190, v191, v192, v193, v194, v195, v196, v197, v198, v199, v200, v201, v202, v203, v204, v205, v206, v207, v208, v209, v210, v211, v212, v213, v214, v215, v216, v217, v218, v219, v220, v221, v222, v223, v224, v225, v226, v227, v228, v229, v230, v231, u232, u233, u234, u235, u236, u237, u238, u239, u240, u241, u242, u243, u244, u245, u246, u247, u248, u249, u250, u251, u252, u253, u254, u255], []⟩ wx) :
  Code.wp Tryz.prog docBlk (Exit.then K Q) ⟨#[u0, u1, .pointer (some ⟨w.heap.size, 0, none⟩), u3, u4, .slice (some ⟨g, 0, none⟩) ls.length cap, .int .i64 ((2 : Nat) : Int), .int .i64 (i : Int), .slice (some ⟨gw, 0, none⟩) ps.length capw, .bool false, u10, u11, u12, u13, u14, u15, u16, u17, u18, u19, u20, u21, u22, u23, u24, u25, u26, u27, u28, u29, u30, u31, u32, u33, u34, u35, u36, u37, u38, u39, u40, u41, u42, u43, .int .i64 ((2 : Nat) : Int), u45, u46, u47, u48, u49, u50, u51, u52, u53, u54, u55, u56, u57, u58, u59, u60, u61, u62, u63, u64, u65, u66, u67, u68, u69, u70, u71, u72, u73, u74, u75, u76, u77, u78, u79, u80, u81, u82, u83, u84, u85, u86, u87, u88, u89, u90, u91, u92, u93, u94, u95, u96, u97, u98, u99, u100, u101, u102, u103, u104, u105, u106, u107, u108, u109, u110, u111, u112, u113, u114, u115, u116, u117, u118, u119, u120, u121, u122, u123, u124, u125, u126, u127, u128, u129, u130, u131, u132, u133, u134, u135, u136, u137, u138, u139, u140, u141, u142, u143, u144, u145, u146, u147, u148, u149, u150, u151, u152, u153, u154, u155, u156, u157, u158, u159, u160, u161, u162, u163, u164, u165, u166, u167, u168, u169, u170, u171, u172, u173, u174, u175, u176, u177, u178, u179, u180, u181, u182, u183, u184, u185, u186, u187, u188, u189, u190, u191, u192, u193, u194, u195, u196, u197, u198, u199, u200, u201, u202, u203, u204, u205, u206, u207, u208, u209, u210, u211, u212, u213, u214, u215, u216, u217, u218, u219, u220, u221, u222, u223, u224, u225, u226, u227, u228, u229, u230, u231, u232, u233, u234, u235, u236, u237, u238, u239, u240, u241, u242, u243, u244, u245, u246, u247, u248, u249, u250, u251, u252, u253, u254, u255], []⟩ wq := by
 have hil : (i : Int) < (ls.length : Int) := by omega
 have hlb := HXq.out.blk.lt
 conv => arg 2; whnf
 have hS : stepL ⟨nm, sup, ifs, fl, ld, ms, 2⟩ x = match namedP wIface (splitL 32 x) with
  | some s => some ⟨nm, sup, ifs ++ [s], fl, ld, ms, 2⟩
  | none => (clsFlagsP (splitL 32 x)).map fun f => ⟨nm, sup, ifs, f, ld, ms, 3⟩ := rfl
 rw [hps, clsFlags_doc Hne.out] at hS
 have hwd : (⟨#[105, 102, 97, 99, 101]⟩ : ByteArray) = bs wIface := rfl
 have Hifs := hid hwf.ifs
 simp only at Hifs
 obtain ⟨on, hon⟩ : ∃ on, namedP wIface ps = on := ⟨_, rfl⟩
 have Hnm := fun W h => hid (namedR_any gw capw ps wIface W h (by omega))
 rw [hon] at Hnm hS
 clear hon
 cases on with
 | some s =>
  have HS := hid hS
  clear hS
  simp only [Option.getD_some, Option.isSome_some] at Hnm
  go_wp2_with fail
  refine (Hnm _ HRW.out).out.mono ?_
  rintro e w1 ⟨rfl, hU1⟩
  simp only []
  have HX1 := hid (HXq.out.upd hU1)
  clear hU1 Hnm HXq HRW
  obtain ⟨A, cap, rfl, -, -⟩ := own_slice HX1.out.li.oi
  have hltz := HX1.out.blk.lt
  have z2 := (HX1.out.blk.cell 2).trans (show _ = some (.slice A ifs.length cap) from rfl)
  have fz2 := HX1.out.blk.frozen 2
  obtain ⟨i0, hi0, hz0, hz1, hz2⟩ := info_parts infoString
  have hil : ifs.length ≤ 40001 := by have := Hifs.out; omega
  go_wp2_with (at_builtin; go_must (refine wpList_append_one _ rfl (.tmp 70) (.tmp 72) 22 rfl 9 i0 _ 1 16 Tryz.underlying22 hi0 hz0 hz1 hz2 rfl (by decide) (by decide) (.slice A ifs.length cap) ifs.length (ifs.map strV) rfl (by exact HX1.out.li.oi.alloc _) (by omega) w1.heap.size 9 #[.string (bs s)] rfl (by exact Blk.new_at (by simp)) rfl rfl ?_); intro g' cap' w' hown' hg' hat'; have HX2 := hid (HX1.out.upd ((Upd.refl w1 []).alloc (.cells #[.string (bs s)] 9))); have HB' := hid (HX2.out.blk.grown_own hg' HX2.out.li.oi ne_sc); have k2 := (HB'.out.cell 2).trans (show _ = some (.slice A ifs.length cap) from rfl); have fk2 := HB'.out.frozen 2; have hltk := HB'.out.lt)
  rw [HS.out]
  exact ⟨rfl, rfl, _, vm, cs, hid (HX2.out.iface (r := ⟨nm, sup, ifs, fl, ld, ms, 2⟩) s 2 g' cap' hg' hown' hat')⟩
 | none =>
  simp only [Option.getD_none, Option.isSome_none] at Hnm
  have Hfo := fun W h => hid (flagsOfR_any gw capw ps 1 false W h (by omega) (by omega) (Nat.le_trans (Hjl.out 1) (by omega)))
  simp only [Bool.false_eq_true, if_false] at Hfo
  generalize flagsO 1585 ps 1 = fo at Hfo hS
  obtain ⟨f, ok⟩ := fo
  simp only at Hfo hS
  have hp0 := HRW.out.2 0 hpsn
  have Hhd : Hid (ps.headD [] = ps[0]) := hid (by rw [List.headD_eq_head?_getD, List.head?_eq_getElem?, List.getElem?_eq_getElem hpsn]; rfl)
  rw [Hhd.out] at hS
  have H0 : Hid (∀ W, RowAt W gw ps → W.cell? ⟨gw, 0, none⟩ = some (.string (bs ps[0]))) := hid (fun W h => h.2 0 hpsn)
  generalize ps[0] = p0 at *
  have hkf : ((bs p0).toList == [102, 108, 97, 103, 115]) = decide (p0 = wFlags) := by rw [bs_toList]; exact bs_beq' p0 wFlags
  generalize decide (p0 = wFlags) = kf at hkf hS
  have HS := hid hS
  clear Hhd hS
  go_wp2_with fail
  refine (Hnm _ HRW.out).out.mono ?_
  rintro e w1 ⟨rfl, hU1⟩
  simp only []
  have HX1 := hid (HXq.out.upd hU1)
  have HRW1 := hid (HRW.out.upd hU1)
  clear hU1 Hnm HXq hp0
  go_wp2_with fail
  refine (Hfo _ HRW1.out).out.mono ?_
  rintro e w2 ⟨rfl, hU2⟩
  simp only []
  have HX2 := hid (HX1.out.upd hU2)
  have hRW2 := HRW1.out.upd hU2
  have y0 := H0.out _ hRW2
  have hgw2 := hRW2.1
  clear hU2 Hfo HX1 hRW2 HRW1 HRW
  have hltz := HX2.out.blk.lt
  have z3 := (HX2.out.blk.cell 3).trans (show _ = some (.int .i64 fl) from rfl)
  have fz3 := HX2.out.blk.frozen 3
  cases ok with
  | false =>
   go_wp2
   rw [HS.out]
   exact ⟨rfl, ⟨3, rfl⟩, bad_of (HX2.out.blk.set_ 3 (.int .i64 f)) (by simp [clsCells]) (HX2.out.os.setCell (.inr (Nat.le_refl _)) _)⟩
  | true =>
   cases kf with
   | false =>
    go_wp2
    rw [HS.out]
    exact ⟨rfl, ⟨3, rfl⟩, bad_of (HX2.out.blk.set_ 3 (.int .i64 f)) (by simp [clsCells]) (HX2.out.os.setCell (.inr (Nat.le_refl _)) _)⟩
   | true =>
    go_wp2
    rw [HS.out]
    exact ⟨rfl, rfl, vi, vm, cs, hid (HX2.out.store (r' := ⟨nm, sup, ifs, f, ld, ms, 3⟩) 3 (.int .i64 f) rfl rfl rfl)⟩
end Go.Proofs.YtjjdlgjofjfgmaaGreatDoor
/-
 The document's Parse of a class's text: a line in the state 3, walked. (Printed by gen_docP.py.)
-/
set_option linter.unusedSimpArgs false
set_option linter.unusedVariables false
namespace Go.Proofs.YtjjdlgjofjfgmaaGreatDoor
open Go.RowKit Go.Sort
set_option maxHeartbeats 40000000 in
set_option maxRecDepth 100000 in
theorem doc_st3 (w wq : World) (ls : List (List UInt8)) (n0 g cap gw capw i : Nat) (nm sup : List UInt8) (ifs : List (List UInt8)) (fl ld : Int) (ms : List MethS) (vi vm : Value) (cs : List Value) (x : List UInt8) (ps : List (List UInt8))
  (hwf : (⟨nm, sup, ifs, fl, ld, ms, 3⟩ : RdS).wf i) (hin : i ≤ 40001) (hi : i < ls.length) (hln : ls.length ≤ 40001) (Hx0 : Hid (∀ W, RowAt W g ls → W.cell? ⟨g, i, none⟩ = some (.string (bs x)))) (hxl : x.length ≤ 40000) (hpsn : 0 < ps.length) (hpsl : ps.length ≤ 40001)
  (HRW : Hid (RowAt wq gw ps)) (HXq : Hid (DocX w n0 g ls ⟨nm, sup, ifs, fl, ld, ms, 3⟩ vi vm cs wq)) (Hjl : Hid (∀ k, (Lib.join (ps.drop k) [32]).length ≤ 40000)) (Hne : Hid (ps ≠ [])) (hps : splitL 32 x = ps)
  (u0 u1 u3 u4 u10 u11 u12 u13 u14 u15 u16 u17 u18 u19 u20 u21 u22 u23 u24 u25 u26 u27 u28 u29 u30 u31 u32 u33 u34 u35 u36 u37 u38 u39 u40 u41 u42 u43 u45 u46 u47 u48 u49 u50 u51 u52 u53 u54 u55 u56 u57 u58 u59 u60 u61 u62 u63 u64 u65 u66 u67 u68 u69 u70 u71 u72 u73 u74 u75 u76 u77 u78 u79 u80 u81 u82 u83 u84 u85 u86 u87 u88 u89 u90 u91 u92 u93 u94 u95 u96 u97 u98 u99 u100 u101 u102 u103 u104 u105 u106 u107 u108 u109 u110 u111 u112 u113 u114 u115 u116 u117 u118 u119 u120 u121 u122 u123 u124 u125 u126 u127 u128 u129 u130 u131 u132 u133 u134 u135 u136 u137 u138 u139 u140 u141 u142 u143 u144 u145 u146 u147 u148 u149 u150 u151 u152 u153 u154 u155 u156 u157 u158 u159 u160 u161 u162 u163 u164 u165 u166 u167 u168 u169 u170 u171 u172 u173 u174 u175 u176 u177 u178 u179 u180 u181 u182 u183 u184 u185 u186 u187 u188 u189 u190 u191 u192 u193 u194 u195 u196 u197 u198 u199 u200 u201 u202 u203 u204 u205 u206 u207 u208 u209 u210 u211 u212 u213 u214 u215 u216 u217 u218 u219 u220 u221 u222 u223 u224 u225 u226 u227 u228 u229 u230 u231 u232 u233 u234 u235 u236 u237 u238 u239 u240 u241 u242 u243 u244 u245 u246 u247 u248 u249 u250 u251 u252 u253 u254 u255 : Value) (K : Act → World → Prop) (Q : Exit → Act → World → Prop)
  (hK : ∀ (t6 t9 v10 v11 v12 v13 v14 v15 v16 v17 v18 v19 v20 v21 v22 v23 v24 v25 v45 v46 v47 v48 v49 v50 v51 v52 v53 v54 v55 v56 v57 v58 v59 v60 v61 v62 v63 v64 v65 v66 v67 v68 v69 v70 v71 v72 v73 v74 v75 v76 v77 v78 v79 v80 v81 v82 v83 v84 v85 v86 v87 v88 v89 v90 v91 v92 v93 v94 v95 v96 v97 v98 v99 v100 v101 v102 v103 v104 v105 v106 v107 v108 v109 v110 v111 v112 v113 v114 v115 v116 v117 v118 v119 v120 v121 v122 v123 v124 v125 v126 v127 v128 v129 v130 v131 v132 v133 v134 v135 v136 v137 v138 v139 v140 v141 v142 v143 v144 v145 v146 v147 v148 v149 v150 v151 v152 v153 v154 v155 v156 v157 v158 v159 v160 v161 v162 v163 v164 v165 v166 v167 v168 v169 v170 v171 v172 v173 v174 v175 v176 v177 v178 v179 v180 v181 v182 v183 v184 v185 v186 v187 v188 v189 v190 v191 v192 v193 v194 v195 v196 v197 v198 v199 v200 v201 v202 v203 v204 v205 v206 v207 v208 v209 v210 v211 v212 v213 v214 v215 v216 v217 v218 v219 v220 v221 v222 v223 v224 v225 v226 v227 v228 v229 v230 v231 : Value) (wx : World), cutPost w n0 g ls (stepL ⟨nm, sup, ifs, fl, ld, ms, 3⟩ x) t9 t6 wx → K ⟨#[u0, u1, .pointer (some ⟨w.heap.size, 0, none⟩), u3, u4, .slice (some ⟨g, 0, none⟩) ls.length cap, t6, .int .i64 (i : Int), .slice (some ⟨gw, 0, none⟩) ps.length capw, t9, v10, v11, v12, v13, v14, v15, v16, v17, v18, v19, v20, v21, v22, v23, v24, v25, u26, u27, u28, u29, u30, u31, u32, u33, u34, u35, u36, u37, u38, u39, u40, u41, u42, u43, .int .i64 ((3 : Nat) : Int), v45, v46, v47, v48, v49, v50, v51, v52, v53, v54, v55, v56, v57, v58, v59, v60, v61, v62, v63, v64, v65, v66, v67, v68, v69, v70, v71, v72, v73, v74, v75, v76, v77, v78, v79, v80, v81, v82, v83, v84, v85, v86, v87, v88, v89, v90, v91, v92, v93, v94, v95, v96, v97, v98, v99, v100, v101, v102, v103, v104, v105, v106, v107, v108, v109, v110, v111, v112, v113, v114, v115, v116, v117, v118, v119, v120, v121, v122, v123, v124, v125, v126, v127, v128, v129, v130, v131, v132, v133, v134, v135, v136, v137, v138, v139, v140, v141, v142, v143, v144, v145, v146, v147, v148, v149, v150, v151, v152, v153, v154, v155, v156, v157, v158, v159, v160, v161, v162, v163, v164, v165, v166, v167, v168, v169, v170, v171, v172, v173, v174, v175, v176, v177, v178, v179, v180, v181, v182, v183, v184, v185, v186, v187, v188, v189, v190, v191, v192, v193, v194, v195, v196, v197, v198, v199, v200, v201, v202, v203, v204, v205, v206, v207, v208, v209, v210, v211, v212, v213, v214, v215, v216, v217, v218, v219, v220, v221, v222, v223, v224, v225, v226, v227, v228, v229, v230, v231, u232, u233, u234, u235, u236, u237, u238, u239, u240, u241, u242, u243, u244, u245, u246, u247, u248, u249, u250, u251, u252, u253, u254, u255], []⟩ wx) :
  Code.wp Tryz.prog docBlk (Exit.then K Q) ⟨#[u0, u1, .pointer (some ⟨w.heap.size, 0, none⟩), u3, u4, .slice (some ⟨g, 0, none⟩) ls.length cap, .int .i64 ((3 : Nat) : Int), .int .i64 (i : Int), .slice (some ⟨gw, 0, none⟩) ps.length capw, .bool false, u10, u11, u12, u13, u14, u15, u16, u17, u18, u19, u20, u21, u22, u23, u24, u25, u26, u27, u28, u29, u30, u31, u32, u33, u34, u35, u36, u37, u38, u39, u40, u41, u42, u43, .int .i64 ((3 : Nat) : Int), u45, u46, u47, u48, u49, u50, u51, u52, u53, u54, u55, u56, u57, u58, u59, u60, u61, u62, u63, u64, u65, u66, u67, u68, u69, u70, u71, u72, u73, u74, u75, u76, u77, u78, u79, u80, u81, u82, u83, u84, u85, u86, u87, u88, u89, u90, u91, u92, u93, u94, u95, u96, u97, u98, u99, u100, u101, u102, u103, u104, u105, u106, u107, u108, u109, u110, u111, u112, u113, u114, u115, u116, u117, u118, u119, u120, u121, u122, u123, u124, u125, u126, u127, u128, u129, u130, u131, u132, u133, u134, u135, u136, u137, u138, u139, u140, u141, u142, u143, u144, u145, u146, u147, u148, u149, u150, u151, u152, u153, u154, u155, u156, u157, u158, u159, u160, u161, u162, u163, u164, u165, u166, u167, u168, u169, u170, u171, u172, u173, u174, u175, u176, u177, u178, u179, u180, u181, u182, u183, u184, u185, u186, u187, u188, u189, u190, u191, u192, u193, u194, u195, u196, u197, u198, u199, u200, u201, u202, u203, u204, u205, u206, u207, u208, u209, u210, u211, u212, u213, u214, u215, u216, u217, u218, u219, u220, u221, u222, u223, u224, u225, u226, u227, u228, u229, u230, u231, u232, u233, u234, u235, u236, u237, u238, u239, u240, u241, u242, u243, u244, u245, u246, u247, u248, u249, u250, u251, u252, u253, u254, u255], []⟩ wq := by
 have hil : (i : Int) < (ls.length : Int) := by omega
 have hlb := HXq.out.blk.lt
 conv => arg 2; whnf
 have hS : stepL ⟨nm, sup, ifs, fl, ld, ms, 3⟩ x = (numberedP wLoader (splitL 32 x)).map fun n => ⟨nm, sup, ifs, fl, n, ms, 4⟩ := rfl
 rw [hps] at hS
 have hwd : (⟨#[108, 111, 97, 100, 101, 114]⟩ : ByteArray) = bs wLoader := rfl
 obtain ⟨on, hon⟩ : ∃ on, namedP wLoader ps = on := ⟨_, rfl⟩
 have Hnm := fun W h => hid (namedR_any gw capw ps wLoader W h (by omega))
 have hnp : numberedP wLoader ps = on.bind numL := by unfold numberedP; rw [hon]
 have Hsl : Hid (∀ s, on = some s → s.length ≤ 40000) := hid (fun s e => namedP_len (wd := wLoader) (line := x) (by rw [hps, hon, e]) hxl)
 rw [hnp] at hS
 rw [hon] at Hnm
 clear hon hnp
 cases on with
 | none =>
  have HS := hid hS
  clear hS
  simp only [Option.getD_none, Option.isSome_none] at Hnm
  have Hnu := fun W => hid (numberR_any [] W (by simp))
  rw [numL_nil] at Hnu
  simp only [Option.isSome_none] at Hnu
  have hnil : (⟨#[]⟩ : ByteArray) = bs [] := rfl
  generalize (numOut []).1 = n0' at Hnu
  go_wp2_with fail
  refine (Hnm _ HRW.out).out.mono ?_
  rintro e w1 ⟨rfl, hU1⟩
  simp only []
  have HX1 := hid (HXq.out.upd hU1)
  clear hU1 Hnm HXq HRW
  go_wp2_with fail
  refine (Hnu _).out.mono ?_
  rintro e w2 ⟨rfl, hU2⟩
  simp only []
  have HX2 := hid (HX1.out.upd hU2)
  clear hU2 Hnu HX1
  have hltz := HX2.out.blk.lt
  have z4 := (HX2.out.blk.cell 4).trans (show _ = some (.int .i64 ld) from rfl)
  have fz4 := HX2.out.blk.frozen 4
  go_wp2
  rw [HS.out]
  exact ⟨rfl, ⟨4, rfl⟩, bad_of (HX2.out.blk.set_ 4 (.int .i64 n0')) (by simp [clsCells]) (HX2.out.os.setCell (.inr (Nat.le_refl _)) _)⟩
 | some s =>
  simp only [Option.getD_some, Option.isSome_some] at Hnm
  have Hnu := fun W => hid (numberR_any s W (by have := Hsl.out s rfl; omega))
  obtain ⟨om, hom⟩ : ∃ om, numL s = om := ⟨_, rfl⟩
  have Hval : Hid (∀ n, om = some n → (numOut s).1 = n) := hid (fun n e => numL_val (hom.trans e))
  rw [show (some s).bind numL = om from hom] at hS
  rw [hom] at Hnu
  have HS := hid hS
  clear hom Hsl hS
  generalize (numOut s).1 = n at Hnu Hval
  cases om with
  | none =>
   simp only [Option.isSome_none] at Hnu
   clear Hval
   go_wp2_with fail
   refine (Hnm _ HRW.out).out.mono ?_
   rintro e w1 ⟨rfl, hU1⟩
   simp only []
   have HX1 := hid (HXq.out.upd hU1)
   clear hU1 Hnm HXq HRW
   go_wp2_with fail
   refine (Hnu _).out.mono ?_
   rintro e w2 ⟨rfl, hU2⟩
   simp only []
   have HX2 := hid (HX1.out.upd hU2)
   clear hU2 Hnu HX1
   have hltz := HX2.out.blk.lt
   have z4 := (HX2.out.blk.cell 4).trans (show _ = some (.int .i64 ld) from rfl)
   have fz4 := HX2.out.blk.frozen 4
   go_wp2
   rw [HS.out]
   exact ⟨rfl, ⟨4, rfl⟩, bad_of (HX2.out.blk.set_ 4 (.int .i64 n)) (by simp [clsCells]) (HX2.out.os.setCell (.inr (Nat.le_refl _)) _)⟩
  | some n1 =>
   simp only [Option.isSome_some] at Hnu
   have hv := Hval.out n1 rfl
   subst hv
   clear Hval
   go_wp2_with fail
   refine (Hnm _ HRW.out).out.mono ?_
   rintro e w1 ⟨rfl, hU1⟩
   simp only []
   have HX1 := hid (HXq.out.upd hU1)
   clear hU1 Hnm HXq HRW
   go_wp2_with fail
   refine (Hnu _).out.mono ?_
   rintro e w2 ⟨rfl, hU2⟩
   simp only []
   have HX2 := hid (HX1.out.upd hU2)
   clear hU2 Hnu HX1
   have hltz := HX2.out.blk.lt
   have z4 := (HX2.out.blk.cell 4).trans (show _ = some (.int .i64 ld) from rfl)
   have fz4 := HX2.out.blk.frozen 4
   go_wp2
   rw [HS.out]
   exact ⟨rfl, rfl, vi, vm, cs, hid (HX2.out.store (r' := ⟨nm, sup, ifs, fl, n, ms, 4⟩) 4 (.int .i64 n) rfl rfl rfl)⟩
end Go.Proofs.YtjjdlgjofjfgmaaGreatDoor
/-
 The document's Parse of a class's text: a line in the state 5, walked. (Printed by gen_docP.py.)
-/
set_option linter.unusedSimpArgs false
set_option linter.unusedVariables false
namespace Go.Proofs.YtjjdlgjofjfgmaaGreatDoor
open Go.RowKit Go.Sort
set_option maxHeartbeats 40000000 in
set_option maxRecDepth 100000 in
theorem doc_st5 (w wq : World) (ls : List (List UInt8)) (n0 g cap gw capw i : Nat) (nm sup : List UInt8) (ifs : List (List UInt8)) (fl ld : Int) (ms : List MethS) (vi vm : Value) (cs : List Value) (x : List UInt8) (ps : List (List UInt8))
  (hwf : (⟨nm, sup, ifs, fl, ld, ms, 5⟩ : RdS).wf i) (hin : i ≤ 40001) (hi : i < ls.length) (hln : ls.length ≤ 40001) (Hx0 : Hid (∀ W, RowAt W g ls → W.cell? ⟨g, i, none⟩ = some (.string (bs x)))) (hxl : x.length ≤ 40000) (hpsn : 0 < ps.length) (hpsl : ps.length ≤ 40001)
  (HRW : Hid (RowAt wq gw ps)) (HXq : Hid (DocX w n0 g ls ⟨nm, sup, ifs, fl, ld, ms, 5⟩ vi vm cs wq)) (Hjl : Hid (∀ k, (Lib.join (ps.drop k) [32]).length ≤ 40000)) (Hne : Hid (ps ≠ [])) (hps : splitL 32 x = ps)
  (u0 u1 u3 u4 u10 u11 u12 u13 u14 u15 u16 u17 u18 u19 u20 u21 u22 u23 u24 u25 u26 u27 u28 u29 u30 u31 u32 u33 u34 u35 u36 u37 u38 u39 u40 u41 u42 u43 u45 u46 u47 u48 u49 u50 u51 u52 u53 u54 u55 u56 u57 u58 u59 u60 u61 u62 u63 u64 u65 u66 u67 u68 u69 u70 u71 u72 u73 u74 u75 u76 u77 u78 u79 u80 u81 u82 u83 u84 u85 u86 u87 u88 u89 u90 u91 u92 u93 u94 u95 u96 u97 u98 u99 u100 u101 u102 u103 u104 u105 u106 u107 u108 u109 u110 u111 u112 u113 u114 u115 u116 u117 u118 u119 u120 u121 u122 u123 u124 u125 u126 u127 u128 u129 u130 u131 u132 u133 u134 u135 u136 u137 u138 u139 u140 u141 u142 u143 u144 u145 u146 u147 u148 u149 u150 u151 u152 u153 u154 u155 u156 u157 u158 u159 u160 u161 u162 u163 u164 u165 u166 u167 u168 u169 u170 u171 u172 u173 u174 u175 u176 u177 u178 u179 u180 u181 u182 u183 u184 u185 u186 u187 u188 u189 u190 u191 u192 u193 u194 u195 u196 u197 u198 u199 u200 u201 u202 u203 u204 u205 u206 u207 u208 u209 u210 u211 u212 u213 u214 u215 u216 u217 u218 u219 u220 u221 u222 u223 u224 u225 u226 u227 u228 u229 u230 u231 u232 u233 u234 u235 u236 u237 u238 u239 u240 u241 u242 u243 u244 u245 u246 u247 u248 u249 u250 u251 u252 u253 u254 u255 : Value) (K : Act → World → Prop) (Q : Exit → Act → World → Prop)
  (hK : ∀ (t6 t9 v10 v11 v12 v13 v14 v15 v16 v17 v18 v19 v20 v21 v22 v23 v24 v25 v45 v46 v47 v48 v49 v50 v51 v52 v53 v54 v55 v56 v57 v58 v59 v60 v61 v62 v63 v64 v65 v66 v67 v68 v69 v70 v71 v72 v73 v74 v75 v76 v77 v78 v79 v80 v81 v82 v83 v84 v85 v86 v87 v88 v89 v90 v91 v92 v93 v94 v95 v96 v97 v98 v99 v100 v101 v102 v103 v104 v105 v106 v107 v108 v109 v110 v111 v112 v113 v114 v115 v116 v117 v118 v119 v120 v121 v122 v123 v124 v125 v126 v127 v128 v129 v130 v131 v132 v133 v134 v135 v136 v137 v138 v139 v140 v141 v142 v143 v144 v145 v146 v147 v148 v149 v150 v151 v152 v153 v154 v155 v156 v157 v158 v159 v160 v161 v162 v163 v164 v165 v166 v167 v168 v169 v170 v171 v172 v173 v174 v175 v176 v177 v178 v179 v180 v181 v182 v183 v184 v185 v186 v187 v188 v189 v190 v191 v192 v193 v194 v195 v196 v197 v198 v199 v200 v201 v202 v203 v204 v205 v206 v207 v208 v209 v210 v211 v212 v213 v214 v215 v216 v217 v218 v219 v220 v221 v222 v223 v224 v225 v226 v227 v228 v229 v230 v231 : Value) (wx : World), cutPost w n0 g ls (stepL ⟨nm, sup, ifs, fl, ld, ms, 5⟩ x) t9 t6 wx → K ⟨#[u0, u1, .pointer (some ⟨w.heap.size, 0, none⟩), u3, u4, .slice (some ⟨g, 0, none⟩) ls.length cap, t6, .int .i64 (i : Int), .slice (some ⟨gw, 0, none⟩) ps.length capw, t9, v10, v11, v12, v13, v14, v15, v16, v17, v18, v19, v20, v21, v22, v23, v24, v25, u26, u27, u28, u29, u30, u31, u32, u33, u34, u35, u36, u37, u38, u39, u40, u41, u42, u43, .int .i64 ((5 : Nat) : Int), v45, v46, v47, v48, v49, v50, v51, v52, v53, v54, v55, v56, v57, v58, v59, v60, v61, v62, v63, v64, v65, v66, v67, v68, v69, v70, v71, v72, v73, v74, v75, v76, v77, v78, v79, v80, v81, v82, v83, v84, v85, v86, v87, v88, v89, v90, v91, v92, v93, v94, v95, v96, v97, v98, v99, v100, v101, v102, v103, v104, v105, v106, v107, v108, v109, v110, v111, v112, v113, v114, v115, v116, v117, v118, v119, v120, v121, v122, v123, v124, v125, v126, v127, v128, v129, v130, v131, v132, v133, v134, v135, v136, v137, v138, v139, v140, v141, v142, v143, v144, v145, v146, v147, v148, v149, v150, v151, v152, v153, v154, v155, v156, v157, v158, v159, v160, v161, v162, v163, v164, v165, v166, v167, v168, v169, v170, v171, v172, v173, v174, v175, v176, v177, v178, v179, v180, v181, v182, v183, v184, v185, v186, v187, v188, v189, v190, v191, v192, v193, v194, v195, v196, v197, v198, v199, v200, v201, v202, v203, v204, v205, v206, v207, v208, v209, v210, v211, v212, v213, v214, v215, v216, v217, v218, v219, v220, v221, v222, v223, v224, v225, v226, v227, v228, v229, v230, v231, u232, u233, u234, u235, u236, u237, u238, u239, u240, u241, u242, u243, u244, u245, u246, u247, u248, u249, u250, u251, u252, u253, u254, u255], []⟩ wx) :
  Code.wp Tryz.prog docBlk (Exit.then K Q) ⟨#[u0, u1, .pointer (some ⟨w.heap.size, 0, none⟩), u3, u4, .slice (some ⟨g, 0, none⟩) ls.length cap, .int .i64 ((5 : Nat) : Int), .int .i64 (i : Int), .slice (some ⟨gw, 0, none⟩) ps.length capw, .bool false, u10, u11, u12, u13, u14, u15, u16, u17, u18, u19, u20, u21, u22, u23, u24, u25, u26, u27, u28, u29, u30, u31, u32, u33, u34, u35, u36, u37, u38, u39, u40, u41, u42, u43, .int .i64 ((5 : Nat) : Int), u45, u46, u47, u48, u49, u50, u51, u52, u53, u54, u55, u56, u57, u58, u59, u60, u61, u62, u63, u64, u65, u66, u67, u68, u69, u70, u71, u72, u73, u74, u75, u76, u77, u78, u79, u80, u81, u82, u83, u84, u85, u86, u87, u88, u89, u90, u91, u92, u93, u94, u95, u96, u97, u98, u99, u100, u101, u102, u103, u104, u105, u106, u107, u108, u109, u110, u111, u112, u113, u114, u115, u116, u117, u118, u119, u120, u121, u122, u123, u124, u125, u126, u127, u128, u129, u130, u131, u132, u133, u134, u135, u136, u137, u138, u139, u140, u141, u142, u143, u144, u145, u146, u147, u148, u149, u150, u151, u152, u153, u154, u155, u156, u157, u158, u159, u160, u161, u162, u163, u164, u165, u166, u167, u168, u169, u170, u171, u172, u173, u174, u175, u176, u177, u178, u179, u180, u181, u182, u183, u184, u185, u186, u187, u188, u189, u190, u191, u192, u193, u194, u195, u196, u197, u198, u199, u200, u201, u202, u203, u204, u205, u206, u207, u208, u209, u210, u211, u212, u213, u214, u215, u216, u217, u218, u219, u220, u221, u222, u223, u224, u225, u226, u227, u228, u229, u230, u231, u232, u233, u234, u235, u236, u237, u238, u239, u240, u241, u242, u243, u244, u245, u246, u247, u248, u249, u250, u251, u252, u253, u254, u255], []⟩ wq := by
 have hil : (i : Int) < (ls.length : Int) := by omega
 have hlb := HXq.out.blk.lt
 conv => arg 2; whnf
 have hS : stepL ⟨nm, sup, ifs, fl, ld, ms, 5⟩ x = (numberedP wLocals (splitL 32 x)).map fun n => ⟨nm, sup, ifs, fl, ld, ms.modify (ms.length - 1) fun m => { m with lo := n }, 6⟩ := rfl
 rw [hps] at hS
 have Hms1 := hid (hwf.has (.inl rfl))
 have Hmsn : Hid (ms.length ≤ 50000) := hid (by have := hwf.ms; simp only at this; omega)
 simp only at Hms1
 have hwd : (⟨#[108, 111, 99, 97, 108, 115]⟩ : ByteArray) = bs wLocals := rfl
 obtain ⟨on, hon⟩ : ∃ on, namedP wLocals ps = on := ⟨_, rfl⟩
 have Hnm := fun W h => hid (namedR_any gw capw ps wLocals W h (by omega))
 have hnp : numberedP wLocals ps = on.bind numL := by unfold numberedP; rw [hon]
 have Hsl : Hid (∀ s, on = some s → s.length ≤ 40000) := hid (fun s e => namedP_len (wd := wLocals) (line := x) (by rw [hps, hon, e]) hxl)
 rw [hnp] at hS
 rw [hon] at Hnm
 clear hon hnp
 cases on with
 | none =>
  have HS := hid hS
  clear hS
  simp only [Option.getD_none, Option.isSome_none] at Hnm
  have Hnu := fun W => hid (numberR_any [] W (by simp))
  rw [numL_nil] at Hnu
  simp only [Option.isSome_none] at Hnu
  have hnil : (⟨#[]⟩ : ByteArray) = bs [] := rfl
  generalize (numOut []).1 = n0' at Hnu
  go_wp2_with fail
  refine (Hnm _ HRW.out).out.mono ?_
  rintro e w1 ⟨rfl, hU1⟩
  simp only []
  have HX1 := hid (HXq.out.upd hU1)
  clear hU1 Hnm HXq HRW
  go_wp2_with fail
  refine (Hnu _).out.mono ?_
  rintro e w2 ⟨rfl, hU2⟩
  simp only []
  have HX2 := hid (HX1.out.upd hU2)
  clear hU2 Hnu HX1
  obtain ⟨gm, cap, hvm, -, -, hgl⟩ := own_form HX2.out.li.om (by exact Hms1.out)
  subst hvm
  have Hbm := hid (HX2.out.li.bm gm rfl)
  have Hbg : Hid (w.heap.size ≠ gm) := hid (by have h1 := HX2.out.h1; have h2 := HX2.out.h2; have h3 := Hbm.out; omega)
  have hltz := HX2.out.blk.lt
  have z5 := (HX2.out.blk.cell 5).trans (show _ = some (.slice (some ⟨gm, 0, none⟩) ms.length cap) from rfl)
  have fz5 := HX2.out.blk.frozen 5
  have fx := HX2.out.li.om.frozenAt ((ms.length - 1) * 6 + 3)
  have x3 := HX2.out.li.om.cellAt ((ms.length - 1) * 6 + 3) (by show (ms.length - 1) * 6 + 3 < ms.length * 6; have := Hms1.out; omega)
  rw [methRows_get (ms.length - 1) (by show ms.length - 1 < ms.length; have := Hms1.out; omega) (by have h1 := HX2.out.li.len; have h2 := Hms1.out; simp only at h1; omega) 3 (by omega)] at x3
  simp only [methRow] at x3
  have hw1 : wrap64 ((ms.length : Int) - 1) = (ms.length : Int) - 1 := by have := Hms1.out; have := Hmsn.out; unfold wrap64; omega
  have hn1 : ((ms.length : Int) - 1).toNat = ms.length - 1 := by omega
  have hn2 : (0 : Int) ≤ (ms.length : Int) - 1 := by have := Hms1.out; omega
  have hn3 : (1 : Int) ≤ (ms.length : Int) := by have := Hms1.out; omega
  have hn4 : (ms.length : Int) - 1 < (ms.length : Int) := by omega
  have hne1 : ¬ w.heap.size = gm := Hbg.out
  have hne2 : ¬ gm = w.heap.size := fun h => Hbg.out h.symm
  go_wp2
  rw [HS.out]
  exact ⟨rfl, ⟨6, rfl⟩, bad_of (HX2.out.blk.far (p := ⟨gm, (ms.length - 1) * 6 + 3, none⟩) Hbg.out (.int .i64 n0')) (by simp [clsCells]) (HX2.out.os.setCell (.inr (by have h1 := HX2.out.h1; have h2 := HX2.out.h2; have h3 := Hbm.out; show w.heap.size ≤ gm; omega)) _)⟩
 | some s =>
  simp only [Option.getD_some, Option.isSome_some] at Hnm
  have Hnu := fun W => hid (numberR_any s W (by have := Hsl.out s rfl; omega))
  obtain ⟨om, hom⟩ : ∃ om, numL s = om := ⟨_, rfl⟩
  have Hval : Hid (∀ n, om = some n → (numOut s).1 = n) := hid (fun n e => numL_val (hom.trans e))
  rw [show (some s).bind numL = om from hom] at hS
  rw [hom] at Hnu
  have HS := hid hS
  clear hom Hsl hS
  generalize (numOut s).1 = n at Hnu Hval
  cases om with
  | none =>
   simp only [Option.isSome_none] at Hnu
   clear Hval
   go_wp2_with fail
   refine (Hnm _ HRW.out).out.mono ?_
   rintro e w1 ⟨rfl, hU1⟩
   simp only []
   have HX1 := hid (HXq.out.upd hU1)
   clear hU1 Hnm HXq HRW
   go_wp2_with fail
   refine (Hnu _).out.mono ?_
   rintro e w2 ⟨rfl, hU2⟩
   simp only []
   have HX2 := hid (HX1.out.upd hU2)
   clear hU2 Hnu HX1
   obtain ⟨gm, cap, hvm, -, -, hgl⟩ := own_form HX2.out.li.om (by exact Hms1.out)
   subst hvm
   have Hbm := hid (HX2.out.li.bm gm rfl)
   have Hbg : Hid (w.heap.size ≠ gm) := hid (by have h1 := HX2.out.h1; have h2 := HX2.out.h2; have h3 := Hbm.out; omega)
   have hltz := HX2.out.blk.lt
   have z5 := (HX2.out.blk.cell 5).trans (show _ = some (.slice (some ⟨gm, 0, none⟩) ms.length cap) from rfl)
   have fz5 := HX2.out.blk.frozen 5
   have fx := HX2.out.li.om.frozenAt ((ms.length - 1) * 6 + 3)
   have x3 := HX2.out.li.om.cellAt ((ms.length - 1) * 6 + 3) (by show (ms.length - 1) * 6 + 3 < ms.length * 6; have := Hms1.out; omega)
   rw [methRows_get (ms.length - 1) (by show ms.length - 1 < ms.length; have := Hms1.out; omega) (by have h1 := HX2.out.li.len; have h2 := Hms1.out; simp only at h1; omega) 3 (by omega)] at x3
   simp only [methRow] at x3
   have hw1 : wrap64 ((ms.length : Int) - 1) = (ms.length : Int) - 1 := by have := Hms1.out; have := Hmsn.out; unfold wrap64; omega
   have hn1 : ((ms.length : Int) - 1).toNat = ms.length - 1 := by omega
   have hn2 : (0 : Int) ≤ (ms.length : Int) - 1 := by have := Hms1.out; omega
   have hn3 : (1 : Int) ≤ (ms.length : Int) := by have := Hms1.out; omega
   have hn4 : (ms.length : Int) - 1 < (ms.length : Int) := by omega
   have hne1 : ¬ w.heap.size = gm := Hbg.out
   have hne2 : ¬ gm = w.heap.size := fun h => Hbg.out h.symm
   go_wp2
   rw [HS.out]
   exact ⟨rfl, ⟨6, rfl⟩, bad_of (HX2.out.blk.far (p := ⟨gm, (ms.length - 1) * 6 + 3, none⟩) Hbg.out (.int .i64 n)) (by simp [clsCells]) (HX2.out.os.setCell (.inr (by have h1 := HX2.out.h1; have h2 := HX2.out.h2; have h3 := Hbm.out; show w.heap.size ≤ gm; omega)) _)⟩
  | some n1 =>
   simp only [Option.isSome_some] at Hnu
   have hv := Hval.out n1 rfl
   subst hv
   clear Hval
   go_wp2_with fail
   refine (Hnm _ HRW.out).out.mono ?_
   rintro e w1 ⟨rfl, hU1⟩
   simp only []
   have HX1 := hid (HXq.out.upd hU1)
   clear hU1 Hnm HXq HRW
   go_wp2_with fail
   refine (Hnu _).out.mono ?_
   rintro e w2 ⟨rfl, hU2⟩
   simp only []
   have HX2 := hid (HX1.out.upd hU2)
   clear hU2 Hnu HX1
   obtain ⟨gm, cap, hvm, -, -, hgl⟩ := own_form HX2.out.li.om (by exact Hms1.out)
   subst hvm
   have Hbm := hid (HX2.out.li.bm gm rfl)
   have Hbg : Hid (w.heap.size ≠ gm) := hid (by have h1 := HX2.out.h1; have h2 := HX2.out.h2; have h3 := Hbm.out; omega)
   have hltz := HX2.out.blk.lt
   have z5 := (HX2.out.blk.cell 5).trans (show _ = some (.slice (some ⟨gm, 0, none⟩) ms.length cap) from rfl)
   have fz5 := HX2.out.blk.frozen 5
   have fx := HX2.out.li.om.frozenAt ((ms.length - 1) * 6 + 3)
   have x3 := HX2.out.li.om.cellAt ((ms.length - 1) * 6 + 3) (by show (ms.length - 1) * 6 + 3 < ms.length * 6; have := Hms1.out; omega)
   rw [methRows_get (ms.length - 1) (by show ms.length - 1 < ms.length; have := Hms1.out; omega) (by have h1 := HX2.out.li.len; have h2 := Hms1.out; simp only at h1; omega) 3 (by omega)] at x3
   simp only [methRow] at x3
   have hw1 : wrap64 ((ms.length : Int) - 1) = (ms.length : Int) - 1 := by have := Hms1.out; have := Hmsn.out; unfold wrap64; omega
   have hn1 : ((ms.length : Int) - 1).toNat = ms.length - 1 := by omega
   have hn2 : (0 : Int) ≤ (ms.length : Int) - 1 := by have := Hms1.out; omega
   have hn3 : (1 : Int) ≤ (ms.length : Int) := by have := Hms1.out; omega
   have hn4 : (ms.length : Int) - 1 < (ms.length : Int) := by omega
   have hne1 : ¬ w.heap.size = gm := Hbg.out
   have hne2 : ¬ gm = w.heap.size := fun h => Hbg.out h.symm
   go_wp2
   rw [HS.out]
   exact ⟨rfl, rfl, vi, _, cs, hid (HX2.out.num (r := ⟨nm, sup, ifs, fl, ld, ms, 5⟩) (ms.length - 1) (by show ms.length - 1 < ms.length; have := Hms1.out; omega) (fun m => { m with lo := n }) 6 3 (.int .i64 n) (by omega) (fun m => rfl) (fun m c => rfl))⟩
end Go.Proofs.YtjjdlgjofjfgmaaGreatDoor
/-
 The document's Parse of a class's text: a line in the state 6, walked. (Printed by gen_docP.py.)
-/
set_option linter.unusedSimpArgs false
set_option linter.unusedVariables false
namespace Go.Proofs.YtjjdlgjofjfgmaaGreatDoor
open Go.RowKit Go.Sort
set_option maxHeartbeats 40000000 in
set_option maxRecDepth 100000 in
theorem doc_st6 (w wq : World) (ls : List (List UInt8)) (n0 g cap gw capw i : Nat) (nm sup : List UInt8) (ifs : List (List UInt8)) (fl ld : Int) (ms : List MethS) (vi vm : Value) (cs : List Value) (x : List UInt8) (ps : List (List UInt8))
  (hwf : (⟨nm, sup, ifs, fl, ld, ms, 6⟩ : RdS).wf i) (hin : i ≤ 40001) (hi : i < ls.length) (hln : ls.length ≤ 40001) (Hx0 : Hid (∀ W, RowAt W g ls → W.cell? ⟨g, i, none⟩ = some (.string (bs x)))) (hxl : x.length ≤ 40000) (hpsn : 0 < ps.length) (hpsl : ps.length ≤ 40001)
  (HRW : Hid (RowAt wq gw ps)) (HXq : Hid (DocX w n0 g ls ⟨nm, sup, ifs, fl, ld, ms, 6⟩ vi vm cs wq)) (Hjl : Hid (∀ k, (Lib.join (ps.drop k) [32]).length ≤ 40000)) (Hne : Hid (ps ≠ [])) (hps : splitL 32 x = ps)
  (u0 u1 u3 u4 u10 u11 u12 u13 u14 u15 u16 u17 u18 u19 u20 u21 u22 u23 u24 u25 u26 u27 u28 u29 u30 u31 u32 u33 u34 u35 u36 u37 u38 u39 u40 u41 u42 u43 u45 u46 u47 u48 u49 u50 u51 u52 u53 u54 u55 u56 u57 u58 u59 u60 u61 u62 u63 u64 u65 u66 u67 u68 u69 u70 u71 u72 u73 u74 u75 u76 u77 u78 u79 u80 u81 u82 u83 u84 u85 u86 u87 u88 u89 u90 u91 u92 u93 u94 u95 u96 u97 u98 u99 u100 u101 u102 u103 u104 u105 u106 u107 u108 u109 u110 u111 u112 u113 u114 u115 u116 u117 u118 u119 u120 u121 u122 u123 u124 u125 u126 u127 u128 u129 u130 u131 u132 u133 u134 u135 u136 u137 u138 u139 u140 u141 u142 u143 u144 u145 u146 u147 u148 u149 u150 u151 u152 u153 u154 u155 u156 u157 u158 u159 u160 u161 u162 u163 u164 u165 u166 u167 u168 u169 u170 u171 u172 u173 u174 u175 u176 u177 u178 u179 u180 u181 u182 u183 u184 u185 u186 u187 u188 u189 u190 u191 u192 u193 u194 u195 u196 u197 u198 u199 u200 u201 u202 u203 u204 u205 u206 u207 u208 u209 u210 u211 u212 u213 u214 u215 u216 u217 u218 u219 u220 u221 u222 u223 u224 u225 u226 u227 u228 u229 u230 u231 u232 u233 u234 u235 u236 u237 u238 u239 u240 u241 u242 u243 u244 u245 u246 u247 u248 u249 u250 u251 u252 u253 u254 u255 : Value) (K : Act → World → Prop) (Q : Exit → Act → World → Prop)
  (hK : ∀ (t6 t9 v10 v11 v12 v13 v14 v15 v16 v17 v18 v19 v20 v21 v22 v23 v24 v25 v45 v46 v47 v48 v49 v50 v51 v52 v53 v54 v55 v56 v57 v58 v59 v60 v61 v62 v63 v64 v65 v66 v67 v68 v69 v70 v71 v72 v73 v74 v75 v76 v77 v78 v79 v80 v81 v82 v83 v84 v85 v86 v87 v88 v89 v90 v91 v92 v93 v94 v95 v96 v97 v98 v99 v100 v101 v102 v103 v104 v105 v106 v107 v108 v109 v110 v111 v112 v113 v114 v115 v116 v117 v118 v119 v120 v121 v122 v123 v124 v125 v126 v127 v128 v129 v130 v131 v132 v133 v134 v135 v136 v137 v138 v139 v140 v141 v142 v143 v144 v145 v146 v147 v148 v149 v150 v151 v152 v153 v154 v155 v156 v157 v158 v159 v160 v161 v162 v163 v164 v165 v166 v167 v168 v169 v170 v171 v172 v173 v174 v175 v176 v177 v178 v179 v180 v181 v182 v183 v184 v185 v186 v187 v188 v189 v190 v191 v192 v193 v194 v195 v196 v197 v198 v199 v200 v201 v202 v203 v204 v205 v206 v207 v208 v209 v210 v211 v212 v213 v214 v215 v216 v217 v218 v219 v220 v221 v222 v223 v224 v225 v226 v227 v228 v229 v230 v231 : Value) (wx : World), cutPost w n0 g ls (stepL ⟨nm, sup, ifs, fl, ld, ms, 6⟩ x) t9 t6 wx → K ⟨#[u0, u1, .pointer (some ⟨w.heap.size, 0, none⟩), u3, u4, .slice (some ⟨g, 0, none⟩) ls.length cap, t6, .int .i64 (i : Int), .slice (some ⟨gw, 0, none⟩) ps.length capw, t9, v10, v11, v12, v13, v14, v15, v16, v17, v18, v19, v20, v21, v22, v23, v24, v25, u26, u27, u28, u29, u30, u31, u32, u33, u34, u35, u36, u37, u38, u39, u40, u41, u42, u43, .int .i64 ((6 : Nat) : Int), v45, v46, v47, v48, v49, v50, v51, v52, v53, v54, v55, v56, v57, v58, v59, v60, v61, v62, v63, v64, v65, v66, v67, v68, v69, v70, v71, v72, v73, v74, v75, v76, v77, v78, v79, v80, v81, v82, v83, v84, v85, v86, v87, v88, v89, v90, v91, v92, v93, v94, v95, v96, v97, v98, v99, v100, v101, v102, v103, v104, v105, v106, v107, v108, v109, v110, v111, v112, v113, v114, v115, v116, v117, v118, v119, v120, v121, v122, v123, v124, v125, v126, v127, v128, v129, v130, v131, v132, v133, v134, v135, v136, v137, v138, v139, v140, v141, v142, v143, v144, v145, v146, v147, v148, v149, v150, v151, v152, v153, v154, v155, v156, v157, v158, v159, v160, v161, v162, v163, v164, v165, v166, v167, v168, v169, v170, v171, v172, v173, v174, v175, v176, v177, v178, v179, v180, v181, v182, v183, v184, v185, v186, v187, v188, v189, v190, v191, v192, v193, v194, v195, v196, v197, v198, v199, v200, v201, v202, v203, v204, v205, v206, v207, v208, v209, v210, v211, v212, v213, v214, v215, v216, v217, v218, v219, v220, v221, v222, v223, v224, v225, v226, v227, v228, v229, v230, v231, u232, u233, u234, u235, u236, u237, u238, u239, u240, u241, u242, u243, u244, u245, u246, u247, u248, u249, u250, u251, u252, u253, u254, u255], []⟩ wx) :
  Code.wp Tryz.prog docBlk (Exit.then K Q) ⟨#[u0, u1, .pointer (some ⟨w.heap.size, 0, none⟩), u3, u4, .slice (some ⟨g, 0, none⟩) ls.length cap, .int .i64 ((6 : Nat) : Int), .int .i64 (i : Int), .slice (some ⟨gw, 0, none⟩) ps.length capw, .bool false, u10, u11, u12, u13, u14, u15, u16, u17, u18, u19, u20, u21, u22, u23, u24, u25, u26, u27, u28, u29, u30, u31, u32, u33, u34, u35, u36, u37, u38, u39, u40, u41, u42, u43, .int .i64 ((6 : Nat) : Int), u45, u46, u47, u48, u49, u50, u51, u52, u53, u54, u55, u56, u57, u58, u59, u60, u61, u62, u63, u64, u65, u66, u67, u68, u69, u70, u71, u72, u73, u74, u75, u76, u77, u78, u79, u80, u81, u82, u83, u84, u85, u86, u87, u88, u89, u90, u91, u92, u93, u94, u95, u96, u97, u98, u99, u100, u101, u102, u103, u104, u105, u106, u107, u108, u109, u110, u111, u112, u113, u114, u115, u116, u117, u118, u119, u120, u121, u122, u123, u124, u125, u126, u127, u128, u129, u130, u131, u132, u133, u134, u135, u136, u137, u138, u139, u140, u141, u142, u143, u144, u145, u146, u147, u148, u149, u150, u151, u152, u153, u154, u155, u156, u157, u158, u159, u160, u161, u162, u163, u164, u165, u166, u167, u168, u169, u170, u171, u172, u173, u174, u175, u176, u177, u178, u179, u180, u181, u182, u183, u184, u185, u186, u187, u188, u189, u190, u191, u192, u193, u194, u195, u196, u197, u198, u199, u200, u201, u202, u203, u204, u205, u206, u207, u208, u209, u210, u211, u212, u213, u214, u215, u216, u217, u218, u219, u220, u221, u222, u223, u224, u225, u226, u227, u228, u229, u230, u231, u232, u233, u234, u235, u236, u237, u238, u239, u240, u241, u242, u243, u244, u245, u246, u247, u248, u249, u250, u251, u252, u253, u254, u255], []⟩ wq := by
 have hil : (i : Int) < (ls.length : Int) := by omega
 have hlb := HXq.out.blk.lt
 conv => arg 2; whnf
 have hS : stepL ⟨nm, sup, ifs, fl, ld, ms, 6⟩ x = (numberedP wStack (splitL 32 x)).map fun n => ⟨nm, sup, ifs, fl, ld, ms.modify (ms.length - 1) fun m => { m with st := n }, 7⟩ := rfl
 rw [hps] at hS
 have Hms1 := hid (hwf.has (.inr (.inl rfl)))
 have Hmsn : Hid (ms.length ≤ 50000) := hid (by have := hwf.ms; simp only at this; omega)
 simp only at Hms1
 have hwd : (⟨#[115, 116, 97, 99, 107]⟩ : ByteArray) = bs wStack := rfl
 obtain ⟨on, hon⟩ : ∃ on, namedP wStack ps = on := ⟨_, rfl⟩
 have Hnm := fun W h => hid (namedR_any gw capw ps wStack W h (by omega))
 have hnp : numberedP wStack ps = on.bind numL := by unfold numberedP; rw [hon]
 have Hsl : Hid (∀ s, on = some s → s.length ≤ 40000) := hid (fun s e => namedP_len (wd := wStack) (line := x) (by rw [hps, hon, e]) hxl)
 rw [hnp] at hS
 rw [hon] at Hnm
 clear hon hnp
 cases on with
 | none =>
  have HS := hid hS
  clear hS
  simp only [Option.getD_none, Option.isSome_none] at Hnm
  have Hnu := fun W => hid (numberR_any [] W (by simp))
  rw [numL_nil] at Hnu
  simp only [Option.isSome_none] at Hnu
  have hnil : (⟨#[]⟩ : ByteArray) = bs [] := rfl
  generalize (numOut []).1 = n0' at Hnu
  go_wp2_with fail
  refine (Hnm _ HRW.out).out.mono ?_
  rintro e w1 ⟨rfl, hU1⟩
  simp only []
  have HX1 := hid (HXq.out.upd hU1)
  clear hU1 Hnm HXq HRW
  go_wp2_with fail
  refine (Hnu _).out.mono ?_
  rintro e w2 ⟨rfl, hU2⟩
  simp only []
  have HX2 := hid (HX1.out.upd hU2)
  clear hU2 Hnu HX1
  obtain ⟨gm, cap, hvm, -, -, hgl⟩ := own_form HX2.out.li.om (by exact Hms1.out)
  subst hvm
  have Hbm := hid (HX2.out.li.bm gm rfl)
  have Hbg : Hid (w.heap.size ≠ gm) := hid (by have h1 := HX2.out.h1; have h2 := HX2.out.h2; have h3 := Hbm.out; omega)
  have hltz := HX2.out.blk.lt
  have z5 := (HX2.out.blk.cell 5).trans (show _ = some (.slice (some ⟨gm, 0, none⟩) ms.length cap) from rfl)
  have fz5 := HX2.out.blk.frozen 5
  have fx := HX2.out.li.om.frozenAt ((ms.length - 1) * 6 + 4)
  have x3 := HX2.out.li.om.cellAt ((ms.length - 1) * 6 + 4) (by show (ms.length - 1) * 6 + 4 < ms.length * 6; have := Hms1.out; omega)
  rw [methRows_get (ms.length - 1) (by show ms.length - 1 < ms.length; have := Hms1.out; omega) (by have h1 := HX2.out.li.len; have h2 := Hms1.out; simp only at h1; omega) 4 (by omega)] at x3
  simp only [methRow] at x3
  have hw1 : wrap64 ((ms.length : Int) - 1) = (ms.length : Int) - 1 := by have := Hms1.out; have := Hmsn.out; unfold wrap64; omega
  have hn1 : ((ms.length : Int) - 1).toNat = ms.length - 1 := by omega
  have hn2 : (0 : Int) ≤ (ms.length : Int) - 1 := by have := Hms1.out; omega
  have hn3 : (1 : Int) ≤ (ms.length : Int) := by have := Hms1.out; omega
  have hn4 : (ms.length : Int) - 1 < (ms.length : Int) := by omega
  have hne1 : ¬ w.heap.size = gm := Hbg.out
  have hne2 : ¬ gm = w.heap.size := fun h => Hbg.out h.symm
  go_wp2
  rw [HS.out]
  exact ⟨rfl, ⟨7, rfl⟩, bad_of (HX2.out.blk.far (p := ⟨gm, (ms.length - 1) * 6 + 4, none⟩) Hbg.out (.int .i64 n0')) (by simp [clsCells]) (HX2.out.os.setCell (.inr (by have h1 := HX2.out.h1; have h2 := HX2.out.h2; have h3 := Hbm.out; show w.heap.size ≤ gm; omega)) _)⟩
 | some s =>
  simp only [Option.getD_some, Option.isSome_some] at Hnm
  have Hnu := fun W => hid (numberR_any s W (by have := Hsl.out s rfl; omega))
  obtain ⟨om, hom⟩ : ∃ om, numL s = om := ⟨_, rfl⟩
  have Hval : Hid (∀ n, om = some n → (numOut s).1 = n) := hid (fun n e => numL_val (hom.trans e))
  rw [show (some s).bind numL = om from hom] at hS
  rw [hom] at Hnu
  have HS := hid hS
  clear hom Hsl hS
  generalize (numOut s).1 = n at Hnu Hval
  cases om with
  | none =>
   simp only [Option.isSome_none] at Hnu
   clear Hval
   go_wp2_with fail
   refine (Hnm _ HRW.out).out.mono ?_
   rintro e w1 ⟨rfl, hU1⟩
   simp only []
   have HX1 := hid (HXq.out.upd hU1)
   clear hU1 Hnm HXq HRW
   go_wp2_with fail
   refine (Hnu _).out.mono ?_
   rintro e w2 ⟨rfl, hU2⟩
   simp only []
   have HX2 := hid (HX1.out.upd hU2)
   clear hU2 Hnu HX1
   obtain ⟨gm, cap, hvm, -, -, hgl⟩ := own_form HX2.out.li.om (by exact Hms1.out)
   subst hvm
   have Hbm := hid (HX2.out.li.bm gm rfl)
   have Hbg : Hid (w.heap.size ≠ gm) := hid (by have h1 := HX2.out.h1; have h2 := HX2.out.h2; have h3 := Hbm.out; omega)
   have hltz := HX2.out.blk.lt
   have z5 := (HX2.out.blk.cell 5).trans (show _ = some (.slice (some ⟨gm, 0, none⟩) ms.length cap) from rfl)
   have fz5 := HX2.out.blk.frozen 5
   have fx := HX2.out.li.om.frozenAt ((ms.length - 1) * 6 + 4)
   have x3 := HX2.out.li.om.cellAt ((ms.length - 1) * 6 + 4) (by show (ms.length - 1) * 6 + 4 < ms.length * 6; have := Hms1.out; omega)
   rw [methRows_get (ms.length - 1) (by show ms.length - 1 < ms.length; have := Hms1.out; omega) (by have h1 := HX2.out.li.len; have h2 := Hms1.out; simp only at h1; omega) 4 (by omega)] at x3
   simp only [methRow] at x3
   have hw1 : wrap64 ((ms.length : Int) - 1) = (ms.length : Int) - 1 := by have := Hms1.out; have := Hmsn.out; unfold wrap64; omega
   have hn1 : ((ms.length : Int) - 1).toNat = ms.length - 1 := by omega
   have hn2 : (0 : Int) ≤ (ms.length : Int) - 1 := by have := Hms1.out; omega
   have hn3 : (1 : Int) ≤ (ms.length : Int) := by have := Hms1.out; omega
   have hn4 : (ms.length : Int) - 1 < (ms.length : Int) := by omega
   have hne1 : ¬ w.heap.size = gm := Hbg.out
   have hne2 : ¬ gm = w.heap.size := fun h => Hbg.out h.symm
   go_wp2
   rw [HS.out]
   exact ⟨rfl, ⟨7, rfl⟩, bad_of (HX2.out.blk.far (p := ⟨gm, (ms.length - 1) * 6 + 4, none⟩) Hbg.out (.int .i64 n)) (by simp [clsCells]) (HX2.out.os.setCell (.inr (by have h1 := HX2.out.h1; have h2 := HX2.out.h2; have h3 := Hbm.out; show w.heap.size ≤ gm; omega)) _)⟩
  | some n1 =>
   simp only [Option.isSome_some] at Hnu
   have hv := Hval.out n1 rfl
   subst hv
   clear Hval
   go_wp2_with fail
   refine (Hnm _ HRW.out).out.mono ?_
   rintro e w1 ⟨rfl, hU1⟩
   simp only []
   have HX1 := hid (HXq.out.upd hU1)
   clear hU1 Hnm HXq HRW
   go_wp2_with fail
   refine (Hnu _).out.mono ?_
   rintro e w2 ⟨rfl, hU2⟩
   simp only []
   have HX2 := hid (HX1.out.upd hU2)
   clear hU2 Hnu HX1
   obtain ⟨gm, cap, hvm, -, -, hgl⟩ := own_form HX2.out.li.om (by exact Hms1.out)
   subst hvm
   have Hbm := hid (HX2.out.li.bm gm rfl)
   have Hbg : Hid (w.heap.size ≠ gm) := hid (by have h1 := HX2.out.h1; have h2 := HX2.out.h2; have h3 := Hbm.out; omega)
   have hltz := HX2.out.blk.lt
   have z5 := (HX2.out.blk.cell 5).trans (show _ = some (.slice (some ⟨gm, 0, none⟩) ms.length cap) from rfl)
   have fz5 := HX2.out.blk.frozen 5
   have fx := HX2.out.li.om.frozenAt ((ms.length - 1) * 6 + 4)
   have x3 := HX2.out.li.om.cellAt ((ms.length - 1) * 6 + 4) (by show (ms.length - 1) * 6 + 4 < ms.length * 6; have := Hms1.out; omega)
   rw [methRows_get (ms.length - 1) (by show ms.length - 1 < ms.length; have := Hms1.out; omega) (by have h1 := HX2.out.li.len; have h2 := Hms1.out; simp only at h1; omega) 4 (by omega)] at x3
   simp only [methRow] at x3
   have hw1 : wrap64 ((ms.length : Int) - 1) = (ms.length : Int) - 1 := by have := Hms1.out; have := Hmsn.out; unfold wrap64; omega
   have hn1 : ((ms.length : Int) - 1).toNat = ms.length - 1 := by omega
   have hn2 : (0 : Int) ≤ (ms.length : Int) - 1 := by have := Hms1.out; omega
   have hn3 : (1 : Int) ≤ (ms.length : Int) := by have := Hms1.out; omega
   have hn4 : (ms.length : Int) - 1 < (ms.length : Int) := by omega
   have hne1 : ¬ w.heap.size = gm := Hbg.out
   have hne2 : ¬ gm = w.heap.size := fun h => Hbg.out h.symm
   go_wp2
   rw [HS.out]
   exact ⟨rfl, rfl, vi, _, cs, hid (HX2.out.num (r := ⟨nm, sup, ifs, fl, ld, ms, 6⟩) (ms.length - 1) (by show ms.length - 1 < ms.length; have := Hms1.out; omega) (fun m => { m with st := n }) 7 4 (.int .i64 n) (by omega) (fun m => rfl) (fun m c => rfl))⟩
end Go.Proofs.YtjjdlgjofjfgmaaGreatDoor
