/-
 The document's Parse of a class's text: a line in the state 7, walked. (Printed by gen_docP.py.)
-/
import Derived.Test.YtjjdlgjofjfgmaaGreatDoorKN
set_option linter.unusedSimpArgs false
set_option linter.unusedVariables false
namespace Go.Proofs.YtjjdlgjofjfgmaaGreatDoor
open Go.RowKit Go.Sort
set_option maxHeartbeats 40000000 in
set_option maxRecDepth 100000 in
theorem doc_st7i (w wq : World) (ls : List (List UInt8)) (n0 g cap gw capw i : Nat) (nm sup : List UInt8) (ifs : List (List UInt8)) (fl ld : Int) (ms : List MethS) (vi vm : Value) (cs : List Value) (x : List UInt8) (ps : List (List UInt8))
  (hwf : (⟨nm, sup, ifs, fl, ld, ms, 7⟩ : RdS).wf i) (hin : i ≤ 40001) (hi : i < ls.length) (hln : ls.length ≤ 40001) (Hx0 : Hid (∀ W, RowAt W g ls → W.cell? ⟨g, i, none⟩ = some (.string (bs x)))) (hxl : x.length ≤ 40000) (hpsn : 0 < ps.length) (hpsl : ps.length ≤ 40001)
  (HRW : Hid (RowAt wq gw ps)) (HXq : Hid (DocX w n0 g ls ⟨nm, sup, ifs, fl, ld, ms, 7⟩ vi vm cs wq)) (Hjl : Hid (∀ k, (Lib.join (ps.drop k) [32]).length ≤ 40000)) (Hne : Hid (ps ≠ [])) (hps : splitL 32 x = ps) (hend : x ≠ wEnd) (hm : ps[0]'hpsn ≠ wMethod)
  (u0 u1 u3 u4 u10 u11 u12 u13 u14 u15 u16 u17 u18 u19 u20 u21 u22 u23 u24 u25 u26 u27 u28 u29 u30 u31 u32 u33 u34 u35 u36 u37 u38 u39 u40 u41 u42 u43 u45 u46 u47 u48 u49 u50 u51 u52 u53 u54 u55 u56 u57 u58 u59 u60 u61 u62 u63 u64 u65 u66 u67 u68 u69 u70 u71 u72 u73 u74 u75 u76 u77 u78 u79 u80 u81 u82 u83 u84 u85 u86 u87 u88 u89 u90 u91 u92 u93 u94 u95 u96 u97 u98 u99 u100 u101 u102 u103 u104 u105 u106 u107 u108 u109 u110 u111 u112 u113 u114 u115 u116 u117 u118 u119 u120 u121 u122 u123 u124 u125 u126 u127 u128 u129 u130 u131 u132 u133 u134 u135 u136 u137 u138 u139 u140 u141 u142 u143 u144 u145 u146 u147 u148 u149 u150 u151 u152 u153 u154 u155 u156 u157 u158 u159 u160 u161 u162 u163 u164 u165 u166 u167 u168 u169 u170 u171 u172 u173 u174 u175 u176 u177 u178 u179 u180 u181 u182 u183 u184 u185 u186 u187 u188 u189 u190 u191 u192 u193 u194 u195 u196 u197 u198 u199 u200 u201 u202 u203 u204 u205 u206 u207 u208 u209 u210 u211 u212 u213 u214 u215 u216 u217 u218 u219 u220 u221 u222 u223 u224 u225 u226 u227 u228 u229 u230 u231 u232 u233 u234 u235 u236 u237 u238 u239 u240 u241 u242 u243 u244 u245 u246 u247 u248 u249 u250 u251 u252 u253 u254 u255 : Value) (K : Act → World → Prop) (Q : Exit → Act → World → Prop)
  (hK : ∀ (t6 t9 v10 v11 v12 v13 v14 v15 v16 v17 v18 v19 v20 v21 v22 v23 v24 v25 v45 v46 v47 v48 v49 v50 v51 v52 v53 v54 v55 v56 v57 v58 v59 v60 v61 v62 v63 v64 v65 v66 v67 v68 v69 v70 v71 v72 v73 v74 v75 v76 v77 v78 v79 v80 v81 v82 v83 v84 v85 v86 v87 v88 v89 v90 v91 v92 v93 v94 v95 v96 v97 v98 v99 v100 v101 v102 v103 v104 v105 v106 v107 v108 v109 v110 v111 v112 v113 v114 v115 v116 v117 v118 v119 v120 v121 v122 v123 v124 v125 v126 v127 v128 v129 v130 v131 v132 v133 v134 v135 v136 v137 v138 v139 v140 v141 v142 v143 v144 v145 v146 v147 v148 v149 v150 v151 v152 v153 v154 v155 v156 v157 v158 v159 v160 v161 v162 v163 v164 v165 v166 v167 v168 v169 v170 v171 v172 v173 v174 v175 v176 v177 v178 v179 v180 v181 v182 v183 v184 v185 v186 v187 v188 v189 v190 v191 v192 v193 v194 v195 v196 v197 v198 v199 v200 v201 v202 v203 v204 v205 v206 v207 v208 v209 v210 v211 v212 v213 v214 v215 v216 v217 v218 v219 v220 v221 v222 v223 v224 v225 v226 v227 v228 v229 v230 v231 : Value) (wx : World), cutPost w n0 g ls (stepL ⟨nm, sup, ifs, fl, ld, ms, 7⟩ x) t9 t6 wx → K ⟨#[u0, u1, .pointer (some ⟨w.heap.size, 0, none⟩), u3, u4, .slice (some ⟨g, 0, none⟩) ls.length cap, t6, .int .i64 (i : Int), .slice (some ⟨gw, 0, none⟩) ps.length capw, t9, v10, v11, v12, v13, v14, v15, v16, v17, v18, v19, v20, v21, v22, v23, v24, v25, u26, u27, u28, u29, u30, u31, u32, u33, u34, u35, u36, u37, u38, u39, u40, u41, u42, u43, .int .i64 ((7 : Nat) : Int), v45, v46, v47, v48, v49, v50, v51, v52, v53, v54, v55, v56, v57, v58, v59, v60, v61, v62, v63, v64, v65, v66, v67, v68, v69, v70, v71, v72, v73, v74, v75, v76, v77, v78, v79, v80, v81, v82, v83, v84, v85, v86, v87, v88, v89, v90, v91, v92, v93, v94, v95, v96, v97, v98, v99, v100, v101, v102, v103, v104, v105, v106, v107, v108, v109, v110, v111, v112, v113, v114, v115, v116, v117, v118, v119, v120, v121, v122, v123, v124, v125, v126, v127, v128, v129, v130, v131, v132, v133, v134, v135, v136, v137, v138, v139, v140, v141, v142, v143, v144, v145, v146, v147, v148, v149, v150, v151, v152, v153, v154, v155, v156, v157, v158, v159, v160, v161, v162, v163, v164, v165, v166, v167, v168, v169, v170, v171, v172, v173, v174, v175, v176, v177, v178, v179, v180, v181, v182, v183, v184, v185, v186, v187, v188, v189, v190, v191, v192, v193, v194, v195, v196, v197, v198, v199, v200, v201, v202, v203, v204, v205, v206, v207, v208, v209, v210, v211, v212, v213, v214, v215, v216, v217, v218, v219, v220, v221, v222, v223, v224, v225, v226, v227, v228, v229, v230, v231, u232, u233, u234, u235, u236, u237, u238, u239, u240, u241, u242, u243, u244, u245, u246, u247, u248, u249, u250, u251, u252, u253, u254, u255], []⟩ wx) :
  Code.wp Tryz.prog docBlk (Exit.then K Q) ⟨#[u0, u1, .pointer (some ⟨w.heap.size, 0, none⟩), u3, u4, .slice (some ⟨g, 0, none⟩) ls.length cap, .int .i64 ((7 : Nat) : Int), .int .i64 (i : Int), .slice (some ⟨gw, 0, none⟩) ps.length capw, .bool false, u10, u11, u12, u13, u14, u15, u16, u17, u18, u19, u20, u21, u22, u23, u24, u25, u26, u27, u28, u29, u30, u31, u32, u33, u34, u35, u36, u37, u38, u39, u40, u41, u42, u43, .int .i64 ((7 : Nat) : Int), u45, u46, u47, u48, u49, u50, u51, u52, u53, u54, u55, u56, u57, u58, u59, u60, u61, u62, u63, u64, u65, u66, u67, u68, u69, u70, u71, u72, u73, u74, u75, u76, u77, u78, u79, u80, u81, u82, u83, u84, u85, u86, u87, u88, u89, u90, u91, u92, u93, u94, u95, u96, u97, u98, u99, u100, u101, u102, u103, u104, u105, u106, u107, u108, u109, u110, u111, u112, u113, u114, u115, u116, u117, u118, u119, u120, u121, u122, u123, u124, u125, u126, u127, u128, u129, u130, u131, u132, u133, u134, u135, u136, u137, u138, u139, u140, u141, u142, u143, u144, u145, u146, u147, u148, u149, u150, u151, u152, u153, u154, u155, u156, u157, u158, u159, u160, u161, u162, u163, u164, u165, u166, u167, u168, u169, u170, u171, u172, u173, u174, u175, u176, u177, u178, u179, u180, u181, u182, u183, u184, u185, u186, u187, u188, u189, u190, u191, u192, u193, u194, u195, u196, u197, u198, u199, u200, u201, u202, u203, u204, u205, u206, u207, u208, u209, u210, u211, u212, u213, u214, u215, u216, u217, u218, u219, u220, u221, u222, u223, u224, u225, u226, u227, u228, u229, u230, u231, u232, u233, u234, u235, u236, u237, u238, u239, u240, u241, u242, u243, u244, u245, u246, u247, u248, u249, u250, u251, u252, u253, u254, u255], []⟩ wq := by
 have hil : (i : Int) < (ls.length : Int) := by omega
 have hlb := HXq.out.blk.lt
 conv => arg 2; whnf
 have hS : stepL ⟨nm, sup, ifs, fl, ld, ms, 7⟩ x = if x = wEnd then some ⟨nm, sup, ifs, fl, ld, ms, 8⟩ else match beginP (splitL 32 x) with
  | some m => some ⟨nm, sup, ifs, fl, ld, ms ++ [m], 5⟩
  | none => if (parseOut x).2 = 0 then some ⟨nm, sup, ifs, fl, ld, ms.modify (ms.length - 1) fun m => { m with code := m.code ++ [(parseOut x).1] }, 7⟩ else none := rfl
 have hkey := key_end x
 rw [if_neg hend] at hS
 rw [decide_eq_false hend] at hkey
 have hkn : ¬ (bs x).toList = [101, 110, 100] := by rw [beq_eq_false_iff_ne] at hkey; exact hkey
 have hx0 := Hx0.out _ HXq.out.row
 have hgl := HXq.out.row.1
 have hp0 := HRW.out.2 0 hpsn
 have hgw := HRW.out.1
 have Hhd : Hid (ps.headD [] = ps[0]) := hid (by rw [List.headD_eq_head?_getD, List.head?_eq_getElem?, List.getElem?_eq_getElem hpsn]; rfl)
 have hi0 : (0 : Int) < ps.length := by omega
 have Hmsn : Hid (ms.length ≤ 50000) := hid (by have := hwf.ms; simp only at this; omega)
 rw [hps, begin_doc, Hhd.out, if_neg hm] at hS
 obtain ⟨km, kn⟩ := key_other hm
 clear hm Hhd hend
 generalize ps[0] = p0 at *
 have Hpa := fun W => hid (parseRI_any x W (by omega))
 rw [docOut_eq] at Hpa
 have Hms1 := hid (hwf.has (.inr (.inr rfl)))
 simp only at Hms1
 have Hcd : Hid ((codeOf ms (ms.length - 1)).length ≤ 50000) := hid (Nat.le_trans (codeOf_le hwf.code _) (by omega))
 generalize parseOut x = PO at Hpa hS
 obtain ⟨⟨po, pn, pt, ⟨pi, pc, pm, pd⟩⟩, pe⟩ := PO
 unfold InstL.v InstL.cells at Hpa
 simp only at Hpa hS
 have HS := hid hS
 clear hS
 go_wp2_with fail
 refine (Hpa _).out.mono ?_
 rintro e w1 ⟨rfl, hU1⟩
 simp only []
 have HUa := hid (hU1.alloc (.cells #[.int .i64 po, .int .i64 pn, .string (bs pt), .bool pi, .string (bs pc), .string (bs pm), .string (bs pd)] 41))
 have HI2 := hid (Blk.new w1 41 #[.int .i64 po, .int .i64 pn, .string (bs pt), .bool pi, .string (bs pc), .string (bs pm), .string (bs pd)])
 clear hU1 Hpa
 go_upto_region 44 with (fail)
 revert HUa HI2
 generalize w1.alloc (.cells #[.int .i64 po, .int .i64 pn, .string (bs pt), .bool pi, .string (bs pc), .string (bs pm), .string (bs pd)] 41) = w2
 intro HUa HI2
 have HX2 := hid (HXq.out.upd HUa.out)
 clear HXq HUa
 obtain ⟨gm, cap, hvm, -, -, hgml⟩ := own_form HX2.out.li.om (by exact Hms1.out)
 subst hvm
 have hli : ms.length - 1 < cs.length := by have h1 := HX2.out.li.len; have h2 := Hms1.out; simp only at h1; omega
 have Hbm := hid (HX2.out.li.bm gm rfl)
 have Hbg : Hid (w.heap.size ≠ gm) := hid (by have h1 := HX2.out.h1; have h2 := HX2.out.h2; have h3 := Hbm.out; omega)
 have hltz := HX2.out.blk.lt
 have z5 := (HX2.out.blk.cell 5).trans (show _ = some (.slice (some ⟨gm, 0, none⟩) ms.length cap) from rfl)
 have fz5 := HX2.out.blk.frozen 5
 have fx := HX2.out.li.om.frozenAt ((ms.length - 1) * 6 + 5)
 have x5 := HX2.out.li.om.cellAt ((ms.length - 1) * 6 + 5) (by show (ms.length - 1) * 6 + 5 < ms.length * 6; have := Hms1.out; omega)
 rw [methRows_get (ms.length - 1) (by show ms.length - 1 < ms.length; have := Hms1.out; omega) hli 5 (by omega)] at x5
 simp only [methRow] at x5
 have hoc := HX2.out.li.oc (ms.length - 1) hli
 obtain ⟨cv, hcv⟩ : ∃ cv, cs[ms.length - 1] = cv := ⟨_, rfl⟩
 rw [hcv] at x5 hoc
 have Hcv := hid hcv
 clear hcv
 obtain ⟨A, capc, rfl, -, -⟩ := own_slice hoc
 have Hoc := hid hoc
 clear hoc
 replace x5 : w2.cell? ⟨gm, (ms.length - 1) * 6 + 5, none⟩ = some (.slice A (codeOf ms (ms.length - 1)).length capc) := x5
 have hw1 : wrap64 ((ms.length : Int) - 1) = (ms.length : Int) - 1 := by have := Hms1.out; have := Hmsn.out; unfold wrap64; omega
 have hn1 : ((ms.length : Int) - 1).toNat = ms.length - 1 := by omega
 have hn2 : (0 : Int) ≤ (ms.length : Int) - 1 := by have := Hms1.out; omega
 have hn3 : (1 : Int) ≤ (ms.length : Int) := by have := Hms1.out; omega
 have hn4 : (ms.length : Int) - 1 < (ms.length : Int) := by omega
 go_upto_region 46 with (fail)
 have m0 := (HI2.out.cell 0).trans (show _ = some (.int .i64 po) from rfl)
 have m1 := (HI2.out.cell 1).trans (show _ = some (.int .i64 pn) from rfl)
 have m2 := (HI2.out.cell 2).trans (show _ = some (.string (bs pt)) from rfl)
 have m3 := (HI2.out.cell 3).trans (show _ = some (.bool pi) from rfl)
 have m4 := (HI2.out.cell 4).trans (show _ = some (.string (bs pc)) from rfl)
 have m5 := (HI2.out.cell 5).trans (show _ = some (.string (bs pm)) from rfl)
 have m6 := (HI2.out.cell 6).trans (show _ = some (.string (bs pd)) from rfl)
 have hltm := HI2.out.lt
 obtain ⟨i0, hi0, hz0, hz1, hz2⟩ := info_parts infoInst7
 have hcdl : (codeOf ms (ms.length - 1)).length ≤ 50000 := Hcd.out
 have Hkeep : Hid (∀ W w' : World, Upd w2 W [] → W.grownBy w' (Value.slice A (codeOf ms (ms.length - 1)).length capc).ownBlock → (w'.cell? ⟨w.heap.size, 5, none⟩ = some (.slice (some ⟨gm, 0, none⟩) ms.length cap) ∧ w'.frozen? ⟨w.heap.size, 5, none⟩ = false ∧ w'.cell? ⟨gm, (ms.length - 1) * 6 + 5, none⟩ = some (.slice A (codeOf ms (ms.length - 1)).length capc) ∧ w'.frozen? ⟨gm, (ms.length - 1) * 6 + 5, none⟩ = false ∧ Hid (DocX w n0 g (ls) ⟨nm, sup, ifs, fl, ld, ms, 7⟩ vi (.slice (some ⟨gm, 0, none⟩) ms.length cap) cs W))) := hid (fun W w' hU hg => by
  have HXW := hid (HX2.out.upd hU)
  have hocW := HXW.out.li.oc (ms.length - 1) hli
  rw [Hcv.out] at hocW
  have hB := HXW.out.blk.grown_own hg hocW ne_ic
  have hom := own_grown_own HXW.out.li.om hg hocW (by decide)
  have h1 := hom.cellAt ((ms.length - 1) * 6 + 5) (by show (ms.length - 1) * 6 + 5 < ms.length * 6; have := Hms1.out; omega)
  rw [methRows_get (ms.length - 1) (by show ms.length - 1 < ms.length; have := Hms1.out; omega) hli 5 (by omega)] at h1
  simp only [methRow] at h1
  rw [Hcv.out] at h1
  exact ⟨(hB.cell 5).trans rfl, hB.frozen 5, h1, hom.frozenAt _, HXW⟩)
 have xa : (w2.alloc (.cells #[.int .i64 po, .int .i64 pn, .string (bs pt), .bool pi, .string (bs pc), .string (bs pm), .string (bs pd)] 41)).cell? ⟨w.heap.size, 5, none⟩ = some (.slice (some ⟨gm, 0, none⟩) ms.length cap) := by rw [World.cell?_alloc_lt _ _ _ (World.block_lt_of_cell? w2 _ z5)]; exact z5
 have xa5 : (w2.alloc (.cells #[.int .i64 po, .int .i64 pn, .string (bs pt), .bool pi, .string (bs pc), .string (bs pm), .string (bs pd)] 41)).cell? ⟨gm, (ms.length - 1) * 6 + 5, none⟩ = some (.slice A (codeOf ms (ms.length - 1)).length capc) := by rw [World.cell?_alloc_lt _ _ _ (World.block_lt_of_cell? w2 _ x5)]; exact x5
 refine wp_region_noPanic ?_
 go_region_law (first
  | (refine step_append_one _ rfl (.tmp 176) (.tmp 178) 32 rfl 41 i0 _ 7 88 Tryz.underlying32 hi0 hz0 hz1 hz2 rfl (by decide) (by decide) (.slice A (codeOf ms (ms.length - 1)).length capc) (codeOf ms (ms.length - 1)).length (instV (codeOf ms (ms.length - 1))) rfl (by exact Hoc.out.alloc _) (by omega) w2.heap.size 41 #[.int .i64 po, .int .i64 pn, .string (bs pt), .bool pi, .string (bs pc), .string (bs pm), .string (bs pd)] rfl (by exact Blk.new_at (by simp)) rfl rfl ?_; intro g' cap' w' hown' hg' hat'; obtain ⟨k5, fk5, kx, fkx, HXW⟩ := Hkeep.out _ w' (by first | exact ((Upd.refl w2 []).alloc _) | exact ((Upd.refl w2 []).alloc _).drew | exact ((Upd.refl w2 []).drew).alloc _) hg'))
 all_goals
  refine NoPanic.normal ?_
  go_wp2
  rw [HS.out]
  by_cases hpe : pe = 0
  ·subst hpe
   rw [if_pos rfl]
   exact ⟨rfl, rfl, vi, _, _, hid (HXW.out.inst (r := ⟨nm, sup, ifs, fl, ld, ms, 7⟩) (ms.length - 1) hli ⟨po, pn, pt, ⟨pi, pc, pm, pd⟩⟩ (.slice (some ⟨g', 0, none⟩) ((codeOf ms (ms.length - 1)).length + 1) cap') 7 hown' (by rw [Hcv.out]; exact hg') (fun k hk => by
    simp [Value.ownBlock] at hk
    subst hk
    rw [Hcv.out]
    exact hat'))⟩
  ·rw [if_neg hpe]
   have hpb : (pe == 0) = false := by rw [beq_eq_false_iff_ne]; exact hpe
   have hocW := HXW.out.li.oc (ms.length - 1) hli
   rw [Hcv.out] at hocW
   exact ⟨by rw [hpb], ⟨7, rfl⟩, bad_of ((HXW.out.blk.grown_own hg' hocW ne_ic).far (p := ⟨gm, (ms.length - 1) * 6 + 5, none⟩) Hbg.out _) (by simp [clsCells]) ((HXW.out.os.grown hg' (fun k hk => .inr (by have h1 := HXW.out.h1; have h2 := HXW.out.h2; have h3 := HXW.out.li.bc (ms.length - 1) hli k (by rw [Hcv.out]; exact hk); omega))).setCell (p := ⟨gm, (ms.length - 1) * 6 + 5, none⟩) (.inr (by have h1 := HXW.out.h1; have h2 := HXW.out.h2; have h3 := Hbm.out; show w.heap.size ≤ gm; omega)) _)⟩
end Go.Proofs.YtjjdlgjofjfgmaaGreatDoor
