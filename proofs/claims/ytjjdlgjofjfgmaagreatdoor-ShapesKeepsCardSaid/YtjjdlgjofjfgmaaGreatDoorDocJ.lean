/-
 The document's Parse of a class's text: a line in the state 4, walked. (Printed by gen_docP.py.)
-/
import Derived.Test.YtjjdlgjofjfgmaaGreatDoorKN
set_option linter.unusedSimpArgs false
set_option linter.unusedVariables false
namespace Go.Proofs.YtjjdlgjofjfgmaaGreatDoor
open Go.RowKit Go.Sort
set_option maxHeartbeats 40000000 in
set_option maxRecDepth 100000 in
theorem doc_st4 (w wq : World) (ls : List (List UInt8)) (n0 g cap gw capw i : Nat) (nm sup : List UInt8) (ifs : List (List UInt8)) (fl ld : Int) (ms : List MethS) (vi vm : Value) (cs : List Value) (x : List UInt8) (ps : List (List UInt8))
  (hwf : (⟨nm, sup, ifs, fl, ld, ms, 4⟩ : RdS).wf i) (hin : i ≤ 40001) (hi : i < ls.length) (hln : ls.length ≤ 40001) (Hx0 : Hid (∀ W, RowAt W g ls → W.cell? ⟨g, i, none⟩ = some (.string (bs x)))) (hxl : x.length ≤ 40000) (hpsn : 0 < ps.length) (hpsl : ps.length ≤ 40001)
  (HRW : Hid (RowAt wq gw ps)) (HXq : Hid (DocX w n0 g ls ⟨nm, sup, ifs, fl, ld, ms, 4⟩ vi vm cs wq)) (Hjl : Hid (∀ k, (Lib.join (ps.drop k) [32]).length ≤ 40000)) (Hne : Hid (ps ≠ [])) (hps : splitL 32 x = ps)
  (u0 u1 u3 u4 u10 u11 u12 u13 u14 u15 u16 u17 u18 u19 u20 u21 u22 u23 u24 u25 u26 u27 u28 u29 u30 u31 u32 u33 u34 u35 u36 u37 u38 u39 u40 u41 u42 u43 u45 u46 u47 u48 u49 u50 u51 u52 u53 u54 u55 u56 u57 u58 u59 u60 u61 u62 u63 u64 u65 u66 u67 u68 u69 u70 u71 u72 u73 u74 u75 u76 u77 u78 u79 u80 u81 u82 u83 u84 u85 u86 u87 u88 u89 u90 u91 u92 u93 u94 u95 u96 u97 u98 u99 u100 u101 u102 u103 u104 u105 u106 u107 u108 u109 u110 u111 u112 u113 u114 u115 u116 u117 u118 u119 u120 u121 u122 u123 u124 u125 u126 u127 u128 u129 u130 u131 u132 u133 u134 u135 u136 u137 u138 u139 u140 u141 u142 u143 u144 u145 u146 u147 u148 u149 u150 u151 u152 u153 u154 u155 u156 u157 u158 u159 u160 u161 u162 u163 u164 u165 u166 u167 u168 u169 u170 u171 u172 u173 u174 u175 u176 u177 u178 u179 u180 u181 u182 u183 u184 u185 u186 u187 u188 u189 u190 u191 u192 u193 u194 u195 u196 u197 u198 u199 u200 u201 u202 u203 u204 u205 u206 u207 u208 u209 u210 u211 u212 u213 u214 u215 u216 u217 u218 u219 u220 u221 u222 u223 u224 u225 u226 u227 u228 u229 u230 u231 u232 u233 u234 u235 u236 u237 u238 u239 u240 u241 u242 u243 u244 u245 u246 u247 u248 u249 u250 u251 u252 u253 u254 u255 : Value) (K : Act → World → Prop) (Q : Exit → Act → World → Prop)
  (hK : ∀ (t6 t9 v10 v11 v12 v13 v14 v15 v16 v17 v18 v19 v20 v21 v22 v23 v24 v25 v45 v46 v47 v48 v49 v50 v51 v52 v53 v54 v55 v56 v57 v58 v59 v60 v61 v62 v63 v64 v65 v66 v67 v68 v69 v70 v71 v72 v73 v74 v75 v76 v77 v78 v79 v80 v81 v82 v83 v84 v85 v86 v87 v88 v89 v90 v91 v92 v93 v94 v95 v96 v97 v98 v99 v100 v101 v102 v103 v104 v105 v106 v107 v108 v109 v110 v111 v112 v113 v114 v115 v116 v117 v118 v119 v120 v121 v122 v123 v124 v125 v126 v127 v128 v129 v130 v131 v132 v133 v134 v135 v136 v137 v138 v139 v140 v141 v142 v143 v144 v145 v146 v147 v148 v149 v150 v151 v152 v153 v154 v155 v156 v157 v158 v159 v160 v161 v162 v163 v164 v165 v166 v167 v168 v169 v170 v171 v172 v173 v174 v175 v176 v177 v178 v179 v180 v181 v182 v183 v184 v185 v186 v187 v188 v189 v190 v191 v192 v193 v194 v195 v196 v197 v198 v199 v200 v201 v202 v203 v204 v205 v206 v207 v208 v209 v210 v211 v212 v213 v214 v215 v216 v217 v218 v219 v220 v221 v222 v223 v224 v225 v226 v227 v228 v229 v230 v231 : Value) (wx : World), cutPost w n0 g ls (stepL ⟨nm, sup, ifs, fl, ld, ms, 4⟩ x) t9 t6 wx → K ⟨#[u0, u1, .pointer (some ⟨w.heap.size, 0, none⟩), u3, u4, .slice (some ⟨g, 0, none⟩) ls.length cap, t6, .int .i64 (i : Int), .slice (some ⟨gw, 0, none⟩) ps.length capw, t9, v10, v11, v12, v13, v14, v15, v16, v17, v18, v19, v20, v21, v22, v23, v24, v25, u26, u27, u28, u29, u30, u31, u32, u33, u34, u35, u36, u37, u38, u39, u40, u41, u42, u43, .int .i64 ((4 : Nat) : Int), v45, v46, v47, v48, v49, v50, v51, v52, v53, v54, v55, v56, v57, v58, v59, v60, v61, v62, v63, v64, v65, v66, v67, v68, v69, v70, v71, v72, v73, v74, v75, v76, v77, v78, v79, v80, v81, v82, v83, v84, v85, v86, v87, v88, v89, v90, v91, v92, v93, v94, v95, v96, v97, v98, v99, v100, v101, v102, v103, v104, v105, v106, v107, v108, v109, v110, v111, v112, v113, v114, v115, v116, v117, v118, v119, v120, v121, v122, v123, v124, v125, v126, v127, v128, v129, v130, v131, v132, v133, v134, v135, v136, v137, v138, v139, v140, v141, v142, v143, v144, v145, v146, v147, v148, v149, v150, v151, v152, v153, v154, v155, v156, v157, v158, v159, v160, v161, v162, v163, v164, v165, v166, v167, v168, v169, v170, v171, v172, v173, v174, v175, v176, v177, v178, v179, v180, v181, v182, v183, v184, v185, v186, v187, v188, v189, v190, v191, v192, v193, v194, v195, v196, v197, v198, v199, v200, v201, v202, v203, v204, v205, v206, v207, v208, v209, v210, v211, v212, v213, v214, v215, v216, v217, v218, v219, v220, v221, v222, v223, v224, v225, v226, v227, v228, v229, v230, v231, u232, u233, u234, u235, u236, u237, u238, u239, u240, u241, u242, u243, u244, u245, u246, u247, u248, u249, u250, u251, u252, u253, u254, u255], []⟩ wx) :
  Code.wp Tryz.prog docBlk (Exit.then K Q) ⟨#[u0, u1, .pointer (some ⟨w.heap.size, 0, none⟩), u3, u4, .slice (some ⟨g, 0, none⟩) ls.length cap, .int .i64 ((4 : Nat) : Int), .int .i64 (i : Int), .slice (some ⟨gw, 0, none⟩) ps.length capw, .bool false, u10, u11, u12, u13, u14, u15, u16, u17, u18, u19, u20, u21, u22, u23, u24, u25, u26, u27, u28, u29, u30, u31, u32, u33, u34, u35, u36, u37, u38, u39, u40, u41, u42, u43, .int .i64 ((4 : Nat) : Int), u45, u46, u47, u48, u49, u50, u51, u52, u53, u54, u55, u56, u57, u58, u59, u60, u61, u62, u63, u64, u65, u66, u67, u68, u69, u70, u71, u72, u73, u74, u75, u76, u77, u78, u79, u80, u81, u82, u83, u84, u85, u86, u87, u88, u89, u90, u91, u92, u93, u94, u95, u96, u97, u98, u99, u100, u101, u102, u103, u104, u105, u106, u107, u108, u109, u110, u111, u112, u113, u114, u115, u116, u117, u118, u119, u120, u121, u122, u123, u124, u125, u126, u127, u128, u129, u130, u131, u132, u133, u134, u135, u136, u137, u138, u139, u140, u141, u142, u143, u144, u145, u146, u147, u148, u149, u150, u151, u152, u153, u154, u155, u156, u157, u158, u159, u160, u161, u162, u163, u164, u165, u166, u167, u168, u169, u170, u171, u172, u173, u174, u175, u176, u177, u178, u179, u180, u181, u182, u183, u184, u185, u186, u187, u188, u189, u190, u191, u192, u193, u194, u195, u196, u197, u198, u199, u200, u201, u202, u203, u204, u205, u206, u207, u208, u209, u210, u211, u212, u213, u214, u215, u216, u217, u218, u219, u220, u221, u222, u223, u224, u225, u226, u227, u228, u229, u230, u231, u232, u233, u234, u235, u236, u237, u238, u239, u240, u241, u242, u243, u244, u245, u246, u247, u248, u249, u250, u251, u252, u253, u254, u255], []⟩ wq := by
 have hil : (i : Int) < (ls.length : Int) := by omega
 have hlb := HXq.out.blk.lt
 conv => arg 2; whnf
 have hS : stepL ⟨nm, sup, ifs, fl, ld, ms, 4⟩ x = if x = wEnd then some ⟨nm, sup, ifs, fl, ld, ms, 8⟩ else (beginP (splitL 32 x)).map fun m => ⟨nm, sup, ifs, fl, ld, ms ++ [m], 5⟩ := rfl
 have hkey := key_end x
 by_cases hend : x = wEnd
 ·rw [if_pos hend] at hS
  have HS := hid hS
  rw [decide_eq_true hend] at hkey
  have hx0 := Hx0.out _ HXq.out.row
  have hgl := HXq.out.row.1
  clear hS hend
  go_wp2
  rw [HS.out]
  exact ⟨rfl, rfl, vi, vm, cs, hid (HXq.out.st (r' := ⟨nm, sup, ifs, fl, ld, ms, 8⟩) rfl rfl rfl)⟩
 ·rw [if_neg hend] at hS
  rw [decide_eq_false hend] at hkey
  have hkn : ¬ (bs x).toList = [101, 110, 100] := by rw [beq_eq_false_iff_ne] at hkey; exact hkey
  have hx0 := Hx0.out _ HXq.out.row
  have hgl := HXq.out.row.1
  have hp0 := HRW.out.2 0 hpsn
  have hgw := HRW.out.1
  have Hhd : Hid (ps.headD [] = ps[0]) := hid (by rw [List.headD_eq_head?_getD, List.head?_eq_getElem?, List.getElem?_eq_getElem hpsn]; rfl)
  have hi0 : (0 : Int) < ps.length := by omega
  have Hmsn : Hid (ms.length ≤ 50000) := hid (by have := hwf.ms; simp only at this; omega)
  rw [hps, begin_doc, Hhd.out] at hS
  by_cases hm : ps[0] = wMethod
  ·rw [if_pos hm] at hS
   rw [hm] at hp0
   have km := key_method
   generalize bs wMethod = bm at hp0 km
   clear hm Hhd hend
   by_cases h3 : 3 ≤ ps.length
   ·have hi1 : (1 : Int) < ps.length := by omega
    have hi2 : (2 : Int) < ps.length := by omega
    have hi3 : (3 : Int) ≤ ps.length := by omega
    have hp1 := HRW.out.2 1 (by omega)
    have hp2 := HRW.out.2 2 (by omega)
    have H1 : Hid (ps.getD 1 [] = ps[1]) := hid (by rw [List.getD_eq_getElem?_getD, List.getElem?_eq_getElem (by omega)]; rfl)
    have H2 : Hid (ps.getD 2 [] = ps[2]) := hid (by rw [List.getD_eq_getElem?_getD, List.getElem?_eq_getElem (by omega)]; rfl)
    rw [H1.out, H2.out] at hS
    have Hfo := fun W h => hid (flagsOfR_any gw capw ps 3 true W h (by omega) (by omega) (Nat.le_trans (Hjl.out 3) (by omega)))
    simp only [if_true] at Hfo
    generalize flagsO 1055 ps 3 = fo at Hfo hS
    obtain ⟨f, ok⟩ := fo
    simp only at Hfo hS
    generalize ps[1] = p1 at *
    generalize ps[2] = p2 at *
    clear H1 H2
    by_cases e1 : p1 = []
    ·rw [if_neg (fun h => h.2.1 e1)] at hS
     have HS := hid hS
     clear hS
     subst e1
     obtain ⟨q1, q2, q3⟩ := empty_yes
     clear h3 Hfo HRW
     go_wp2
     rw [HS.out]
     exact ⟨rfl, ⟨5, rfl⟩, bad_of HXq.out.blk (by simp [clsCells]) HXq.out.os⟩
    ·obtain ⟨n1, n2, n3⟩ := empty_no e1
     by_cases e2 : p2 = []
     ·rw [if_neg (fun h => h.2.2 e2)] at hS
      have HS := hid hS
      clear hS
      subst e2
      obtain ⟨q1, q2, q3⟩ := empty_yes
      clear h3 e1 Hfo HRW
      go_wp2
      rw [HS.out]
      exact ⟨rfl, ⟨5, rfl⟩, bad_of HXq.out.blk (by simp [clsCells]) HXq.out.os⟩
     ·obtain ⟨n4, n5, n6⟩ := empty_no e2
      rw [if_pos ⟨h3, e1, e2⟩] at hS
      have HS := hid hS
      clear h3 e1 e2 hS
      go_upto_region 38 with (fail)
      go_region
      have HUm := hid (show Upd wq ((wq.alloc (.cells #[.string (bs p1), .string (bs p2), .int .i64 0, .int .i64 0, .int .i64 0, .slice none 0 0] 34)).drew) [] from ((Upd.refl wq []).alloc _).drew)
      have HBm := hid (show Blk ((wq.alloc (.cells #[.string (bs p1), .string (bs p2), .int .i64 0, .int .i64 0, .int .i64 0, .slice none 0 0] 34)).drew) wq.heap.size 34 #[.string (bs p1), .string (bs p2), .int .i64 0, .int .i64 0, .int .i64 0, .slice none 0 0] from Blk.new _ _ _)
      revert HUm HBm
      generalize (wq.alloc (.cells #[.string (bs p1), .string (bs p2), .int .i64 0, .int .i64 0, .int .i64 0, .slice none 0 0] 34)).drew = w2
      intro HUm HBm
      go_wp2_with fail
      refine (Hfo _ (HRW.out.upd HUm.out)).out.mono ?_
      rintro e w3 ⟨rfl, hU3⟩
      simp only []
      have HBm3 := hid (hU3.blk HBm.out (by simp))
      have HU3 := hid (HUm.out.trans hU3)
      have m2 := (HBm3.out.cell 2).trans (show _ = some (.int .i64 0) from rfl)
      have fm2 := HBm3.out.frozen 2
      have hltm := HBm3.out.lt
      clear hU3 HUm HBm Hfo HRW
      go_upto_region 40 with (fail)
      have HBf := hid (show Blk (w3.setCell ⟨wq.heap.size, 2, none⟩ (.int .i64 f)) wq.heap.size 34 #[.string (bs p1), .string (bs p2), .int .i64 f, .int .i64 0, .int .i64 0, .slice none 0 0] from HBm3.out.set_ 2 (.int .i64 f))
      have HUf := hid (HU3.out.setCell (p := ⟨wq.heap.size, 2, none⟩) (.inr (Nat.le_refl _)) (.int .i64 f))
      clear HBm3 HU3 m2 fm2 hltm
      revert HBf HUf
      generalize w3.setCell ⟨wq.heap.size, 2, none⟩ (.int .i64 f) = w4
      intro HBf HUf
      have HX4 := hid (HXq.out.upd HUf.out)
      clear HXq HUf
      obtain ⟨A, capm, rfl, -, -⟩ := own_slice HX4.out.li.om
      have hltz := HX4.out.blk.lt
      have z5 := (HX4.out.blk.cell 5).trans (show _ = some (.slice A ms.length capm) from rfl)
      have fz5 := HX4.out.blk.frozen 5
      obtain ⟨i0, hi0, hz0, hz1, hz2⟩ := info_parts infoMeth
      obtain ⟨fM, hfM⟩ := undMethod
      have hml : ms.length ≤ 50000 := Hmsn.out
      apply wp_region_lit
      iterate 6 (go_step)
      refine wpList_load_row rfl 34 _ rfl wq.heap.size (by kernel_rfl) 34 _ _ (.struct fM) HBf.out hfM rfl (by kernel_rfl) ?_
      clear hfM
      go_wp2_with (at_builtin; go_must (refine wpList_append_one _ rfl (.tmp 147) (.tmp 149) 23 rfl 34 i0 _ 6 80 Tryz.underlying23 hi0 hz0 hz1 hz2 rfl (by decide) (by decide) (.slice A ms.length capm) ms.length (methRows ms cs) rfl (by exact HX4.out.li.om.alloc _) (by omega) w4.heap.size 34 #[.string (bs p1), .string (bs p2), .int .i64 f, .int .i64 0, .int .i64 0, .slice none 0 0] rfl (by exact Blk.new_at (by simp)) rfl rfl ?_); intro g' cap' w' hown' hg' hat'; have HX5 := hid (HX4.out.upd ((Upd.refl w4 []).alloc (.cells #[.string (bs p1), .string (bs p2), .int .i64 f, .int .i64 0, .int .i64 0, .slice none 0 0] 34))); have HB' := hid (HX5.out.blk.grown_own hg' HX5.out.li.om ne_mc); have k5 := (HB'.out.cell 5).trans (show _ = some (.slice A ms.length capm) from rfl); have fk5 := HB'.out.frozen 5; have hltk := HB'.out.lt)
      rw [HS.out]
      cases ok with
      | false =>
       exact ⟨rfl, ⟨5, rfl⟩, bad_of (HB'.out.set_ 5 (.slice (some ⟨g', 0, none⟩) (ms.length + 1) cap')) (by simp [clsCells]) ((HX5.out.os.grown hg' (fun k hk => .inr (by have h1 := HX5.out.h1; have h2 := HX5.out.h2; have h3 := HX5.out.li.bm k hk; omega))).setCell (.inr (Nat.le_refl _)) _)⟩
      | true =>
       exact ⟨rfl, rfl, vi, _, _, hid (HX5.out.meth (r := ⟨nm, sup, ifs, fl, ld, ms, 4⟩) ⟨p1, p2, f, 0, 0, []⟩ rfl 5 g' cap' hg' hown' hat')⟩
   ·rw [if_neg (fun h => h3 h.1)] at hS
    have HS := hid hS
    clear hS
    have hi3 : ¬ (3 : Int) ≤ ps.length := by omega
    clear h3 HRW
    go_wp2
    rw [HS.out]
    exact ⟨rfl, ⟨5, rfl⟩, bad_of HXq.out.blk (by simp [clsCells]) HXq.out.os⟩
  ·rw [if_neg hm] at hS
   obtain ⟨km, kn⟩ := key_other hm
   clear hm Hhd hend
   generalize ps[0] = p0 at *
   have HS := hid hS
   clear HRW hS
   go_wp2
   rw [HS.out]
   exact ⟨rfl, ⟨4, rfl⟩, bad_of HXq.out.blk (by simp [clsCells]) HXq.out.os⟩
end Go.Proofs.YtjjdlgjofjfgmaaGreatDoor
