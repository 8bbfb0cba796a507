/- PRINTED by Pr2: the functions of the program as the machine sees them. -/
import Derived.Test.YtpbkgmcpelhlpaaAiLib3
import Derived.Test.YtpbkgmcpelhlpaaProg
import Derived.KernelRfl
namespace Go.Proofs.Ytpbkgmcpelhlpaa.AI
open Go
set_option linter.unusedVariables false
set_option maxRecDepth 100000
abbrev T_uint8 : Nat := 5
abbrev T_string : Nat := 9
abbrev T___uint8 : Nat := 24
abbrev T_runglaw7_frame : Nat := 37
abbrev T_line_frame : Nat := 48
abbrev T_line_Line : Nat := 51
abbrev N_runglaw7_LinePlays : Nat := 3
abbrev N_runglaw7_LineHears : Nat := 4
abbrev N_runglaw7_LineLong : Nat := 5
abbrev N_runglaw7_known : Nat := 6
abbrev N_line_New : Nat := 7
abbrev N_rungref3_Rtu : Nat := 8
abbrev N_runghelp_Copy : Nat := 9
abbrev N_line_Line_Feed : Nat := 10
abbrev N_runghelp_Spoil : Nat := 11
abbrev N_line_Line_Tick : Nat := 12
abbrev N_rungref3_OpenRtu : Nat := 13
abbrev N_line_Line_Next : Nat := 14
abbrev N_runghelp_Bytes : Nat := 15
abbrev N_line_Line_Left : Nat := 16
abbrev N_line_Line_Waits : Nat := 17
abbrev N_runghelp_Place : Nat := 18
abbrev N_rungref2_Sum16 : Nat := 19
abbrev N_rtu_Open : Nat := 20
abbrev N_slices_Equal___byte_byte_ : Nat := 21
abbrev N_rtu_joined : Nat := 22
abbrev N_slices_Clone___byte_byte_ : Nat := 23
abbrev N_slices_Concat___byte_byte_ : Nat := 24
abbrev N_crc_Sum16 : Nat := 25
abbrev N_slices_Grow___byte_byte_ : Nat := 26
abbrev N_crc_step16 : Nat := 27
/-- Functions that another thing stands in for. -/
def OVS : List Nat := [6]
def Plain (ov : AOver) : Prop := ∀ f, f ∉ OVS → ov f = none
noncomputable def kc (ov : AOver) (n : Nat) : ACall := kcall Try.prog [] ov n
noncomputable def kd (ov : AOver) (n : Nat) : ACall := kFuncD Try.prog [] (kcall Try.prog [] ov n)
/-- rung/runglaw7.LinePlays -/
def L_runglaw7_LinePlays_0 (call callD : ACall) (a2 : AVal) (v44 : AVal) (a0 : AVal) (v47 : AVal) : (List AVal → AH → Ans) → List AVal → AH → Ans := fun j53 l52 h5 =>
  kq (some (gd l52 3)) <| fun v54 =>
  kq (some a2) <| fun v55 =>
  kq (rLen v55) <| fun v56 =>
  kq (rBin .lss .no false v54 v56) <| fun v57 =>
  kIf v57 (
  kj (fun l58 h6 =>
  kq (some (gd l52 3)) <| fun v60 =>
  kq (rBin .add .no true v60 (.int .i64 1)) <| fun v61 =>
  kq (some v61) <| fun v62 =>
  j53 [(gd l58 0), (gd l58 1), (gd l58 2), v62] h6) <| fun j59 =>
  kq (some a2) <| fun v63 =>
  kq (some (gd l52 3)) <| fun v64 =>
  kq (rAt 3 v63 v64) <| fun v65 =>
  kq (rFieldP 2 v65) <| fun v66 =>
  kq (rLoad v66 h5) <| fun v67 =>
  kq (some v67) <| fun v68 =>
  kq (some a2) <| fun v69 =>
  kq (some (gd l52 3)) <| fun v70 =>
  kq (rAt 3 v69 v70) <| fun v71 =>
  kq (rFieldP 0 v71) <| fun v72 =>
  kq (rLoad v72 h5) <| fun v73 =>
  kj (fun l74 h7 =>
  kq (some v44) <| fun v76 =>
  ke (call N_line_Line_Left [v76] h7) <| fun v77 h8 =>
  kq (some (gd l74 0)) <| fun v78 =>
  kq (rLen v78) <| fun v79 =>
  kq (rBin .neq .no false v77 v79) <| fun v80 =>
  kq (some v80) <| fun v81 =>
  kth (fun v90 h11 =>
  kIf v90 (
  kq (some (.bool false)) <| fun v91 =>
  some (v91, h11)) (
  j59 [(gd l74 0), (gd l74 1), (gd l74 2)] h11)) <| fun j82 =>
  kgq v81 false (fun k => kq (some v44) k) <| fun v83 =>
  kgh v81 false h8 (fun k => ke (call N_line_Line_Waits [v83] h8) <| fun v84 h9 =>
  k v84 h9) <| fun v85 h10 =>
  kgq v81 false (fun k => kq (some (gd l74 1)) k) <| fun v86 =>
  kgq v81 false (fun k => kq (rLen v86) k) <| fun v87 =>
  kgq v81 false (fun k => kq (rBin .neq .no false v85 v87) k) <| fun v88 =>
  kq (rPick v81 (.bool true) v88) <| fun v89 =>
  j82 v89 h10) <| fun j75 =>
  kj (fun l92 h12 =>
  kq (some (gd l92 0)) <| fun v94 =>
  ke (call N_runghelp_Copy [v94] h12) <| fun v95 h13 =>
  kq (some v95) <| fun v96 =>
  kq (some v44) <| fun v97 =>
  kq (some v96) <| fun v98 =>
  ke (call N_line_Line_Feed [v97, v98] h13) <| fun v99 h14 =>
  kq (some v96) <| fun v100 =>
  ke (call N_runghelp_Spoil [v100] h14) <| fun v101 h15 =>
  kq (some (gd l92 0)) <| fun v102 =>
  kq (rLen v102) <| fun v103 =>
  kq (rBin .gtr .no true v103 (.int .i64 0)) <| fun v104 =>
  kj (fun l105 h16 =>
  j75 [(gd l105 0), (gd l52 1), (gd l105 1)] h16) <| fun j106 =>
  kIf v104 (
  kq (some (gd l52 0)) <| fun v107 =>
  kq (some (gd l92 0)) <| fun v108 =>
  ke (rAppend T_uint8 1 1 v107 v108 h15) <| fun v109 h17 =>
  kq (some v109) <| fun v110 =>
  kq (some v110) <| fun v111 =>
  kq (some v110) <| fun v112 =>
  kq (rLen v112) <| fun v113 =>
  kq (aMM aMin2 [v113, (.int .i64 257)]) <| fun v114 =>
  kq (rCut 1 v111 none (some v114) none) <| fun v115 =>
  kq (some v115) <| fun v116 =>
  kq (some (.int .i64 0)) <| fun v117 =>
  j106 [v116, v117] h17) (
  j106 [(gd l52 0), (gd l52 2)] h15)) <| fun j93 =>
  kq (rBin .eql .no true v73 (.int .i64 2)) <| fun v118 =>
  kq (some v118) <| fun v119 =>
  kIf v119 (
  kq (some a2) <| fun v120 =>
  kq (some (gd l52 3)) <| fun v121 =>
  kq (rAt 3 v120 v121) <| fun v122 =>
  kq (rFieldP 1 v122) <| fun v123 =>
  kq (rLoad v123 h5) <| fun v124 =>
  kq (rConvI .u8 v124) <| fun v125 =>
  kq (some v125) <| fun v126 =>
  kq (some a2) <| fun v127 =>
  kq (some (gd l52 3)) <| fun v128 =>
  kq (rAt 3 v127 v128) <| fun v129 =>
  kq (rFieldP 1 v129) <| fun v130 =>
  kq (rLoad v130 h5) <| fun v131 =>
  kq (rBin .rem .no true v131 (.int .i64 3)) <| fun v132 =>
  kq (rBin .eql .no true v132 (.int .i64 0)) <| fun v133 =>
  kj (fun l134 h18 =>
  kq (some (gd l134 0)) <| fun v136 =>
  kq (some v68) <| fun v137 =>
  ke (call N_rungref3_Rtu [v136, v137] h18) <| fun v138 h19 =>
  kq (some v138) <| fun v139 =>
  kq (aExtract v139 0) <| fun v140 =>
  kq (aExtract v139 1) <| fun v141 =>
  kq (some v140) <| fun v142 =>
  j93 [v142] h19) <| fun j135 =>
  kIf v133 (
  kq (some a0) <| fun v143 =>
  kq (some v143) <| fun v144 =>
  j135 [v144] h5) (
  j135 [v126] h5)) (
  kq (rBin .eql .no true v73 (.int .i64 0)) <| fun v145 =>
  kq (some v145) <| fun v146 =>
  kj (fun l147 h20 =>
  kIf (gd l147 0) (
  j93 [v68] h20) (
  kq (rBin .eql .no true v73 (.int .i64 3)) <| fun v149 =>
  kq (some v149) <| fun v150 =>
  kj (fun l151 h21 =>
  kIf (gd l151 0) (
  kq (some v44) <| fun v153 =>
  ke (call N_line_Line_Tick [v153] h21) <| fun v154 h22 =>
  kq (some (gd l52 0)) <| fun v155 =>
  kq (rLen v155) <| fun v156 =>
  kq (rBin .eql .no true v156 (.int .i64 0)) <| fun v157 =>
  kIf v157 (
  j59 [(gd l52 0), (gd l52 1), (gd l52 2)] h22) (
  kq (some (gd l52 2)) <| fun v158 =>
  kq (rBin .add .no true v158 (.int .i64 1)) <| fun v159 =>
  kq (some v159) <| fun v160 =>
  kq (some v160) <| fun v161 =>
  kq (some v47) <| fun v162 =>
  kq (rBin .lss .no false v161 v162) <| fun v163 =>
  kIf v163 (
  j75 [(gd l52 0), (gd l52 1), v160] h22) (
  kq (some (gd l52 0)) <| fun v164 =>
  ke (call N_rungref3_OpenRtu [v164] h22) <| fun v165 h23 =>
  kq (some v165) <| fun v166 =>
  kq (aExtract v166 0) <| fun v167 =>
  kq (aExtract v166 1) <| fun v168 =>
  kq (aExtract v166 2) <| fun v169 =>
  kq (some v167) <| fun v170 =>
  kq (some v168) <| fun v171 =>
  kq (some v169) <| fun v172 =>
  kq (some v172) <| fun v173 =>
  kq (rBin .eql .no true v173 (.int .i64 0)) <| fun v174 =>
  kq (some v174) <| fun v175 =>
  kt (fun v190 =>
  kj (fun l191 h25 =>
  kq (some (.slice none 0 0)) <| fun v193 =>
  j75 [v193, (gd l191 0), v160] h25) <| fun j192 =>
  kIf v190 (
  kq (some (gd l52 1)) <| fun v194 =>
  kq (some v170) <| fun v195 =>
  kq (some v171) <| fun v196 =>
  kq (rBuild [(.int .u8 0), (.slice none 0 0)] [(0, 1), (1, 1)] [(0, v195), (1, v196)]) <| fun v197 =>
  km (mBuildSl T_runglaw7_frame 2 [(.int .u8 0), (.slice none 0 0)] 1 [(0, v197)]) h23 <| fun v198 h26 =>
  ke (rAppend T_runglaw7_frame 2 32 v194 v198 h26) <| fun v199 h27 =>
  kq (some v199) <| fun v200 =>
  j192 [v200] h27) (
  j192 [(gd l52 1)] h23)) <| fun j176 =>
  kgq v175 true (fun k => kq (some v170) k) <| fun v177 =>
  kgq v175 true (fun k => kq (some a0) k) <| fun v178 =>
  kgq v175 true (fun k => kq (rBin .eql .no false v177 v178) k) <| fun v179 =>
  kgq v175 true (fun k => kq (some v179) k) <| fun v180 =>
  kgq v180 false (fun k => kq (some v170) k) <| fun v181 =>
  kgq v180 false (fun k => kq (rBin .eql .no true v181 (.int .u8 0)) k) <| fun v182 =>
  kgq v175 true (fun k => kq (rPick v180 (.bool true) v182) k) <| fun v183 =>
  kq (rPick v175 v183 (.bool false)) <| fun v184 =>
  kq (some v184) <| fun v185 =>
  kgq v185 true (fun k => kq (some (gd l52 1)) k) <| fun v186 =>
  kgq v185 true (fun k => kq (rLen v186) k) <| fun v187 =>
  kgq v185 true (fun k => kq (rBin .lss .no true v187 (.int .i64 8)) k) <| fun v188 =>
  kq (rPick v185 v188 (.bool false)) <| fun v189 =>
  j176 v189))) (
  kq (rBin .eql .no true v73 (.int .i64 7)) <| fun v201 =>
  kq (some v201) <| fun v202 =>
  kIf v202 (
  kq (some v44) <| fun v203 =>
  ke (call N_line_Line_Next [v203] h21) <| fun v204 h28 =>
  kq (some v204) <| fun v205 =>
  kq (aExtract v205 0) <| fun v206 =>
  kq (aExtract v205 1) <| fun v207 =>
  kq (aExtract v205 2) <| fun v208 =>
  kq (some v206) <| fun v209 =>
  kq (some v207) <| fun v210 =>
  kq (some v208) <| fun v211 =>
  kq (some v211) <| fun v212 =>
  kq (some (gd l52 1)) <| fun v213 =>
  kq (rLen v213) <| fun v214 =>
  kq (rBin .gtr .no true v214 (.int .i64 0)) <| fun v215 =>
  kq (rBin .neq .bool false v212 v215) <| fun v216 =>
  kIf v216 (
  kq (some (.bool false)) <| fun v217 =>
  some (v217, h28)) (
  kq (some v211) <| fun v218 =>
  kj (fun l219 h29 =>
  j75 [(gd l52 0), (gd l219 0), (gd l52 2)] h29) <| fun j220 =>
  kIf v218 (
  kq (some v209) <| fun v221 =>
  kq (some (gd l52 1)) <| fun v222 =>
  kq (rAt 2 v222 (.int .i64 0)) <| fun v223 =>
  kq (rFieldP 0 v223) <| fun v224 =>
  kq (rLoad v224 h28) <| fun v225 =>
  kq (rBin .neq .no false v221 v225) <| fun v226 =>
  kq (some v226) <| fun v227 =>
  kth (fun v238 h32 =>
  kIf v238 (
  kq (some (.bool false)) <| fun v239 =>
  some (v239, h32)) (
  kq (some (gd l52 1)) <| fun v240 =>
  kq (rCut 2 v240 (some (.int .i64 1)) none none) <| fun v241 =>
  kq (some v241) <| fun v242 =>
  j220 [v242] h32)) <| fun j228 =>
  kgq v227 false (fun k => kq (some v210) k) <| fun v229 =>
  kgq v227 false (fun k => kq (some (gd l52 1)) k) <| fun v230 =>
  kgq v227 false (fun k => kq (rAt 2 v230 (.int .i64 0)) k) <| fun v231 =>
  kgq v227 false (fun k => kq (rFieldP 1 v231) k) <| fun v232 =>
  kgq v227 false (fun k => kq (rLoad v232 h28) k) <| fun v233 =>
  kgh v227 false h28 (fun k => ke (call N_runghelp_Bytes [v229, v233] h28) <| fun v234 h30 =>
  k v234 h30) <| fun v235 h31 =>
  kgq v227 false (fun k => kq (aUn .not v235) k) <| fun v236 =>
  kq (rPick v227 (.bool true) v236) <| fun v237 =>
  j228 v237 h31) (
  j220 [(gd l52 1)] h28))) (
  j75 [(gd l52 0), (gd l52 1), (gd l52 2)] h21))) <| fun j152 =>
  kIf v150 (
  j152 [v150] h20) (
  kq (rBin .eql .no true v73 (.int .i64 4)) <| fun v243 =>
  kq (some v243) <| fun v244 =>
  kj (fun l245 h33 =>
  j152 [(gd l245 0)] h33) <| fun j246 =>
  kIf v244 (
  j246 [v244] h20) (
  kq (rBin .eql .no true v73 (.int .i64 5)) <| fun v247 =>
  kq (some v247) <| fun v248 =>
  kj (fun l249 h34 =>
  j246 [(gd l249 0)] h34) <| fun j250 =>
  kIf v248 (
  j250 [v248] h20) (
  kq (rBin .eql .no true v73 (.int .i64 6)) <| fun v251 =>
  kq (some v251) <| fun v252 =>
  j250 [v252] h20))))) <| fun j148 =>
  kIf v146 (
  j148 [v146] h5) (
  kq (rBin .eql .no true v73 (.int .i64 1)) <| fun v253 =>
  kq (some v253) <| fun v254 =>
  j148 [v254] h5))) (
  kq (some (.bool true)) <| fun v255 =>
  some (v255, h5))
def L_runglaw7_LinePlays_1 (call callD : ACall) (a2 : AVal) (a0 : AVal) (a1 : AVal) : (List AVal → AH → Ans) → List AVal → AH → Ans := fun j7 l6 h1 =>
  kq (some (gd l6 1)) <| fun v8 =>
  kq (some a2) <| fun v9 =>
  kq (rLen v9) <| fun v10 =>
  kq (rBin .lss .no false v8 v10) <| fun v11 =>
  kq (some v11) <| fun v12 =>
  kt (fun v17 =>
  kIf v17 (
  kq (some (gd l6 0)) <| fun v18 =>
  kq (rBin .add .no true v18 (.int .i64 1)) <| fun v19 =>
  kq (some a2) <| fun v20 =>
  kq (some (gd l6 1)) <| fun v21 =>
  kq (rAt 3 v20 v21) <| fun v22 =>
  kq (rFieldP 2 v22) <| fun v23 =>
  kq (rLoad v23 h1) <| fun v24 =>
  kq (rLen v24) <| fun v25 =>
  kq (rBin .add .no false v19 v25) <| fun v26 =>
  kq (some v26) <| fun v27 =>
  kq (some (gd l6 1)) <| fun v28 =>
  kq (rBin .add .no true v28 (.int .i64 1)) <| fun v29 =>
  kq (some v29) <| fun v30 =>
  j7 [v27, v30] h1) (
  kq (some (gd l6 0)) <| fun v31 =>
  kq (rBin .gtr .no true v31 (.int .i64 20000)) <| fun v32 =>
  kq (some v32) <| fun v33 =>
  kt (fun v39 =>
  kIf v39 (
  kq (some (.bool true)) <| fun v40 =>
  some (v40, h1)) (
  kq (some a0) <| fun v41 =>
  kq (some a1) <| fun v42 =>
  ke (call N_line_New [v41, v42] h1) <| fun v43 h4 =>
  kq (some v43) <| fun v44 =>
  kq (some a1) <| fun v45 =>
  kq (aMM aMax2 [v45, (.int .i64 1)]) <| fun v46 =>
  kq (some v46) <| fun v47 =>
  kq (some (.slice none 0 0)) <| fun v48 =>
  kq (some (.slice none 0 0)) <| fun v49 =>
  kq (some (.int .i64 0)) <| fun v50 =>
  kq (some (.int .i64 0)) <| fun v51 =>
  kLoop (L_runglaw7_LinePlays_0 call callD a2 v44 a0 v47) rounds [v48, v49, v50, v51] h4)) <| fun j34 =>
  kgq v33 false (fun k => kq (some a2) k) <| fun v35 =>
  kgq v33 false (fun k => kq (rLen v35) k) <| fun v36 =>
  kgq v33 false (fun k => kq (rBin .gtr .no true v36 (.int .i64 500)) k) <| fun v37 =>
  kq (rPick v33 (.bool true) v37) <| fun v38 =>
  j34 v38)) <| fun j13 =>
  kgq v12 true (fun k => kq (some (gd l6 0)) k) <| fun v14 =>
  kgq v12 true (fun k => kq (rBin .leq .no true v14 (.int .i64 20000)) k) <| fun v15 =>
  kq (rPick v12 v15 (.bool false)) <| fun v16 =>
  j13 v16
def F_runglaw7_LinePlays (call callD : ACall) (a0 a1 a2 : AVal) (h : AH) : Ans :=
  kq (some (.bool false)) <| fun v0 =>
  ke (call N_runglaw7_known [] h) <| fun v1 h0 =>
  kq (aUn .not v1) <| fun v2 =>
  kIf v2 (
  kq (some (.bool false)) <| fun v3 =>
  some (v3, h0)) (
  kq (some (.int .i64 0)) <| fun v4 =>
  kq (some (.int .i64 0)) <| fun v5 =>
  kLoop (L_runglaw7_LinePlays_1 call callD a2 a0 a1) rounds [v4, v5] h0)
theorem F_runglaw7_LinePlays_eq (call callD : ACall) (a0 a1 a2 : AVal) (h : AH) : kFunc Try.prog [] call callD N_runglaw7_LinePlays [a0, a1, a2] h = F_runglaw7_LinePlays call callD a0 a1 a2 h := by kernel_rfl
theorem C_runglaw7_LinePlays {ov : AOver} (H : Plain ov) (n : Nat) (a0 a1 a2 : AVal) (h : AH) : kc ov (n + 1) N_runglaw7_LinePlays [a0, a1, a2] h = F_runglaw7_LinePlays (kc ov n) (kd ov n) a0 a1 a2 h := by
  have hov : ov N_runglaw7_LinePlays = none := H _ (by decide)
  unfold kc kd; rw [← F_runglaw7_LinePlays_eq]; simp only [kcall, hov]

/-- rung/runglaw7.LineHears -/
def L_runglaw7_LineHears_0 (call callD : ACall) (v28 : AVal) (v32 : AVal) (l98 : List AVal) (j99 : List AVal → AH → Ans) (v126 : AVal) : (List AVal → AH → Ans) → List AVal → AH → Ans := fun j129 l128 h16 =>
  kq (some (gd l128 0)) <| fun v130 =>
  kq (some v28) <| fun v131 =>
  kq (rBin .lss .no false v130 v131) <| fun v132 =>
  kIf v132 (
  kq (some v32) <| fun v133 =>
  ke (call N_line_Line_Tick [v133] h16) <| fun v134 h17 =>
  kq (some (gd l128 0)) <| fun v135 =>
  kq (rBin .add .no true v135 (.int .i64 1)) <| fun v136 =>
  kq (some v136) <| fun v137 =>
  j129 [v137] h17) (
  kq (some (gd l98 1)) <| fun v138 =>
  kq (rBin .add .no true v138 (.int .i64 1)) <| fun v139 =>
  kq (some v139) <| fun v140 =>
  j99 [v126, v140] h16)
def L_runglaw7_LineHears_1 (call callD : ACall) (v94 : AVal) (a4 : AVal) (v32 : AVal) (v28 : AVal) (a0 : AVal) (a3 : AVal) : (List AVal → AH → Ans) → List AVal → AH → Ans := fun j99 l98 h13 =>
  kq (some (gd l98 0)) <| fun v100 =>
  kq (some v94) <| fun v101 =>
  kq (rLen v101) <| fun v102 =>
  kq (rBin .lss .no false v100 v102) <| fun v103 =>
  kIf v103 (
  kq (some v94) <| fun v104 =>
  kq (rLen v104) <| fun v105 =>
  kq (some (gd l98 0)) <| fun v106 =>
  kq (rBin .sub .no false v105 v106) <| fun v107 =>
  kq (some v107) <| fun v108 =>
  kq (some (gd l98 1)) <| fun v109 =>
  kq (some a4) <| fun v110 =>
  kq (rLen v110) <| fun v111 =>
  kq (rBin .lss .no false v109 v111) <| fun v112 =>
  kj (fun l113 h14 =>
  kq (some v32) <| fun v115 =>
  kq (some v94) <| fun v116 =>
  kq (some (gd l98 0)) <| fun v117 =>
  kq (some (gd l98 0)) <| fun v118 =>
  kq (some (gd l113 0)) <| fun v119 =>
  kq (rBin .add .no false v118 v119) <| fun v120 =>
  kq (rCut 1 v116 (some v117) (some v120) none) <| fun v121 =>
  ke (call N_line_Line_Feed [v115, v121] h14) <| fun v122 h15 =>
  kq (some (gd l98 0)) <| fun v123 =>
  kq (some (gd l113 0)) <| fun v124 =>
  kq (rBin .add .no false v123 v124) <| fun v125 =>
  kq (some v125) <| fun v126 =>
  kq (some (.int .i64 1)) <| fun v127 =>
  kLoop (L_runglaw7_LineHears_0 call callD v28 v32 l98 j99 v126) rounds [v127] h15) <| fun j114 =>
  kIf v112 (
  kq (some v108) <| fun v141 =>
  kq (some a4) <| fun v142 =>
  kq (some (gd l98 1)) <| fun v143 =>
  kq (rAt 1 v142 v143) <| fun v144 =>
  kq (rLoad v144 h13) <| fun v145 =>
  kq (rConvI .i64 v145) <| fun v146 =>
  kq (rBin .rem .no true v146 (.int .i64 9)) <| fun v147 =>
  kq (rBin .add .no true (.int .i64 1) v147) <| fun v148 =>
  kq (aMM aMin2 [v141, v148]) <| fun v149 =>
  kq (some v149) <| fun v150 =>
  j114 [v150] h13) (
  j114 [v108] h13)) (
  kq (some v32) <| fun v151 =>
  ke (call N_line_Line_Next [v151] h13) <| fun v152 h18 =>
  kq (some v152) <| fun v153 =>
  kq (aExtract v153 0) <| fun v154 =>
  kq (aExtract v153 1) <| fun v155 =>
  kq (aExtract v153 2) <| fun v156 =>
  kq (some v154) <| fun v157 =>
  kq (some v155) <| fun v158 =>
  kq (some v156) <| fun v159 =>
  kq (some v32) <| fun v160 =>
  ke (call N_line_Line_Tick [v160] h18) <| fun v161 h19 =>
  kq (some v32) <| fun v162 =>
  ke (call N_line_Line_Next [v162] h19) <| fun v163 h20 =>
  kq (some v163) <| fun v164 =>
  kq (aExtract v164 0) <| fun v165 =>
  kq (aExtract v164 1) <| fun v166 =>
  kq (aExtract v164 2) <| fun v167 =>
  kq (some v165) <| fun v168 =>
  kq (some v166) <| fun v169 =>
  kq (some v167) <| fun v170 =>
  kq (some v159) <| fun v171 =>
  kq (aUn .not v171) <| fun v172 =>
  kq (some v172) <| fun v173 =>
  kth (fun v194 h25 =>
  kq (some v194) <| fun v195 =>
  some (v195, h25)) <| fun j174 =>
  kgq v173 true (fun k => kq (some v170) k) <| fun v175 =>
  kq (rPick v173 v175 (.bool false)) <| fun v176 =>
  kq (some v176) <| fun v177 =>
  kgq v177 true (fun k => kq (some v168) k) <| fun v178 =>
  kgq v177 true (fun k => kq (some a0) k) <| fun v179 =>
  kgq v177 true (fun k => kq (rBin .eql .no false v178 v179) k) <| fun v180 =>
  kq (rPick v177 v180 (.bool false)) <| fun v181 =>
  kq (some v181) <| fun v182 =>
  kgq v182 true (fun k => kq (some v169) k) <| fun v183 =>
  kgq v182 true (fun k => kq (some a3) k) <| fun v184 =>
  kgh v182 true h20 (fun k => ke (call N_runghelp_Bytes [v183, v184] h20) <| fun v185 h21 =>
  k v185 h21) <| fun v186 h22 =>
  kq (rPick v182 v186 (.bool false)) <| fun v187 =>
  kq (some v187) <| fun v188 =>
  kgq v188 true (fun k => kq (some v32) k) <| fun v189 =>
  kgh v188 true h22 (fun k => ke (call N_line_Line_Left [v189] h22) <| fun v190 h23 =>
  k v190 h23) <| fun v191 h24 =>
  kgq v188 true (fun k => kq (rBin .eql .no true v191 (.int .i64 0)) k) <| fun v192 =>
  kq (rPick v188 v192 (.bool false)) <| fun v193 =>
  j174 v193 h24)
def L_runglaw7_LineHears_2 (call callD : ACall) (v32 : AVal) (a0 : AVal) (a3 : AVal) (a4 : AVal) (v28 : AVal) : (List AVal → AH → Ans) → List AVal → AH → Ans := fun j79 l78 h10 =>
  kq (some (gd l78 0)) <| fun v80 =>
  kIf v80 (
  kq (some v32) <| fun v81 =>
  ke (call N_line_Line_Next [v81] h10) <| fun v82 h11 =>
  kq (some v82) <| fun v83 =>
  kq (aExtract v83 0) <| fun v84 =>
  kq (aExtract v83 1) <| fun v85 =>
  kq (aExtract v83 2) <| fun v86 =>
  kq (some v86) <| fun v87 =>
  j79 [v87] h11) (
  kq (some a0) <| fun v88 =>
  kq (some a3) <| fun v89 =>
  ke (call N_rungref3_Rtu [v88, v89] h10) <| fun v90 h12 =>
  kq (some v90) <| fun v91 =>
  kq (aExtract v91 0) <| fun v92 =>
  kq (aExtract v91 1) <| fun v93 =>
  kq (some v92) <| fun v94 =>
  kq (some v93) <| fun v95 =>
  kq (some (.int .i64 0)) <| fun v96 =>
  kq (some (.int .i64 0)) <| fun v97 =>
  kLoop (L_runglaw7_LineHears_1 call callD v94 a4 v32 v28 a0 a3) rounds [v96, v97] h12)
def L_runglaw7_LineHears_3 (call callD : ACall) (v28 : AVal) (v32 : AVal) (a0 : AVal) (a3 : AVal) (a4 : AVal) : (List AVal → AH → Ans) → List AVal → AH → Ans := fun j60 l59 h7 =>
  kq (some (gd l59 0)) <| fun v61 =>
  kq (some v28) <| fun v62 =>
  kq (rBin .lss .no false v61 v62) <| fun v63 =>
  kIf v63 (
  kq (some v32) <| fun v64 =>
  ke (call N_line_Line_Tick [v64] h7) <| fun v65 h8 =>
  kq (some (gd l59 0)) <| fun v66 =>
  kq (rBin .add .no true v66 (.int .i64 1)) <| fun v67 =>
  kq (some v67) <| fun v68 =>
  j60 [v68] h8) (
  kq (some v32) <| fun v69 =>
  ke (call N_line_Line_Next [v69] h7) <| fun v70 h9 =>
  kq (some v70) <| fun v71 =>
  kq (aExtract v71 0) <| fun v72 =>
  kq (aExtract v71 1) <| fun v73 =>
  kq (aExtract v71 2) <| fun v74 =>
  kq (some v72) <| fun v75 =>
  kq (some v73) <| fun v76 =>
  kq (some v74) <| fun v77 =>
  kLoop (L_runglaw7_LineHears_2 call callD v32 a0 a3 a4 v28) rounds [v77] h9)
def L_runglaw7_LineHears_4 (call callD : ACall) (a2 : AVal) (v32 : AVal) (v28 : AVal) (a0 : AVal) (a3 : AVal) (a4 : AVal) : (List AVal → AH → Ans) → List AVal → AH → Ans := fun j35 l34 h4 =>
  kq (some (gd l34 0)) <| fun v36 =>
  kq (some a2) <| fun v37 =>
  kq (rLen v37) <| fun v38 =>
  kq (rBin .lss .no false v36 v38) <| fun v39 =>
  kIf v39 (
  kq (some a2) <| fun v40 =>
  kq (some (gd l34 0)) <| fun v41 =>
  kq (rAt 1 v40 v41) <| fun v42 =>
  kq (rLoad v42 h4) <| fun v43 =>
  kq (rLen v43) <| fun v44 =>
  kq (rBin .gtr .no true v44 (.int .i64 1000)) <| fun v45 =>
  kIf v45 (
  kq (some (.bool true)) <| fun v46 =>
  some (v46, h4)) (
  kq (some v32) <| fun v47 =>
  kq (some a2) <| fun v48 =>
  kq (some (gd l34 0)) <| fun v49 =>
  kq (rAt 1 v48 v49) <| fun v50 =>
  kq (rLoad v50 h4) <| fun v51 =>
  ke (call N_line_Line_Feed [v47, v51] h4) <| fun v52 h5 =>
  kq (some v32) <| fun v53 =>
  ke (call N_line_Line_Tick [v53] h5) <| fun v54 h6 =>
  kq (some (gd l34 0)) <| fun v55 =>
  kq (rBin .add .no true v55 (.int .i64 1)) <| fun v56 =>
  kq (some v56) <| fun v57 =>
  j35 [v57] h6)) (
  kq (some (.int .i64 0)) <| fun v58 =>
  kLoop (L_runglaw7_LineHears_3 call callD v28 v32 a0 a3 a4) rounds [v58] h4)
def F_runglaw7_LineHears (call callD : ACall) (a0 a1 a2 a3 a4 : AVal) (h : AH) : Ans :=
  kq (some (.bool false)) <| fun v0 =>
  ke (call N_runglaw7_known [] h) <| fun v1 h0 =>
  kq (aUn .not v1) <| fun v2 =>
  kIf v2 (
  kq (some (.bool false)) <| fun v3 =>
  some (v3, h0)) (
  kq (some a2) <| fun v4 =>
  kq (rLen v4) <| fun v5 =>
  kq (rBin .gtr .no true v5 (.int .i64 20)) <| fun v6 =>
  kq (some v6) <| fun v7 =>
  kt (fun v23 =>
  kIf v23 (
  kq (some (.bool true)) <| fun v24 =>
  some (v24, h0)) (
  kq (some a1) <| fun v25 =>
  ke (call N_runghelp_Place [v25, (.int .i64 6)] h0) <| fun v26 h2 =>
  kq (rBin .add .no true (.int .i64 1) v26) <| fun v27 =>
  kq (some v27) <| fun v28 =>
  kq (some a0) <| fun v29 =>
  kq (some v28) <| fun v30 =>
  ke (call N_line_New [v29, v30] h2) <| fun v31 h3 =>
  kq (some v31) <| fun v32 =>
  kq (some (.int .i64 0)) <| fun v33 =>
  kLoop (L_runglaw7_LineHears_4 call callD a2 v32 v28 a0 a3 a4) rounds [v33] h3)) <| fun j8 =>
  kgq v7 false (fun k => kq (some a3) k) <| fun v9 =>
  kgq v7 false (fun k => kq (rLen v9) k) <| fun v10 =>
  kgq v7 false (fun k => kq (rBin .lss .no true v10 (.int .i64 1)) k) <| fun v11 =>
  kq (rPick v7 (.bool true) v11) <| fun v12 =>
  kq (some v12) <| fun v13 =>
  kgq v13 false (fun k => kq (some a3) k) <| fun v14 =>
  kgq v13 false (fun k => kq (rLen v14) k) <| fun v15 =>
  kgq v13 false (fun k => kq (rBin .gtr .no true v15 (.int .i64 253)) k) <| fun v16 =>
  kq (rPick v13 (.bool true) v16) <| fun v17 =>
  kq (some v17) <| fun v18 =>
  kgq v18 false (fun k => kq (some a4) k) <| fun v19 =>
  kgq v18 false (fun k => kq (rLen v19) k) <| fun v20 =>
  kgq v18 false (fun k => kq (rBin .gtr .no true v20 (.int .i64 100)) k) <| fun v21 =>
  kq (rPick v18 (.bool true) v21) <| fun v22 =>
  j8 v22)
theorem F_runglaw7_LineHears_eq (call callD : ACall) (a0 a1 a2 a3 a4 : AVal) (h : AH) : kFunc Try.prog [] call callD N_runglaw7_LineHears [a0, a1, a2, a3, a4] h = F_runglaw7_LineHears call callD a0 a1 a2 a3 a4 h := by kernel_rfl
theorem C_runglaw7_LineHears {ov : AOver} (H : Plain ov) (n : Nat) (a0 a1 a2 a3 a4 : AVal) (h : AH) : kc ov (n + 1) N_runglaw7_LineHears [a0, a1, a2, a3, a4] h = F_runglaw7_LineHears (kc ov n) (kd ov n) a0 a1 a2 a3 a4 h := by
  have hov : ov N_runglaw7_LineHears = none := H _ (by decide)
  unfold kc kd; rw [← F_runglaw7_LineHears_eq]; simp only [kcall, hov]

/-- rung/runglaw7.LineLong -/
def F_runglaw7_LineLong (call callD : ACall) (a0 a1 a2 : AVal) (h : AH) : Ans :=
  kq (some (.bool false)) <| fun v0 =>
  ke (call N_runglaw7_known [] h) <| fun v1 h0 =>
  kq (aUn .not v1) <| fun v2 =>
  kIf v2 (
  kq (some (.bool false)) <| fun v3 =>
  some (v3, h0)) (
  kq (some a2) <| fun v4 =>
  kq (rLen v4) <| fun v5 =>
  kq (rBin .lss .no true v5 (.int .i64 1)) <| fun v6 =>
  kq (some v6) <| fun v7 =>
  kt (fun v13 =>
  kIf v13 (
  kq (some (.bool true)) <| fun v14 =>
  some (v14, h0)) (
  kq (some a1) <| fun v15 =>
  ke (call N_runghelp_Place [v15, (.int .i64 3000)] h0) <| fun v16 h2 =>
  kq (rBin .add .no true (.int .i64 257) v16) <| fun v17 =>
  kq (some v17) <| fun v18 =>
  kq (some a0) <| fun v19 =>
  ke (call N_line_New [v19, (.int .i64 1)] h2) <| fun v20 h3 =>
  kq (some v20) <| fun v21 =>
  kq (some v21) <| fun v22 =>
  kq (some v18) <| fun v23 =>
  km (mMakeSl T_uint8 1 1 [(.int .u8 0)] v23 v23) h3 <| fun v24 h4 =>
  ke (call N_line_Line_Feed [v22, v24] h4) <| fun v25 h5 =>
  kq (some v21) <| fun v26 =>
  ke (call N_line_Line_Left [v26] h5) <| fun v27 h6 =>
  kq (rBin .neq .no true v27 (.int .i64 257)) <| fun v28 =>
  kIf v28 (
  kq (some (.bool false)) <| fun v29 =>
  some (v29, h6)) (
  kq (some v21) <| fun v30 =>
  ke (call N_line_Line_Tick [v30] h6) <| fun v31 h7 =>
  kq (some v21) <| fun v32 =>
  ke (call N_line_Line_Left [v32] h7) <| fun v33 h8 =>
  kq (rBin .neq .no true v33 (.int .i64 0)) <| fun v34 =>
  kq (some v34) <| fun v35 =>
  kth (fun v42 h11 =>
  kIf v42 (
  kq (some (.bool false)) <| fun v43 =>
  some (v43, h11)) (
  kq (some a0) <| fun v44 =>
  kq (some a2) <| fun v45 =>
  ke (call N_rungref3_Rtu [v44, v45] h11) <| fun v46 h12 =>
  kq (some v46) <| fun v47 =>
  kq (aExtract v47 0) <| fun v48 =>
  kq (aExtract v47 1) <| fun v49 =>
  kq (some v48) <| fun v50 =>
  kq (some v49) <| fun v51 =>
  kq (some v21) <| fun v52 =>
  kq (some v50) <| fun v53 =>
  ke (call N_line_Line_Feed [v52, v53] h12) <| fun v54 h13 =>
  kq (some v21) <| fun v55 =>
  ke (call N_line_Line_Tick [v55] h13) <| fun v56 h14 =>
  kq (some v21) <| fun v57 =>
  ke (call N_line_Line_Next [v57] h14) <| fun v58 h15 =>
  kq (some v58) <| fun v59 =>
  kq (aExtract v59 0) <| fun v60 =>
  kq (aExtract v59 1) <| fun v61 =>
  kq (aExtract v59 2) <| fun v62 =>
  kq (some v60) <| fun v63 =>
  kq (some v61) <| fun v64 =>
  kq (some v62) <| fun v65 =>
  kq (some v65) <| fun v66 =>
  kq (some v66) <| fun v67 =>
  kth (fun v74 h18 =>
  kq (some v74) <| fun v75 =>
  some (v75, h18)) <| fun j68 =>
  kgq v67 true (fun k => kq (some v64) k) <| fun v69 =>
  kgq v67 true (fun k => kq (some a2) k) <| fun v70 =>
  kgh v67 true h15 (fun k => ke (call N_runghelp_Bytes [v69, v70] h15) <| fun v71 h16 =>
  k v71 h16) <| fun v72 h17 =>
  kq (rPick v67 v72 (.bool false)) <| fun v73 =>
  j68 v73 h17)) <| fun j36 =>
  kgq v35 false (fun k => kq (some v21) k) <| fun v37 =>
  kgh v35 false h8 (fun k => ke (call N_line_Line_Waits [v37] h8) <| fun v38 h9 =>
  k v38 h9) <| fun v39 h10 =>
  kgq v35 false (fun k => kq (rBin .neq .no true v39 (.int .i64 0)) k) <| fun v40 =>
  kq (rPick v35 (.bool true) v40) <| fun v41 =>
  j36 v41 h10))) <| fun j8 =>
  kgq v7 false (fun k => kq (some a2) k) <| fun v9 =>
  kgq v7 false (fun k => kq (rLen v9) k) <| fun v10 =>
  kgq v7 false (fun k => kq (rBin .gtr .no true v10 (.int .i64 253)) k) <| fun v11 =>
  kq (rPick v7 (.bool true) v11) <| fun v12 =>
  j8 v12)
theorem F_runglaw7_LineLong_eq (call callD : ACall) (a0 a1 a2 : AVal) (h : AH) : kFunc Try.prog [] call callD N_runglaw7_LineLong [a0, a1, a2] h = F_runglaw7_LineLong call callD a0 a1 a2 h := by kernel_rfl
theorem C_runglaw7_LineLong {ov : AOver} (H : Plain ov) (n : Nat) (a0 a1 a2 : AVal) (h : AH) : kc ov (n + 1) N_runglaw7_LineLong [a0, a1, a2] h = F_runglaw7_LineLong (kc ov n) (kd ov n) a0 a1 a2 h := by
  have hov : ov N_runglaw7_LineLong = none := H _ (by decide)
  unfold kc kd; rw [← F_runglaw7_LineLong_eq]; simp only [kcall, hov]

/-- rung/runglaw7.known -/
def F_runglaw7_known (call callD : ACall) (h : AH) : Ans :=
  kq (some (.bool false)) <| fun v0 =>
  ke (call N_line_New [(.int .u8 1), (.int .i64 2)] h) <| fun v1 h0 =>
  kq (some v1) <| fun v2 =>
  kq (some v2) <| fun v3 =>
  kq (rBin .eql .ptr true v3 (.ptr none)) <| fun v4 =>
  kIf v4 (
  kq (some (.bool false)) <| fun v5 =>
  some (v5, h0)) (
  km (mBuildSl T_uint8 1 [(.int .u8 0)] 5 [(0, (.int .u8 3)), (1, (.int .u8 0)), (2, (.int .u8 0)), (3, (.int .u8 0)), (4, (.int .u8 1))]) h0 <| fun v6 h1 =>
  ke (call N_rungref3_Rtu [(.int .u8 1), v6] h1) <| fun v7 h2 =>
  kq (some v7) <| fun v8 =>
  kq (aExtract v8 0) <| fun v9 =>
  kq (aExtract v8 1) <| fun v10 =>
  kq (some v9) <| fun v11 =>
  kq (some v10) <| fun v12 =>
  kq (some v2) <| fun v13 =>
  kq (some v11) <| fun v14 =>
  kq (rCut 1 v14 none (some (.int .i64 4)) none) <| fun v15 =>
  ke (call N_line_Line_Feed [v13, v15] h2) <| fun v16 h3 =>
  kq (some v2) <| fun v17 =>
  ke (call N_line_Line_Tick [v17] h3) <| fun v18 h4 =>
  kq (some v2) <| fun v19 =>
  kq (some v11) <| fun v20 =>
  kq (rCut 1 v20 (some (.int .i64 4)) none none) <| fun v21 =>
  ke (call N_line_Line_Feed [v19, v21] h4) <| fun v22 h5 =>
  kq (some v2) <| fun v23 =>
  ke (call N_line_Line_Tick [v23] h5) <| fun v24 h6 =>
  kq (some v2) <| fun v25 =>
  ke (call N_line_Line_Left [v25] h6) <| fun v26 h7 =>
  kq (some v26) <| fun v27 =>
  kq (some v2) <| fun v28 =>
  ke (call N_line_Line_Tick [v28] h7) <| fun v29 h8 =>
  kq (some v2) <| fun v30 =>
  ke (call N_line_Line_Next [v30] h8) <| fun v31 h9 =>
  kq (some v31) <| fun v32 =>
  kq (aExtract v32 0) <| fun v33 =>
  kq (aExtract v32 1) <| fun v34 =>
  kq (aExtract v32 2) <| fun v35 =>
  kq (some v33) <| fun v36 =>
  kq (some v34) <| fun v37 =>
  kq (some v35) <| fun v38 =>
  kq (some v2) <| fun v39 =>
  ke (call N_line_Line_Next [v39] h9) <| fun v40 h10 =>
  kq (some v40) <| fun v41 =>
  kq (aExtract v41 0) <| fun v42 =>
  kq (aExtract v41 1) <| fun v43 =>
  kq (aExtract v41 2) <| fun v44 =>
  kq (some v42) <| fun v45 =>
  kq (some v43) <| fun v46 =>
  kq (some v44) <| fun v47 =>
  kq (some v2) <| fun v48 =>
  km (mBuildSl T_uint8 1 [(.int .u8 0)] 5 [(0, (.int .u8 1)), (1, (.int .u8 2)), (2, (.int .u8 3)), (3, (.int .u8 4)), (4, (.int .u8 5))]) h10 <| fun v49 h11 =>
  ke (call N_line_Line_Feed [v48, v49] h11) <| fun v50 h12 =>
  kq (some v2) <| fun v51 =>
  ke (call N_line_Line_Tick [v51] h12) <| fun v52 h13 =>
  kq (some v2) <| fun v53 =>
  ke (call N_line_Line_Tick [v53] h13) <| fun v54 h14 =>
  kq (some v27) <| fun v55 =>
  kq (rBin .eql .no true v55 (.int .i64 8)) <| fun v56 =>
  kq (some v56) <| fun v57 =>
  kth (fun v86 h19 =>
  kq (some v86) <| fun v87 =>
  some (v87, h19)) <| fun j58 =>
  kgq v57 true (fun k => kq (some v38) k) <| fun v59 =>
  kq (rPick v57 v59 (.bool false)) <| fun v60 =>
  kq (some v60) <| fun v61 =>
  kgq v61 true (fun k => kq (some v36) k) <| fun v62 =>
  kgq v61 true (fun k => kq (rBin .eql .no true v62 (.int .u8 1)) k) <| fun v63 =>
  kq (rPick v61 v63 (.bool false)) <| fun v64 =>
  kq (some v64) <| fun v65 =>
  kgq v65 true (fun k => kq (some v37) k) <| fun v66 =>
  kgq v65 true (fun k => kq (rLen v66) k) <| fun v67 =>
  kgq v65 true (fun k => kq (rBin .eql .no true v67 (.int .i64 5)) k) <| fun v68 =>
  kq (rPick v65 v68 (.bool false)) <| fun v69 =>
  kq (some v69) <| fun v70 =>
  kgq v70 true (fun k => kq (some v47) k) <| fun v71 =>
  kgq v70 true (fun k => kq (aUn .not v71) k) <| fun v72 =>
  kq (rPick v70 v72 (.bool false)) <| fun v73 =>
  kq (some v73) <| fun v74 =>
  kgq v74 true (fun k => kq (some v2) k) <| fun v75 =>
  kgh v74 true h14 (fun k => ke (call N_line_Line_Waits [v75] h14) <| fun v76 h15 =>
  k v76 h15) <| fun v77 h16 =>
  kgq v74 true (fun k => kq (rBin .eql .no true v77 (.int .i64 0)) k) <| fun v78 =>
  kq (rPick v74 v78 (.bool false)) <| fun v79 =>
  kq (some v79) <| fun v80 =>
  kgq v80 true (fun k => kq (some v2) k) <| fun v81 =>
  kgh v80 true h16 (fun k => ke (call N_line_Line_Left [v81] h16) <| fun v82 h17 =>
  k v82 h17) <| fun v83 h18 =>
  kgq v80 true (fun k => kq (rBin .eql .no true v83 (.int .i64 0)) k) <| fun v84 =>
  kq (rPick v80 v84 (.bool false)) <| fun v85 =>
  j58 v85 h18)
theorem F_runglaw7_known_eq (call callD : ACall) (h : AH) : kFunc Try.prog [] call callD N_runglaw7_known [] h = F_runglaw7_known call callD h := by kernel_rfl
theorem C_runglaw7_known {ov : AOver} (hov : ov N_runglaw7_known = none) (n : Nat) (h : AH) : kcall Try.prog [] ov (n + 1) N_runglaw7_known [] h = F_runglaw7_known (kcall Try.prog [] ov n) (kFuncD Try.prog [] (kcall Try.prog [] ov n)) h := by
  rw [← F_runglaw7_known_eq]; simp only [kcall, hov]

/-- rung/line.New -/
def F_line_New (call callD : ACall) (a0 a1 : AVal) (h : AH) : Ans :=
  kq (some (.ptr none)) <| fun v0 =>
  kq (some a0) <| fun v1 =>
  kq (some a1) <| fun v2 =>
  kq (aMM aMax2 [v2, (.int .i64 1)]) <| fun v3 =>
  kq (rBuild [(.int .u8 0), (.int .i64 0), (.int .i64 0), (.slice none 0 0), (.int .u8 0), (.slice none 0 0), (.int .u8 0), (.slice none 0 0), (.int .u8 0), (.slice none 0 0), (.int .u8 0), (.slice none 0 0), (.int .u8 0), (.slice none 0 0), (.int .u8 0), (.slice none 0 0), (.int .u8 0), (.slice none 0 0), (.int .u8 0), (.slice none 0 0), (.int .i64 0), (.int .i64 0)] [(0, 1), (1, 1), (2, 1), (3, 1), (4, 16), (20, 1), (21, 1)] [(0, v1), (1, v3)]) <| fun v4 =>
  km (pBox T_line_Line v4) h <| fun v5 h0 =>
  kq (some v5) <| fun v6 =>
  some (v6, h0)
theorem F_line_New_eq (call callD : ACall) (a0 a1 : AVal) (h : AH) : kFunc Try.prog [] call callD N_line_New [a0, a1] h = F_line_New call callD a0 a1 h := by kernel_rfl
theorem C_line_New {ov : AOver} (H : Plain ov) (n : Nat) (a0 a1 : AVal) (h : AH) : kc ov (n + 1) N_line_New [a0, a1] h = F_line_New (kc ov n) (kd ov n) a0 a1 h := by
  have hov : ov N_line_New = none := H _ (by decide)
  unfold kc kd; rw [← F_line_New_eq]; simp only [kcall, hov]

/-- rung/rungref3.Rtu -/
def F_rungref3_Rtu (call callD : ACall) (a0 a1 : AVal) (h : AH) : Ans :=
  kq (some (.slice none 0 0)) <| fun v0 =>
  kq (some (.int .i64 0)) <| fun v1 =>
  kq (some a1) <| fun v2 =>
  kq (rLen v2) <| fun v3 =>
  kq (rBin .lss .no true v3 (.int .i64 1)) <| fun v4 =>
  kq (some v4) <| fun v5 =>
  kt (fun v11 =>
  kIf v11 (
  kq (some (.slice none 0 0)) <| fun v12 =>
  kq (some (.int .i64 51)) <| fun v13 =>
  some (.tuple [v12, v13], h)) (
  kq (some a0) <| fun v14 =>
  km (mBuildSl T_uint8 1 [(.int .u8 0)] 1 [(0, v14)]) h <| fun v15 h1 =>
  kq (some a1) <| fun v16 =>
  ke (rAppend T_uint8 1 1 v15 v16 h1) <| fun v17 h2 =>
  kq (some v17) <| fun v18 =>
  kq (some v18) <| fun v19 =>
  ke (call N_rungref2_Sum16 [v19] h2) <| fun v20 h3 =>
  kq (some v20) <| fun v21 =>
  kq (some v18) <| fun v22 =>
  kq (some v21) <| fun v23 =>
  kq (rConvI .u8 v23) <| fun v24 =>
  kq (some v21) <| fun v25 =>
  kq (rBin .shr .no true v25 (.int .u64 8)) <| fun v26 =>
  kq (rConvI .u8 v26) <| fun v27 =>
  km (mBuildSl T_uint8 1 [(.int .u8 0)] 2 [(0, v24), (1, v27)]) h3 <| fun v28 h4 =>
  ke (rAppend T_uint8 1 1 v22 v28 h4) <| fun v29 h5 =>
  kq (some v29) <| fun v30 =>
  kq (some (.int .i64 0)) <| fun v31 =>
  some (.tuple [v30, v31], h5))) <| fun j6 =>
  kgq v5 false (fun k => kq (some a1) k) <| fun v7 =>
  kgq v5 false (fun k => kq (rLen v7) k) <| fun v8 =>
  kgq v5 false (fun k => kq (rBin .gtr .no true v8 (.int .i64 253)) k) <| fun v9 =>
  kq (rPick v5 (.bool true) v9) <| fun v10 =>
  j6 v10
theorem F_rungref3_Rtu_eq (call callD : ACall) (a0 a1 : AVal) (h : AH) : kFunc Try.prog [] call callD N_rungref3_Rtu [a0, a1] h = F_rungref3_Rtu call callD a0 a1 h := by kernel_rfl
theorem C_rungref3_Rtu {ov : AOver} (H : Plain ov) (n : Nat) (a0 a1 : AVal) (h : AH) : kc ov (n + 1) N_rungref3_Rtu [a0, a1] h = F_rungref3_Rtu (kc ov n) (kd ov n) a0 a1 h := by
  have hov : ov N_rungref3_Rtu = none := H _ (by decide)
  unfold kc kd; rw [← F_rungref3_Rtu_eq]; simp only [kcall, hov]

/-- rung/runghelp.Copy -/
def F_runghelp_Copy (call callD : ACall) (a0 : AVal) (h : AH) : Ans :=
  kq (some (.slice none 0 0)) <| fun v0 =>
  kq (some a0) <| fun v1 =>
  ke (rAppend T_uint8 1 1 (.slice none 0 0) v1 h) <| fun v2 h0 =>
  kq (some v2) <| fun v3 =>
  some (v3, h0)
theorem F_runghelp_Copy_eq (call callD : ACall) (a0 : AVal) (h : AH) : kFunc Try.prog [] call callD N_runghelp_Copy [a0] h = F_runghelp_Copy call callD a0 h := by kernel_rfl
theorem C_runghelp_Copy {ov : AOver} (H : Plain ov) (n : Nat) (a0 : AVal) (h : AH) : kc ov (n + 1) N_runghelp_Copy [a0] h = F_runghelp_Copy (kc ov n) (kd ov n) a0 h := by
  have hov : ov N_runghelp_Copy = none := H _ (by decide)
  unfold kc kd; rw [← F_runghelp_Copy_eq]; simp only [kcall, hov]

/-- (*rung/line.Line).Feed -/
def F_line_Line_Feed (call callD : ACall) (a0 a1 : AVal) (h : AH) : Ans :=
  kq (some a1) <| fun v0 =>
  kq (rLen v0) <| fun v1 =>
  kq (rBin .eql .no true v1 (.int .i64 0)) <| fun v2 =>
  kIf v2 (
  some (.tuple [], h)) (
  kq (some a0) <| fun v3 =>
  kq (aNilCheck v3) <| fun v4 =>
  kq (rFieldP 2 v4) <| fun v5 =>
  ke ((rStore 1 v5 (.int .i64 0) h).map fun h' => (.tuple [], h')) <| fun v6 h0 =>
  kq (some a1) <| fun v7 =>
  kq (rLen v7) <| fun v8 =>
  kq (some a0) <| fun v9 =>
  kq (aNilCheck v9) <| fun v10 =>
  kq (rFieldP 3 v10) <| fun v11 =>
  kq (rLoad v11 h0) <| fun v12 =>
  kq (rLen v12) <| fun v13 =>
  kq (rBin .sub .no true (.int .i64 257) v13) <| fun v14 =>
  kq (aMM aMin2 [v8, v14]) <| fun v15 =>
  kq (some v15) <| fun v16 =>
  kq (some a0) <| fun v17 =>
  kq (some a0) <| fun v18 =>
  kq (aNilCheck v18) <| fun v19 =>
  kq (rFieldP 3 v19) <| fun v20 =>
  kq (rLoad v20 h0) <| fun v21 =>
  kq (some a1) <| fun v22 =>
  kq (some v16) <| fun v23 =>
  kq (rCut 1 v22 none (some v23) none) <| fun v24 =>
  ke (rAppend T_uint8 1 1 v21 v24 h0) <| fun v25 h1 =>
  kq (aNilCheck v17) <| fun v26 =>
  kq (rFieldP 3 v26) <| fun v27 =>
  kChk (!false || kSame (rLoad v20 h1) v21) <|
  ke ((rStore 1 v27 v25 h1).map fun h' => (.tuple [], h')) <| fun v28 h2 =>
  kChk (!false || kSame (rLoad v20 h2) v21) <|
  some (.tuple [], h2))
theorem F_line_Line_Feed_eq (call callD : ACall) (a0 a1 : AVal) (h : AH) : kFunc Try.prog [] call callD N_line_Line_Feed [a0, a1] h = F_line_Line_Feed call callD a0 a1 h := by kernel_rfl
theorem C_line_Line_Feed {ov : AOver} (H : Plain ov) (n : Nat) (a0 a1 : AVal) (h : AH) : kc ov (n + 1) N_line_Line_Feed [a0, a1] h = F_line_Line_Feed (kc ov n) (kd ov n) a0 a1 h := by
  have hov : ov N_line_Line_Feed = none := H _ (by decide)
  unfold kc kd; rw [← F_line_Line_Feed_eq]; simp only [kcall, hov]

/-- rung/runghelp.Spoil -/
def L_runghelp_Spoil_0 (call callD : ACall) (a0 : AVal) : (List AVal → AH → Ans) → List AVal → AH → Ans := fun j2 l1 h0 =>
  kq (some (gd l1 0)) <| fun v3 =>
  kq (some a0) <| fun v4 =>
  kq (rLen v4) <| fun v5 =>
  kq (rBin .lss .no false v3 v5) <| fun v6 =>
  kIf v6 (
  kq (some a0) <| fun v7 =>
  kq (some (gd l1 0)) <| fun v8 =>
  kq (some a0) <| fun v9 =>
  kq (some (gd l1 0)) <| fun v10 =>
  kq (rAt 1 v9 v10) <| fun v11 =>
  kq (rLoad v11 h0) <| fun v12 =>
  kq (rBin .xor .no true v12 (.int .u8 165)) <| fun v13 =>
  kq (rAt 1 v7 v8) <| fun v14 =>
  ke ((rStore 1 v14 v13 h0).map fun h' => (.tuple [], h')) <| fun v15 h1 =>
  kq (some (gd l1 0)) <| fun v16 =>
  kq (rBin .add .no true v16 (.int .i64 1)) <| fun v17 =>
  kq (some v17) <| fun v18 =>
  j2 [v18] h1) (
  some (.tuple [], h0))
def F_runghelp_Spoil (call callD : ACall) (a0 : AVal) (h : AH) : Ans :=
  kq (some (.int .i64 0)) <| fun v0 =>
  kLoop (L_runghelp_Spoil_0 call callD a0) rounds [v0] h
theorem F_runghelp_Spoil_eq (call callD : ACall) (a0 : AVal) (h : AH) : kFunc Try.prog [] call callD N_runghelp_Spoil [a0] h = F_runghelp_Spoil call callD a0 h := by kernel_rfl
theorem C_runghelp_Spoil {ov : AOver} (H : Plain ov) (n : Nat) (a0 : AVal) (h : AH) : kc ov (n + 1) N_runghelp_Spoil [a0] h = F_runghelp_Spoil (kc ov n) (kd ov n) a0 h := by
  have hov : ov N_runghelp_Spoil = none := H _ (by decide)
  unfold kc kd; rw [← F_runghelp_Spoil_eq]; simp only [kcall, hov]

/-- (*rung/line.Line).Tick -/
def F_line_Line_Tick (call callD : ACall) (a0 : AVal) (h : AH) : Ans :=
  kq (some a0) <| fun v0 =>
  kq (aNilCheck v0) <| fun v1 =>
  kq (rFieldP 3 v1) <| fun v2 =>
  kq (rLoad v2 h) <| fun v3 =>
  kq (rLen v3) <| fun v4 =>
  kq (rBin .eql .no true v4 (.int .i64 0)) <| fun v5 =>
  kIf v5 (
  some (.tuple [], h)) (
  kq (some a0) <| fun v6 =>
  kq (aNilCheck v6) <| fun v7 =>
  kq (rFieldP 2 v7) <| fun v8 =>
  kq (rLoad v8 h) <| fun v9 =>
  kq (rBin .add .no true v9 (.int .i64 1)) <| fun v10 =>
  kq (aNilCheck v6) <| fun v11 =>
  kq (rFieldP 2 v11) <| fun v12 =>
  ke ((rStore 1 v12 v10 h).map fun h' => (.tuple [], h')) <| fun v13 h0 =>
  kq (some a0) <| fun v14 =>
  kq (aNilCheck v14) <| fun v15 =>
  kq (rFieldP 2 v15) <| fun v16 =>
  kq (rLoad v16 h0) <| fun v17 =>
  kq (some a0) <| fun v18 =>
  kq (aNilCheck v18) <| fun v19 =>
  kq (rFieldP 1 v19) <| fun v20 =>
  kq (rLoad v20 h0) <| fun v21 =>
  kq (rBin .lss .no false v17 v21) <| fun v22 =>
  kIf v22 (
  some (.tuple [], h0)) (
  kq (some a0) <| fun v23 =>
  kq (aNilCheck v23) <| fun v24 =>
  kq (rFieldP 3 v24) <| fun v25 =>
  kq (rLoad v25 h0) <| fun v26 =>
  ke (call N_rtu_Open [v26] h0) <| fun v27 h1 =>
  kq (some v27) <| fun v28 =>
  kq (aExtract v28 0) <| fun v29 =>
  kq (aExtract v28 1) <| fun v30 =>
  kq (aExtract v28 2) <| fun v31 =>
  kq (some v29) <| fun v32 =>
  kq (some v30) <| fun v33 =>
  kq (some v31) <| fun v34 =>
  kq (some v34) <| fun v35 =>
  kq (rBin .eql .no true v35 (.int .i64 0)) <| fun v36 =>
  kq (some v36) <| fun v37 =>
  kt (fun v57 =>
  kj (fun l58 h3 =>
  kq (some a0) <| fun v60 =>
  kq (some a0) <| fun v61 =>
  kq (aNilCheck v60) <| fun v62 =>
  kq (rFieldP 3 v62) <| fun v63 =>
  ke ((rStore 1 v63 (.slice none 0 0) h3).map fun h' => (.tuple [], h')) <| fun v64 h4 =>
  kq (aNilCheck v61) <| fun v65 =>
  kq (rFieldP 2 v65) <| fun v66 =>
  ke ((rStore 1 v66 (.int .i64 0) h4).map fun h' => (.tuple [], h')) <| fun v67 h5 =>
  some (.tuple [], h5)) <| fun j59 =>
  kIf v57 (
  kq (some a0) <| fun v68 =>
  kq (some a0) <| fun v69 =>
  kq (aNilCheck v69) <| fun v70 =>
  kq (rFieldP 20 v70) <| fun v71 =>
  kq (rLoad v71 h1) <| fun v72 =>
  kq (some a0) <| fun v73 =>
  kq (aNilCheck v73) <| fun v74 =>
  kq (rFieldP 21 v74) <| fun v75 =>
  kq (rLoad v75 h1) <| fun v76 =>
  kq (rBin .add .no false v72 v76) <| fun v77 =>
  kq (rBin .rem .no true v77 (.int .i64 8)) <| fun v78 =>
  kq (some v32) <| fun v79 =>
  kq (some v33) <| fun v80 =>
  kq (rBuild [(.int .u8 0), (.slice none 0 0)] [(0, 1), (1, 1)] [(0, v79), (1, v80)]) <| fun v81 =>
  kq (aNilCheck v68) <| fun v82 =>
  kq (rFieldP 4 v82) <| fun v83 =>
  kq (rAtArr 8 2 v83 v78) <| fun v84 =>
  ke ((rStore 2 v84 v81 h1).map fun h' => (.tuple [], h')) <| fun v85 h6 =>
  kChk (!false || kSame (rLoad v75 h6) v76) <|
  kChk (!false || kSame (rLoad v71 h6) v72) <|
  kq (some a0) <| fun v86 =>
  kq (aNilCheck v86) <| fun v87 =>
  kq (rFieldP 21 v87) <| fun v88 =>
  kq (rLoad v88 h6) <| fun v89 =>
  kq (rBin .add .no true v89 (.int .i64 1)) <| fun v90 =>
  kq (aNilCheck v86) <| fun v91 =>
  kq (rFieldP 21 v91) <| fun v92 =>
  ke ((rStore 1 v92 v90 h6).map fun h' => (.tuple [], h')) <| fun v93 h7 =>
  j59 [] h7) (
  j59 [] h1)) <| fun j38 =>
  kgq v37 true (fun k => kq (some v32) k) <| fun v39 =>
  kgq v37 true (fun k => kq (some a0) k) <| fun v40 =>
  kgq v37 true (fun k => kq (aNilCheck v40) k) <| fun v41 =>
  kgq v37 true (fun k => kq (rFieldP 0 v41) k) <| fun v42 =>
  kgq v37 true (fun k => kq (rLoad v42 h1) k) <| fun v43 =>
  kgq v37 true (fun k => kq (rBin .eql .no false v39 v43) k) <| fun v44 =>
  kgq v37 true (fun k => kq (some v44) k) <| fun v45 =>
  kgq v45 false (fun k => kq (some v32) k) <| fun v46 =>
  kgq v45 false (fun k => kq (rBin .eql .no true v46 (.int .u8 0)) k) <| fun v47 =>
  kgq v37 true (fun k => kq (rPick v45 (.bool true) v47) k) <| fun v48 =>
  kq (rPick v37 v48 (.bool false)) <| fun v49 =>
  kq (some v49) <| fun v50 =>
  kgq v50 true (fun k => kq (some a0) k) <| fun v51 =>
  kgq v50 true (fun k => kq (aNilCheck v51) k) <| fun v52 =>
  kgq v50 true (fun k => kq (rFieldP 21 v52) k) <| fun v53 =>
  kgq v50 true (fun k => kq (rLoad v53 h1) k) <| fun v54 =>
  kgq v50 true (fun k => kq (rBin .lss .no true v54 (.int .i64 8)) k) <| fun v55 =>
  kq (rPick v50 v55 (.bool false)) <| fun v56 =>
  j38 v56))
theorem F_line_Line_Tick_eq (call callD : ACall) (a0 : AVal) (h : AH) : kFunc Try.prog [] call callD N_line_Line_Tick [a0] h = F_line_Line_Tick call callD a0 h := by kernel_rfl
theorem C_line_Line_Tick {ov : AOver} (H : Plain ov) (n : Nat) (a0 : AVal) (h : AH) : kc ov (n + 1) N_line_Line_Tick [a0] h = F_line_Line_Tick (kc ov n) (kd ov n) a0 h := by
  have hov : ov N_line_Line_Tick = none := H _ (by decide)
  unfold kc kd; rw [← F_line_Line_Tick_eq]; simp only [kcall, hov]

/-- rung/rungref3.OpenRtu -/
def F_rungref3_OpenRtu (call callD : ACall) (a0 : AVal) (h : AH) : Ans :=
  kq (some (.int .u8 0)) <| fun v0 =>
  kq (some (.slice none 0 0)) <| fun v1 =>
  kq (some (.int .i64 0)) <| fun v2 =>
  kq (some a0) <| fun v3 =>
  kq (rLen v3) <| fun v4 =>
  kq (rBin .lss .no true v4 (.int .i64 4)) <| fun v5 =>
  kq (some v5) <| fun v6 =>
  kt (fun v12 =>
  kIf v12 (
  kq (some (.int .u8 0)) <| fun v13 =>
  kq (some (.slice none 0 0)) <| fun v14 =>
  kq (some (.int .i64 51)) <| fun v15 =>
  some (.tuple [v13, v14, v15], h)) (
  kq (some a0) <| fun v16 =>
  kq (rLen v16) <| fun v17 =>
  kq (rBin .sub .no true v17 (.int .i64 2)) <| fun v18 =>
  kq (some v18) <| fun v19 =>
  kq (some a0) <| fun v20 =>
  kq (some v19) <| fun v21 =>
  kq (rCut 1 v20 none (some v21) none) <| fun v22 =>
  kq (some a0) <| fun v23 =>
  kq (some v19) <| fun v24 =>
  kq (rAt 1 v23 v24) <| fun v25 =>
  kq (rLoad v25 h) <| fun v26 =>
  kq (rConvI .u16 v26) <| fun v27 =>
  kq (some a0) <| fun v28 =>
  kq (some v19) <| fun v29 =>
  kq (rBin .add .no true v29 (.int .i64 1)) <| fun v30 =>
  kq (rAt 1 v28 v30) <| fun v31 =>
  kq (rLoad v31 h) <| fun v32 =>
  kq (rConvI .u16 v32) <| fun v33 =>
  kq (rBin .shl .no true v33 (.int .u64 8)) <| fun v34 =>
  kq (rBin .or .no false v27 v34) <| fun v35 =>
  ke (call N_rungref2_Sum16 [v22] h) <| fun v36 h1 =>
  kq (rBin .neq .no false v36 v35) <| fun v37 =>
  kChk (!true || kSame (rLoad v31 h1) v32) <|
  kChk (!true || kSame (rLoad v25 h1) v26) <|
  kIf v37 (
  kq (some (.int .u8 0)) <| fun v38 =>
  kq (some (.slice none 0 0)) <| fun v39 =>
  kq (some (.int .i64 50)) <| fun v40 =>
  some (.tuple [v38, v39, v40], h1)) (
  kq (some a0) <| fun v41 =>
  kq (rAt 1 v41 (.int .i64 0)) <| fun v42 =>
  kq (rLoad v42 h1) <| fun v43 =>
  kq (some a0) <| fun v44 =>
  kq (some v19) <| fun v45 =>
  kq (rCut 1 v44 (some (.int .i64 1)) (some v45) none) <| fun v46 =>
  ke (rAppend T_uint8 1 1 (.slice none 0 0) v46 h1) <| fun v47 h2 =>
  kq (some v43) <| fun v48 =>
  kq (some v47) <| fun v49 =>
  kq (some (.int .i64 0)) <| fun v50 =>
  kChk (!true || kSame (rLoad v42 h2) v43) <|
  some (.tuple [v48, v49, v50], h2)))) <| fun j7 =>
  kgq v6 false (fun k => kq (some a0) k) <| fun v8 =>
  kgq v6 false (fun k => kq (rLen v8) k) <| fun v9 =>
  kgq v6 false (fun k => kq (rBin .gtr .no true v9 (.int .i64 256)) k) <| fun v10 =>
  kq (rPick v6 (.bool true) v10) <| fun v11 =>
  j7 v11
theorem F_rungref3_OpenRtu_eq (call callD : ACall) (a0 : AVal) (h : AH) : kFunc Try.prog [] call callD N_rungref3_OpenRtu [a0] h = F_rungref3_OpenRtu call callD a0 h := by kernel_rfl
theorem C_rungref3_OpenRtu {ov : AOver} (H : Plain ov) (n : Nat) (a0 : AVal) (h : AH) : kc ov (n + 1) N_rungref3_OpenRtu [a0] h = F_rungref3_OpenRtu (kc ov n) (kd ov n) a0 h := by
  have hov : ov N_rungref3_OpenRtu = none := H _ (by decide)
  unfold kc kd; rw [← F_rungref3_OpenRtu_eq]; simp only [kcall, hov]

/-- (*rung/line.Line).Next -/
def F_line_Line_Next (call callD : ACall) (a0 : AVal) (h : AH) : Ans :=
  kq (some (.int .u8 0)) <| fun v0 =>
  kq (some (.slice none 0 0)) <| fun v1 =>
  kq (some (.bool false)) <| fun v2 =>
  kq (some a0) <| fun v3 =>
  kq (aNilCheck v3) <| fun v4 =>
  kq (rFieldP 21 v4) <| fun v5 =>
  kq (rLoad v5 h) <| fun v6 =>
  kq (rBin .eql .no true v6 (.int .i64 0)) <| fun v7 =>
  kIf v7 (
  kq (some (.int .u8 0)) <| fun v8 =>
  kq (some (.slice none 0 0)) <| fun v9 =>
  kq (some (.bool false)) <| fun v10 =>
  some (.tuple [v8, v9, v10], h)) (
  kq (some a0) <| fun v11 =>
  kq (some a0) <| fun v12 =>
  kq (aNilCheck v12) <| fun v13 =>
  kq (rFieldP 20 v13) <| fun v14 =>
  kq (rLoad v14 h) <| fun v15 =>
  kq (aNilCheck v11) <| fun v16 =>
  kq (rFieldP 4 v16) <| fun v17 =>
  kq (rAtArr 8 2 v17 v15) <| fun v18 =>
  kq (rLoadA 2 v18 h) <| fun v19 =>
  km (pBox T_line_frame (.agg [(.int .u8 0), (.slice none 0 0)])) h <| fun v20 h0 =>
  kChk (!true || kSame (rLoadA 2 v18 h0) v19) <|
  kChk (!true || kSame (rLoad v14 h0) v15) <|
  ke ((rStore 2 v20 v19 h0).map fun h' => (.tuple [], h')) <| fun v21 h1 =>
  kChk (!false || kSame (rLoadA 2 v18 h1) v19) <|
  kChk (!false || kSame (rLoad v14 h1) v15) <|
  kq (some a0) <| fun v22 =>
  kq (some a0) <| fun v23 =>
  kq (aNilCheck v23) <| fun v24 =>
  kq (rFieldP 20 v24) <| fun v25 =>
  kq (rLoad v25 h1) <| fun v26 =>
  kq (rBuild [(.int .u8 0), (.slice none 0 0)] [(0, 1), (1, 1)] []) <| fun v27 =>
  kq (aNilCheck v22) <| fun v28 =>
  kq (rFieldP 4 v28) <| fun v29 =>
  kq (rAtArr 8 2 v29 v26) <| fun v30 =>
  ke ((rStore 2 v30 v27 h1).map fun h' => (.tuple [], h')) <| fun v31 h2 =>
  kChk (!false || kSame (rLoad v25 h2) v26) <|
  kq (some a0) <| fun v32 =>
  kq (some a0) <| fun v33 =>
  kq (some a0) <| fun v34 =>
  kq (aNilCheck v34) <| fun v35 =>
  kq (rFieldP 20 v35) <| fun v36 =>
  kq (rLoad v36 h2) <| fun v37 =>
  kq (rBin .add .no true v37 (.int .i64 1)) <| fun v38 =>
  kq (rBin .rem .no true v38 (.int .i64 8)) <| fun v39 =>
  kq (some a0) <| fun v40 =>
  kq (aNilCheck v40) <| fun v41 =>
  kq (rFieldP 21 v41) <| fun v42 =>
  kq (rLoad v42 h2) <| fun v43 =>
  kq (rBin .sub .no true v43 (.int .i64 1)) <| fun v44 =>
  kq (aNilCheck v32) <| fun v45 =>
  kq (rFieldP 20 v45) <| fun v46 =>
  ke ((rStore 1 v46 v39 h2).map fun h' => (.tuple [], h')) <| fun v47 h3 =>
  kq (aNilCheck v33) <| fun v48 =>
  kq (rFieldP 21 v48) <| fun v49 =>
  kChk (!false || kSame (rLoad v42 h3) v43) <|
  kChk (!false || kSame (rLoad v36 h3) v37) <|
  ke ((rStore 1 v49 v44 h3).map fun h' => (.tuple [], h')) <| fun v50 h4 =>
  kChk (!false || kSame (rLoad v42 h4) v43) <|
  kChk (!false || kSame (rLoad v36 h4) v37) <|
  kq (rFieldP 0 v20) <| fun v51 =>
  kq (rLoad v51 h4) <| fun v52 =>
  kq (rFieldP 1 v20) <| fun v53 =>
  kq (rLoad v53 h4) <| fun v54 =>
  kq (some v52) <| fun v55 =>
  kq (some v54) <| fun v56 =>
  kq (some (.bool true)) <| fun v57 =>
  some (.tuple [v55, v56, v57], h4))
theorem F_line_Line_Next_eq (call callD : ACall) (a0 : AVal) (h : AH) : kFunc Try.prog [] call callD N_line_Line_Next [a0] h = F_line_Line_Next call callD a0 h := by kernel_rfl
theorem C_line_Line_Next {ov : AOver} (H : Plain ov) (n : Nat) (a0 : AVal) (h : AH) : kc ov (n + 1) N_line_Line_Next [a0] h = F_line_Line_Next (kc ov n) (kd ov n) a0 h := by
  have hov : ov N_line_Line_Next = none := H _ (by decide)
  unfold kc kd; rw [← F_line_Line_Next_eq]; simp only [kcall, hov]

/-- rung/runghelp.Bytes -/
def F_runghelp_Bytes (call callD : ACall) (a0 a1 : AVal) (h : AH) : Ans :=
  kq (some (.bool false)) <| fun v0 =>
  kq (some a0) <| fun v1 =>
  kq (rText v1 h) <| fun v2 =>
  kq (some a1) <| fun v3 =>
  kq (rText v3 h) <| fun v4 =>
  kq (rBin .eql .no false v2 v4) <| fun v5 =>
  kq (some v5) <| fun v6 =>
  some (v6, h)
theorem F_runghelp_Bytes_eq (call callD : ACall) (a0 a1 : AVal) (h : AH) : kFunc Try.prog [] call callD N_runghelp_Bytes [a0, a1] h = F_runghelp_Bytes call callD a0 a1 h := by kernel_rfl
theorem C_runghelp_Bytes {ov : AOver} (H : Plain ov) (n : Nat) (a0 a1 : AVal) (h : AH) : kc ov (n + 1) N_runghelp_Bytes [a0, a1] h = F_runghelp_Bytes (kc ov n) (kd ov n) a0 a1 h := by
  have hov : ov N_runghelp_Bytes = none := H _ (by decide)
  unfold kc kd; rw [← F_runghelp_Bytes_eq]; simp only [kcall, hov]

/-- (*rung/line.Line).Left -/
def F_line_Line_Left (call callD : ACall) (a0 : AVal) (h : AH) : Ans :=
  kq (some (.int .i64 0)) <| fun v0 =>
  kq (some a0) <| fun v1 =>
  kq (aNilCheck v1) <| fun v2 =>
  kq (rFieldP 3 v2) <| fun v3 =>
  kq (rLoad v3 h) <| fun v4 =>
  kq (rLen v4) <| fun v5 =>
  kq (some v5) <| fun v6 =>
  some (v6, h)
theorem F_line_Line_Left_eq (call callD : ACall) (a0 : AVal) (h : AH) : kFunc Try.prog [] call callD N_line_Line_Left [a0] h = F_line_Line_Left call callD a0 h := by kernel_rfl
theorem C_line_Line_Left {ov : AOver} (H : Plain ov) (n : Nat) (a0 : AVal) (h : AH) : kc ov (n + 1) N_line_Line_Left [a0] h = F_line_Line_Left (kc ov n) (kd ov n) a0 h := by
  have hov : ov N_line_Line_Left = none := H _ (by decide)
  unfold kc kd; rw [← F_line_Line_Left_eq]; simp only [kcall, hov]

/-- (*rung/line.Line).Waits -/
def F_line_Line_Waits (call callD : ACall) (a0 : AVal) (h : AH) : Ans :=
  kq (some (.int .i64 0)) <| fun v0 =>
  kq (some a0) <| fun v1 =>
  kq (aNilCheck v1) <| fun v2 =>
  kq (rFieldP 21 v2) <| fun v3 =>
  kq (rLoad v3 h) <| fun v4 =>
  kq (some v4) <| fun v5 =>
  some (v5, h)
theorem F_line_Line_Waits_eq (call callD : ACall) (a0 : AVal) (h : AH) : kFunc Try.prog [] call callD N_line_Line_Waits [a0] h = F_line_Line_Waits call callD a0 h := by kernel_rfl
theorem C_line_Line_Waits {ov : AOver} (H : Plain ov) (n : Nat) (a0 : AVal) (h : AH) : kc ov (n + 1) N_line_Line_Waits [a0] h = F_line_Line_Waits (kc ov n) (kd ov n) a0 h := by
  have hov : ov N_line_Line_Waits = none := H _ (by decide)
  unfold kc kd; rw [← F_line_Line_Waits_eq]; simp only [kcall, hov]

/-- rung/runghelp.Place -/
def F_runghelp_Place (call callD : ACall) (a0 a1 : AVal) (h : AH) : Ans :=
  kq (some (.int .i64 0)) <| fun v0 =>
  kq (some a0) <| fun v1 =>
  kq (some a1) <| fun v2 =>
  kq (rBin .rem .no false v1 v2) <| fun v3 =>
  kq (some v3) <| fun v4 =>
  kq (some v4) <| fun v5 =>
  kq (rBin .lss .no true v5 (.int .i64 0)) <| fun v6 =>
  kj (fun l7 h0 =>
  kq (some (gd l7 0)) <| fun v9 =>
  kq (some v9) <| fun v10 =>
  some (v10, h0)) <| fun j8 =>
  kIf v6 (
  kq (some v4) <| fun v11 =>
  kq (some a1) <| fun v12 =>
  kq (rBin .add .no false v11 v12) <| fun v13 =>
  kq (some v13) <| fun v14 =>
  j8 [v14] h) (
  j8 [v4] h)
theorem F_runghelp_Place_eq (call callD : ACall) (a0 a1 : AVal) (h : AH) : kFunc Try.prog [] call callD N_runghelp_Place [a0, a1] h = F_runghelp_Place call callD a0 a1 h := by kernel_rfl
theorem C_runghelp_Place {ov : AOver} (H : Plain ov) (n : Nat) (a0 a1 : AVal) (h : AH) : kc ov (n + 1) N_runghelp_Place [a0, a1] h = F_runghelp_Place (kc ov n) (kd ov n) a0 a1 h := by
  have hov : ov N_runghelp_Place = none := H _ (by decide)
  unfold kc kd; rw [← F_runghelp_Place_eq]; simp only [kcall, hov]

/-- rung/rungref2.Sum16 -/
def L_rungref2_Sum16_0 (call callD : ACall) (l3 : List AVal) (j4 : List AVal → AH → Ans) : (List AVal → AH → Ans) → List AVal → AH → Ans := fun j19 l18 h1 =>
  kq (some (gd l18 1)) <| fun v20 =>
  kq (rBin .lss .no true v20 (.int .i64 8)) <| fun v21 =>
  kIf v21 (
  kq (some (gd l18 0)) <| fun v22 =>
  kq (rBin .and .no true v22 (.int .u16 1)) <| fun v23 =>
  kq (rBin .eql .no true v23 (.int .u16 1)) <| fun v24 =>
  kj (fun l25 h2 =>
  kq (some (gd l18 1)) <| fun v27 =>
  kq (rBin .add .no true v27 (.int .i64 1)) <| fun v28 =>
  kq (some v28) <| fun v29 =>
  j19 [(gd l25 0), v29] h2) <| fun j26 =>
  kIf v24 (
  kq (some (gd l18 0)) <| fun v30 =>
  kq (rBin .shr .no true v30 (.int .u64 1)) <| fun v31 =>
  kq (rBin .xor .no true v31 (.int .u16 40961)) <| fun v32 =>
  kq (some v32) <| fun v33 =>
  j26 [v33] h1) (
  kq (some (gd l18 0)) <| fun v34 =>
  kq (rBin .shr .no true v34 (.int .u64 1)) <| fun v35 =>
  kq (some v35) <| fun v36 =>
  j26 [v36] h1)) (
  kq (some (gd l3 1)) <| fun v37 =>
  kq (rBin .add .no true v37 (.int .i64 1)) <| fun v38 =>
  kq (some v38) <| fun v39 =>
  j4 [(gd l18 0), v39] h1)
def L_rungref2_Sum16_1 (call callD : ACall) (a0 : AVal) : (List AVal → AH → Ans) → List AVal → AH → Ans := fun j4 l3 h0 =>
  kq (some (gd l3 1)) <| fun v5 =>
  kq (some a0) <| fun v6 =>
  kq (rLen v6) <| fun v7 =>
  kq (rBin .lss .no false v5 v7) <| fun v8 =>
  kIf v8 (
  kq (some (gd l3 0)) <| fun v9 =>
  kq (some a0) <| fun v10 =>
  kq (some (gd l3 1)) <| fun v11 =>
  kq (rAt 1 v10 v11) <| fun v12 =>
  kq (rLoad v12 h0) <| fun v13 =>
  kq (rConvI .u16 v13) <| fun v14 =>
  kq (rBin .xor .no false v9 v14) <| fun v15 =>
  kq (some v15) <| fun v16 =>
  kq (some (.int .i64 0)) <| fun v17 =>
  kLoop (L_rungref2_Sum16_0 call callD l3 j4) rounds [v16, v17] h0) (
  kq (some (gd l3 0)) <| fun v40 =>
  kq (some v40) <| fun v41 =>
  some (v41, h0))
def F_rungref2_Sum16 (call callD : ACall) (a0 : AVal) (h : AH) : Ans :=
  kq (some (.int .u16 0)) <| fun v0 =>
  kq (some (.int .u16 65535)) <| fun v1 =>
  kq (some (.int .i64 0)) <| fun v2 =>
  kLoop (L_rungref2_Sum16_1 call callD a0) rounds [v1, v2] h
theorem F_rungref2_Sum16_eq (call callD : ACall) (a0 : AVal) (h : AH) : kFunc Try.prog [] call callD N_rungref2_Sum16 [a0] h = F_rungref2_Sum16 call callD a0 h := by kernel_rfl
theorem C_rungref2_Sum16 {ov : AOver} (H : Plain ov) (n : Nat) (a0 : AVal) (h : AH) : kc ov (n + 1) N_rungref2_Sum16 [a0] h = F_rungref2_Sum16 (kc ov n) (kd ov n) a0 h := by
  have hov : ov N_rungref2_Sum16 = none := H _ (by decide)
  unfold kc kd; rw [← F_rungref2_Sum16_eq]; simp only [kcall, hov]

/-- rung/rtu.Open -/
def F_rtu_Open (call callD : ACall) (a0 : AVal) (h : AH) : Ans :=
  kq (some (.int .u8 0)) <| fun v0 =>
  kq (some (.slice none 0 0)) <| fun v1 =>
  kq (some (.int .i64 0)) <| fun v2 =>
  kq (some a0) <| fun v3 =>
  kq (rLen v3) <| fun v4 =>
  kq (rBin .lss .no true v4 (.int .i64 4)) <| fun v5 =>
  kq (some v5) <| fun v6 =>
  kt (fun v12 =>
  kIf v12 (
  kq (some (.int .u8 0)) <| fun v13 =>
  kq (some (.slice none 0 0)) <| fun v14 =>
  kq (some (.int .i64 51)) <| fun v15 =>
  some (.tuple [v13, v14, v15], h)) (
  kq (some a0) <| fun v16 =>
  kq (some a0) <| fun v17 =>
  kq (rLen v17) <| fun v18 =>
  kq (rBin .sub .no true v18 (.int .i64 2)) <| fun v19 =>
  kq (rCut 1 v16 none (some v19) none) <| fun v20 =>
  kq (some v20) <| fun v21 =>
  kq (some v21) <| fun v22 =>
  km (mBuildSl T___uint8 1 [(.slice none 0 0)] 1 [(0, v22)]) h <| fun v23 h1 =>
  ke (call N_rtu_joined [v23] h1) <| fun v24 h2 =>
  kq (some a0) <| fun v25 =>
  ke (call N_slices_Equal___byte_byte_ [v24, v25] h2) <| fun v26 h3 =>
  kq (aUn .not v26) <| fun v27 =>
  kIf v27 (
  kq (some (.int .u8 0)) <| fun v28 =>
  kq (some (.slice none 0 0)) <| fun v29 =>
  kq (some (.int .i64 50)) <| fun v30 =>
  some (.tuple [v28, v29, v30], h3)) (
  kq (some v21) <| fun v31 =>
  kq (rAt 1 v31 (.int .i64 0)) <| fun v32 =>
  kq (rLoad v32 h3) <| fun v33 =>
  kq (some v21) <| fun v34 =>
  kq (rCut 1 v34 (some (.int .i64 1)) none none) <| fun v35 =>
  ke (call N_slices_Clone___byte_byte_ [v35] h3) <| fun v36 h4 =>
  kq (some v33) <| fun v37 =>
  kq (some v36) <| fun v38 =>
  kq (some (.int .i64 0)) <| fun v39 =>
  kChk (!true || kSame (rLoad v32 h4) v33) <|
  some (.tuple [v37, v38, v39], h4)))) <| fun j7 =>
  kgq v6 false (fun k => kq (some a0) k) <| fun v8 =>
  kgq v6 false (fun k => kq (rLen v8) k) <| fun v9 =>
  kgq v6 false (fun k => kq (rBin .gtr .no true v9 (.int .i64 256)) k) <| fun v10 =>
  kq (rPick v6 (.bool true) v10) <| fun v11 =>
  j7 v11
theorem F_rtu_Open_eq (call callD : ACall) (a0 : AVal) (h : AH) : kFunc Try.prog [] call callD N_rtu_Open [a0] h = F_rtu_Open call callD a0 h := by kernel_rfl
theorem C_rtu_Open {ov : AOver} (H : Plain ov) (n : Nat) (a0 : AVal) (h : AH) : kc ov (n + 1) N_rtu_Open [a0] h = F_rtu_Open (kc ov n) (kd ov n) a0 h := by
  have hov : ov N_rtu_Open = none := H _ (by decide)
  unfold kc kd; rw [← F_rtu_Open_eq]; simp only [kcall, hov]

/-- slices.Equal[[]byte,byte] -/
def L_slices_Equal___byte_byte__0 (call callD : ACall) (v8 : AVal) (a0 : AVal) (a1 : AVal) : (List AVal → AH → Ans) → List AVal → AH → Ans := fun j11 l10 h0 =>
  kq (rBin .lss .no false (gd l10 0) v8) <| fun v12 =>
  kIf v12 (
  kq (some (gd l10 0)) <| fun v13 =>
  kq (some v13) <| fun v14 =>
  kq (some a0) <| fun v15 =>
  kq (some v14) <| fun v16 =>
  kq (rAt 1 v15 v16) <| fun v17 =>
  kq (rLoad v17 h0) <| fun v18 =>
  kq (some a1) <| fun v19 =>
  kq (some v14) <| fun v20 =>
  kq (rAt 1 v19 v20) <| fun v21 =>
  kq (rLoad v21 h0) <| fun v22 =>
  kq (rBin .neq .no false v18 v22) <| fun v23 =>
  kIf v23 (
  kq (some (.bool false)) <| fun v24 =>
  some (v24, h0)) (
  kq (rBin .add .no true (gd l10 0) (.int .i64 1)) <| fun v25 =>
  kq (some v25) <| fun v26 =>
  j11 [v26] h0)) (
  kq (some (.bool true)) <| fun v27 =>
  some (v27, h0))
def F_slices_Equal___byte_byte_ (call callD : ACall) (a0 a1 : AVal) (h : AH) : Ans :=
  kq (some (.bool false)) <| fun v0 =>
  kq (some a0) <| fun v1 =>
  kq (rLen v1) <| fun v2 =>
  kq (some a1) <| fun v3 =>
  kq (rLen v3) <| fun v4 =>
  kq (rBin .neq .no false v2 v4) <| fun v5 =>
  kIf v5 (
  kq (some (.bool false)) <| fun v6 =>
  some (v6, h)) (
  kq (some a0) <| fun v7 =>
  kq (rLen v7) <| fun v8 =>
  kq (some (.int .i64 0)) <| fun v9 =>
  kLoop (L_slices_Equal___byte_byte__0 call callD v8 a0 a1) rounds [v9] h)
theorem F_slices_Equal___byte_byte__eq (call callD : ACall) (a0 a1 : AVal) (h : AH) : kFunc Try.prog [] call callD N_slices_Equal___byte_byte_ [a0, a1] h = F_slices_Equal___byte_byte_ call callD a0 a1 h := by kernel_rfl
theorem C_slices_Equal___byte_byte_ {ov : AOver} (H : Plain ov) (n : Nat) (a0 a1 : AVal) (h : AH) : kc ov (n + 1) N_slices_Equal___byte_byte_ [a0, a1] h = F_slices_Equal___byte_byte_ (kc ov n) (kd ov n) a0 a1 h := by
  have hov : ov N_slices_Equal___byte_byte_ = none := H _ (by decide)
  unfold kc kd; rw [← F_slices_Equal___byte_byte__eq]; simp only [kcall, hov]

/-- rung/rtu.joined -/
def F_rtu_joined (call callD : ACall) (a0 : AVal) (h : AH) : Ans :=
  kq (some (.slice none 0 0)) <| fun v0 =>
  kq (some a0) <| fun v1 =>
  ke (call N_slices_Concat___byte_byte_ [v1] h) <| fun v2 h0 =>
  kq (some v2) <| fun v3 =>
  kq (some v3) <| fun v4 =>
  ke (call N_crc_Sum16 [v4] h0) <| fun v5 h1 =>
  kq (some v5) <| fun v6 =>
  kq (some v3) <| fun v7 =>
  kq (some v6) <| fun v8 =>
  kq (rConvI .u8 v8) <| fun v9 =>
  kq (some v6) <| fun v10 =>
  kq (rBin .shr .no true v10 (.int .u64 8)) <| fun v11 =>
  kq (rConvI .u8 v11) <| fun v12 =>
  km (mBuildSl T_uint8 1 [(.int .u8 0)] 2 [(0, v9), (1, v12)]) h1 <| fun v13 h2 =>
  ke (rAppend T_uint8 1 1 v7 v13 h2) <| fun v14 h3 =>
  kq (some v14) <| fun v15 =>
  some (v15, h3)
theorem F_rtu_joined_eq (call callD : ACall) (a0 : AVal) (h : AH) : kFunc Try.prog [] call callD N_rtu_joined [a0] h = F_rtu_joined call callD a0 h := by kernel_rfl
theorem C_rtu_joined {ov : AOver} (H : Plain ov) (n : Nat) (a0 : AVal) (h : AH) : kc ov (n + 1) N_rtu_joined [a0] h = F_rtu_joined (kc ov n) (kd ov n) a0 h := by
  have hov : ov N_rtu_joined = none := H _ (by decide)
  unfold kc kd; rw [← F_rtu_joined_eq]; simp only [kcall, hov]

/-- slices.Clone[[]byte,byte] -/
def F_slices_Clone___byte_byte_ (call callD : ACall) (a0 : AVal) (h : AH) : Ans :=
  kq (some (.slice none 0 0)) <| fun v0 =>
  kq (some a0) <| fun v1 =>
  kq (rBin .eql .slice true v1 (.slice none 0 0)) <| fun v2 =>
  kIf v2 (
  kq (some (.slice none 0 0)) <| fun v3 =>
  some (v3, h)) (
  km (mBuildSl T_uint8 1 [(.int .u8 0)] 0 []) h <| fun v4 h0 =>
  kq (some a0) <| fun v5 =>
  ke (rAppend T_uint8 1 1 v4 v5 h0) <| fun v6 h1 =>
  kq (some v6) <| fun v7 =>
  some (v7, h1))
theorem F_slices_Clone___byte_byte__eq (call callD : ACall) (a0 : AVal) (h : AH) : kFunc Try.prog [] call callD N_slices_Clone___byte_byte_ [a0] h = F_slices_Clone___byte_byte_ call callD a0 h := by kernel_rfl
theorem C_slices_Clone___byte_byte_ {ov : AOver} (H : Plain ov) (n : Nat) (a0 : AVal) (h : AH) : kc ov (n + 1) N_slices_Clone___byte_byte_ [a0] h = F_slices_Clone___byte_byte_ (kc ov n) (kd ov n) a0 h := by
  have hov : ov N_slices_Clone___byte_byte_ = none := H _ (by decide)
  unfold kc kd; rw [← F_slices_Clone___byte_byte__eq]; simp only [kcall, hov]

/-- slices.Concat[[]byte,byte] -/
def L_slices_Concat___byte_byte__0 (call callD : ACall) (v28 : AVal) (v27 : AVal) : (List AVal → AH → Ans) → List AVal → AH → Ans := fun j31 l30 h4 =>
  kq (rBin .lss .no false (gd l30 1) v28) <| fun v32 =>
  kIf v32 (
  kq (rAt 1 v27 (gd l30 1)) <| fun v33 =>
  kq (rLoad v33 h4) <| fun v34 =>
  kq (some v34) <| fun v35 =>
  kq (some (gd l30 0)) <| fun v36 =>
  kq (some v35) <| fun v37 =>
  ke (rAppend T_uint8 1 1 v36 v37 h4) <| fun v38 h5 =>
  kq (some v38) <| fun v39 =>
  kq (rBin .add .no true (gd l30 1) (.int .i64 1)) <| fun v40 =>
  kq (some v40) <| fun v41 =>
  j31 [v39, v41] h5) (
  kq (some (gd l30 0)) <| fun v42 =>
  kq (some v42) <| fun v43 =>
  some (v43, h4))
def L_slices_Concat___byte_byte__1 (call callD : ACall) (v3 : AVal) (v2 : AVal) (a0 : AVal) : (List AVal → AH → Ans) → List AVal → AH → Ans := fun j6 l5 h0 =>
  kq (rBin .lss .no false (gd l5 1) v3) <| fun v7 =>
  kIf v7 (
  kq (rAt 1 v2 (gd l5 1)) <| fun v8 =>
  kq (rLoad v8 h0) <| fun v9 =>
  kq (some v9) <| fun v10 =>
  kq (some (gd l5 0)) <| fun v11 =>
  kq (some v10) <| fun v12 =>
  kq (rLen v12) <| fun v13 =>
  kq (rBin .add .no false v11 v13) <| fun v14 =>
  kq (some v14) <| fun v15 =>
  kq (some v15) <| fun v16 =>
  kq (rBin .lss .no true v16 (.int .i64 0)) <| fun v17 =>
  kj (fun l18 h1 =>
  kq (rBin .add .no true (gd l5 1) (.int .i64 1)) <| fun v20 =>
  kq (some v20) <| fun v21 =>
  j6 [v15, v21] h1) <| fun j19 =>
  kIf v17 (
  kq (some (.iface T_string (.str [108, 101, 110, 32, 111, 117, 116, 32, 111, 102, 32, 114, 97, 110, 103, 101]))) <| fun v22 =>
  ke (none) <| fun v23 h2 =>
  j19 [] h2) (
  j19 [] h0)) (
  kq (some (gd l5 0)) <| fun v24 =>
  ke (call N_slices_Grow___byte_byte_ [(.slice none 0 0), v24] h0) <| fun v25 h3 =>
  kq (some v25) <| fun v26 =>
  kq (some a0) <| fun v27 =>
  kq (rLen v27) <| fun v28 =>
  kq (some (.int .i64 0)) <| fun v29 =>
  kLoop (L_slices_Concat___byte_byte__0 call callD v28 v27) rounds [v26, v29] h3)
def F_slices_Concat___byte_byte_ (call callD : ACall) (a0 : AVal) (h : AH) : Ans :=
  kq (some (.slice none 0 0)) <| fun v0 =>
  kq (some (.int .i64 0)) <| fun v1 =>
  kq (some a0) <| fun v2 =>
  kq (rLen v2) <| fun v3 =>
  kq (some (.int .i64 0)) <| fun v4 =>
  kLoop (L_slices_Concat___byte_byte__1 call callD v3 v2 a0) rounds [v1, v4] h
theorem F_slices_Concat___byte_byte__eq (call callD : ACall) (a0 : AVal) (h : AH) : kFunc Try.prog [] call callD N_slices_Concat___byte_byte_ [a0] h = F_slices_Concat___byte_byte_ call callD a0 h := by kernel_rfl
theorem C_slices_Concat___byte_byte_ {ov : AOver} (H : Plain ov) (n : Nat) (a0 : AVal) (h : AH) : kc ov (n + 1) N_slices_Concat___byte_byte_ [a0] h = F_slices_Concat___byte_byte_ (kc ov n) (kd ov n) a0 h := by
  have hov : ov N_slices_Concat___byte_byte_ = none := H _ (by decide)
  unfold kc kd; rw [← F_slices_Concat___byte_byte__eq]; simp only [kcall, hov]

/-- rung/crc.Sum16 -/
def L_crc_Sum16_0 (call callD : ACall) (v3 : AVal) (v2 : AVal) : (List AVal → AH → Ans) → List AVal → AH → Ans := fun j6 l5 h0 =>
  kq (rBin .lss .no false (gd l5 1) v3) <| fun v7 =>
  kIf v7 (
  kq (rAt 1 v2 (gd l5 1)) <| fun v8 =>
  kq (rLoad v8 h0) <| fun v9 =>
  kq (some v9) <| fun v10 =>
  kq (some (gd l5 0)) <| fun v11 =>
  kq (some v10) <| fun v12 =>
  kq (rConvI .u16 v12) <| fun v13 =>
  kq (rBin .xor .no false v11 v13) <| fun v14 =>
  ke (call N_crc_step16 [v14] h0) <| fun v15 h1 =>
  kq (some v15) <| fun v16 =>
  kq (rBin .add .no true (gd l5 1) (.int .i64 1)) <| fun v17 =>
  kq (some v17) <| fun v18 =>
  j6 [v16, v18] h1) (
  kq (some (gd l5 0)) <| fun v19 =>
  kq (some v19) <| fun v20 =>
  some (v20, h0))
def F_crc_Sum16 (call callD : ACall) (a0 : AVal) (h : AH) : Ans :=
  kq (some (.int .u16 0)) <| fun v0 =>
  kq (some (.int .u16 65535)) <| fun v1 =>
  kq (some a0) <| fun v2 =>
  kq (rLen v2) <| fun v3 =>
  kq (some (.int .i64 0)) <| fun v4 =>
  kLoop (L_crc_Sum16_0 call callD v3 v2) rounds [v1, v4] h
theorem F_crc_Sum16_eq (call callD : ACall) (a0 : AVal) (h : AH) : kFunc Try.prog [] call callD N_crc_Sum16 [a0] h = F_crc_Sum16 call callD a0 h := by kernel_rfl
theorem C_crc_Sum16 {ov : AOver} (H : Plain ov) (n : Nat) (a0 : AVal) (h : AH) : kc ov (n + 1) N_crc_Sum16 [a0] h = F_crc_Sum16 (kc ov n) (kd ov n) a0 h := by
  have hov : ov N_crc_Sum16 = none := H _ (by decide)
  unfold kc kd; rw [← F_crc_Sum16_eq]; simp only [kcall, hov]

/-- slices.Grow[[]byte,byte] -/
def F_slices_Grow___byte_byte_ (call callD : ACall) (a0 a1 : AVal) (h : AH) : Ans :=
  kq (some (.slice none 0 0)) <| fun v0 =>
  kq (some a1) <| fun v1 =>
  kq (rBin .lss .no true v1 (.int .i64 0)) <| fun v2 =>
  kj (fun l3 h0 =>
  kq (some a1) <| fun v5 =>
  kq (some a0) <| fun v6 =>
  kq (rCap v6 h0) <| fun v7 =>
  kq (some a0) <| fun v8 =>
  kq (rLen v8) <| fun v9 =>
  kq (rBin .sub .no false v7 v9) <| fun v10 =>
  kq (rBin .sub .no false v5 v10) <| fun v11 =>
  kq (some v11) <| fun v12 =>
  kq (some v12) <| fun v13 =>
  kq (rBin .gtr .no true v13 (.int .i64 0)) <| fun v14 =>
  kj (fun l15 h1 =>
  kq (some (gd l15 0)) <| fun v17 =>
  kq (some v17) <| fun v18 =>
  some (v18, h1)) <| fun j16 =>
  kIf v14 (
  kq (some a0) <| fun v19 =>
  kq (some a0) <| fun v20 =>
  kq (rCap v20 h0) <| fun v21 =>
  kq (rCut 1 v19 none (some v21) none) <| fun v22 =>
  kq (some v12) <| fun v23 =>
  ke (rAppendN T_uint8 1 1 [(.int .u8 0)] v22 v23 h0) <| fun v24 h2 =>
  kq (some a0) <| fun v25 =>
  kq (rLen v25) <| fun v26 =>
  kq (rCut 1 v24 none (some v26) none) <| fun v27 =>
  kq (some v27) <| fun v28 =>
  j16 [v28] h2) (
  j16 [a0] h0)) <| fun j4 =>
  kIf v2 (
  kq (some (.iface T_string (.str [99, 97, 110, 110, 111, 116, 32, 98, 101, 32, 110, 101, 103, 97, 116, 105, 118, 101]))) <| fun v29 =>
  ke (none) <| fun v30 h3 =>
  j4 [] h3) (
  j4 [] h)
theorem F_slices_Grow___byte_byte__eq (call callD : ACall) (a0 a1 : AVal) (h : AH) : kFunc Try.prog [] call callD N_slices_Grow___byte_byte_ [a0, a1] h = F_slices_Grow___byte_byte_ call callD a0 a1 h := by kernel_rfl
theorem C_slices_Grow___byte_byte_ {ov : AOver} (H : Plain ov) (n : Nat) (a0 a1 : AVal) (h : AH) : kc ov (n + 1) N_slices_Grow___byte_byte_ [a0, a1] h = F_slices_Grow___byte_byte_ (kc ov n) (kd ov n) a0 a1 h := by
  have hov : ov N_slices_Grow___byte_byte_ = none := H _ (by decide)
  unfold kc kd; rw [← F_slices_Grow___byte_byte__eq]; simp only [kcall, hov]

/-- rung/crc.step16 -/
def L_crc_step16_0 (call callD : ACall) : (List AVal → AH → Ans) → List AVal → AH → Ans := fun j3 l2 h0 =>
  kq (rBin .lss .no true (gd l2 1) (.int .i64 8)) <| fun v4 =>
  kIf v4 (
  kq (some (gd l2 0)) <| fun v5 =>
  kq (rBin .shr .no true v5 (.int .u64 1)) <| fun v6 =>
  kq (some (gd l2 0)) <| fun v7 =>
  kq (rBin .and .no true v7 (.int .u16 1)) <| fun v8 =>
  kq (rBin .mul .no true (.int .u16 40961) v8) <| fun v9 =>
  kq (rBin .xor .no false v6 v9) <| fun v10 =>
  kq (some v10) <| fun v11 =>
  kq (rBin .add .no true (gd l2 1) (.int .i64 1)) <| fun v12 =>
  kq (some v12) <| fun v13 =>
  j3 [v11, v13] h0) (
  kq (some (gd l2 0)) <| fun v14 =>
  kq (some v14) <| fun v15 =>
  some (v15, h0))
def F_crc_step16 (call callD : ACall) (a0 : AVal) (h : AH) : Ans :=
  kq (some (.int .u16 0)) <| fun v0 =>
  kq (some (.int .i64 0)) <| fun v1 =>
  kLoop (L_crc_step16_0 call callD) rounds [a0, v1] h
theorem F_crc_step16_eq (call callD : ACall) (a0 : AVal) (h : AH) : kFunc Try.prog [] call callD N_crc_step16 [a0] h = F_crc_step16 call callD a0 h := by kernel_rfl
theorem C_crc_step16 {ov : AOver} (H : Plain ov) (n : Nat) (a0 : AVal) (h : AH) : kc ov (n + 1) N_crc_step16 [a0] h = F_crc_step16 (kc ov n) (kd ov n) a0 h := by
  have hov : ov N_crc_step16 = none := H _ (by decide)
  unfold kc kd; rw [← F_crc_step16_eq]; simp only [kcall, hov]


end Go.Proofs.Ytpbkgmcpelhlpaa.AI
