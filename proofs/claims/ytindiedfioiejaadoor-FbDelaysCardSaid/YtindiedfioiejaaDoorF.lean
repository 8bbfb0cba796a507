/- PRINTED by Pr2: the functions of the program as the machine sees them. -/
import Derived.Test.YtindiedfioiejaaDoorAiLib5
import Derived.Test.YtindiedfioiejaaDoorProg
import Derived.KernelRfl
namespace Go.Proofs.YtindiedfioiejaaDoor.AI
open Go
set_option linter.unusedVariables false
set_option maxRecDepth 100000
abbrev T_int64 : Nat := 2
abbrev T_int : Nat := 3
abbrev T_string : Nat := 9
abbrev T___int64 : Nat := 22
abbrev T__3_int64 : Nat := 23
abbrev T__fb_state : Nat := 60
abbrev T_fb_state : Nat := 63
abbrev T_fb_edge : Nat := 74
abbrev T_fb_latch : Nat := 76
abbrev T_fb_count : Nat := 78
abbrev T_fb_ton : Nat := 80
abbrev T_fb_tof : Nat := 81
abbrev T_fb_tp : Nat := 82
abbrev T_num_kind : Nat := 87
abbrev T_strings_span : Nat := 103
abbrev T_unicode_Range32 : Nat := 114
abbrev N_runglaw17_FbSteps : Nat := 3
abbrev N_runglaw17_FbTimers : Nat := 4
abbrev N_runglaw17_FbDelays : Nat := 5
abbrev N_runglaw17_FbCounts : Nat := 6
abbrev N_runglaw17_FbLatches : Nat := 7
abbrev N_runglaw17_FbApart : Nat := 8
abbrev N_runglaw17_FbBoth : Nat := 9
abbrev N_runglaw17_FbEver : Nat := 10
abbrev N_runglaw17_known : Nat := 11
abbrev N_fb_Step : Nat := 12
abbrev N_rungref17_Step : Nat := 13
abbrev N_runghelp_Nums : Nat := 14
abbrev N_runglaw17_names : Nat := 15
abbrev N_runghelp_Place : Nat := 16
abbrev N_rungref1_Wrap : Nat := 17
abbrev N_runglaw17_lives : Nat := 18
abbrev N_fb_of : Nat := 19
abbrev N_types_Pins : Nat := 20
abbrev N_num_Wrap : Nat := 21
abbrev N_fb_Step_1 : Nat := 22
abbrev N_types_Pin : Nat := 23
abbrev N_rungref15_Pins : Nat := 24
abbrev N_rungref17_pad : Nat := 25
abbrev N_rungref17_truth : Nat := 26
abbrev N_rungref17_timer : Nat := 27
abbrev N_rungref1_Width : Nat := 28
abbrev N_rungref1_Range : Nat := 29
abbrev N_types_pins : Nat := 30
abbrev N_types_every : Nat := 31
abbrev N_num_of : Nat := 32
abbrev N_num_truth : Nat := 33
abbrev N_strings_Fields : Nat := 34
abbrev N_num_Kind : Nat := 35
abbrev N_rungref17_since : Nat := 36
abbrev N_rungref1_Scalar : Nat := 37
abbrev N_rungref1_Signed : Nat := 38
abbrev N_strings_FieldsFunc : Nat := 39
abbrev N_unicode_IsSpace : Nat := 40
abbrev N_num_Name : Nat := 41
abbrev N_unicode_isExcludingLatin : Nat := 42
abbrev N_unicode_is16 : Nat := 43
abbrev N_unicode_is32 : Nat := 44
abbrev N_fb_state_elapsed : Nat := 60
abbrev N__fb_edge_step : Nat := 61
abbrev N_fb_state_is : Nat := 62
abbrev N_fb_state_set : Nat := 63
abbrev N_fb_truth : Nat := 64
abbrev N__fb_latch_step : Nat := 65
abbrev N__fb_count_step : Nat := 66
abbrev N_fb_state_rises : Nat := 67
abbrev N_num_Range : Nat := 68
abbrev N__fb_ton_step : Nat := 69
abbrev N_fb_state_pt : Nat := 70
abbrev N_fb_state_since : Nat := 71
abbrev N__fb_tof_step : Nat := 72
abbrev N__fb_tp_step : Nat := 73
/-- Functions that another thing stands in for. -/
def OVS : List Nat := [11, 75, 76, 77, 78, 79, 80, 81]
def Plain (ov : AOver) : Prop := ∀ f, f ∉ OVS → ov f = none
noncomputable def kc (ov : AOver) (n : Nat) : ACall := kcall Tryd.prog [0] ov n
noncomputable def kd (ov : AOver) (n : Nat) : ACall := kFuncD Tryd.prog [0] (kcall Tryd.prog [0] ov n)
/-- rung/runglaw17.FbSteps -/
noncomputable def L_runglaw17_FbSteps_0 (call callD : ACall) (a2 : AVal) (v0 : AVal) (a4 : AVal) (a5 : AVal) (a1 : AVal) : (List AVal → AH → Ans) → List AVal → AH → Ans := fun j23 l22 h3 =>
  kq (some (gd l22 1)) <| fun v24 =>
  kq (rBin .lss .no true v24 (.int .i64 2)) <| fun v25 =>
  kIf v25 (
  kq (some a2) <| fun v26 =>
  ke (rAppend T_int64 1 8 (.slice none 0 0) v26 h3) <| fun v27 h4 =>
  kq (some v27) <| fun v28 =>
  kq (some (gd l22 0)) <| fun v29 =>
  kq (some v28) <| fun v30 =>
  kq (rLoadA 3 v0 h4) <| fun v31 =>
  kq (some a4) <| fun v32 =>
  kq (some a5) <| fun v33 =>
  ke (call N_fb_Step [v29, v30, v31, v32, v33] h4) <| fun v34 h5 =>
  kq (some v34) <| fun v35 =>
  kq (aExtract v35 0) <| fun v36 =>
  kq (aExtract v35 1) <| fun v37 =>
  km (pBox T__3_int64 (.agg [(.int .i64 0), (.int .i64 0), (.int .i64 0)])) h5 <| fun v38 h6 =>
  kq (some v36) <| fun v39 =>
  ke ((rStore 3 v38 v37 h6).map fun h' => (.tuple [], h')) <| fun v40 h7 =>
  kq (some (gd l22 0)) <| fun v41 =>
  kq (some a2) <| fun v42 =>
  kq (rLoadA 3 v0 h7) <| fun v43 =>
  kq (some a4) <| fun v44 =>
  kq (some a5) <| fun v45 =>
  ke (call N_rungref17_Step [v41, v42, v43, v44, v45] h7) <| fun v46 h8 =>
  kq (some v46) <| fun v47 =>
  kq (aExtract v47 0) <| fun v48 =>
  kq (aExtract v47 1) <| fun v49 =>
  km (pBox T__3_int64 (.agg [(.int .i64 0), (.int .i64 0), (.int .i64 0)])) h8 <| fun v50 h9 =>
  kq (some v48) <| fun v51 =>
  ke ((rStore 3 v50 v49 h9).map fun h' => (.tuple [], h')) <| fun v52 h10 =>
  kq (some v39) <| fun v53 =>
  kq (some v51) <| fun v54 =>
  ke (call N_runghelp_Nums [v53, v54] h10) <| fun v55 h11 =>
  kq (aUn .not v55) <| fun v56 =>
  kq (some v56) <| fun v57 =>
  kth (fun v70 h14 =>
  kIf v70 (
  kq (some (.bool false)) <| fun v71 =>
  some (v71, h14)) (
  ke (call N_runglaw17_names [] h14) <| fun v72 h15 =>
  kq (some a1) <| fun v73 =>
  ke (call N_runghelp_Place [v73, (.int .i64 10)] h15) <| fun v74 h16 =>
  kq (rAt 1 v72 v74) <| fun v75 =>
  kq (rLoad v75 h16) <| fun v76 =>
  kq (some v76) <| fun v77 =>
  kq (some (gd l22 1)) <| fun v78 =>
  kq (rBin .add .no true v78 (.int .i64 1)) <| fun v79 =>
  kq (some v79) <| fun v80 =>
  j23 [v77, v80] h16)) <| fun j58 =>
  kgq v57 false (fun k => kq (rLoadA 3 v38 h11) k) <| fun v59 =>
  kgq v57 false (fun k => kq (rLoadA 3 v50 h11) k) <| fun v60 =>
  kgq v57 false (fun k => kq (rBin .neq (.ints 3) false v59 v60) k) <| fun v61 =>
  kq (rPick v57 (.bool true) v61) <| fun v62 =>
  kq (some v62) <| fun v63 =>
  kgq v63 false (fun k => kq (some v28) k) <| fun v64 =>
  kgq v63 false (fun k => kq (some a2) k) <| fun v65 =>
  kgh v63 false h11 (fun k => ke (call N_runghelp_Nums [v64, v65] h11) <| fun v66 h12 =>
  k v66 h12) <| fun v67 h13 =>
  kgq v63 false (fun k => kq (aUn .not v67) k) <| fun v68 =>
  kq (rPick v63 (.bool true) v68) <| fun v69 =>
  j58 v69 h13) (
  kq (some (.bool true)) <| fun v81 =>
  some (v81, h3))
noncomputable def F_runglaw17_FbSteps (call callD : ACall) (a0 a1 a2 a3 a4 a5 : AVal) (h : AH) : Ans :=
  km (pBox T__3_int64 a3) h <| fun v0 h0 =>
  kq (some (.bool false)) <| fun v1 =>
  ke (call N_runglaw17_known [] h0) <| fun v2 h1 =>
  kq (aUn .not v2) <| fun v3 =>
  kIf v3 (
  kq (some (.bool false)) <| fun v4 =>
  some (v4, h1)) (
  kq (some a0) <| fun v5 =>
  kq (rLenS v5) <| fun v6 =>
  kq (rBin .gtr .no true v6 (.int .i64 100)) <| fun v7 =>
  kq (some v7) <| fun v8 =>
  kt (fun v19 =>
  kIf v19 (
  kq (some (.bool true)) <| fun v20 =>
  some (v20, h1)) (
  kq (some (.int .i64 0)) <| fun v21 =>
  kLoop (L_runglaw17_FbSteps_0 call callD a2 v0 a4 a5 a1) rounds [a0, v21] h1)) <| fun j9 =>
  kgq v8 false (fun k => kq (some a2) k) <| fun v10 =>
  kgq v8 false (fun k => kq (rLen v10) k) <| fun v11 =>
  kgq v8 false (fun k => kq (rBin .gtr .no true v11 (.int .i64 20)) k) <| fun v12 =>
  kq (rPick v8 (.bool true) v12) <| fun v13 =>
  kq (some v13) <| fun v14 =>
  kgq v14 false (fun k => kq (some a4) k) <| fun v15 =>
  kgq v14 false (fun k => kq (rLen v15) k) <| fun v16 =>
  kgq v14 false (fun k => kq (rBin .gtr .no true v16 (.int .i64 20)) k) <| fun v17 =>
  kq (rPick v14 (.bool true) v17) <| fun v18 =>
  j9 v18)
theorem F_runglaw17_FbSteps_eq (call callD : ACall) (a0 a1 a2 a3 a4 a5 : AVal) (h : AH) : kFunc Tryd.prog [0] call callD N_runglaw17_FbSteps [a0, a1, a2, a3, a4, a5] h = F_runglaw17_FbSteps call callD a0 a1 a2 a3 a4 a5 h := by kernel_rfl
theorem C_runglaw17_FbSteps {ov : AOver} (H : Plain ov) (n : Nat) (a0 a1 a2 a3 a4 a5 : AVal) (h : AH) : kc ov (n + 1) N_runglaw17_FbSteps [a0, a1, a2, a3, a4, a5] h = F_runglaw17_FbSteps (kc ov n) (kd ov n) a0 a1 a2 a3 a4 a5 h := by
  have hov : ov N_runglaw17_FbSteps = none := H _ (by decide)
  unfold kc kd; rw [← F_runglaw17_FbSteps_eq]; simp only [kcall, hov]

/-- rung/runglaw17.FbTimers -/
noncomputable def L_runglaw17_FbTimers_0 (call callD : ACall) (v101 : AVal) (v110 : AVal) : (List AVal → AH → Ans) → List AVal → AH → Ans := fun j130 l129 h22 =>
  kq (some (gd l129 0)) <| fun v131 =>
  kq (some v101) <| fun v132 =>
  kq (rLen v132) <| fun v133 =>
  kq (rBin .lss .no false v131 v133) <| fun v134 =>
  kIf v134 (
  kq (some v101) <| fun v135 =>
  kq (some (gd l129 0)) <| fun v136 =>
  kq (rAt 1 v135 v136) <| fun v137 =>
  kq (rLoad v137 h22) <| fun v138 =>
  kq (some v110) <| fun v139 =>
  kq (some (gd l129 0)) <| fun v140 =>
  kq (rAt 1 v139 v140) <| fun v141 =>
  kq (rLoad v141 h22) <| fun v142 =>
  ke (call N_runghelp_Nums [v138, v142] h22) <| fun v143 h23 =>
  kq (aUn .not v143) <| fun v144 =>
  kChk (!false || kSame (rLoad v141 h23) v142) <|
  kChk (!false || kSame (rLoad v137 h23) v138) <|
  kIf v144 (
  kq (some (.bool false)) <| fun v145 =>
  some (v145, h23)) (
  kq (some (gd l129 0)) <| fun v146 =>
  kq (rBin .add .no true v146 (.int .i64 1)) <| fun v147 =>
  kq (some v147) <| fun v148 =>
  j130 [v148] h23)) (
  kq (some (.bool true)) <| fun v149 =>
  some (v149, h22))
noncomputable def L_runglaw17_FbTimers_1 (call callD : ACall) (a1 : AVal) (a2 : AVal) (v23 : AVal) (v20 : AVal) : (List AVal → AH → Ans) → List AVal → AH → Ans := fun j35 l34 h7 =>
  kq (some (gd l34 5)) <| fun v36 =>
  kq (some a1) <| fun v37 =>
  kq (rLen v37) <| fun v38 =>
  kq (rBin .lss .no false v36 v38) <| fun v39 =>
  kq (some v39) <| fun v40 =>
  kt (fun v47 =>
  kIf v47 (
  kq (some (.int .i64 0)) <| fun v48 =>
  kq (some a1) <| fun v49 =>
  kq (some (gd l34 5)) <| fun v50 =>
  kq (rAt 1 v49 v50) <| fun v51 =>
  kq (rLoad v51 h7) <| fun v52 =>
  kj (fun l53 h9 =>
  kq (some (gd l34 3)) <| fun v55 =>
  kq (some a2) <| fun v56 =>
  kq (some (gd l34 5)) <| fun v57 =>
  kq (rAt 1 v56 v57) <| fun v58 =>
  kq (rLoad v58 h9) <| fun v59 =>
  kq (rConvI .i64 v59) <| fun v60 =>
  kq (rBin .add .no false v55 v60) <| fun v61 =>
  kq (some (gd l34 4)) <| fun v62 =>
  kq (some a2) <| fun v63 =>
  kq (some (gd l34 5)) <| fun v64 =>
  kq (rAt 1 v63 v64) <| fun v65 =>
  kq (rLoad v65 h9) <| fun v66 =>
  kq (rConvI .i64 v66) <| fun v67 =>
  kq (rBin .add .no false v62 v67) <| fun v68 =>
  ke (call N_rungref1_Wrap [(.int .i64 4), v61] h9) <| fun v69 h10 =>
  kChk (!true || kSame (rLoad v65 h10) v66) <|
  kChk (!false || kSame (rLoad v58 h10) v59) <|
  ke (call N_rungref1_Wrap [(.int .i64 4), v68] h10) <| fun v70 h11 =>
  kq (some v69) <| fun v71 =>
  kq (some v70) <| fun v72 =>
  kChk (!false || kSame (rLoad v65 h11) v66) <|
  kChk (!false || kSame (rLoad v58 h11) v59) <|
  kq (some (gd l34 0)) <| fun v73 =>
  kq (some (gd l53 0)) <| fun v74 =>
  kq (some v23) <| fun v75 =>
  km (mBuildSl T_int64 1 [(.int .i64 0)] 2 [(0, v74), (1, v75)]) h11 <| fun v76 h12 =>
  km (mBuildSl T___int64 1 [(.slice none 0 0)] 1 [(0, v76)]) h12 <| fun v77 h13 =>
  ke (rAppend T___int64 1 24 v73 v77 h13) <| fun v78 h14 =>
  kq (some v78) <| fun v79 =>
  kq (some (gd l34 1)) <| fun v80 =>
  kq (some v71) <| fun v81 =>
  km (mBuildSl T_int64 1 [(.int .i64 0)] 1 [(0, v81)]) h14 <| fun v82 h15 =>
  ke (rAppend T_int64 1 8 v80 v82 h15) <| fun v83 h16 =>
  kq (some (gd l34 2)) <| fun v84 =>
  kq (some v72) <| fun v85 =>
  km (mBuildSl T_int64 1 [(.int .i64 0)] 1 [(0, v85)]) h16 <| fun v86 h17 =>
  ke (rAppend T_int64 1 8 v84 v86 h17) <| fun v87 h18 =>
  kq (some v83) <| fun v88 =>
  kq (some v87) <| fun v89 =>
  kq (some (gd l34 5)) <| fun v90 =>
  kq (rBin .add .no true v90 (.int .i64 1)) <| fun v91 =>
  kq (some v91) <| fun v92 =>
  j35 [v79, v88, v89, v71, v72, v92] h18) <| fun j54 =>
  kIf v52 (
  kq (some (.int .i64 1)) <| fun v93 =>
  j54 [v93] h7) (
  j54 [v48] h7)) (
  kq (some v20) <| fun v94 =>
  kq (some (gd l34 0)) <| fun v95 =>
  kq (some (gd l34 1)) <| fun v96 =>
  ke (call N_runglaw17_lives [v94, v95, v96] h7) <| fun v97 h19 =>
  kq (some v97) <| fun v98 =>
  kq (aExtract v98 0) <| fun v99 =>
  kq (aExtract v98 1) <| fun v100 =>
  kq (some v99) <| fun v101 =>
  kq (some v100) <| fun v102 =>
  kq (some v20) <| fun v103 =>
  kq (some (gd l34 0)) <| fun v104 =>
  kq (some (gd l34 2)) <| fun v105 =>
  ke (call N_runglaw17_lives [v103, v104, v105] h19) <| fun v106 h20 =>
  kq (some v106) <| fun v107 =>
  kq (aExtract v107 0) <| fun v108 =>
  kq (aExtract v107 1) <| fun v109 =>
  kq (some v108) <| fun v110 =>
  kq (some v109) <| fun v111 =>
  kq (some v102) <| fun v112 =>
  kq (aUn .not v112) <| fun v113 =>
  kq (some v113) <| fun v114 =>
  kt (fun v126 =>
  kIf v126 (
  kq (some (.bool false)) <| fun v127 =>
  some (v127, h20)) (
  kq (some (.int .i64 0)) <| fun v128 =>
  kLoop (L_runglaw17_FbTimers_0 call callD v101 v110) rounds [v128] h20)) <| fun j115 =>
  kgq v114 false (fun k => kq (some v111) k) <| fun v116 =>
  kgq v114 false (fun k => kq (aUn .not v116) k) <| fun v117 =>
  kq (rPick v114 (.bool true) v117) <| fun v118 =>
  kq (some v118) <| fun v119 =>
  kgq v119 false (fun k => kq (some v101) k) <| fun v120 =>
  kgq v119 false (fun k => kq (rLen v120) k) <| fun v121 =>
  kgq v119 false (fun k => kq (some v110) k) <| fun v122 =>
  kgq v119 false (fun k => kq (rLen v122) k) <| fun v123 =>
  kgq v119 false (fun k => kq (rBin .neq .no false v121 v123) k) <| fun v124 =>
  kq (rPick v119 (.bool true) v124) <| fun v125 =>
  j115 v125)) <| fun j41 =>
  kgq v40 true (fun k => kq (some (gd l34 5)) k) <| fun v42 =>
  kgq v40 true (fun k => kq (some a2) k) <| fun v43 =>
  kgq v40 true (fun k => kq (rLen v43) k) <| fun v44 =>
  kgq v40 true (fun k => kq (rBin .lss .no false v42 v44) k) <| fun v45 =>
  kq (rPick v40 v45 (.bool false)) <| fun v46 =>
  j41 v46
noncomputable def F_runglaw17_FbTimers (call callD : ACall) (a0 a1 a2 a3 a4 a5 : AVal) (h : AH) : Ans :=
  kq (some (.bool false)) <| fun v0 =>
  ke (call N_runglaw17_known [] h) <| fun v1 h0 =>
  kq (aUn .not v1) <| fun v2 =>
  kIf v2 (
  kq (some (.bool false)) <| fun v3 =>
  some (v3, h0)) (
  kq (some a1) <| fun v4 =>
  kq (rLen v4) <| fun v5 =>
  kq (rBin .gtr .no true v5 (.int .i64 60)) <| fun v6 =>
  kq (some v6) <| fun v7 =>
  kt (fun v13 =>
  kIf v13 (
  kq (some (.bool true)) <| fun v14 =>
  some (v14, h0)) (
  ke (call N_runglaw17_names [] h0) <| fun v15 h2 =>
  kq (some a0) <| fun v16 =>
  ke (call N_runghelp_Place [v16, (.int .i64 3)] h2) <| fun v17 h3 =>
  kq (rAt 1 v15 v17) <| fun v18 =>
  kq (rLoad v18 h3) <| fun v19 =>
  kq (some v19) <| fun v20 =>
  kq (some a3) <| fun v21 =>
  ke (call N_rungref1_Wrap [(.int .i64 11), v21] h3) <| fun v22 h4 =>
  kq (some v22) <| fun v23 =>
  kq (some (.slice none 0 0)) <| fun v24 =>
  kq (some (.slice none 0 0)) <| fun v25 =>
  kq (some (.slice none 0 0)) <| fun v26 =>
  kq (some a4) <| fun v27 =>
  ke (call N_rungref1_Wrap [(.int .i64 4), v27] h4) <| fun v28 h5 =>
  kq (some a5) <| fun v29 =>
  ke (call N_rungref1_Wrap [(.int .i64 4), v29] h5) <| fun v30 h6 =>
  kq (some v28) <| fun v31 =>
  kq (some v30) <| fun v32 =>
  kq (some (.int .i64 0)) <| fun v33 =>
  kLoop (L_runglaw17_FbTimers_1 call callD a1 a2 v23 v20) rounds [v24, v25, v26, v31, v32, v33] h6)) <| fun j8 =>
  kgq v7 false (fun k => kq (some a2) k) <| fun v9 =>
  kgq v7 false (fun k => kq (rLen v9) k) <| fun v10 =>
  kgq v7 false (fun k => kq (rBin .gtr .no true v10 (.int .i64 60)) k) <| fun v11 =>
  kq (rPick v7 (.bool true) v11) <| fun v12 =>
  j8 v12)
theorem F_runglaw17_FbTimers_eq (call callD : ACall) (a0 a1 a2 a3 a4 a5 : AVal) (h : AH) : kFunc Tryd.prog [0] call callD N_runglaw17_FbTimers [a0, a1, a2, a3, a4, a5] h = F_runglaw17_FbTimers call callD a0 a1 a2 a3 a4 a5 h := by kernel_rfl
theorem C_runglaw17_FbTimers {ov : AOver} (H : Plain ov) (n : Nat) (a0 a1 a2 a3 a4 a5 : AVal) (h : AH) : kc ov (n + 1) N_runglaw17_FbTimers [a0, a1, a2, a3, a4, a5] h = F_runglaw17_FbTimers (kc ov n) (kd ov n) a0 a1 a2 a3 a4 a5 h := by
  have hov : ov N_runglaw17_FbTimers = none := H _ (by decide)
  unfold kc kd; rw [← F_runglaw17_FbTimers_eq]; simp only [kcall, hov]

/-- rung/runglaw17.FbDelays -/
noncomputable def L_runglaw17_FbDelays_0 (call callD : ACall) (l19 : List AVal) (v77 : AVal) (v70 : AVal) (v85 : AVal) (v93 : AVal) : (List AVal → AH → Ans) → List AVal → AH → Ans := fun j114 l113 h14 =>
  kq (some (gd l113 4)) <| fun v115 =>
  kq (some (gd l19 0)) <| fun v116 =>
  kq (rLen v116) <| fun v117 =>
  kq (rBin .lss .no false v115 v117) <| fun v118 =>
  kIf v118 (
  kq (some (gd l19 0)) <| fun v119 =>
  kq (some (gd l113 4)) <| fun v120 =>
  kq (rAt 1 v119 v120) <| fun v121 =>
  kq (rLoad v121 h14) <| fun v122 =>
  kq (rAt 1 v122 (.int .i64 0)) <| fun v123 =>
  kq (rLoad v123 h14) <| fun v124 =>
  kq (rBin .eql .no true v124 (.int .i64 1)) <| fun v125 =>
  kq (some v125) <| fun v126 =>
  kq (some v126) <| fun v127 =>
  kq (some v127) <| fun v128 =>
  kt (fun v133 =>
  kj (fun l134 h16 =>
  kq (some v126) <| fun v136 =>
  kq (aUn .not v136) <| fun v137 =>
  kq (some v137) <| fun v138 =>
  kt (fun v142 =>
  kj (fun l143 h18 =>
  kq (some (gd l113 2)) <| fun v145 =>
  kq (rBin .geq .no true v145 (.int .i64 0)) <| fun v146 =>
  kq (some v146) <| fun v147 =>
  kt (fun v158 =>
  kj (fun l159 h20 =>
  kq (some (gd l159 0)) <| fun v161 =>
  kq (rBin .eql .no true v161 (.int .i64 (-1))) <| fun v162 =>
  kq (some v162) <| fun v163 =>
  kt (fun v171 =>
  kj (fun l172 h22 =>
  kq (some v77) <| fun v174 =>
  kq (some (gd l113 4)) <| fun v175 =>
  kq (rAt 1 v174 v175) <| fun v176 =>
  kq (rLoad v176 h22) <| fun v177 =>
  kq (rAt 1 v177 (.int .i64 0)) <| fun v178 =>
  kq (rLoad v178 h22) <| fun v179 =>
  kq (rBin .eql .no true v179 (.int .i64 1)) <| fun v180 =>
  kq (some v126) <| fun v181 =>
  kq (some v181) <| fun v182 =>
  kgq v182 true (fun k => kq (some (gd l19 1)) k) <| fun v183 =>
  kgq v182 true (fun k => kq (some (gd l113 4)) k) <| fun v184 =>
  kgq v182 true (fun k => kq (rAt 1 v183 v184) k) <| fun v185 =>
  kgq v182 true (fun k => kq (rLoad v185 h22) k) <| fun v186 =>
  kgq v182 true (fun k => kq (some (gd l134 0)) k) <| fun v187 =>
  kgq v182 true (fun k => kq (rBin .sub .no false v186 v187) k) <| fun v188 =>
  kgq v182 true (fun k => kq (some v70) k) <| fun v189 =>
  kgq v182 true (fun k => kq (rBin .geq .no false v188 v189) k) <| fun v190 =>
  kq (rPick v182 v190 (.bool false)) <| fun v191 =>
  kq (rBin .neq .bool false v180 v191) <| fun v192 =>
  kq (some v192) <| fun v193 =>
  kgq v193 false (fun k => kq (some v85) k) <| fun v194 =>
  kgq v193 false (fun k => kq (some (gd l113 4)) k) <| fun v195 =>
  kgq v193 false (fun k => kq (rAt 1 v194 v195) k) <| fun v196 =>
  kgq v193 false (fun k => kq (rLoad v196 h22) k) <| fun v197 =>
  kgq v193 false (fun k => kq (rAt 1 v197 (.int .i64 0)) k) <| fun v198 =>
  kgq v193 false (fun k => kq (rLoad v198 h22) k) <| fun v199 =>
  kgq v193 false (fun k => kq (rBin .eql .no true v199 (.int .i64 1)) k) <| fun v200 =>
  kgq v193 false (fun k => kq (some v126) k) <| fun v201 =>
  kgq v193 false (fun k => kq (some v201) k) <| fun v202 =>
  kgq v202 false (fun k => kq (some (gd l143 0)) k) <| fun v203 =>
  kgq v202 false (fun k => kq (rBin .geq .no true v203 (.int .i64 0)) k) <| fun v204 =>
  kgq v202 false (fun k => kq (some v204) k) <| fun v205 =>
  kgq v205 true (fun k => kq (some (gd l19 1)) k) <| fun v206 =>
  kgq v205 true (fun k => kq (some (gd l113 4)) k) <| fun v207 =>
  kgq v205 true (fun k => kq (rAt 1 v206 v207) k) <| fun v208 =>
  kgq v205 true (fun k => kq (rLoad v208 h22) k) <| fun v209 =>
  kgq v205 true (fun k => kq (some (gd l143 0)) k) <| fun v210 =>
  kgq v205 true (fun k => kq (rBin .sub .no false v209 v210) k) <| fun v211 =>
  kgq v205 true (fun k => kq (some v70) k) <| fun v212 =>
  kgq v205 true (fun k => kq (rBin .lss .no false v211 v212) k) <| fun v213 =>
  kgq v202 false (fun k => kq (rPick v205 v213 (.bool false)) k) <| fun v214 =>
  kgq v193 false (fun k => kq (rPick v202 (.bool true) v214) k) <| fun v215 =>
  kgq v193 false (fun k => kq (rBin .neq .bool false v200 v215) k) <| fun v216 =>
  kq (rPick v193 (.bool true) v216) <| fun v217 =>
  kIf v217 (
  kq (some (.bool false)) <| fun v218 =>
  some (v218, h22)) (
  kq (some (gd l172 0)) <| fun v219 =>
  kq (rBin .geq .no true v219 (.int .i64 0)) <| fun v220 =>
  kq (some v220) <| fun v221 =>
  kt (fun v254 =>
  kIf v254 (
  kq (some (.bool false)) <| fun v255 =>
  some (v255, h22)) (
  kq (some (gd l172 0)) <| fun v256 =>
  kq (rBin .eql .no true v256 (.int .i64 (-2))) <| fun v257 =>
  kIf v257 (
  kq (some (.bool true)) <| fun v258 =>
  some (v258, h22)) (
  kq (some v126) <| fun v259 =>
  kq (some v259) <| fun v260 =>
  kq (some (gd l113 4)) <| fun v261 =>
  kq (rBin .add .no true v261 (.int .i64 1)) <| fun v262 =>
  kq (some v262) <| fun v263 =>
  j114 [(gd l134 0), (gd l143 0), (gd l172 0), v260, v263] h22))) <| fun j222 =>
  kgq v221 true (fun k => kq (some (gd l19 1)) k) <| fun v223 =>
  kgq v221 true (fun k => kq (some (gd l113 4)) k) <| fun v224 =>
  kgq v221 true (fun k => kq (rAt 1 v223 v224) k) <| fun v225 =>
  kgq v221 true (fun k => kq (rLoad v225 h22) k) <| fun v226 =>
  kgq v221 true (fun k => kq (some (gd l172 0)) k) <| fun v227 =>
  kgq v221 true (fun k => kq (rBin .sub .no false v226 v227) k) <| fun v228 =>
  kgq v221 true (fun k => kq (some v70) k) <| fun v229 =>
  kgq v221 true (fun k => kq (rBin .lss .no false v228 v229) k) <| fun v230 =>
  kq (rPick v221 v230 (.bool false)) <| fun v231 =>
  kq (some v231) <| fun v232 =>
  kgq v232 true (fun k => kq (some v93) k) <| fun v233 =>
  kgq v232 true (fun k => kq (some (gd l113 4)) k) <| fun v234 =>
  kgq v232 true (fun k => kq (rAt 1 v233 v234) k) <| fun v235 =>
  kgq v232 true (fun k => kq (rLoad v235 h22) k) <| fun v236 =>
  kgq v232 true (fun k => kq (rAt 1 v236 (.int .i64 0)) k) <| fun v237 =>
  kgq v232 true (fun k => kq (rLoad v237 h22) k) <| fun v238 =>
  kgq v232 true (fun k => kq (rBin .neq .no true v238 (.int .i64 1)) k) <| fun v239 =>
  kq (rPick v232 v239 (.bool false)) <| fun v240 =>
  kq (some v240) <| fun v241 =>
  kgq v241 false (fun k => kq (some (gd l172 0)) k) <| fun v242 =>
  kgq v241 false (fun k => kq (rBin .eql .no true v242 (.int .i64 (-1))) k) <| fun v243 =>
  kgq v241 false (fun k => kq (some v243) k) <| fun v244 =>
  kgq v244 true (fun k => kq (some v93) k) <| fun v245 =>
  kgq v244 true (fun k => kq (some (gd l113 4)) k) <| fun v246 =>
  kgq v244 true (fun k => kq (rAt 1 v245 v246) k) <| fun v247 =>
  kgq v244 true (fun k => kq (rLoad v247 h22) k) <| fun v248 =>
  kgq v244 true (fun k => kq (rAt 1 v248 (.int .i64 0)) k) <| fun v249 =>
  kgq v244 true (fun k => kq (rLoad v249 h22) k) <| fun v250 =>
  kgq v244 true (fun k => kq (rBin .neq .no true v250 (.int .i64 0)) k) <| fun v251 =>
  kgq v241 false (fun k => kq (rPick v244 v251 (.bool false)) k) <| fun v252 =>
  kq (rPick v241 (.bool true) v252) <| fun v253 =>
  j222 v253)) <| fun j173 =>
  kIf v171 (
  kq (some (gd l19 1)) <| fun v264 =>
  kq (some (gd l113 4)) <| fun v265 =>
  kq (rAt 1 v264 v265) <| fun v266 =>
  kq (rLoad v266 h20) <| fun v267 =>
  kq (some v267) <| fun v268 =>
  j173 [v268] h20) (
  j173 [(gd l159 0)] h20)) <| fun j164 =>
  kgq v163 true (fun k => kq (some v126) k) <| fun v165 =>
  kq (rPick v163 v165 (.bool false)) <| fun v166 =>
  kq (some v166) <| fun v167 =>
  kgq v167 true (fun k => kq (some (gd l113 3)) k) <| fun v168 =>
  kgq v167 true (fun k => kq (aUn .not v168) k) <| fun v169 =>
  kq (rPick v167 v169 (.bool false)) <| fun v170 =>
  j164 v170) <| fun j160 =>
  kIf v158 (
  kq (some (.int .i64 (-1))) <| fun v269 =>
  kq (some v126) <| fun v270 =>
  kq (some v270) <| fun v271 =>
  kt (fun v276 =>
  kj (fun l277 h25 =>
  j160 [(gd l277 0)] h25) <| fun j278 =>
  kIf v276 (
  kq (some (.int .i64 (-2))) <| fun v279 =>
  j278 [v279] h18) (
  j278 [v269] h18)) <| fun j272 =>
  kgq v271 true (fun k => kq (some (gd l113 3)) k) <| fun v273 =>
  kgq v271 true (fun k => kq (aUn .not v273) k) <| fun v274 =>
  kq (rPick v271 v274 (.bool false)) <| fun v275 =>
  j272 v275) (
  j160 [(gd l113 2)] h18)) <| fun j148 =>
  kgq v147 true (fun k => kq (some (gd l19 1)) k) <| fun v149 =>
  kgq v147 true (fun k => kq (some (gd l113 4)) k) <| fun v150 =>
  kgq v147 true (fun k => kq (rAt 1 v149 v150) k) <| fun v151 =>
  kgq v147 true (fun k => kq (rLoad v151 h18) k) <| fun v152 =>
  kgq v147 true (fun k => kq (some (gd l113 2)) k) <| fun v153 =>
  kgq v147 true (fun k => kq (rBin .sub .no false v152 v153) k) <| fun v154 =>
  kgq v147 true (fun k => kq (some v70) k) <| fun v155 =>
  kgq v147 true (fun k => kq (rBin .geq .no false v154 v155) k) <| fun v156 =>
  kq (rPick v147 v156 (.bool false)) <| fun v157 =>
  j148 v157) <| fun j144 =>
  kIf v142 (
  kq (some (gd l19 1)) <| fun v280 =>
  kq (some (gd l113 4)) <| fun v281 =>
  kq (rAt 1 v280 v281) <| fun v282 =>
  kq (rLoad v282 h16) <| fun v283 =>
  kq (some v283) <| fun v284 =>
  j144 [v284] h16) (
  j144 [(gd l113 1)] h16)) <| fun j139 =>
  kgq v138 true (fun k => kq (some (gd l113 3)) k) <| fun v140 =>
  kq (rPick v138 v140 (.bool false)) <| fun v141 =>
  j139 v141) <| fun j135 =>
  kIf v133 (
  kq (some (gd l19 1)) <| fun v285 =>
  kq (some (gd l113 4)) <| fun v286 =>
  kq (rAt 1 v285 v286) <| fun v287 =>
  kq (rLoad v287 h14) <| fun v288 =>
  kq (some v288) <| fun v289 =>
  j135 [v289] h14) (
  j135 [(gd l113 0)] h14)) <| fun j129 =>
  kgq v128 true (fun k => kq (some (gd l113 3)) k) <| fun v130 =>
  kgq v128 true (fun k => kq (aUn .not v130) k) <| fun v131 =>
  kq (rPick v128 v131 (.bool false)) <| fun v132 =>
  j129 v132) (
  kq (some (.bool true)) <| fun v290 =>
  some (v290, h14))
noncomputable def L_runglaw17_FbDelays_1 (call callD : ACall) (a0 : AVal) (a1 : AVal) (a2 : AVal) : (List AVal → AH → Ans) → List AVal → AH → Ans := fun j20 l19 h2 =>
  kq (some (gd l19 3)) <| fun v21 =>
  kq (some a0) <| fun v22 =>
  kq (rLen v22) <| fun v23 =>
  kq (rBin .lss .no false v21 v23) <| fun v24 =>
  kq (some v24) <| fun v25 =>
  kt (fun v32 =>
  kIf v32 (
  kq (some (gd l19 2)) <| fun v33 =>
  kq (some a1) <| fun v34 =>
  kq (some (gd l19 3)) <| fun v35 =>
  kq (rAt 1 v34 v35) <| fun v36 =>
  kq (rLoad v36 h2) <| fun v37 =>
  kq (rBin .rem .no true v37 (.int .u8 16)) <| fun v38 =>
  kq (rConvI .i64 v38) <| fun v39 =>
  kq (rBin .add .no false v33 v39) <| fun v40 =>
  kq (some v40) <| fun v41 =>
  kq (some (.int .i64 0)) <| fun v42 =>
  kq (some a0) <| fun v43 =>
  kq (some (gd l19 3)) <| fun v44 =>
  kq (rAt 1 v43 v44) <| fun v45 =>
  kq (rLoad v45 h2) <| fun v46 =>
  kj (fun l47 h4 =>
  kq (some (gd l19 0)) <| fun v49 =>
  kq (some (gd l47 0)) <| fun v50 =>
  kq (some a2) <| fun v51 =>
  kq (rBin .rem .no true v51 (.int .u8 40)) <| fun v52 =>
  kq (rConvI .i64 v52) <| fun v53 =>
  km (mBuildSl T_int64 1 [(.int .i64 0)] 2 [(0, v50), (1, v53)]) h4 <| fun v54 h5 =>
  km (mBuildSl T___int64 1 [(.slice none 0 0)] 1 [(0, v54)]) h5 <| fun v55 h6 =>
  ke (rAppend T___int64 1 24 v49 v55 h6) <| fun v56 h7 =>
  kq (some (gd l19 1)) <| fun v57 =>
  kq (some v41) <| fun v58 =>
  km (mBuildSl T_int64 1 [(.int .i64 0)] 1 [(0, v58)]) h7 <| fun v59 h8 =>
  ke (rAppend T_int64 1 8 v57 v59 h8) <| fun v60 h9 =>
  kq (some v56) <| fun v61 =>
  kq (some v60) <| fun v62 =>
  kq (some (gd l19 3)) <| fun v63 =>
  kq (rBin .add .no true v63 (.int .i64 1)) <| fun v64 =>
  kq (some v64) <| fun v65 =>
  j20 [v61, v62, v41, v65] h9) <| fun j48 =>
  kIf v46 (
  kq (some (.int .i64 1)) <| fun v66 =>
  j48 [v66] h2) (
  j48 [v42] h2)) (
  kq (some a2) <| fun v67 =>
  kq (rBin .rem .no true v67 (.int .u8 40)) <| fun v68 =>
  kq (rConvI .i64 v68) <| fun v69 =>
  kq (some v69) <| fun v70 =>
  kq (some (gd l19 0)) <| fun v71 =>
  kq (some (gd l19 1)) <| fun v72 =>
  ke (call N_runglaw17_lives [(.str [84, 79, 78]), v71, v72] h2) <| fun v73 h10 =>
  kq (some v73) <| fun v74 =>
  kq (aExtract v74 0) <| fun v75 =>
  kq (aExtract v74 1) <| fun v76 =>
  kq (some v75) <| fun v77 =>
  kq (some v76) <| fun v78 =>
  kq (some (gd l19 0)) <| fun v79 =>
  kq (some (gd l19 1)) <| fun v80 =>
  ke (call N_runglaw17_lives [(.str [84, 79, 70]), v79, v80] h10) <| fun v81 h11 =>
  kq (some v81) <| fun v82 =>
  kq (aExtract v82 0) <| fun v83 =>
  kq (aExtract v82 1) <| fun v84 =>
  kq (some v83) <| fun v85 =>
  kq (some v84) <| fun v86 =>
  kq (some (gd l19 0)) <| fun v87 =>
  kq (some (gd l19 1)) <| fun v88 =>
  ke (call N_runglaw17_lives [(.str [84, 80]), v87, v88] h11) <| fun v89 h12 =>
  kq (some v89) <| fun v90 =>
  kq (aExtract v90 0) <| fun v91 =>
  kq (aExtract v90 1) <| fun v92 =>
  kq (some v91) <| fun v93 =>
  kq (some v92) <| fun v94 =>
  kq (some v78) <| fun v95 =>
  kq (aUn .not v95) <| fun v96 =>
  kq (some v96) <| fun v97 =>
  kt (fun v106 =>
  kIf v106 (
  kq (some (.bool false)) <| fun v107 =>
  some (v107, h12)) (
  kq (some (.int .i64 (-1))) <| fun v108 =>
  kq (some (.int .i64 (-1))) <| fun v109 =>
  kq (some (.int .i64 (-1))) <| fun v110 =>
  kq (some (.bool false)) <| fun v111 =>
  kq (some (.int .i64 0)) <| fun v112 =>
  kLoop (L_runglaw17_FbDelays_0 call callD l19 v77 v70 v85 v93) rounds [v108, v109, v110, v111, v112] h12)) <| fun j98 =>
  kgq v97 false (fun k => kq (some v86) k) <| fun v99 =>
  kgq v97 false (fun k => kq (aUn .not v99) k) <| fun v100 =>
  kq (rPick v97 (.bool true) v100) <| fun v101 =>
  kq (some v101) <| fun v102 =>
  kgq v102 false (fun k => kq (some v94) k) <| fun v103 =>
  kgq v102 false (fun k => kq (aUn .not v103) k) <| fun v104 =>
  kq (rPick v102 (.bool true) v104) <| fun v105 =>
  j98 v105)) <| fun j26 =>
  kgq v25 true (fun k => kq (some (gd l19 3)) k) <| fun v27 =>
  kgq v25 true (fun k => kq (some a1) k) <| fun v28 =>
  kgq v25 true (fun k => kq (rLen v28) k) <| fun v29 =>
  kgq v25 true (fun k => kq (rBin .lss .no false v27 v29) k) <| fun v30 =>
  kq (rPick v25 v30 (.bool false)) <| fun v31 =>
  j26 v31
noncomputable def F_runglaw17_FbDelays (call callD : ACall) (a0 a1 a2 : AVal) (h : AH) : Ans :=
  kq (some (.bool false)) <| fun v0 =>
  ke (call N_runglaw17_known [] h) <| fun v1 h0 =>
  kq (aUn .not v1) <| fun v2 =>
  kIf v2 (
  kq (some (.bool false)) <| fun v3 =>
  some (v3, h0)) (
  kq (some a0) <| fun v4 =>
  kq (rLen v4) <| fun v5 =>
  kq (rBin .gtr .no true v5 (.int .i64 80)) <| fun v6 =>
  kq (some v6) <| fun v7 =>
  kt (fun v13 =>
  kIf v13 (
  kq (some (.bool true)) <| fun v14 =>
  some (v14, h0)) (
  kq (some (.slice none 0 0)) <| fun v15 =>
  kq (some (.slice none 0 0)) <| fun v16 =>
  kq (some (.int .i64 0)) <| fun v17 =>
  kq (some (.int .i64 0)) <| fun v18 =>
  kLoop (L_runglaw17_FbDelays_1 call callD a0 a1 a2) rounds [v15, v16, v17, v18] h0)) <| fun j8 =>
  kgq v7 false (fun k => kq (some a1) k) <| fun v9 =>
  kgq v7 false (fun k => kq (rLen v9) k) <| fun v10 =>
  kgq v7 false (fun k => kq (rBin .gtr .no true v10 (.int .i64 80)) k) <| fun v11 =>
  kq (rPick v7 (.bool true) v11) <| fun v12 =>
  j8 v12)
theorem F_runglaw17_FbDelays_eq (call callD : ACall) (a0 a1 a2 : AVal) (h : AH) : kFunc Tryd.prog [0] call callD N_runglaw17_FbDelays [a0, a1, a2] h = F_runglaw17_FbDelays call callD a0 a1 a2 h := by kernel_rfl
theorem C_runglaw17_FbDelays {ov : AOver} (H : Plain ov) (n : Nat) (a0 a1 a2 : AVal) (h : AH) : kc ov (n + 1) N_runglaw17_FbDelays [a0, a1, a2] h = F_runglaw17_FbDelays (kc ov n) (kd ov n) a0 a1 a2 h := by
  have hov : ov N_runglaw17_FbDelays = none := H _ (by decide)
  unfold kc kd; rw [← F_runglaw17_FbDelays_eq]; simp only [kcall, hov]

/-- rung/runglaw17.FbCounts -/
noncomputable def L_runglaw17_FbCounts_0 (call callD : ACall) (a1 : AVal) (l26 : List AVal) (v34 : AVal) (v13 : AVal) (v23 : AVal) (v16 : AVal) (j27 : List AVal → AH → Ans) : (List AVal → AH → Ans) → List AVal → AH → Ans := fun j37 l36 h9 =>
  kq (some (gd l36 0)) <| fun v38 =>
  kq (rBin .lss .no true v38 (.int .i64 2)) <| fun v39 =>
  kIf v39 (
  kq (some a1) <| fun v40 =>
  kq (some (gd l26 3)) <| fun v41 =>
  kq (some (gd l36 0)) <| fun v42 =>
  kq (rAt 3 v40 v41) <| fun v43 =>
  kq (rAtArr 3 1 v43 v42) <| fun v44 =>
  kq (rLoad v44 h9) <| fun v45 =>
  kj (fun l46 h10 =>
  kq (some (gd l36 0)) <| fun v48 =>
  kq (rBin .add .no true v48 (.int .i64 1)) <| fun v49 =>
  kq (some v49) <| fun v50 =>
  j37 [v50] h10) <| fun j47 =>
  kIf v45 (
  kq (some v34) <| fun v51 =>
  kq (some (gd l36 0)) <| fun v52 =>
  kq (rAt 1 v51 v52) <| fun v53 =>
  ke ((rStore 1 v53 (.int .i64 1) h9).map fun h' => (.tuple [], h')) <| fun v54 h11 =>
  j47 [] h11) (
  j47 [] h9)) (
  kq (some a1) <| fun v55 =>
  kq (some (gd l26 3)) <| fun v56 =>
  kq (rAt 3 v55 v56) <| fun v57 =>
  kq (rAtArr 3 1 v57 (.int .i64 1)) <| fun v58 =>
  kq (rLoad v58 h9) <| fun v59 =>
  kq (some v59) <| fun v60 =>
  kt (fun v65 =>
  kq (some v65) <| fun v66 =>
  kj (fun l67 h13 =>
  kq (some a1) <| fun v69 =>
  kq (some (gd l26 3)) <| fun v70 =>
  kq (rAt 3 v69 v70) <| fun v71 =>
  kq (rAtArr 3 1 v71 (.int .i64 0)) <| fun v72 =>
  kq (rLoad v72 h13) <| fun v73 =>
  kq (some v73) <| fun v74 =>
  kq (some v13) <| fun v75 =>
  kq (some v34) <| fun v76 =>
  kq (rLoadA 3 v23 h13) <| fun v77 =>
  kq (some (gd l26 1)) <| fun v78 =>
  kq (some (gd l26 3)) <| fun v79 =>
  ke (call N_fb_Step [v75, v76, v77, v78, v79] h13) <| fun v80 h14 =>
  kq (some v80) <| fun v81 =>
  kq (aExtract v81 0) <| fun v82 =>
  kq (aExtract v81 1) <| fun v83 =>
  kq (some v82) <| fun v84 =>
  ke ((rStore 3 v23 v83 h14).map fun h' => (.tuple [], h')) <| fun v85 h15 =>
  kq (some (gd l67 0)) <| fun v86 =>
  kq (some v16) <| fun v87 =>
  kq (rBin .geq .no false v86 v87) <| fun v88 =>
  kq (some v88) <| fun v89 =>
  kq (some v13) <| fun v90 =>
  kq (rBin .eql .no true v90 (.str [67, 84, 68])) <| fun v91 =>
  kj (fun l92 h16 =>
  kq (some v84) <| fun v94 =>
  kq (rLen v94) <| fun v95 =>
  kq (rBin .neq .no true v95 (.int .i64 2)) <| fun v96 =>
  kq (some v96) <| fun v97 =>
  kt (fun v113 =>
  kIf v113 (
  kq (some (.bool false)) <| fun v114 =>
  some (v114, h16)) (
  kq (some (gd l26 3)) <| fun v115 =>
  kq (rBin .add .no true v115 (.int .i64 1)) <| fun v116 =>
  kq (some v116) <| fun v117 =>
  j27 [(gd l67 0), v84, v74, v117] h16)) <| fun j98 =>
  kgq v97 false (fun k => kq (some v84) k) <| fun v99 =>
  kgq v97 false (fun k => kq (rAt 1 v99 (.int .i64 1)) k) <| fun v100 =>
  kgq v97 false (fun k => kq (rLoad v100 h16) k) <| fun v101 =>
  kgq v97 false (fun k => kq (some (gd l67 0)) k) <| fun v102 =>
  kgq v97 false (fun k => kq (rBin .neq .no false v101 v102) k) <| fun v103 =>
  kq (rPick v97 (.bool true) v103) <| fun v104 =>
  kq (some v104) <| fun v105 =>
  kgq v105 false (fun k => kq (some v84) k) <| fun v106 =>
  kgq v105 false (fun k => kq (rAt 1 v106 (.int .i64 0)) k) <| fun v107 =>
  kgq v105 false (fun k => kq (rLoad v107 h16) k) <| fun v108 =>
  kgq v105 false (fun k => kq (rBin .eql .no true v108 (.int .i64 1)) k) <| fun v109 =>
  kgq v105 false (fun k => kq (some (gd l92 0)) k) <| fun v110 =>
  kgq v105 false (fun k => kq (rBin .neq .bool false v109 v110) k) <| fun v111 =>
  kq (rPick v105 (.bool true) v111) <| fun v112 =>
  j98 v112) <| fun j93 =>
  kIf v91 (
  kq (some (gd l67 0)) <| fun v118 =>
  kq (rBin .leq .no true v118 (.int .i64 0)) <| fun v119 =>
  kq (some v119) <| fun v120 =>
  j93 [v120] h15) (
  j93 [v89] h15)) <| fun j68 =>
  kIf v66 (
  kq (some (.int .i64 0)) <| fun v121 =>
  j68 [v121] h9) (
  kq (some a1) <| fun v122 =>
  kq (some (gd l26 3)) <| fun v123 =>
  kq (rAt 3 v122 v123) <| fun v124 =>
  kq (rAtArr 3 1 v124 (.int .i64 1)) <| fun v125 =>
  kq (rLoad v125 h9) <| fun v126 =>
  kq (some v126) <| fun v127 =>
  kj (fun l128 h18 =>
  j68 [(gd l128 0)] h18) <| fun j129 =>
  kIf v127 (
  kq (some v16) <| fun v130 =>
  kq (some v130) <| fun v131 =>
  j129 [v131] h9) (
  kq (some a1) <| fun v132 =>
  kq (some (gd l26 3)) <| fun v133 =>
  kq (rAt 3 v132 v133) <| fun v134 =>
  kq (rAtArr 3 1 v134 (.int .i64 0)) <| fun v135 =>
  kq (rLoad v135 h9) <| fun v136 =>
  kq (some v136) <| fun v137 =>
  kt (fun v146 =>
  kq (some v146) <| fun v147 =>
  kj (fun l148 h20 =>
  j129 [(gd l148 0)] h20) <| fun j149 =>
  kIf v147 (
  kq (some (gd l26 0)) <| fun v150 =>
  kq (rBin .add .no true v150 (.int .i64 1)) <| fun v151 =>
  kq (aMM aMin2 [v151, (.int .i64 32767)]) <| fun v152 =>
  kq (some v152) <| fun v153 =>
  j149 [v153] h9) (
  kq (some a1) <| fun v154 =>
  kq (some (gd l26 3)) <| fun v155 =>
  kq (rAt 3 v154 v155) <| fun v156 =>
  kq (rAtArr 3 1 v156 (.int .i64 0)) <| fun v157 =>
  kq (rLoad v157 h9) <| fun v158 =>
  kq (some v158) <| fun v159 =>
  kt (fun v164 =>
  kq (some v164) <| fun v165 =>
  kj (fun l166 h22 =>
  j149 [(gd l166 0)] h22) <| fun j167 =>
  kIf v165 (
  kq (some (gd l26 0)) <| fun v168 =>
  kq (rBin .sub .no true v168 (.int .i64 1)) <| fun v169 =>
  kq (aMM aMax2 [v169, (.int .i64 (-32768))]) <| fun v170 =>
  kq (some v170) <| fun v171 =>
  j167 [v171] h9) (
  j167 [(gd l26 0)] h9)) <| fun j160 =>
  kgq v159 true (fun k => kq (some (gd l26 2)) k) <| fun v161 =>
  kgq v159 true (fun k => kq (aUn .not v161) k) <| fun v162 =>
  kq (rPick v159 v162 (.bool false)) <| fun v163 =>
  j160 v163)) <| fun j138 =>
  kgq v137 true (fun k => kq (some (gd l26 2)) k) <| fun v139 =>
  kgq v137 true (fun k => kq (aUn .not v139) k) <| fun v140 =>
  kq (rPick v137 v140 (.bool false)) <| fun v141 =>
  kq (some v141) <| fun v142 =>
  kgq v142 true (fun k => kq (some v13) k) <| fun v143 =>
  kgq v142 true (fun k => kq (rBin .eql .no true v143 (.str [67, 84, 85])) k) <| fun v144 =>
  kq (rPick v142 v144 (.bool false)) <| fun v145 =>
  j138 v145))) <| fun j61 =>
  kgq v60 true (fun k => kq (some v13) k) <| fun v62 =>
  kgq v60 true (fun k => kq (rBin .eql .no true v62 (.str [67, 84, 85])) k) <| fun v63 =>
  kq (rPick v60 v63 (.bool false)) <| fun v64 =>
  j61 v64)
noncomputable def L_runglaw17_FbCounts_1 (call callD : ACall) (a1 : AVal) (v16 : AVal) (v13 : AVal) (v23 : AVal) : (List AVal → AH → Ans) → List AVal → AH → Ans := fun j27 l26 h7 =>
  kq (some (gd l26 3)) <| fun v28 =>
  kq (some a1) <| fun v29 =>
  kq (rLen v29) <| fun v30 =>
  kq (rBin .lss .no false v28 v30) <| fun v31 =>
  kIf v31 (
  kq (some v16) <| fun v32 =>
  km (mBuildSl T_int64 1 [(.int .i64 0)] 3 [(0, (.int .i64 0)), (1, (.int .i64 0)), (2, v32)]) h7 <| fun v33 h8 =>
  kq (some v33) <| fun v34 =>
  kq (some (.int .i64 0)) <| fun v35 =>
  kLoop (L_runglaw17_FbCounts_0 call callD a1 l26 v34 v13 v23 v16 j27) rounds [v35] h8) (
  kq (some (.bool true)) <| fun v172 =>
  some (v172, h7))
noncomputable def F_runglaw17_FbCounts (call callD : ACall) (a0 a1 a2 a3 : AVal) (h : AH) : Ans :=
  kq (some (.bool false)) <| fun v0 =>
  ke (call N_runglaw17_known [] h) <| fun v1 h0 =>
  kq (aUn .not v1) <| fun v2 =>
  kIf v2 (
  kq (some (.bool false)) <| fun v3 =>
  some (v3, h0)) (
  kq (some a1) <| fun v4 =>
  kq (rLen v4) <| fun v5 =>
  kq (rBin .gtr .no true v5 (.int .i64 80)) <| fun v6 =>
  kIf v6 (
  kq (some (.bool true)) <| fun v7 =>
  some (v7, h0)) (
  km (mBuildSl T_string 1 [(.str [])] 2 [(0, (.str [67, 84, 85])), (1, (.str [67, 84, 68]))]) h0 <| fun v8 h1 =>
  kq (some a0) <| fun v9 =>
  ke (call N_runghelp_Place [v9, (.int .i64 2)] h1) <| fun v10 h2 =>
  kq (rAt 1 v8 v10) <| fun v11 =>
  kq (rLoad v11 h2) <| fun v12 =>
  kq (some v12) <| fun v13 =>
  kq (some a2) <| fun v14 =>
  ke (call N_rungref1_Wrap [(.int .i64 3), v14] h2) <| fun v15 h3 =>
  kq (some v15) <| fun v16 =>
  kq (some a3) <| fun v17 =>
  ke (call N_rungref1_Wrap [(.int .i64 3), v17] h3) <| fun v18 h4 =>
  kq (some v18) <| fun v19 =>
  kq (some v19) <| fun v20 =>
  km (mBuildSl T_int64 1 [(.int .i64 0)] 2 [(0, (.int .i64 0)), (1, v20)]) h4 <| fun v21 h5 =>
  kq (some v21) <| fun v22 =>
  km (pBox T__3_int64 (.agg [(.int .i64 0), (.int .i64 0), (.int .i64 0)])) h5 <| fun v23 h6 =>
  kq (some (.bool false)) <| fun v24 =>
  kq (some (.int .i64 0)) <| fun v25 =>
  kLoop (L_runglaw17_FbCounts_1 call callD a1 v16 v13 v23) rounds [v19, v22, v24, v25] h6))
theorem F_runglaw17_FbCounts_eq (call callD : ACall) (a0 a1 a2 a3 : AVal) (h : AH) : kFunc Tryd.prog [0] call callD N_runglaw17_FbCounts [a0, a1, a2, a3] h = F_runglaw17_FbCounts call callD a0 a1 a2 a3 h := by kernel_rfl
theorem C_runglaw17_FbCounts {ov : AOver} (H : Plain ov) (n : Nat) (a0 a1 a2 a3 : AVal) (h : AH) : kc ov (n + 1) N_runglaw17_FbCounts [a0, a1, a2, a3] h = F_runglaw17_FbCounts (kc ov n) (kd ov n) a0 a1 a2 a3 h := by
  have hov : ov N_runglaw17_FbCounts = none := H _ (by decide)
  unfold kc kd; rw [← F_runglaw17_FbCounts_eq]; simp only [kcall, hov]

/-- rung/runglaw17.FbLatches -/
noncomputable def L_runglaw17_FbLatches_0 (call callD : ACall) (a0 : AVal) (l20 : List AVal) (v27 : AVal) (v12 : AVal) (v13 : AVal) (v14 : AVal) (v15 : AVal) (j21 : List AVal → AH → Ans) : (List AVal → AH → Ans) → List AVal → AH → Ans := fun j30 l29 h7 =>
  kq (some (gd l29 0)) <| fun v31 =>
  kq (rBin .lss .no true v31 (.int .i64 2)) <| fun v32 =>
  kIf v32 (
  kq (some a0) <| fun v33 =>
  kq (some (gd l20 7)) <| fun v34 =>
  kq (some (gd l29 0)) <| fun v35 =>
  kq (rAt 2 v33 v34) <| fun v36 =>
  kq (rAtArr 2 1 v36 v35) <| fun v37 =>
  kq (rLoad v37 h7) <| fun v38 =>
  kj (fun l39 h8 =>
  kq (some (gd l29 0)) <| fun v41 =>
  kq (rBin .add .no true v41 (.int .i64 1)) <| fun v42 =>
  kq (some v42) <| fun v43 =>
  j30 [v43] h8) <| fun j40 =>
  kIf v38 (
  kq (some v27) <| fun v44 =>
  kq (some (gd l29 0)) <| fun v45 =>
  kq (rAt 1 v44 v45) <| fun v46 =>
  ke ((rStore 1 v46 (.int .i64 1) h7).map fun h' => (.tuple [], h')) <| fun v47 h9 =>
  j40 [] h9) (
  j40 [] h7)) (
  kq (some v27) <| fun v48 =>
  kq (rLoadA 3 v12 h7) <| fun v49 =>
  kq (some (gd l20 0)) <| fun v50 =>
  ke (call N_fb_Step [(.str [83, 82]), v48, v49, v50, (.int .i64 0)] h7) <| fun v51 h10 =>
  kq (some v51) <| fun v52 =>
  kq (aExtract v52 0) <| fun v53 =>
  kq (aExtract v52 1) <| fun v54 =>
  kq (some v53) <| fun v55 =>
  ke ((rStore 3 v12 v54 h10).map fun h' => (.tuple [], h')) <| fun v56 h11 =>
  kq (some v27) <| fun v57 =>
  kq (rLoadA 3 v13 h11) <| fun v58 =>
  kq (some (gd l20 1)) <| fun v59 =>
  ke (call N_fb_Step [(.str [82, 83]), v57, v58, v59, (.int .i64 0)] h11) <| fun v60 h12 =>
  kq (some v60) <| fun v61 =>
  kq (aExtract v61 0) <| fun v62 =>
  kq (aExtract v61 1) <| fun v63 =>
  kq (some v62) <| fun v64 =>
  ke ((rStore 3 v13 v63 h12).map fun h' => (.tuple [], h')) <| fun v65 h13 =>
  kq (some v27) <| fun v66 =>
  kq (rCut 1 v66 none (some (.int .i64 1)) none) <| fun v67 =>
  kq (rLoadA 3 v14 h13) <| fun v68 =>
  kq (some (gd l20 2)) <| fun v69 =>
  ke (call N_fb_Step [(.str [82, 95, 84, 82, 73, 71]), v67, v68, v69, (.int .i64 0)] h13) <| fun v70 h14 =>
  kq (some v70) <| fun v71 =>
  kq (aExtract v71 0) <| fun v72 =>
  kq (aExtract v71 1) <| fun v73 =>
  kq (some v72) <| fun v74 =>
  kChk (!false || kSame (rLoadA 3 v14 h14) v68) <|
  ke ((rStore 3 v14 v73 h14).map fun h' => (.tuple [], h')) <| fun v75 h15 =>
  kChk (!false || kSame (rLoadA 3 v14 h15) v68) <|
  kq (some v27) <| fun v76 =>
  kq (rCut 1 v76 none (some (.int .i64 1)) none) <| fun v77 =>
  kq (rLoadA 3 v15 h15) <| fun v78 =>
  kq (some (gd l20 3)) <| fun v79 =>
  ke (call N_fb_Step [(.str [70, 95, 84, 82, 73, 71]), v77, v78, v79, (.int .i64 0)] h15) <| fun v80 h16 =>
  kq (some v80) <| fun v81 =>
  kq (aExtract v81 0) <| fun v82 =>
  kq (aExtract v81 1) <| fun v83 =>
  kq (some v82) <| fun v84 =>
  kChk (!false || kSame (rLoadA 3 v15 h16) v78) <|
  ke ((rStore 3 v15 v83 h16).map fun h' => (.tuple [], h')) <| fun v85 h17 =>
  kChk (!false || kSame (rLoadA 3 v15 h17) v78) <|
  kq (some a0) <| fun v86 =>
  kq (some (gd l20 7)) <| fun v87 =>
  kq (rAt 2 v86 v87) <| fun v88 =>
  kq (rAtArr 2 1 v88 (.int .i64 0)) <| fun v89 =>
  kq (rLoad v89 h17) <| fun v90 =>
  kq (some a0) <| fun v91 =>
  kq (some (gd l20 7)) <| fun v92 =>
  kq (rAt 2 v91 v92) <| fun v93 =>
  kq (rAtArr 2 1 v93 (.int .i64 1)) <| fun v94 =>
  kq (rLoad v94 h17) <| fun v95 =>
  kq (some v90) <| fun v96 =>
  kq (some v95) <| fun v97 =>
  kq (some v96) <| fun v98 =>
  kq (some v98) <| fun v99 =>
  kt (fun v107 =>
  kq (some v97) <| fun v108 =>
  kq (aUn .not v108) <| fun v109 =>
  kq (some v109) <| fun v110 =>
  kt (fun v117 =>
  kq (some v107) <| fun v118 =>
  kq (some v117) <| fun v119 =>
  kq (some v55) <| fun v120 =>
  kq (rLen v120) <| fun v121 =>
  kq (rBin .neq .no true v121 (.int .i64 1)) <| fun v122 =>
  kq (some v122) <| fun v123 =>
  kt (fun v164 =>
  kIf v164 (
  kq (some (.bool false)) <| fun v165 =>
  some (v165, h17)) (
  kq (some v96) <| fun v166 =>
  kq (some v166) <| fun v167 =>
  kq (some (gd l20 7)) <| fun v168 =>
  kq (rBin .add .no true v168 (.int .i64 1)) <| fun v169 =>
  kq (some v169) <| fun v170 =>
  j21 [v55, v64, v74, v84, v118, v119, v167, v170] h17)) <| fun j124 =>
  kgq v123 false (fun k => kq (some v55) k) <| fun v125 =>
  kgq v123 false (fun k => kq (rAt 1 v125 (.int .i64 0)) k) <| fun v126 =>
  kgq v123 false (fun k => kq (rLoad v126 h17) k) <| fun v127 =>
  kgq v123 false (fun k => kq (rBin .eql .no true v127 (.int .i64 1)) k) <| fun v128 =>
  kgq v123 false (fun k => kq (some v118) k) <| fun v129 =>
  kgq v123 false (fun k => kq (rBin .neq .bool false v128 v129) k) <| fun v130 =>
  kq (rPick v123 (.bool true) v130) <| fun v131 =>
  kq (some v131) <| fun v132 =>
  kgq v132 false (fun k => kq (some v64) k) <| fun v133 =>
  kgq v132 false (fun k => kq (rAt 1 v133 (.int .i64 0)) k) <| fun v134 =>
  kgq v132 false (fun k => kq (rLoad v134 h17) k) <| fun v135 =>
  kgq v132 false (fun k => kq (rBin .eql .no true v135 (.int .i64 1)) k) <| fun v136 =>
  kgq v132 false (fun k => kq (some v119) k) <| fun v137 =>
  kgq v132 false (fun k => kq (rBin .neq .bool false v136 v137) k) <| fun v138 =>
  kq (rPick v132 (.bool true) v138) <| fun v139 =>
  kq (some v139) <| fun v140 =>
  kgq v140 false (fun k => kq (some v74) k) <| fun v141 =>
  kgq v140 false (fun k => kq (rAt 1 v141 (.int .i64 0)) k) <| fun v142 =>
  kgq v140 false (fun k => kq (rLoad v142 h17) k) <| fun v143 =>
  kgq v140 false (fun k => kq (rBin .eql .no true v143 (.int .i64 1)) k) <| fun v144 =>
  kgq v140 false (fun k => kq (some v96) k) <| fun v145 =>
  kgq v140 false (fun k => kq (some v145) k) <| fun v146 =>
  kgq v146 true (fun k => kq (some (gd l20 6)) k) <| fun v147 =>
  kgq v146 true (fun k => kq (aUn .not v147) k) <| fun v148 =>
  kgq v140 false (fun k => kq (rPick v146 v148 (.bool false)) k) <| fun v149 =>
  kgq v140 false (fun k => kq (rBin .neq .bool false v144 v149) k) <| fun v150 =>
  kq (rPick v140 (.bool true) v150) <| fun v151 =>
  kq (some v151) <| fun v152 =>
  kgq v152 false (fun k => kq (some v84) k) <| fun v153 =>
  kgq v152 false (fun k => kq (rAt 1 v153 (.int .i64 0)) k) <| fun v154 =>
  kgq v152 false (fun k => kq (rLoad v154 h17) k) <| fun v155 =>
  kgq v152 false (fun k => kq (rBin .eql .no true v155 (.int .i64 1)) k) <| fun v156 =>
  kgq v152 false (fun k => kq (some v96) k) <| fun v157 =>
  kgq v152 false (fun k => kq (aUn .not v157) k) <| fun v158 =>
  kgq v152 false (fun k => kq (some v158) k) <| fun v159 =>
  kgq v159 true (fun k => kq (some (gd l20 6)) k) <| fun v160 =>
  kgq v152 false (fun k => kq (rPick v159 v160 (.bool false)) k) <| fun v161 =>
  kgq v152 false (fun k => kq (rBin .neq .bool false v156 v161) k) <| fun v162 =>
  kq (rPick v152 (.bool true) v162) <| fun v163 =>
  j124 v163) <| fun j111 =>
  kgq v110 true (fun k => kq (some v96) k) <| fun v112 =>
  kgq v110 true (fun k => kq (some v112) k) <| fun v113 =>
  kgq v113 false (fun k => kq (some (gd l20 5)) k) <| fun v114 =>
  kgq v110 true (fun k => kq (rPick v113 (.bool true) v114) k) <| fun v115 =>
  kq (rPick v110 v115 (.bool false)) <| fun v116 =>
  j111 v116) <| fun j100 =>
  kgq v99 false (fun k => kq (some (gd l20 4)) k) <| fun v101 =>
  kgq v99 false (fun k => kq (some v101) k) <| fun v102 =>
  kgq v102 true (fun k => kq (some v97) k) <| fun v103 =>
  kgq v102 true (fun k => kq (aUn .not v103) k) <| fun v104 =>
  kgq v99 false (fun k => kq (rPick v102 v104 (.bool false)) k) <| fun v105 =>
  kq (rPick v99 (.bool true) v105) <| fun v106 =>
  j100 v106)
noncomputable def L_runglaw17_FbLatches_1 (call callD : ACall) (a0 : AVal) (v12 : AVal) (v13 : AVal) (v14 : AVal) (v15 : AVal) : (List AVal → AH → Ans) → List AVal → AH → Ans := fun j21 l20 h5 =>
  kq (some (gd l20 7)) <| fun v22 =>
  kq (some a0) <| fun v23 =>
  kq (rLen v23) <| fun v24 =>
  kq (rBin .lss .no false v22 v24) <| fun v25 =>
  kIf v25 (
  km (mBuildSl T_int64 1 [(.int .i64 0)] 2 [(0, (.int .i64 0)), (1, (.int .i64 0))]) h5 <| fun v26 h6 =>
  kq (some v26) <| fun v27 =>
  kq (some (.int .i64 0)) <| fun v28 =>
  kLoop (L_runglaw17_FbLatches_0 call callD a0 l20 v27 v12 v13 v14 v15 j21) rounds [v28] h6) (
  kq (some (.bool true)) <| fun v171 =>
  some (v171, h5))
noncomputable def F_runglaw17_FbLatches (call callD : ACall) (a0 : AVal) (h : AH) : Ans :=
  kq (some (.bool false)) <| fun v0 =>
  ke (call N_runglaw17_known [] h) <| fun v1 h0 =>
  kq (aUn .not v1) <| fun v2 =>
  kIf v2 (
  kq (some (.bool false)) <| fun v3 =>
  some (v3, h0)) (
  kq (some a0) <| fun v4 =>
  kq (rLen v4) <| fun v5 =>
  kq (rBin .gtr .no true v5 (.int .i64 100)) <| fun v6 =>
  kIf v6 (
  kq (some (.bool true)) <| fun v7 =>
  some (v7, h0)) (
  kq (some (.slice none 0 0)) <| fun v8 =>
  kq (some (.slice none 0 0)) <| fun v9 =>
  kq (some (.slice none 0 0)) <| fun v10 =>
  kq (some (.slice none 0 0)) <| fun v11 =>
  km (pBox T__3_int64 (.agg [(.int .i64 0), (.int .i64 0), (.int .i64 0)])) h0 <| fun v12 h1 =>
  km (pBox T__3_int64 (.agg [(.int .i64 0), (.int .i64 0), (.int .i64 0)])) h1 <| fun v13 h2 =>
  km (pBox T__3_int64 (.agg [(.int .i64 0), (.int .i64 0), (.int .i64 0)])) h2 <| fun v14 h3 =>
  km (pBox T__3_int64 (.agg [(.int .i64 0), (.int .i64 0), (.int .i64 0)])) h3 <| fun v15 h4 =>
  kq (some (.bool false)) <| fun v16 =>
  kq (some (.bool false)) <| fun v17 =>
  kq (some (.bool false)) <| fun v18 =>
  kq (some (.int .i64 0)) <| fun v19 =>
  kLoop (L_runglaw17_FbLatches_1 call callD a0 v12 v13 v14 v15) rounds [v8, v9, v10, v11, v16, v17, v18, v19] h4))
theorem F_runglaw17_FbLatches_eq (call callD : ACall) (a0 : AVal) (h : AH) : kFunc Tryd.prog [0] call callD N_runglaw17_FbLatches [a0] h = F_runglaw17_FbLatches call callD a0 h := by kernel_rfl
theorem C_runglaw17_FbLatches {ov : AOver} (H : Plain ov) (n : Nat) (a0 : AVal) (h : AH) : kc ov (n + 1) N_runglaw17_FbLatches [a0] h = F_runglaw17_FbLatches (kc ov n) (kd ov n) a0 h := by
  have hov : ov N_runglaw17_FbLatches = none := H _ (by decide)
  unfold kc kd; rw [← F_runglaw17_FbLatches_eq]; simp only [kcall, hov]

/-- rung/runglaw17.FbApart -/
noncomputable def L_runglaw17_FbApart_0 (call callD : ACall) (v69 : AVal) (v38 : AVal) : (List AVal → AH → Ans) → List AVal → AH → Ans := fun j100 l99 h20 =>
  kq (some (gd l99 0)) <| fun v101 =>
  kq (some v69) <| fun v102 =>
  kq (rLen v102) <| fun v103 =>
  kq (rBin .lss .no false v101 v103) <| fun v104 =>
  kIf v104 (
  kq (some v38) <| fun v105 =>
  kq (some (gd l99 0)) <| fun v106 =>
  kq (rAt 1 v105 v106) <| fun v107 =>
  kq (rLoad v107 h20) <| fun v108 =>
  kq (some v69) <| fun v109 =>
  kq (some (gd l99 0)) <| fun v110 =>
  kq (rAt 1 v109 v110) <| fun v111 =>
  kq (rLoad v111 h20) <| fun v112 =>
  kq (rBin .add .no true v112 (.int .i64 7)) <| fun v113 =>
  kq (rBin .neq .no false v108 v113) <| fun v114 =>
  kIf v114 (
  kq (some (.bool false)) <| fun v115 =>
  some (v115, h20)) (
  kq (some (gd l99 0)) <| fun v116 =>
  kq (rBin .add .no true v116 (.int .i64 1)) <| fun v117 =>
  kq (some v117) <| fun v118 =>
  j100 [v118] h20)) (
  kq (some (.bool true)) <| fun v119 =>
  some (v119, h20))
noncomputable def L_runglaw17_FbApart_1 (call callD : ACall) (v38 : AVal) (v21 : AVal) (a1 : AVal) (v0 : AVal) (a3 : AVal) (a4 : AVal) (v37 : AVal) (v26 : AVal) (v27 : AVal) : (List AVal → AH → Ans) → List AVal → AH → Ans := fun j42 l41 h10 =>
  kq (some (gd l41 0)) <| fun v43 =>
  kq (some v38) <| fun v44 =>
  kq (rLen v44) <| fun v45 =>
  kq (rBin .lss .no false v43 v45) <| fun v46 =>
  kIf v46 (
  kq (some v38) <| fun v47 =>
  kq (some (gd l41 0)) <| fun v48 =>
  kq (some v38) <| fun v49 =>
  kq (some (gd l41 0)) <| fun v50 =>
  kq (rAt 1 v49 v50) <| fun v51 =>
  kq (rLoad v51 h10) <| fun v52 =>
  kq (rBin .add .no true v52 (.int .i64 7)) <| fun v53 =>
  kq (rAt 1 v47 v48) <| fun v54 =>
  ke ((rStore 1 v54 v53 h10).map fun h' => (.tuple [], h')) <| fun v55 h11 =>
  kq (some (gd l41 0)) <| fun v56 =>
  kq (rBin .add .no true v56 (.int .i64 1)) <| fun v57 =>
  kq (some v57) <| fun v58 =>
  j42 [v58] h11) (
  kq (some v21) <| fun v59 =>
  kq (some a1) <| fun v60 =>
  kq (rLoadA 3 v0 h10) <| fun v61 =>
  kq (some a3) <| fun v62 =>
  kq (some a4) <| fun v63 =>
  ke (call N_fb_Step [v59, v60, v61, v62, v63] h10) <| fun v64 h12 =>
  kq (some v64) <| fun v65 =>
  kq (aExtract v65 0) <| fun v66 =>
  kq (aExtract v65 1) <| fun v67 =>
  km (pBox T__3_int64 (.agg [(.int .i64 0), (.int .i64 0), (.int .i64 0)])) h12 <| fun v68 h13 =>
  kq (some v66) <| fun v69 =>
  ke ((rStore 3 v68 v67 h13).map fun h' => (.tuple [], h')) <| fun v70 h14 =>
  kq (rLoadA 3 v37 h14) <| fun v71 =>
  kq (rLoadA 3 v68 h14) <| fun v72 =>
  kq (rBin .neq (.ints 3) false v71 v72) <| fun v73 =>
  kq (some v73) <| fun v74 =>
  kth (fun v96 h19 =>
  kIf v96 (
  kq (some (.bool false)) <| fun v97 =>
  some (v97, h19)) (
  kq (some (.int .i64 0)) <| fun v98 =>
  kLoop (L_runglaw17_FbApart_0 call callD v69 v38) rounds [v98] h19)) <| fun j75 =>
  kgq v74 false (fun k => kq (some v38) k) <| fun v76 =>
  kgq v74 false (fun k => kq (rLen v76) k) <| fun v77 =>
  kgq v74 false (fun k => kq (some v69) k) <| fun v78 =>
  kgq v74 false (fun k => kq (rLen v78) k) <| fun v79 =>
  kgq v74 false (fun k => kq (rBin .neq .no false v77 v79) k) <| fun v80 =>
  kq (rPick v74 (.bool true) v80) <| fun v81 =>
  kq (some v81) <| fun v82 =>
  kgq v82 false (fun k => kq (some v26) k) <| fun v83 =>
  kgq v82 false (fun k => kq (some a1) k) <| fun v84 =>
  kgh v82 false h14 (fun k => ke (call N_runghelp_Nums [v83, v84] h14) <| fun v85 h15 =>
  k v85 h15) <| fun v86 h16 =>
  kgq v82 false (fun k => kq (aUn .not v86) k) <| fun v87 =>
  kq (rPick v82 (.bool true) v87) <| fun v88 =>
  kq (some v88) <| fun v89 =>
  kgq v89 false (fun k => kq (some v27) k) <| fun v90 =>
  kgq v89 false (fun k => kq (some a3) k) <| fun v91 =>
  kgh v89 false h16 (fun k => ke (call N_runghelp_Nums [v90, v91] h16) <| fun v92 h17 =>
  k v92 h17) <| fun v93 h18 =>
  kgq v89 false (fun k => kq (aUn .not v93) k) <| fun v94 =>
  kq (rPick v89 (.bool true) v94) <| fun v95 =>
  j75 v95 h18)
noncomputable def F_runglaw17_FbApart (call callD : ACall) (a0 a1 a2 a3 a4 : AVal) (h : AH) : Ans :=
  km (pBox T__3_int64 a2) h <| fun v0 h0 =>
  kq (some (.bool false)) <| fun v1 =>
  ke (call N_runglaw17_known [] h0) <| fun v2 h1 =>
  kq (aUn .not v2) <| fun v3 =>
  kIf v3 (
  kq (some (.bool false)) <| fun v4 =>
  some (v4, h1)) (
  kq (some a1) <| fun v5 =>
  kq (rLen v5) <| fun v6 =>
  kq (rBin .gtr .no true v6 (.int .i64 20)) <| fun v7 =>
  kq (some v7) <| fun v8 =>
  kt (fun v14 =>
  kIf v14 (
  kq (some (.bool true)) <| fun v15 =>
  some (v15, h1)) (
  ke (call N_runglaw17_names [] h1) <| fun v16 h3 =>
  kq (some a0) <| fun v17 =>
  ke (call N_runghelp_Place [v17, (.int .i64 10)] h3) <| fun v18 h4 =>
  kq (rAt 1 v16 v18) <| fun v19 =>
  kq (rLoad v19 h4) <| fun v20 =>
  kq (some v20) <| fun v21 =>
  kq (some a1) <| fun v22 =>
  ke (rAppend T_int64 1 8 (.slice none 0 0) v22 h4) <| fun v23 h5 =>
  kq (some a3) <| fun v24 =>
  ke (rAppend T_int64 1 8 (.slice none 0 0) v24 h5) <| fun v25 h6 =>
  kq (some v23) <| fun v26 =>
  kq (some v25) <| fun v27 =>
  kq (some v21) <| fun v28 =>
  kq (some v26) <| fun v29 =>
  kq (rLoadA 3 v0 h6) <| fun v30 =>
  kq (some v27) <| fun v31 =>
  kq (some a4) <| fun v32 =>
  ke (call N_fb_Step [v28, v29, v30, v31, v32] h6) <| fun v33 h7 =>
  kq (some v33) <| fun v34 =>
  kq (aExtract v34 0) <| fun v35 =>
  kq (aExtract v34 1) <| fun v36 =>
  km (pBox T__3_int64 (.agg [(.int .i64 0), (.int .i64 0), (.int .i64 0)])) h7 <| fun v37 h8 =>
  kq (some v35) <| fun v38 =>
  ke ((rStore 3 v37 v36 h8).map fun h' => (.tuple [], h')) <| fun v39 h9 =>
  kq (some (.int .i64 0)) <| fun v40 =>
  kLoop (L_runglaw17_FbApart_1 call callD v38 v21 a1 v0 a3 a4 v37 v26 v27) rounds [v40] h9)) <| fun j9 =>
  kgq v8 false (fun k => kq (some a3) k) <| fun v10 =>
  kgq v8 false (fun k => kq (rLen v10) k) <| fun v11 =>
  kgq v8 false (fun k => kq (rBin .gtr .no true v11 (.int .i64 20)) k) <| fun v12 =>
  kq (rPick v8 (.bool true) v12) <| fun v13 =>
  j9 v13)
theorem F_runglaw17_FbApart_eq (call callD : ACall) (a0 a1 a2 a3 a4 : AVal) (h : AH) : kFunc Tryd.prog [0] call callD N_runglaw17_FbApart [a0, a1, a2, a3, a4] h = F_runglaw17_FbApart call callD a0 a1 a2 a3 a4 h := by kernel_rfl
theorem C_runglaw17_FbApart {ov : AOver} (H : Plain ov) (n : Nat) (a0 a1 a2 a3 a4 : AVal) (h : AH) : kc ov (n + 1) N_runglaw17_FbApart [a0, a1, a2, a3, a4] h = F_runglaw17_FbApart (kc ov n) (kd ov n) a0 a1 a2 a3 a4 h := by
  have hov : ov N_runglaw17_FbApart = none := H _ (by decide)
  unfold kc kd; rw [← F_runglaw17_FbApart_eq]; simp only [kcall, hov]

/-- rung/runglaw17.FbBoth -/
noncomputable def L_runglaw17_FbBoth_0 (call callD : ACall) (a0 : AVal) (l23 : List AVal) (v31 : AVal) (v19 : AVal) (j24 : List AVal → AH → Ans) (v12 : AVal) : (List AVal → AH → Ans) → List AVal → AH → Ans := fun j34 l33 h7 =>
  kq (some (gd l33 0)) <| fun v35 =>
  kq (rBin .lss .no true v35 (.int .i64 4)) <| fun v36 =>
  kIf v36 (
  kq (some a0) <| fun v37 =>
  kq (some (gd l23 4)) <| fun v38 =>
  kq (some (gd l33 0)) <| fun v39 =>
  kq (rAt 4 v37 v38) <| fun v40 =>
  kq (rAtArr 4 1 v40 v39) <| fun v41 =>
  kq (rLoad v41 h7) <| fun v42 =>
  kj (fun l43 h8 =>
  kq (some (gd l33 0)) <| fun v45 =>
  kq (rBin .add .no true v45 (.int .i64 1)) <| fun v46 =>
  kq (some v46) <| fun v47 =>
  j34 [v47] h8) <| fun j44 =>
  kIf v42 (
  kq (some v31) <| fun v48 =>
  kq (some (gd l33 0)) <| fun v49 =>
  kq (rAt 1 v48 v49) <| fun v50 =>
  ke ((rStore 1 v50 (.int .i64 1) h7).map fun h' => (.tuple [], h')) <| fun v51 h9 =>
  j44 [] h9) (
  j44 [] h7)) (
  kq (some a0) <| fun v52 =>
  kq (some (gd l23 4)) <| fun v53 =>
  kq (rAt 4 v52 v53) <| fun v54 =>
  kq (rAtArr 4 1 v54 (.int .i64 0)) <| fun v55 =>
  kq (rLoad v55 h7) <| fun v56 =>
  kq (some v56) <| fun v57 =>
  kgq v57 true (fun k => kq (some (gd l23 2)) k) <| fun v58 =>
  kgq v57 true (fun k => kq (aUn .not v58) k) <| fun v59 =>
  kq (rPick v57 v59 (.bool false)) <| fun v60 =>
  kq (some a0) <| fun v61 =>
  kq (some (gd l23 4)) <| fun v62 =>
  kq (rAt 4 v61 v62) <| fun v63 =>
  kq (rAtArr 4 1 v63 (.int .i64 1)) <| fun v64 =>
  kq (rLoad v64 h7) <| fun v65 =>
  kq (some v65) <| fun v66 =>
  kgq v66 true (fun k => kq (some (gd l23 3)) k) <| fun v67 =>
  kgq v66 true (fun k => kq (aUn .not v67) k) <| fun v68 =>
  kq (rPick v66 v68 (.bool false)) <| fun v69 =>
  kq (some v60) <| fun v70 =>
  kq (some v69) <| fun v71 =>
  kq (some a0) <| fun v72 =>
  kq (some (gd l23 4)) <| fun v73 =>
  kq (rAt 4 v72 v73) <| fun v74 =>
  kq (rAtArr 4 1 v74 (.int .i64 2)) <| fun v75 =>
  kq (rLoad v75 h7) <| fun v76 =>
  kq (some v76) <| fun v77 =>
  kj (fun l78 h10 =>
  kq (some a0) <| fun v80 =>
  kq (some (gd l23 4)) <| fun v81 =>
  kq (rAt 4 v80 v81) <| fun v82 =>
  kq (rAtArr 4 1 v82 (.int .i64 0)) <| fun v83 =>
  kq (rLoad v83 h10) <| fun v84 =>
  kq (some a0) <| fun v85 =>
  kq (some (gd l23 4)) <| fun v86 =>
  kq (rAt 4 v85 v86) <| fun v87 =>
  kq (rAtArr 4 1 v87 (.int .i64 1)) <| fun v88 =>
  kq (rLoad v88 h10) <| fun v89 =>
  kq (some v84) <| fun v90 =>
  kq (some v89) <| fun v91 =>
  kq (some v31) <| fun v92 =>
  kq (rLoadA 3 v19 h10) <| fun v93 =>
  kq (some (gd l23 1)) <| fun v94 =>
  ke (call N_fb_Step [(.str [67, 84, 85, 68]), v92, v93, v94, (.int .i64 0)] h10) <| fun v95 h11 =>
  kq (some v95) <| fun v96 =>
  kq (aExtract v96 0) <| fun v97 =>
  kq (aExtract v96 1) <| fun v98 =>
  kq (some v97) <| fun v99 =>
  ke ((rStore 3 v19 v98 h11).map fun h' => (.tuple [], h')) <| fun v100 h12 =>
  kq (some v99) <| fun v101 =>
  kq (rLen v101) <| fun v102 =>
  kq (rBin .neq .no true v102 (.int .i64 3)) <| fun v103 =>
  kq (some v103) <| fun v104 =>
  kt (fun v131 =>
  kIf v131 (
  kq (some (.bool false)) <| fun v132 =>
  some (v132, h12)) (
  kq (some (gd l23 4)) <| fun v133 =>
  kq (rBin .add .no true v133 (.int .i64 1)) <| fun v134 =>
  kq (some v134) <| fun v135 =>
  j24 [(gd l78 0), v99, v90, v91, v135] h12)) <| fun j105 =>
  kgq v104 false (fun k => kq (some v99) k) <| fun v106 =>
  kgq v104 false (fun k => kq (rAt 1 v106 (.int .i64 2)) k) <| fun v107 =>
  kgq v104 false (fun k => kq (rLoad v107 h12) k) <| fun v108 =>
  kgq v104 false (fun k => kq (some (gd l78 0)) k) <| fun v109 =>
  kgq v104 false (fun k => kq (rBin .neq .no false v108 v109) k) <| fun v110 =>
  kq (rPick v104 (.bool true) v110) <| fun v111 =>
  kq (some v111) <| fun v112 =>
  kgq v112 false (fun k => kq (some v99) k) <| fun v113 =>
  kgq v112 false (fun k => kq (rAt 1 v113 (.int .i64 0)) k) <| fun v114 =>
  kgq v112 false (fun k => kq (rLoad v114 h12) k) <| fun v115 =>
  kgq v112 false (fun k => kq (rBin .eql .no true v115 (.int .i64 1)) k) <| fun v116 =>
  kgq v112 false (fun k => kq (some (gd l78 0)) k) <| fun v117 =>
  kgq v112 false (fun k => kq (some v12) k) <| fun v118 =>
  kgq v112 false (fun k => kq (rBin .geq .no false v117 v118) k) <| fun v119 =>
  kgq v112 false (fun k => kq (rBin .neq .bool false v116 v119) k) <| fun v120 =>
  kq (rPick v112 (.bool true) v120) <| fun v121 =>
  kq (some v121) <| fun v122 =>
  kgq v122 false (fun k => kq (some v99) k) <| fun v123 =>
  kgq v122 false (fun k => kq (rAt 1 v123 (.int .i64 1)) k) <| fun v124 =>
  kgq v122 false (fun k => kq (rLoad v124 h12) k) <| fun v125 =>
  kgq v122 false (fun k => kq (rBin .eql .no true v125 (.int .i64 1)) k) <| fun v126 =>
  kgq v122 false (fun k => kq (some (gd l78 0)) k) <| fun v127 =>
  kgq v122 false (fun k => kq (rBin .leq .no true v127 (.int .i64 0)) k) <| fun v128 =>
  kgq v122 false (fun k => kq (rBin .neq .bool false v126 v128) k) <| fun v129 =>
  kq (rPick v122 (.bool true) v129) <| fun v130 =>
  j105 v130) <| fun j79 =>
  kIf v77 (
  kq (some (.int .i64 0)) <| fun v136 =>
  j79 [v136] h7) (
  kq (some a0) <| fun v137 =>
  kq (some (gd l23 4)) <| fun v138 =>
  kq (rAt 4 v137 v138) <| fun v139 =>
  kq (rAtArr 4 1 v139 (.int .i64 3)) <| fun v140 =>
  kq (rLoad v140 h7) <| fun v141 =>
  kq (some v141) <| fun v142 =>
  kj (fun l143 h14 =>
  j79 [(gd l143 0)] h14) <| fun j144 =>
  kIf v142 (
  kq (some v12) <| fun v145 =>
  kq (some v145) <| fun v146 =>
  j144 [v146] h7) (
  kq (some v70) <| fun v147 =>
  kq (some v147) <| fun v148 =>
  kt (fun v153 =>
  kq (some v153) <| fun v154 =>
  kj (fun l155 h16 =>
  j144 [(gd l155 0)] h16) <| fun j156 =>
  kIf v154 (
  kq (some (gd l23 0)) <| fun v157 =>
  kq (rBin .add .no true v157 (.int .i64 1)) <| fun v158 =>
  kq (aMM aMin2 [v158, (.int .i64 32767)]) <| fun v159 =>
  kq (some v159) <| fun v160 =>
  j156 [v160] h7) (
  kq (some v71) <| fun v161 =>
  kq (some v161) <| fun v162 =>
  kt (fun v167 =>
  kq (some v167) <| fun v168 =>
  kj (fun l169 h18 =>
  j156 [(gd l169 0)] h18) <| fun j170 =>
  kIf v168 (
  kq (some (gd l23 0)) <| fun v171 =>
  kq (rBin .sub .no true v171 (.int .i64 1)) <| fun v172 =>
  kq (aMM aMax2 [v172, (.int .i64 (-32768))]) <| fun v173 =>
  kq (some v173) <| fun v174 =>
  j170 [v174] h7) (
  j170 [(gd l23 0)] h7)) <| fun j163 =>
  kgq v162 true (fun k => kq (some v70) k) <| fun v164 =>
  kgq v162 true (fun k => kq (aUn .not v164) k) <| fun v165 =>
  kq (rPick v162 v165 (.bool false)) <| fun v166 =>
  j163 v166)) <| fun j149 =>
  kgq v148 true (fun k => kq (some v71) k) <| fun v150 =>
  kgq v148 true (fun k => kq (aUn .not v150) k) <| fun v151 =>
  kq (rPick v148 v151 (.bool false)) <| fun v152 =>
  j149 v152)))
noncomputable def L_runglaw17_FbBoth_1 (call callD : ACall) (a0 : AVal) (v12 : AVal) (v19 : AVal) : (List AVal → AH → Ans) → List AVal → AH → Ans := fun j24 l23 h5 =>
  kq (some (gd l23 4)) <| fun v25 =>
  kq (some a0) <| fun v26 =>
  kq (rLen v26) <| fun v27 =>
  kq (rBin .lss .no false v25 v27) <| fun v28 =>
  kIf v28 (
  kq (some v12) <| fun v29 =>
  km (mBuildSl T_int64 1 [(.int .i64 0)] 5 [(0, (.int .i64 0)), (1, (.int .i64 0)), (2, (.int .i64 0)), (3, (.int .i64 0)), (4, v29)]) h5 <| fun v30 h6 =>
  kq (some v30) <| fun v31 =>
  kq (some (.int .i64 0)) <| fun v32 =>
  kLoop (L_runglaw17_FbBoth_0 call callD a0 l23 v31 v19 j24 v12) rounds [v32] h6) (
  kq (some (.bool true)) <| fun v175 =>
  some (v175, h5))
noncomputable def F_runglaw17_FbBoth (call callD : ACall) (a0 a1 a2 : AVal) (h : AH) : Ans :=
  kq (some (.bool false)) <| fun v0 =>
  ke (call N_runglaw17_known [] h) <| fun v1 h0 =>
  kq (aUn .not v1) <| fun v2 =>
  kIf v2 (
  kq (some (.bool false)) <| fun v3 =>
  some (v3, h0)) (
  kq (some a0) <| fun v4 =>
  kq (rLen v4) <| fun v5 =>
  kq (rBin .gtr .no true v5 (.int .i64 80)) <| fun v6 =>
  kIf v6 (
  kq (some (.bool true)) <| fun v7 =>
  some (v7, h0)) (
  kq (some a1) <| fun v8 =>
  ke (call N_rungref1_Wrap [(.int .i64 3), v8] h0) <| fun v9 h1 =>
  kq (some a2) <| fun v10 =>
  ke (call N_rungref1_Wrap [(.int .i64 3), v10] h1) <| fun v11 h2 =>
  kq (some v9) <| fun v12 =>
  kq (some v11) <| fun v13 =>
  kq (some v13) <| fun v14 =>
  kq (some v14) <| fun v15 =>
  kq (some v15) <| fun v16 =>
  km (mBuildSl T_int64 1 [(.int .i64 0)] 3 [(0, (.int .i64 0)), (1, (.int .i64 0)), (2, v16)]) h2 <| fun v17 h3 =>
  kq (some v17) <| fun v18 =>
  km (pBox T__3_int64 (.agg [(.int .i64 0), (.int .i64 0), (.int .i64 0)])) h3 <| fun v19 h4 =>
  kq (some (.bool false)) <| fun v20 =>
  kq (some (.bool false)) <| fun v21 =>
  kq (some (.int .i64 0)) <| fun v22 =>
  kLoop (L_runglaw17_FbBoth_1 call callD a0 v12 v19) rounds [v15, v18, v20, v21, v22] h4))
theorem F_runglaw17_FbBoth_eq (call callD : ACall) (a0 a1 a2 : AVal) (h : AH) : kFunc Tryd.prog [0] call callD N_runglaw17_FbBoth [a0, a1, a2] h = F_runglaw17_FbBoth call callD a0 a1 a2 h := by kernel_rfl
theorem C_runglaw17_FbBoth {ov : AOver} (H : Plain ov) (n : Nat) (a0 a1 a2 : AVal) (h : AH) : kc ov (n + 1) N_runglaw17_FbBoth [a0, a1, a2] h = F_runglaw17_FbBoth (kc ov n) (kd ov n) a0 a1 a2 h := by
  have hov : ov N_runglaw17_FbBoth = none := H _ (by decide)
  unfold kc kd; rw [← F_runglaw17_FbBoth_eq]; simp only [kcall, hov]

/-- rung/runglaw17.FbEver -/
noncomputable def L_runglaw17_FbEver_0 (call callD : ACall) (a0 : AVal) (v11 : AVal) (v19 : AVal) : (List AVal → AH → Ans) → List AVal → AH → Ans := fun j29 l28 h6 =>
  kq (some (gd l28 4)) <| fun v30 =>
  kq (some a0) <| fun v31 =>
  kq (rLen v31) <| fun v32 =>
  kq (rBin .lss .no false v30 v32) <| fun v33 =>
  kIf v33 (
  kq (some (gd l28 1)) <| fun v34 =>
  kq (some a0) <| fun v35 =>
  kq (some (gd l28 4)) <| fun v36 =>
  kq (rAt 1 v35 v36) <| fun v37 =>
  kq (rLoad v37 h6) <| fun v38 =>
  kq (rBin .rem .no true v38 (.int .u32 2147483648)) <| fun v39 =>
  kq (rConvI .i64 v39) <| fun v40 =>
  kq (rBin .add .no false v34 v40) <| fun v41 =>
  kq (some v41) <| fun v42 =>
  kq (some (gd l28 2)) <| fun v43 =>
  kq (some a0) <| fun v44 =>
  kq (some (gd l28 4)) <| fun v45 =>
  kq (rAt 1 v44 v45) <| fun v46 =>
  kq (rLoad v46 h6) <| fun v47 =>
  kq (rBin .rem .no true v47 (.int .u32 2147483648)) <| fun v48 =>
  kq (rConvI .i64 v48) <| fun v49 =>
  kq (rBin .add .no false v43 v49) <| fun v50 =>
  kq (some v50) <| fun v51 =>
  kq (some v51) <| fun v52 =>
  kq (rBin .gtr .no true v52 (.int .i64 2147483647)) <| fun v53 =>
  kq (some v53) <| fun v54 =>
  kt (fun v59 =>
  kIf v59 (
  kq (some (.bool true)) <| fun v60 =>
  some (v60, h6)) (
  kq (some (gd l28 3)) <| fun v61 =>
  kq (some v61) <| fun v62 =>
  kt (fun v68 =>
  kq (some v68) <| fun v69 =>
  kq (some v11) <| fun v70 =>
  km (mBuildSl T_int64 1 [(.int .i64 0)] 2 [(0, (.int .i64 1)), (1, v70)]) h6 <| fun v71 h9 =>
  kq (rLoadA 3 v19 h9) <| fun v72 =>
  kq (some (gd l28 0)) <| fun v73 =>
  kq (some v42) <| fun v74 =>
  ke (call N_fb_Step [(.str [84, 79, 78]), v71, v72, v73, v74] h9) <| fun v75 h10 =>
  kq (some v75) <| fun v76 =>
  kq (aExtract v76 0) <| fun v77 =>
  kq (aExtract v76 1) <| fun v78 =>
  kq (some v77) <| fun v79 =>
  ke ((rStore 3 v19 v78 h10).map fun h' => (.tuple [], h')) <| fun v80 h11 =>
  kq (some v79) <| fun v81 =>
  kq (rLen v81) <| fun v82 =>
  kq (rBin .neq .no true v82 (.int .i64 2)) <| fun v83 =>
  kq (some v83) <| fun v84 =>
  kt (fun v114 =>
  kIf v114 (
  kq (some (.bool false)) <| fun v115 =>
  some (v115, h11)) (
  kq (some (gd l28 4)) <| fun v116 =>
  kq (rBin .add .no true v116 (.int .i64 1)) <| fun v117 =>
  kq (some v117) <| fun v118 =>
  j29 [v79, v42, v51, v69, v118] h11)) <| fun j85 =>
  kgq v84 false (fun k => kq (some v79) k) <| fun v86 =>
  kgq v84 false (fun k => kq (rAt 1 v86 (.int .i64 0)) k) <| fun v87 =>
  kgq v84 false (fun k => kq (rLoad v87 h11) k) <| fun v88 =>
  kgq v84 false (fun k => kq (rBin .eql .no true v88 (.int .i64 1)) k) <| fun v89 =>
  kgq v84 false (fun k => kq (some v69) k) <| fun v90 =>
  kgq v84 false (fun k => kq (rBin .neq .bool false v89 v90) k) <| fun v91 =>
  kq (rPick v84 (.bool true) v91) <| fun v92 =>
  kq (some v92) <| fun v93 =>
  kgq v93 false (fun k => kq (some v69) k) <| fun v94 =>
  kgq v93 false (fun k => kq (some v94) k) <| fun v95 =>
  kgq v95 true (fun k => kq (some v79) k) <| fun v96 =>
  kgq v95 true (fun k => kq (rAt 1 v96 (.int .i64 1)) k) <| fun v97 =>
  kgq v95 true (fun k => kq (rLoad v97 h11) k) <| fun v98 =>
  kgq v95 true (fun k => kq (some v11) k) <| fun v99 =>
  kgq v95 true (fun k => kq (rBin .neq .no false v98 v99) k) <| fun v100 =>
  kgq v93 false (fun k => kq (rPick v95 v100 (.bool false)) k) <| fun v101 =>
  kq (rPick v93 (.bool true) v101) <| fun v102 =>
  kq (some v102) <| fun v103 =>
  kgq v103 false (fun k => kq (some v69) k) <| fun v104 =>
  kgq v103 false (fun k => kq (aUn .not v104) k) <| fun v105 =>
  kgq v103 false (fun k => kq (some v105) k) <| fun v106 =>
  kgq v106 true (fun k => kq (some v79) k) <| fun v107 =>
  kgq v106 true (fun k => kq (rAt 1 v107 (.int .i64 1)) k) <| fun v108 =>
  kgq v106 true (fun k => kq (rLoad v108 h11) k) <| fun v109 =>
  kgq v106 true (fun k => kq (some v51) k) <| fun v110 =>
  kgq v106 true (fun k => kq (rBin .neq .no false v109 v110) k) <| fun v111 =>
  kgq v103 false (fun k => kq (rPick v106 v111 (.bool false)) k) <| fun v112 =>
  kq (rPick v103 (.bool true) v112) <| fun v113 =>
  j85 v113) <| fun j63 =>
  kgq v62 false (fun k => kq (some v51) k) <| fun v64 =>
  kgq v62 false (fun k => kq (some v11) k) <| fun v65 =>
  kgq v62 false (fun k => kq (rBin .geq .no false v64 v65) k) <| fun v66 =>
  kq (rPick v62 (.bool true) v66) <| fun v67 =>
  j63 v67)) <| fun j55 =>
  kgq v54 true (fun k => kq (some (gd l28 3)) k) <| fun v56 =>
  kgq v54 true (fun k => kq (aUn .not v56) k) <| fun v57 =>
  kq (rPick v54 v57 (.bool false)) <| fun v58 =>
  j55 v58) (
  kq (some (.bool true)) <| fun v119 =>
  some (v119, h6))
noncomputable def F_runglaw17_FbEver (call callD : ACall) (a0 a1 : AVal) (h : AH) : Ans :=
  kq (some (.bool false)) <| fun v0 =>
  ke (call N_runglaw17_known [] h) <| fun v1 h0 =>
  kq (aUn .not v1) <| fun v2 =>
  kIf v2 (
  kq (some (.bool false)) <| fun v3 =>
  some (v3, h0)) (
  kq (some a0) <| fun v4 =>
  kq (rLen v4) <| fun v5 =>
  kq (rBin .gtr .no true v5 (.int .i64 40)) <| fun v6 =>
  kIf v6 (
  kq (some (.bool true)) <| fun v7 =>
  some (v7, h0)) (
  kq (some a1) <| fun v8 =>
  ke (call N_rungref1_Wrap [(.int .i64 11), v8] h0) <| fun v9 h1 =>
  kq (aMM aMax2 [v9, (.int .i64 0)]) <| fun v10 =>
  kq (some v10) <| fun v11 =>
  kq (some v11) <| fun v12 =>
  km (mBuildSl T_int64 1 [(.int .i64 0)] 2 [(0, (.int .i64 1)), (1, v12)]) h1 <| fun v13 h2 =>
  kq (rBuildA [(.int .i64 0), (.int .i64 0), (.int .i64 0)] 1 []) <| fun v14 =>
  ke (call N_fb_Step [(.str [84, 79, 78]), v13, v14, (.slice none 0 0), (.int .i64 0)] h2) <| fun v15 h3 =>
  kq (some v15) <| fun v16 =>
  kq (aExtract v16 0) <| fun v17 =>
  kq (aExtract v16 1) <| fun v18 =>
  km (pBox T__3_int64 (.agg [(.int .i64 0), (.int .i64 0), (.int .i64 0)])) h3 <| fun v19 h4 =>
  kq (some v17) <| fun v20 =>
  ke ((rStore 3 v19 v18 h4).map fun h' => (.tuple [], h')) <| fun v21 h5 =>
  kq (some v11) <| fun v22 =>
  kq (rBin .eql .no true v22 (.int .i64 0)) <| fun v23 =>
  kq (some (.int .i64 0)) <| fun v24 =>
  kq (some (.int .i64 0)) <| fun v25 =>
  kq (some v23) <| fun v26 =>
  kq (some (.int .i64 0)) <| fun v27 =>
  kLoop (L_runglaw17_FbEver_0 call callD a0 v11 v19) rounds [v20, v24, v25, v26, v27] h5))
theorem F_runglaw17_FbEver_eq (call callD : ACall) (a0 a1 : AVal) (h : AH) : kFunc Tryd.prog [0] call callD N_runglaw17_FbEver [a0, a1] h = F_runglaw17_FbEver call callD a0 a1 h := by kernel_rfl
theorem C_runglaw17_FbEver {ov : AOver} (H : Plain ov) (n : Nat) (a0 a1 : AVal) (h : AH) : kc ov (n + 1) N_runglaw17_FbEver [a0, a1] h = F_runglaw17_FbEver (kc ov n) (kd ov n) a0 a1 h := by
  have hov : ov N_runglaw17_FbEver = none := H _ (by decide)
  unfold kc kd; rw [← F_runglaw17_FbEver_eq]; simp only [kcall, hov]

/-- rung/runglaw17.known -/
noncomputable def F_runglaw17_known (call callD : ACall) (h : AH) : Ans :=
  kq (some (.bool false)) <| fun v0 =>
  km (mBuildSl T_int64 1 [(.int .i64 0)] 2 [(0, (.int .i64 1)), (1, (.int .i64 10))]) h <| fun v1 h0 =>
  kq (rBuildA [(.int .i64 0), (.int .i64 0), (.int .i64 0)] 1 []) <| fun v2 =>
  ke (call N_fb_Step [(.str [84, 79, 78]), v1, v2, (.slice none 0 0), (.int .i64 5)] h0) <| fun v3 h1 =>
  kq (some v3) <| fun v4 =>
  kq (aExtract v4 0) <| fun v5 =>
  kq (aExtract v4 1) <| fun v6 =>
  km (pBox T__3_int64 (.agg [(.int .i64 0), (.int .i64 0), (.int .i64 0)])) h1 <| fun v7 h2 =>
  kq (some v5) <| fun v8 =>
  ke ((rStore 3 v7 v6 h2).map fun h' => (.tuple [], h')) <| fun v9 h3 =>
  km (mBuildSl T_int64 1 [(.int .i64 0)] 2 [(0, (.int .i64 1)), (1, (.int .i64 10))]) h3 <| fun v10 h4 =>
  kq (rLoadA 3 v7 h4) <| fun v11 =>
  kq (some v8) <| fun v12 =>
  ke (call N_fb_Step [(.str [84, 79, 78]), v10, v11, v12, (.int .i64 15)] h4) <| fun v13 h5 =>
  kq (some v13) <| fun v14 =>
  kq (aExtract v14 0) <| fun v15 =>
  kq (aExtract v14 1) <| fun v16 =>
  km (pBox T__3_int64 (.agg [(.int .i64 0), (.int .i64 0), (.int .i64 0)])) h5 <| fun v17 h6 =>
  kq (some v15) <| fun v18 =>
  ke ((rStore 3 v17 v16 h6).map fun h' => (.tuple [], h')) <| fun v19 h7 =>
  km (mBuildSl T_int64 1 [(.int .i64 0)] 3 [(0, (.int .i64 1)), (1, (.int .i64 0)), (2, (.int .i64 1))]) h7 <| fun v20 h8 =>
  kq (rBuildA [(.int .i64 0), (.int .i64 0), (.int .i64 0)] 1 []) <| fun v21 =>
  ke (call N_fb_Step [(.str [67, 84, 85]), v20, v21, (.slice none 0 0), (.int .i64 0)] h8) <| fun v22 h9 =>
  kq (some v22) <| fun v23 =>
  kq (aExtract v23 0) <| fun v24 =>
  kq (aExtract v23 1) <| fun v25 =>
  km (pBox T__3_int64 (.agg [(.int .i64 0), (.int .i64 0), (.int .i64 0)])) h9 <| fun v26 h10 =>
  kq (some v24) <| fun v27 =>
  ke ((rStore 3 v26 v25 h10).map fun h' => (.tuple [], h')) <| fun v28 h11 =>
  km (mBuildSl T_int64 1 [(.int .i64 0)] 3 [(0, (.int .i64 1)), (1, (.int .i64 0)), (2, (.int .i64 1))]) h11 <| fun v29 h12 =>
  kq (rLoadA 3 v26 h12) <| fun v30 =>
  kq (some v27) <| fun v31 =>
  ke (call N_fb_Step [(.str [67, 84, 85]), v29, v30, v31, (.int .i64 0)] h12) <| fun v32 h13 =>
  kq (some v32) <| fun v33 =>
  kq (aExtract v33 0) <| fun v34 =>
  kq (aExtract v33 1) <| fun v35 =>
  km (pBox T__3_int64 (.agg [(.int .i64 0), (.int .i64 0), (.int .i64 0)])) h13 <| fun v36 h14 =>
  kq (some v34) <| fun v37 =>
  ke ((rStore 3 v36 v35 h14).map fun h' => (.tuple [], h')) <| fun v38 h15 =>
  kq (some v8) <| fun v39 =>
  km (mBuildSl T_int64 1 [(.int .i64 0)] 2 [(0, (.int .i64 0)), (1, (.int .i64 0))]) h15 <| fun v40 h16 =>
  ke (call N_runghelp_Nums [v39, v40] h16) <| fun v41 h17 =>
  kq (some v41) <| fun v42 =>
  kth (fun v64 h30 =>
  kq (some v64) <| fun v65 =>
  some (v65, h30)) <| fun j43 =>
  kgq v42 true (fun k => kq (some v18) k) <| fun v44 =>
  kgh v42 true h17 (fun k => km (mBuildSl T_int64 1 [(.int .i64 0)] 2 [(0, (.int .i64 1)), (1, (.int .i64 10))]) h17 <| fun v45 h18 =>
  k v45 h18) <| fun v46 h19 =>
  kgh v42 true h19 (fun k => ke (call N_runghelp_Nums [v44, v46] h19) <| fun v47 h20 =>
  k v47 h20) <| fun v48 h21 =>
  kq (rPick v42 v48 (.bool false)) <| fun v49 =>
  kq (some v49) <| fun v50 =>
  kgq v50 true (fun k => kq (some v27) k) <| fun v51 =>
  kgh v50 true h21 (fun k => km (mBuildSl T_int64 1 [(.int .i64 0)] 2 [(0, (.int .i64 1)), (1, (.int .i64 1))]) h21 <| fun v52 h22 =>
  k v52 h22) <| fun v53 h23 =>
  kgh v50 true h23 (fun k => ke (call N_runghelp_Nums [v51, v53] h23) <| fun v54 h24 =>
  k v54 h24) <| fun v55 h25 =>
  kq (rPick v50 v55 (.bool false)) <| fun v56 =>
  kq (some v56) <| fun v57 =>
  kgq v57 true (fun k => kq (some v37) k) <| fun v58 =>
  kgh v57 true h25 (fun k => km (mBuildSl T_int64 1 [(.int .i64 0)] 2 [(0, (.int .i64 1)), (1, (.int .i64 1))]) h25 <| fun v59 h26 =>
  k v59 h26) <| fun v60 h27 =>
  kgh v57 true h27 (fun k => ke (call N_runghelp_Nums [v58, v60] h27) <| fun v61 h28 =>
  k v61 h28) <| fun v62 h29 =>
  kq (rPick v57 v62 (.bool false)) <| fun v63 =>
  j43 v63 h29
theorem F_runglaw17_known_eq (call callD : ACall) (h : AH) : kFunc Tryd.prog [0] call callD N_runglaw17_known [] h = F_runglaw17_known call callD h := by kernel_rfl
theorem C_runglaw17_known {ov : AOver} (hov : ov N_runglaw17_known = none) (n : Nat) (h : AH) : kcall Tryd.prog [0] ov (n + 1) N_runglaw17_known [] h = F_runglaw17_known (kcall Tryd.prog [0] ov n) (kFuncD Tryd.prog [0] (kcall Tryd.prog [0] ov n)) h := by
  rw [← F_runglaw17_known_eq]; simp only [kcall, hov]

/-- rung/fb.Step -/
noncomputable def L_fb_Step_0 (call callD : ACall) (v62 : AVal) (v61 : AVal) (v0 : AVal) (v23 : AVal) (v3 : AVal) : (List AVal → AH → Ans) → List AVal → AH → Ans := fun j65 l64 h17 =>
  kq (rBin .lss .no false (gd l64 1) v62) <| fun v66 =>
  kIf v66 (
  kq (rAt 1 v61 (gd l64 1)) <| fun v67 =>
  kq (rLoad v67 h17) <| fun v68 =>
  kq (some v68) <| fun v69 =>
  kq (some (gd l64 0)) <| fun v70 =>
  kq (rLoad v0 h17) <| fun v71 =>
  kq (some v69) <| fun v72 =>
  kq (rLoad v23 h17) <| fun v73 =>
  kq (aNilCheck v73) <| fun v74 =>
  kq (rFieldP 0 v74) <| fun v75 =>
  kq (rLoad v75 h17) <| fun v76 =>
  kq (some v69) <| fun v77 =>
  kq (rLook .string (.int .i64 0) false v76 v77 h17) <| fun v78 =>
  ke (call N_types_Pin [v71, v72] h17) <| fun v79 h18 =>
  kChk (!true || kSame (rLook .string (.int .i64 0) false v76 v77 h18) v78) <|
  kChk (!true || kSame (rLoad v75 h18) v76) <|
  kChk (!true || kSame (rLoad v23 h18) v73) <|
  kChk (!false || kSame (rLoad v0 h18) v71) <|
  ke (call N_num_Wrap [v79, v78] h18) <| fun v80 h19 =>
  km (mBuildSl T_int64 1 [(.int .i64 0)] 1 [(0, v80)]) h19 <| fun v81 h20 =>
  kChk (!false || kSame (rLook .string (.int .i64 0) false v76 v77 h20) v78) <|
  kChk (!false || kSame (rLoad v75 h20) v76) <|
  kChk (!false || kSame (rLoad v23 h20) v73) <|
  kChk (!false || kSame (rLoad v0 h20) v71) <|
  ke (rAppend T_int64 1 8 v70 v81 h20) <| fun v82 h21 =>
  kq (some v82) <| fun v83 =>
  kChk (!false || kSame (rLook .string (.int .i64 0) false v76 v77 h21) v78) <|
  kChk (!false || kSame (rLoad v75 h21) v76) <|
  kChk (!false || kSame (rLoad v23 h21) v73) <|
  kChk (!false || kSame (rLoad v0 h21) v71) <|
  kq (rBin .add .no true (gd l64 1) (.int .i64 1)) <| fun v84 =>
  kq (some v84) <| fun v85 =>
  j65 [v83, v85] h21) (
  kq (some (gd l64 0)) <| fun v86 =>
  kq (rLoad v23 h17) <| fun v87 =>
  kq (aNilCheck v87) <| fun v88 =>
  kq (rFieldP 1 v88) <| fun v89 =>
  kq (rLoadA 3 v89 h17) <| fun v90 =>
  kq (some v86) <| fun v91 =>
  ke ((rStore 3 v3 v90 h17).map fun h' => (.tuple [], h')) <| fun v92 h22 =>
  kChk (!false || kSame (rLoadA 3 v89 h22) v90) <|
  kChk (!false || kSame (rLoad v23 h22) v87) <|
  kq (rLoadA 3 v3 h22) <| fun v93 =>
  some (.tuple [v91, v93], h22))
noncomputable def L_fb_Step_1 (call callD : ACall) (v30 : AVal) (v23 : AVal) (v29 : AVal) (v18 : AVal) (a1 : AVal) (v19 : AVal) (a3 : AVal) (v6 : AVal) (v0 : AVal) (v3 : AVal) : (List AVal → AH → Ans) → List AVal → AH → Ans := fun j33 l32 h11 =>
  kq (rBin .lss .no true (gd l32 0) (.int .i64 3)) <| fun v34 =>
  kIf v34 (
  kq (some (gd l32 0)) <| fun v35 =>
  kq (rIndexA false 3 1 v30 (gd l32 0)) <| fun v36 =>
  kq (some v35) <| fun v37 =>
  kq (some v36) <| fun v38 =>
  kq (rLoad v23 h11) <| fun v39 =>
  kq (some v37) <| fun v40 =>
  kq (some v38) <| fun v41 =>
  kq (aNilCheck v39) <| fun v42 =>
  kq (rFieldP 1 v42) <| fun v43 =>
  ke (call N_num_Wrap [(.int .i64 4), v41] h11) <| fun v44 h12 =>
  kq (rAtArr 3 1 v43 v40) <| fun v45 =>
  kChk (!true || kSame (rLoad v23 h12) v39) <|
  ke ((rStore 1 v45 v44 h12).map fun h' => (.tuple [], h')) <| fun v46 h13 =>
  kChk (!false || kSame (rLoad v23 h13) v39) <|
  kq (rBin .add .no true (gd l32 0) (.int .i64 1)) <| fun v47 =>
  kq (some v47) <| fun v48 =>
  j33 [v48] h13) (
  kq (some v29) <| fun v49 =>
  kq (some v18) <| fun v50 =>
  kq (some a1) <| fun v51 =>
  ke (rCallV call v49 [v50, v51] h11) <| fun v52 h14 =>
  kq (some v29) <| fun v53 =>
  kq (some v19) <| fun v54 =>
  kq (some a3) <| fun v55 =>
  ke (rCallV call v53 [v54, v55] h14) <| fun v56 h15 =>
  kq (some v6) <| fun v57 =>
  kq (rLoad v23 h15) <| fun v58 =>
  ke (rInv Tryd.prog call "rung/fb.step" v57 [v58] h15) <| fun v59 h16 =>
  kq (some (.slice none 0 0)) <| fun v60 =>
  kq (some v19) <| fun v61 =>
  kq (rLen v61) <| fun v62 =>
  kq (some (.int .i64 0)) <| fun v63 =>
  kLoop (L_fb_Step_0 call callD v62 v61 v0 v23 v3) rounds [v60, v63] h16)
noncomputable def F_fb_Step (call callD : ACall) (a0 a1 a2 a3 a4 : AVal) (h : AH) : Ans :=
  km (pBox T_string a0) h <| fun v0 h0 =>
  km (pBox T__3_int64 a2) h0 <| fun v1 h1 =>
  kq (some (.slice none 0 0)) <| fun v2 =>
  km (pBox T__3_int64 (.agg [(.int .i64 0), (.int .i64 0), (.int .i64 0)])) h1 <| fun v3 h2 =>
  kq (rLoad v0 h2) <| fun v4 =>
  ke (call N_fb_of [v4] h2) <| fun v5 h3 =>
  kq (some v5) <| fun v6 =>
  kq (some v6) <| fun v7 =>
  kq (rBin .eql .iface true v7 .nilIface) <| fun v8 =>
  kIf v8 (
  kq (rBuildA [(.int .i64 0), (.int .i64 0), (.int .i64 0)] 1 []) <| fun v9 =>
  kq (some (.slice none 0 0)) <| fun v10 =>
  ke ((rStore 3 v3 v9 h3).map fun h' => (.tuple [], h')) <| fun v11 h4 =>
  kq (rLoadA 3 v3 h4) <| fun v12 =>
  some (.tuple [v10, v12], h4)) (
  kq (rLoad v0 h3) <| fun v13 =>
  ke (call N_types_Pins [v13] h3) <| fun v14 h5 =>
  kq (some v14) <| fun v15 =>
  kq (aExtract v15 0) <| fun v16 =>
  kq (aExtract v15 1) <| fun v17 =>
  kq (some v16) <| fun v18 =>
  kq (some v17) <| fun v19 =>
  km (some pMap) h5 <| fun v20 h6 =>
  kq (rLoadA 3 v1 h6) <| fun v21 =>
  kq (some a4) <| fun v22 =>
  km (pBox T__fb_state (.ptr none)) h6 <| fun v23 h7 =>
  kChk (!true || kSame (rLoadA 3 v1 h7) v21) <|
  ke (call N_num_Wrap [(.int .i64 4), v22] h7) <| fun v24 h8 =>
  kq (rBuild [(.map none), (.int .i64 0), (.int .i64 0), (.int .i64 0), (.int .i64 0)] [(0, 1), (1, 3), (4, 1)] [(0, v20), (1, v21), (2, v24)]) <| fun v25 =>
  km (pBox T_fb_state v25) h8 <| fun v26 h9 =>
  kChk (!true || kSame (rLoadA 3 v1 h9) v21) <|
  ke ((rStore 1 v23 v26 h9).map fun h' => (.tuple [], h')) <| fun v27 h10 =>
  kChk (!false || kSame (rLoadA 3 v1 h10) v21) <|
  kq (some (.func (.func N_fb_Step_1) [] [v0, v23])) <| fun v28 =>
  kq (some v28) <| fun v29 =>
  kq (rLoadA 3 v1 h10) <| fun v30 =>
  kq (some (.int .i64 0)) <| fun v31 =>
  kLoop (L_fb_Step_1 call callD v30 v23 v29 v18 a1 v19 a3 v6 v0 v3) rounds [v31] h10)
theorem F_fb_Step_eq (call callD : ACall) (a0 a1 a2 a3 a4 : AVal) (h : AH) : kFunc Tryd.prog [0] call callD N_fb_Step [a0, a1, a2, a3, a4] h = F_fb_Step call callD a0 a1 a2 a3 a4 h := by kernel_rfl
theorem C_fb_Step {ov : AOver} (H : Plain ov) (n : Nat) (a0 a1 a2 a3 a4 : AVal) (h : AH) : kc ov (n + 1) N_fb_Step [a0, a1, a2, a3, a4] h = F_fb_Step (kc ov n) (kd ov n) a0 a1 a2 a3 a4 h := by
  have hov : ov N_fb_Step = none := H _ (by decide)
  unfold kc kd; rw [← F_fb_Step_eq]; simp only [kcall, hov]

/-- rung/rungref17.Step -/
noncomputable def L_rungref17_Step_0 (call callD : ACall) (v0 : AVal) (v25 : AVal) (a0 : AVal) (v2 : AVal) (v26 : AVal) (v29 : AVal) : (List AVal → AH → Ans) → List AVal → AH → Ans := fun j32 l31 h7 =>
  kq (some (gd l31 0)) <| fun v33 =>
  kq (rBin .lss .no true v33 (.int .i64 3)) <| fun v34 =>
  kIf v34 (
  kq (some (gd l31 0)) <| fun v35 =>
  kq (some (gd l31 0)) <| fun v36 =>
  kq (rAtArr 3 1 v0 v36) <| fun v37 =>
  kq (rLoad v37 h7) <| fun v38 =>
  ke (call N_rungref1_Wrap [(.int .i64 4), v38] h7) <| fun v39 h8 =>
  kq (rAtArr 3 1 v0 v35) <| fun v40 =>
  ke ((rStore 1 v40 v39 h8).map fun h' => (.tuple [], h')) <| fun v41 h9 =>
  kq (some (gd l31 0)) <| fun v42 =>
  kq (rBin .add .no true v42 (.int .i64 1)) <| fun v43 =>
  kq (some v43) <| fun v44 =>
  j32 [v44] h9) (
  kq (some v25) <| fun v45 =>
  kq (rAt 1 v45 (.int .i64 0)) <| fun v46 =>
  kq (rLoad v46 h7) <| fun v47 =>
  kq (rBin .neq .no true v47 (.int .i64 0)) <| fun v48 =>
  kq (some v48) <| fun v49 =>
  kq (some (.bool false)) <| fun v50 =>
  kq (some v25) <| fun v51 =>
  kq (rLen v51) <| fun v52 =>
  kq (rBin .gtr .no true v52 (.int .i64 1)) <| fun v53 =>
  kj (fun l54 h10 =>
  kq (some a0) <| fun v56 =>
  kq (rBin .eql .no true v56 (.str [82, 95, 84, 82, 73, 71])) <| fun v57 =>
  kq (some v57) <| fun v58 =>
  kj (fun l59 h11 =>
  kq (some (gd l59 0)) <| fun v61 =>
  kq (rLoadA 3 v0 h11) <| fun v62 =>
  kq (some v61) <| fun v63 =>
  ke ((rStore 3 v2 v62 h11).map fun h' => (.tuple [], h')) <| fun v64 h12 =>
  kChk (!false || kSame (rLoadA 3 v0 h12) v62) <|
  kq (rLoadA 3 v2 h12) <| fun v65 =>
  some (.tuple [v63, v65], h12)) <| fun j60 =>
  kIf v58 (
  kq (some v26) <| fun v66 =>
  kq (some v49) <| fun v67 =>
  kq (some v67) <| fun v68 =>
  kt (fun v74 =>
  ke (call N_rungref17_truth [v74] h10) <| fun v75 h14 =>
  kq (rAt 1 v66 (.int .i64 0)) <| fun v76 =>
  ke ((rStore 1 v76 v75 h14).map fun h' => (.tuple [], h')) <| fun v77 h15 =>
  kq (some v49) <| fun v78 =>
  ke (call N_rungref17_truth [v78] h15) <| fun v79 h16 =>
  kq (rAtArr 3 1 v0 (.int .i64 0)) <| fun v80 =>
  ke ((rStore 1 v80 v79 h16).map fun h' => (.tuple [], h')) <| fun v81 h17 =>
  j60 [v26] h17) <| fun j69 =>
  kgq v68 true (fun k => kq (rAtArr 3 1 v0 (.int .i64 0)) k) <| fun v70 =>
  kgq v68 true (fun k => kq (rLoad v70 h10) k) <| fun v71 =>
  kgq v68 true (fun k => kq (rBin .eql .no true v71 (.int .i64 0)) k) <| fun v72 =>
  kq (rPick v68 v72 (.bool false)) <| fun v73 =>
  j69 v73) (
  kq (rBin .eql .no true v56 (.str [70, 95, 84, 82, 73, 71])) <| fun v82 =>
  kq (some v82) <| fun v83 =>
  kj (fun l84 h18 =>
  j60 [(gd l84 0)] h18) <| fun j85 =>
  kIf v83 (
  kq (some v26) <| fun v86 =>
  kq (some v49) <| fun v87 =>
  kq (aUn .not v87) <| fun v88 =>
  kq (some v88) <| fun v89 =>
  kt (fun v95 =>
  ke (call N_rungref17_truth [v95] h10) <| fun v96 h20 =>
  kq (rAt 1 v86 (.int .i64 0)) <| fun v97 =>
  ke ((rStore 1 v97 v96 h20).map fun h' => (.tuple [], h')) <| fun v98 h21 =>
  kq (some v49) <| fun v99 =>
  ke (call N_rungref17_truth [v99] h21) <| fun v100 h22 =>
  kq (rAtArr 3 1 v0 (.int .i64 0)) <| fun v101 =>
  ke ((rStore 1 v101 v100 h22).map fun h' => (.tuple [], h')) <| fun v102 h23 =>
  j85 [v26] h23) <| fun j90 =>
  kgq v89 true (fun k => kq (rAtArr 3 1 v0 (.int .i64 0)) k) <| fun v91 =>
  kgq v89 true (fun k => kq (rLoad v91 h10) k) <| fun v92 =>
  kgq v89 true (fun k => kq (rBin .neq .no true v92 (.int .i64 0)) k) <| fun v93 =>
  kq (rPick v89 v93 (.bool false)) <| fun v94 =>
  j90 v94) (
  kq (rBin .eql .no true v56 (.str [83, 82])) <| fun v103 =>
  kq (some v103) <| fun v104 =>
  kj (fun l105 h24 =>
  j85 [(gd l105 0)] h24) <| fun j106 =>
  kIf v104 (
  kq (some v26) <| fun v107 =>
  kq (some v49) <| fun v108 =>
  kq (some v108) <| fun v109 =>
  kt (fun v120 =>
  ke (call N_rungref17_truth [v120] h10) <| fun v121 h26 =>
  kq (rAt 1 v107 (.int .i64 0)) <| fun v122 =>
  ke ((rStore 1 v122 v121 h26).map fun h' => (.tuple [], h')) <| fun v123 h27 =>
  j106 [v26] h27) <| fun j110 =>
  kgq v109 false (fun k => kq (some v26) k) <| fun v111 =>
  kgq v109 false (fun k => kq (rAt 1 v111 (.int .i64 0)) k) <| fun v112 =>
  kgq v109 false (fun k => kq (rLoad v112 h10) k) <| fun v113 =>
  kgq v109 false (fun k => kq (rBin .neq .no true v113 (.int .i64 0)) k) <| fun v114 =>
  kgq v109 false (fun k => kq (some v114) k) <| fun v115 =>
  kgq v115 true (fun k => kq (some (gd l54 0)) k) <| fun v116 =>
  kgq v115 true (fun k => kq (aUn .not v116) k) <| fun v117 =>
  kgq v109 false (fun k => kq (rPick v115 v117 (.bool false)) k) <| fun v118 =>
  kq (rPick v109 (.bool true) v118) <| fun v119 =>
  j110 v119) (
  kq (rBin .eql .no true v56 (.str [82, 83])) <| fun v124 =>
  kq (some v124) <| fun v125 =>
  kj (fun l126 h28 =>
  j106 [(gd l126 0)] h28) <| fun j127 =>
  kIf v125 (
  kq (some v26) <| fun v128 =>
  kq (some (gd l54 0)) <| fun v129 =>
  kq (aUn .not v129) <| fun v130 =>
  kq (some v130) <| fun v131 =>
  kt (fun v141 =>
  ke (call N_rungref17_truth [v141] h10) <| fun v142 h30 =>
  kq (rAt 1 v128 (.int .i64 0)) <| fun v143 =>
  ke ((rStore 1 v143 v142 h30).map fun h' => (.tuple [], h')) <| fun v144 h31 =>
  j127 [v26] h31) <| fun j132 =>
  kgq v131 true (fun k => kq (some v49) k) <| fun v133 =>
  kgq v131 true (fun k => kq (some v133) k) <| fun v134 =>
  kgq v134 false (fun k => kq (some v26) k) <| fun v135 =>
  kgq v134 false (fun k => kq (rAt 1 v135 (.int .i64 0)) k) <| fun v136 =>
  kgq v134 false (fun k => kq (rLoad v136 h10) k) <| fun v137 =>
  kgq v134 false (fun k => kq (rBin .neq .no true v137 (.int .i64 0)) k) <| fun v138 =>
  kgq v131 true (fun k => kq (rPick v134 (.bool true) v138) k) <| fun v139 =>
  kq (rPick v131 v139 (.bool false)) <| fun v140 =>
  j132 v140) (
  kq (rBin .eql .no true v56 (.str [67, 84, 85])) <| fun v145 =>
  kq (some v145) <| fun v146 =>
  kj (fun l147 h32 =>
  j127 [(gd l147 0)] h32) <| fun j148 =>
  kIf v146 (
  kq (some v25) <| fun v149 =>
  kq (rAt 1 v149 (.int .i64 2)) <| fun v150 =>
  kq (rLoad v150 h10) <| fun v151 =>
  kq (some v26) <| fun v152 =>
  kq (rAt 1 v152 (.int .i64 1)) <| fun v153 =>
  kq (rLoad v153 h10) <| fun v154 =>
  ke (call N_rungref1_Wrap [(.int .i64 3), v151] h10) <| fun v155 h33 =>
  kChk (!true || kSame (rLoad v153 h33) v154) <|
  kChk (!false || kSame (rLoad v150 h33) v151) <|
  ke (call N_rungref1_Wrap [(.int .i64 3), v154] h33) <| fun v156 h34 =>
  kq (some v155) <| fun v157 =>
  kq (some v156) <| fun v158 =>
  kChk (!false || kSame (rLoad v153 h34) v154) <|
  kChk (!false || kSame (rLoad v150 h34) v151) <|
  kq (some (gd l54 0)) <| fun v159 =>
  kj (fun l160 h35 =>
  kq (some v49) <| fun v162 =>
  ke (call N_rungref17_truth [v162] h35) <| fun v163 h36 =>
  kq (rAtArr 3 1 v0 (.int .i64 0)) <| fun v164 =>
  ke ((rStore 1 v164 v163 h36).map fun h' => (.tuple [], h')) <| fun v165 h37 =>
  kq (some (gd l160 0)) <| fun v166 =>
  kq (some v157) <| fun v167 =>
  kq (rBin .geq .no false v166 v167) <| fun v168 =>
  ke (call N_rungref17_truth [v168] h37) <| fun v169 h38 =>
  kq (some (gd l160 0)) <| fun v170 =>
  km (mBuildSl T_int64 1 [(.int .i64 0)] 2 [(0, v169), (1, v170)]) h38 <| fun v171 h39 =>
  kq (some v171) <| fun v172 =>
  j148 [v172] h39) <| fun j161 =>
  kIf v159 (
  kq (some (.int .i64 0)) <| fun v173 =>
  j161 [v173] h34) (
  kq (some v49) <| fun v174 =>
  kq (some v174) <| fun v175 =>
  kt (fun v185 =>
  kj (fun l186 h41 =>
  j161 [(gd l186 0)] h41) <| fun j187 =>
  kIf v185 (
  kq (some v158) <| fun v188 =>
  kq (rBin .add .no true v188 (.int .i64 1)) <| fun v189 =>
  kq (some v189) <| fun v190 =>
  j187 [v190] h34) (
  j187 [v158] h34)) <| fun j176 =>
  kgq v175 true (fun k => kq (rAtArr 3 1 v0 (.int .i64 0)) k) <| fun v177 =>
  kgq v175 true (fun k => kq (rLoad v177 h34) k) <| fun v178 =>
  kgq v175 true (fun k => kq (rBin .eql .no true v178 (.int .i64 0)) k) <| fun v179 =>
  kq (rPick v175 v179 (.bool false)) <| fun v180 =>
  kq (some v180) <| fun v181 =>
  kgq v181 true (fun k => kq (some v158) k) <| fun v182 =>
  kgq v181 true (fun k => kq (rBin .lss .no true v182 (.int .i64 32767)) k) <| fun v183 =>
  kq (rPick v181 v183 (.bool false)) <| fun v184 =>
  j176 v184)) (
  kq (rBin .eql .no true v56 (.str [67, 84, 68])) <| fun v191 =>
  kq (some v191) <| fun v192 =>
  kj (fun l193 h42 =>
  j148 [(gd l193 0)] h42) <| fun j194 =>
  kIf v192 (
  kq (some v25) <| fun v195 =>
  kq (rAt 1 v195 (.int .i64 2)) <| fun v196 =>
  kq (rLoad v196 h10) <| fun v197 =>
  kq (some v26) <| fun v198 =>
  kq (rAt 1 v198 (.int .i64 1)) <| fun v199 =>
  kq (rLoad v199 h10) <| fun v200 =>
  ke (call N_rungref1_Wrap [(.int .i64 3), v197] h10) <| fun v201 h43 =>
  kChk (!true || kSame (rLoad v199 h43) v200) <|
  kChk (!false || kSame (rLoad v196 h43) v197) <|
  ke (call N_rungref1_Wrap [(.int .i64 3), v200] h43) <| fun v202 h44 =>
  kq (some v201) <| fun v203 =>
  kq (some v202) <| fun v204 =>
  kChk (!false || kSame (rLoad v199 h44) v200) <|
  kChk (!false || kSame (rLoad v196 h44) v197) <|
  kq (some (gd l54 0)) <| fun v205 =>
  kj (fun l206 h45 =>
  kq (some v49) <| fun v208 =>
  ke (call N_rungref17_truth [v208] h45) <| fun v209 h46 =>
  kq (rAtArr 3 1 v0 (.int .i64 0)) <| fun v210 =>
  ke ((rStore 1 v210 v209 h46).map fun h' => (.tuple [], h')) <| fun v211 h47 =>
  kq (some (gd l206 0)) <| fun v212 =>
  kq (rBin .leq .no true v212 (.int .i64 0)) <| fun v213 =>
  ke (call N_rungref17_truth [v213] h47) <| fun v214 h48 =>
  kq (some (gd l206 0)) <| fun v215 =>
  km (mBuildSl T_int64 1 [(.int .i64 0)] 2 [(0, v214), (1, v215)]) h48 <| fun v216 h49 =>
  kq (some v216) <| fun v217 =>
  j194 [v217] h49) <| fun j207 =>
  kIf v205 (
  kq (some v203) <| fun v218 =>
  kq (some v218) <| fun v219 =>
  j207 [v219] h44) (
  kq (some v49) <| fun v220 =>
  kq (some v220) <| fun v221 =>
  kt (fun v231 =>
  kj (fun l232 h51 =>
  j207 [(gd l232 0)] h51) <| fun j233 =>
  kIf v231 (
  kq (some v204) <| fun v234 =>
  kq (rBin .sub .no true v234 (.int .i64 1)) <| fun v235 =>
  kq (some v235) <| fun v236 =>
  j233 [v236] h44) (
  j233 [v204] h44)) <| fun j222 =>
  kgq v221 true (fun k => kq (rAtArr 3 1 v0 (.int .i64 0)) k) <| fun v223 =>
  kgq v221 true (fun k => kq (rLoad v223 h44) k) <| fun v224 =>
  kgq v221 true (fun k => kq (rBin .eql .no true v224 (.int .i64 0)) k) <| fun v225 =>
  kq (rPick v221 v225 (.bool false)) <| fun v226 =>
  kq (some v226) <| fun v227 =>
  kgq v227 true (fun k => kq (some v204) k) <| fun v228 =>
  kgq v227 true (fun k => kq (rBin .gtr .no true v228 (.int .i64 (-32768))) k) <| fun v229 =>
  kq (rPick v227 v229 (.bool false)) <| fun v230 =>
  j222 v230)) (
  kq (rBin .eql .no true v56 (.str [67, 84, 85, 68])) <| fun v237 =>
  kq (some v237) <| fun v238 =>
  kj (fun l239 h52 =>
  j194 [(gd l239 0)] h52) <| fun j240 =>
  kIf v238 (
  kq (some v25) <| fun v241 =>
  kq (rAt 1 v241 (.int .i64 4)) <| fun v242 =>
  kq (rLoad v242 h10) <| fun v243 =>
  kq (some v26) <| fun v244 =>
  kq (rAt 1 v244 (.int .i64 2)) <| fun v245 =>
  kq (rLoad v245 h10) <| fun v246 =>
  ke (call N_rungref1_Wrap [(.int .i64 3), v243] h10) <| fun v247 h53 =>
  kChk (!true || kSame (rLoad v245 h53) v246) <|
  kChk (!false || kSame (rLoad v242 h53) v243) <|
  ke (call N_rungref1_Wrap [(.int .i64 3), v246] h53) <| fun v248 h54 =>
  kq (some v247) <| fun v249 =>
  kq (some v248) <| fun v250 =>
  kChk (!false || kSame (rLoad v245 h54) v246) <|
  kChk (!false || kSame (rLoad v242 h54) v243) <|
  kq (some v49) <| fun v251 =>
  kq (some v251) <| fun v252 =>
  kgq v252 true (fun k => kq (rAtArr 3 1 v0 (.int .i64 0)) k) <| fun v253 =>
  kgq v252 true (fun k => kq (rLoad v253 h54) k) <| fun v254 =>
  kgq v252 true (fun k => kq (rBin .eql .no true v254 (.int .i64 0)) k) <| fun v255 =>
  kq (rPick v252 v255 (.bool false)) <| fun v256 =>
  kq (some (gd l54 0)) <| fun v257 =>
  kq (some v257) <| fun v258 =>
  kgq v258 true (fun k => kq (rAtArr 3 1 v0 (.int .i64 1)) k) <| fun v259 =>
  kgq v258 true (fun k => kq (rLoad v259 h54) k) <| fun v260 =>
  kgq v258 true (fun k => kq (rBin .eql .no true v260 (.int .i64 0)) k) <| fun v261 =>
  kq (rPick v258 v261 (.bool false)) <| fun v262 =>
  kq (some v256) <| fun v263 =>
  kq (some v262) <| fun v264 =>
  kq (some v25) <| fun v265 =>
  kq (rAt 1 v265 (.int .i64 2)) <| fun v266 =>
  kq (rLoad v266 h54) <| fun v267 =>
  kq (rBin .neq .no true v267 (.int .i64 0)) <| fun v268 =>
  kq (some v268) <| fun v269 =>
  kj (fun l270 h55 =>
  kq (some v49) <| fun v272 =>
  ke (call N_rungref17_truth [v272] h55) <| fun v273 h56 =>
  kq (some (gd l54 0)) <| fun v274 =>
  ke (call N_rungref17_truth [v274] h56) <| fun v275 h57 =>
  kq (rAtArr 3 1 v0 (.int .i64 0)) <| fun v276 =>
  ke ((rStore 1 v276 v273 h57).map fun h' => (.tuple [], h')) <| fun v277 h58 =>
  kq (rAtArr 3 1 v0 (.int .i64 1)) <| fun v278 =>
  ke ((rStore 1 v278 v275 h58).map fun h' => (.tuple [], h')) <| fun v279 h59 =>
  kq (some (gd l270 0)) <| fun v280 =>
  kq (some v249) <| fun v281 =>
  kq (rBin .geq .no false v280 v281) <| fun v282 =>
  ke (call N_rungref17_truth [v282] h59) <| fun v283 h60 =>
  kq (some (gd l270 0)) <| fun v284 =>
  kq (rBin .leq .no true v284 (.int .i64 0)) <| fun v285 =>
  ke (call N_rungref17_truth [v285] h60) <| fun v286 h61 =>
  kq (some (gd l270 0)) <| fun v287 =>
  km (mBuildSl T_int64 1 [(.int .i64 0)] 3 [(0, v283), (1, v286), (2, v287)]) h61 <| fun v288 h62 =>
  kq (some v288) <| fun v289 =>
  j240 [v289] h62) <| fun j271 =>
  kIf v269 (
  kq (some (.int .i64 0)) <| fun v290 =>
  j271 [v290] h54) (
  kq (some v25) <| fun v291 =>
  kq (rAt 1 v291 (.int .i64 3)) <| fun v292 =>
  kq (rLoad v292 h54) <| fun v293 =>
  kq (rBin .neq .no true v293 (.int .i64 0)) <| fun v294 =>
  kq (some v294) <| fun v295 =>
  kj (fun l296 h63 =>
  j271 [(gd l296 0)] h63) <| fun j297 =>
  kIf v295 (
  kq (some v249) <| fun v298 =>
  kq (some v298) <| fun v299 =>
  j297 [v299] h54) (
  kq (some v263) <| fun v300 =>
  kq (some v300) <| fun v301 =>
  kt (fun v310 =>
  kq (some v310) <| fun v311 =>
  kj (fun l312 h65 =>
  j297 [(gd l312 0)] h65) <| fun j313 =>
  kIf v311 (
  kq (some v250) <| fun v314 =>
  kq (rBin .add .no true v314 (.int .i64 1)) <| fun v315 =>
  kq (some v315) <| fun v316 =>
  j313 [v316] h54) (
  kq (some v264) <| fun v317 =>
  kq (some v317) <| fun v318 =>
  kt (fun v327 =>
  kq (some v327) <| fun v328 =>
  kj (fun l329 h67 =>
  j313 [(gd l329 0)] h67) <| fun j330 =>
  kIf v328 (
  kq (some v250) <| fun v331 =>
  kq (rBin .sub .no true v331 (.int .i64 1)) <| fun v332 =>
  kq (some v332) <| fun v333 =>
  j330 [v333] h54) (
  j330 [v250] h54)) <| fun j319 =>
  kgq v318 true (fun k => kq (some v263) k) <| fun v320 =>
  kgq v318 true (fun k => kq (aUn .not v320) k) <| fun v321 =>
  kq (rPick v318 v321 (.bool false)) <| fun v322 =>
  kq (some v322) <| fun v323 =>
  kgq v323 true (fun k => kq (some v250) k) <| fun v324 =>
  kgq v323 true (fun k => kq (rBin .gtr .no true v324 (.int .i64 (-32768))) k) <| fun v325 =>
  kq (rPick v323 v325 (.bool false)) <| fun v326 =>
  j319 v326)) <| fun j302 =>
  kgq v301 true (fun k => kq (some v264) k) <| fun v303 =>
  kgq v301 true (fun k => kq (aUn .not v303) k) <| fun v304 =>
  kq (rPick v301 v304 (.bool false)) <| fun v305 =>
  kq (some v305) <| fun v306 =>
  kgq v306 true (fun k => kq (some v250) k) <| fun v307 =>
  kgq v306 true (fun k => kq (rBin .lss .no true v307 (.int .i64 32767)) k) <| fun v308 =>
  kq (rPick v306 v308 (.bool false)) <| fun v309 =>
  j302 v309))) (
  kq (some a0) <| fun v334 =>
  kq (some v49) <| fun v335 =>
  kq (some v25) <| fun v336 =>
  kq (rAt 1 v336 (.int .i64 1)) <| fun v337 =>
  kq (rLoad v337 h10) <| fun v338 =>
  kq (rLoadA 3 v0 h10) <| fun v339 =>
  kq (some v26) <| fun v340 =>
  kq (some v29) <| fun v341 =>
  ke (call N_rungref1_Wrap [(.int .i64 11), v338] h10) <| fun v342 h68 =>
  kq (aMM aMax2 [v342, (.int .i64 0)]) <| fun v343 =>
  kChk (!true || kSame (rLoadA 3 v0 h68) v339) <|
  kChk (!false || kSame (rLoad v337 h68) v338) <|
  ke (call N_rungref17_timer [v334, v335, v343, v339, v340, v341] h68) <| fun v344 h69 =>
  kq (some v344) <| fun v345 =>
  kq (aExtract v345 0) <| fun v346 =>
  kq (aExtract v345 1) <| fun v347 =>
  kq (some v346) <| fun v348 =>
  kChk (!false || kSame (rLoadA 3 v0 h69) v339) <|
  kChk (!false || kSame (rLoad v337 h69) v338) <|
  ke ((rStore 3 v0 v347 h69).map fun h' => (.tuple [], h')) <| fun v349 h70 =>
  kChk (!false || kSame (rLoadA 3 v0 h70) v339) <|
  kChk (!false || kSame (rLoad v337 h70) v338) <|
  j240 [v348] h70)))))))) <| fun j55 =>
  kIf v53 (
  kq (some v25) <| fun v350 =>
  kq (rAt 1 v350 (.int .i64 1)) <| fun v351 =>
  kq (rLoad v351 h7) <| fun v352 =>
  kq (rBin .neq .no true v352 (.int .i64 0)) <| fun v353 =>
  kq (some v353) <| fun v354 =>
  j55 [v354] h7) (
  j55 [v50] h7))
noncomputable def F_rungref17_Step (call callD : ACall) (a0 a1 a2 a3 a4 : AVal) (h : AH) : Ans :=
  km (pBox T__3_int64 a2) h <| fun v0 h0 =>
  kq (some (.slice none 0 0)) <| fun v1 =>
  km (pBox T__3_int64 (.agg [(.int .i64 0), (.int .i64 0), (.int .i64 0)])) h0 <| fun v2 h1 =>
  kq (some a0) <| fun v3 =>
  ke (call N_rungref15_Pins [v3] h1) <| fun v4 h2 =>
  kq (some v4) <| fun v5 =>
  kq (aExtract v5 0) <| fun v6 =>
  kq (aExtract v5 1) <| fun v7 =>
  kq (some v6) <| fun v8 =>
  kq (some v7) <| fun v9 =>
  kq (some v8) <| fun v10 =>
  kq (rLen v10) <| fun v11 =>
  kq (rBin .eql .no true v11 (.int .i64 0)) <| fun v12 =>
  kIf v12 (
  kq (rBuildA [(.int .i64 0), (.int .i64 0), (.int .i64 0)] 1 []) <| fun v13 =>
  kq (some (.slice none 0 0)) <| fun v14 =>
  ke ((rStore 3 v2 v13 h2).map fun h' => (.tuple [], h')) <| fun v15 h3 =>
  kq (rLoadA 3 v2 h3) <| fun v16 =>
  some (.tuple [v14, v16], h3)) (
  kq (some a1) <| fun v17 =>
  kq (some v8) <| fun v18 =>
  kq (rLen v18) <| fun v19 =>
  ke (call N_rungref17_pad [v17, v19] h2) <| fun v20 h4 =>
  kq (some a3) <| fun v21 =>
  kq (some v9) <| fun v22 =>
  kq (rLen v22) <| fun v23 =>
  ke (call N_rungref17_pad [v21, v23] h4) <| fun v24 h5 =>
  kq (some v20) <| fun v25 =>
  kq (some v24) <| fun v26 =>
  kq (some a4) <| fun v27 =>
  ke (call N_rungref1_Wrap [(.int .i64 4), v27] h5) <| fun v28 h6 =>
  kq (some v28) <| fun v29 =>
  kq (some (.int .i64 0)) <| fun v30 =>
  kLoop (L_rungref17_Step_0 call callD v0 v25 a0 v2 v26 v29) rounds [v30] h6)
theorem F_rungref17_Step_eq (call callD : ACall) (a0 a1 a2 a3 a4 : AVal) (h : AH) : kFunc Tryd.prog [0] call callD N_rungref17_Step [a0, a1, a2, a3, a4] h = F_rungref17_Step call callD a0 a1 a2 a3 a4 h := by kernel_rfl
theorem C_rungref17_Step {ov : AOver} (H : Plain ov) (n : Nat) (a0 a1 a2 a3 a4 : AVal) (h : AH) : kc ov (n + 1) N_rungref17_Step [a0, a1, a2, a3, a4] h = F_rungref17_Step (kc ov n) (kd ov n) a0 a1 a2 a3 a4 h := by
  have hov : ov N_rungref17_Step = none := H _ (by decide)
  unfold kc kd; rw [← F_rungref17_Step_eq]; simp only [kcall, hov]

/-- rung/runghelp.Nums -/
noncomputable def L_runghelp_Nums_0 (call callD : ACall) (a0 : AVal) (a1 : AVal) : (List AVal → AH → Ans) → List AVal → AH → Ans := fun j9 l8 h0 =>
  kq (some (gd l8 0)) <| fun v10 =>
  kq (some a0) <| fun v11 =>
  kq (rLen v11) <| fun v12 =>
  kq (rBin .lss .no false v10 v12) <| fun v13 =>
  kIf v13 (
  kq (some a0) <| fun v14 =>
  kq (some (gd l8 0)) <| fun v15 =>
  kq (rAt 1 v14 v15) <| fun v16 =>
  kq (rLoad v16 h0) <| fun v17 =>
  kq (some a1) <| fun v18 =>
  kq (some (gd l8 0)) <| fun v19 =>
  kq (rAt 1 v18 v19) <| fun v20 =>
  kq (rLoad v20 h0) <| fun v21 =>
  kq (rBin .neq .no false v17 v21) <| fun v22 =>
  kIf v22 (
  kq (some (.bool false)) <| fun v23 =>
  some (v23, h0)) (
  kq (some (gd l8 0)) <| fun v24 =>
  kq (rBin .add .no true v24 (.int .i64 1)) <| fun v25 =>
  kq (some v25) <| fun v26 =>
  j9 [v26] h0)) (
  kq (some (.bool true)) <| fun v27 =>
  some (v27, h0))
noncomputable def F_runghelp_Nums (call callD : ACall) (a0 a1 : AVal) (h : AH) : Ans :=
  kq (some (.bool false)) <| fun v0 =>
  kq (some a0) <| fun v1 =>
  kq (rLen v1) <| fun v2 =>
  kq (some a1) <| fun v3 =>
  kq (rLen v3) <| fun v4 =>
  kq (rBin .neq .no false v2 v4) <| fun v5 =>
  kIf v5 (
  kq (some (.bool false)) <| fun v6 =>
  some (v6, h)) (
  kq (some (.int .i64 0)) <| fun v7 =>
  kLoop (L_runghelp_Nums_0 call callD a0 a1) rounds [v7] h)
theorem F_runghelp_Nums_eq (call callD : ACall) (a0 a1 : AVal) (h : AH) : kFunc Tryd.prog [0] call callD N_runghelp_Nums [a0, a1] h = F_runghelp_Nums call callD a0 a1 h := by kernel_rfl
theorem C_runghelp_Nums {ov : AOver} (H : Plain ov) (n : Nat) (a0 a1 : AVal) (h : AH) : kc ov (n + 1) N_runghelp_Nums [a0, a1] h = F_runghelp_Nums (kc ov n) (kd ov n) a0 a1 h := by
  have hov : ov N_runghelp_Nums = none := H _ (by decide)
  unfold kc kd; rw [← F_runghelp_Nums_eq]; simp only [kcall, hov]

/-- rung/runglaw17.names -/
noncomputable def F_runglaw17_names (call callD : ACall) (h : AH) : Ans :=
  kq (some (.slice none 0 0)) <| fun v0 =>
  km (mBuildSl T_string 1 [(.str [])] 10 [(0, (.str [84, 79, 78])), (1, (.str [84, 79, 70])), (2, (.str [84, 80])), (3, (.str [67, 84, 85])), (4, (.str [67, 84, 68])), (5, (.str [67, 84, 85, 68])), (6, (.str [82, 95, 84, 82, 73, 71])), (7, (.str [70, 95, 84, 82, 73, 71])), (8, (.str [83, 82])), (9, (.str [82, 83]))]) h <| fun v1 h0 =>
  kq (some v1) <| fun v2 =>
  some (v2, h0)
theorem F_runglaw17_names_eq (call callD : ACall) (h : AH) : kFunc Tryd.prog [0] call callD N_runglaw17_names [] h = F_runglaw17_names call callD h := by kernel_rfl
theorem C_runglaw17_names {ov : AOver} (H : Plain ov) (n : Nat) (h : AH) : kc ov (n + 1) N_runglaw17_names [] h = F_runglaw17_names (kc ov n) (kd ov n) h := by
  have hov : ov N_runglaw17_names = none := H _ (by decide)
  unfold kc kd; rw [← F_runglaw17_names_eq]; simp only [kcall, hov]

/-- rung/runghelp.Place -/
noncomputable def F_runghelp_Place (call callD : ACall) (a0 a1 : AVal) (h : AH) : Ans :=
  kq (some (.int .i64 0)) <| fun v0 =>
  kq (some a0) <| fun v1 =>
  kq (some a1) <| fun v2 =>
  kq (rBin .rem .no false v1 v2) <| fun v3 =>
  kq (some v3) <| fun v4 =>
  kq (some v4) <| fun v5 =>
  kq (rBin .lss .no true v5 (.int .i64 0)) <| fun v6 =>
  kj (fun l7 h0 =>
  kq (some (gd l7 0)) <| fun v9 =>
  kq (some v9) <| fun v10 =>
  some (v10, h0)) <| fun j8 =>
  kIf v6 (
  kq (some v4) <| fun v11 =>
  kq (some a1) <| fun v12 =>
  kq (rBin .add .no false v11 v12) <| fun v13 =>
  kq (some v13) <| fun v14 =>
  j8 [v14] h) (
  j8 [v4] h)
theorem F_runghelp_Place_eq (call callD : ACall) (a0 a1 : AVal) (h : AH) : kFunc Tryd.prog [0] call callD N_runghelp_Place [a0, a1] h = F_runghelp_Place call callD a0 a1 h := by kernel_rfl
theorem C_runghelp_Place {ov : AOver} (H : Plain ov) (n : Nat) (a0 a1 : AVal) (h : AH) : kc ov (n + 1) N_runghelp_Place [a0, a1] h = F_runghelp_Place (kc ov n) (kd ov n) a0 a1 h := by
  have hov : ov N_runghelp_Place = none := H _ (by decide)
  unfold kc kd; rw [← F_runghelp_Place_eq]; simp only [kcall, hov]

/-- rung/rungref1.Wrap -/
noncomputable def F_rungref1_Wrap (call callD : ACall) (a0 a1 : AVal) (h : AH) : Ans :=
  kq (some (.int .i64 0)) <| fun v0 =>
  kq (some a0) <| fun v1 =>
  ke (call N_rungref1_Width [v1] h) <| fun v2 h0 =>
  kq (some v2) <| fun v3 =>
  kq (some v3) <| fun v4 =>
  kq (rBin .eql .no true v4 (.int .i64 0)) <| fun v5 =>
  kIf v5 (
  kq (some (.int .i64 0)) <| fun v6 =>
  some (v6, h0)) (
  kq (some a0) <| fun v7 =>
  kq (rBin .eql .no true v7 (.int .i64 1)) <| fun v8 =>
  kIf v8 (
  kq (some a1) <| fun v9 =>
  kq (rBin .neq .no true v9 (.int .i64 0)) <| fun v10 =>
  kIf v10 (
  kq (some (.int .i64 1)) <| fun v11 =>
  some (v11, h0)) (
  kq (some (.int .i64 0)) <| fun v12 =>
  some (v12, h0))) (
  kq (some a1) <| fun v13 =>
  kq (some v3) <| fun v14 =>
  kq (rBin .shl .no true (.int .i64 1) v14) <| fun v15 =>
  kq (rBin .sub .no true v15 (.int .i64 1)) <| fun v16 =>
  kq (rBin .and .no false v13 v16) <| fun v17 =>
  kq (some v17) <| fun v18 =>
  kq (some a0) <| fun v19 =>
  ke (call N_rungref1_Range [v19] h0) <| fun v20 h1 =>
  kq (some v20) <| fun v21 =>
  kq (aExtract v21 0) <| fun v22 =>
  kq (aExtract v21 1) <| fun v23 =>
  kq (some v22) <| fun v24 =>
  kq (some v23) <| fun v25 =>
  kq (some v18) <| fun v26 =>
  kq (some v25) <| fun v27 =>
  kq (rBin .gtr .no false v26 v27) <| fun v28 =>
  kj (fun l29 h2 =>
  kq (some (gd l29 0)) <| fun v31 =>
  kq (some v31) <| fun v32 =>
  some (v32, h2)) <| fun j30 =>
  kIf v28 (
  kq (some v18) <| fun v33 =>
  kq (some v3) <| fun v34 =>
  kq (rBin .shl .no true (.int .i64 1) v34) <| fun v35 =>
  kq (rBin .sub .no false v33 v35) <| fun v36 =>
  kq (some v36) <| fun v37 =>
  j30 [v37] h1) (
  j30 [v18] h1)))
theorem F_rungref1_Wrap_eq (call callD : ACall) (a0 a1 : AVal) (h : AH) : kFunc Tryd.prog [0] call callD N_rungref1_Wrap [a0, a1] h = F_rungref1_Wrap call callD a0 a1 h := by kernel_rfl
theorem C_rungref1_Wrap {ov : AOver} (H : Plain ov) (n : Nat) (a0 a1 : AVal) (h : AH) : kc ov (n + 1) N_rungref1_Wrap [a0, a1] h = F_rungref1_Wrap (kc ov n) (kd ov n) a0 a1 h := by
  have hov : ov N_rungref1_Wrap = none := H _ (by decide)
  unfold kc kd; rw [← F_rungref1_Wrap_eq]; simp only [kcall, hov]

/-- rung/runglaw17.lives -/
noncomputable def L_runglaw17_lives_0 (call callD : ACall) (a1 : AVal) (a0 : AVal) (v3 : AVal) (a2 : AVal) (v6 : AVal) : (List AVal → AH → Ans) → List AVal → AH → Ans := fun j9 l8 h2 =>
  kq (some (gd l8 3)) <| fun v10 =>
  kq (some a1) <| fun v11 =>
  kq (rLen v11) <| fun v12 =>
  kq (rBin .lss .no false v10 v12) <| fun v13 =>
  kq (some v13) <| fun v14 =>
  kt (fun v21 =>
  kIf v21 (
  kq (some a0) <| fun v22 =>
  kq (some a1) <| fun v23 =>
  kq (some (gd l8 3)) <| fun v24 =>
  kq (rAt 1 v23 v24) <| fun v25 =>
  kq (rLoad v25 h2) <| fun v26 =>
  kq (rLoadA 3 v3 h2) <| fun v27 =>
  kq (some (gd l8 0)) <| fun v28 =>
  kq (some a2) <| fun v29 =>
  kq (some (gd l8 3)) <| fun v30 =>
  kq (rAt 1 v29 v30) <| fun v31 =>
  kq (rLoad v31 h2) <| fun v32 =>
  ke (call N_fb_Step [v22, v26, v27, v28, v32] h2) <| fun v33 h4 =>
  kq (some v33) <| fun v34 =>
  kq (aExtract v34 0) <| fun v35 =>
  kq (aExtract v34 1) <| fun v36 =>
  kq (some v35) <| fun v37 =>
  kChk (!false || kSame (rLoad v31 h4) v32) <|
  kChk (!false || kSame (rLoadA 3 v3 h4) v27) <|
  kChk (!false || kSame (rLoad v25 h4) v26) <|
  ke ((rStore 3 v3 v36 h4).map fun h' => (.tuple [], h')) <| fun v38 h5 =>
  kChk (!false || kSame (rLoad v31 h5) v32) <|
  kChk (!false || kSame (rLoadA 3 v3 h5) v27) <|
  kChk (!false || kSame (rLoad v25 h5) v26) <|
  kq (some a0) <| fun v39 =>
  kq (some a1) <| fun v40 =>
  kq (some (gd l8 3)) <| fun v41 =>
  kq (rAt 1 v40 v41) <| fun v42 =>
  kq (rLoad v42 h5) <| fun v43 =>
  kq (rLoadA 3 v6 h5) <| fun v44 =>
  kq (some (gd l8 2)) <| fun v45 =>
  kq (some a2) <| fun v46 =>
  kq (some (gd l8 3)) <| fun v47 =>
  kq (rAt 1 v46 v47) <| fun v48 =>
  kq (rLoad v48 h5) <| fun v49 =>
  ke (call N_rungref17_Step [v39, v43, v44, v45, v49] h5) <| fun v50 h6 =>
  kq (some v50) <| fun v51 =>
  kq (aExtract v51 0) <| fun v52 =>
  kq (aExtract v51 1) <| fun v53 =>
  kq (some v52) <| fun v54 =>
  kChk (!false || kSame (rLoad v48 h6) v49) <|
  kChk (!false || kSame (rLoadA 3 v6 h6) v44) <|
  kChk (!false || kSame (rLoad v42 h6) v43) <|
  ke ((rStore 3 v6 v53 h6).map fun h' => (.tuple [], h')) <| fun v55 h7 =>
  kChk (!false || kSame (rLoad v48 h7) v49) <|
  kChk (!false || kSame (rLoadA 3 v6 h7) v44) <|
  kChk (!false || kSame (rLoad v42 h7) v43) <|
  kq (some v37) <| fun v56 =>
  kq (some v54) <| fun v57 =>
  ke (call N_runghelp_Nums [v56, v57] h7) <| fun v58 h8 =>
  kq (aUn .not v58) <| fun v59 =>
  kq (some v59) <| fun v60 =>
  kt (fun v66 =>
  kIf v66 (
  kq (some (.slice none 0 0)) <| fun v67 =>
  kq (some (.bool false)) <| fun v68 =>
  some (.tuple [v67, v68], h8)) (
  kq (some (gd l8 1)) <| fun v69 =>
  kq (some v37) <| fun v70 =>
  km (mBuildSl T___int64 1 [(.slice none 0 0)] 1 [(0, v70)]) h8 <| fun v71 h10 =>
  ke (rAppend T___int64 1 24 v69 v71 h10) <| fun v72 h11 =>
  kq (some v72) <| fun v73 =>
  kq (some (gd l8 3)) <| fun v74 =>
  kq (rBin .add .no true v74 (.int .i64 1)) <| fun v75 =>
  kq (some v75) <| fun v76 =>
  j9 [v37, v73, v54, v76] h11)) <| fun j61 =>
  kgq v60 false (fun k => kq (rLoadA 3 v3 h8) k) <| fun v62 =>
  kgq v60 false (fun k => kq (rLoadA 3 v6 h8) k) <| fun v63 =>
  kgq v60 false (fun k => kq (rBin .neq (.ints 3) false v62 v63) k) <| fun v64 =>
  kq (rPick v60 (.bool true) v64) <| fun v65 =>
  j61 v65) (
  kq (some (gd l8 1)) <| fun v77 =>
  kq (some v77) <| fun v78 =>
  kq (some (.bool true)) <| fun v79 =>
  some (.tuple [v78, v79], h2))) <| fun j15 =>
  kgq v14 true (fun k => kq (some (gd l8 3)) k) <| fun v16 =>
  kgq v14 true (fun k => kq (some a2) k) <| fun v17 =>
  kgq v14 true (fun k => kq (rLen v17) k) <| fun v18 =>
  kgq v14 true (fun k => kq (rBin .lss .no false v16 v18) k) <| fun v19 =>
  kq (rPick v14 v19 (.bool false)) <| fun v20 =>
  j15 v20
noncomputable def F_runglaw17_lives (call callD : ACall) (a0 a1 a2 : AVal) (h : AH) : Ans :=
  kq (some (.slice none 0 0)) <| fun v0 =>
  kq (some (.bool false)) <| fun v1 =>
  kq (some (.slice none 0 0)) <| fun v2 =>
  km (pBox T__3_int64 (.agg [(.int .i64 0), (.int .i64 0), (.int .i64 0)])) h <| fun v3 h0 =>
  kq (some (.slice none 0 0)) <| fun v4 =>
  kq (some (.slice none 0 0)) <| fun v5 =>
  km (pBox T__3_int64 (.agg [(.int .i64 0), (.int .i64 0), (.int .i64 0)])) h0 <| fun v6 h1 =>
  kq (some (.int .i64 0)) <| fun v7 =>
  kLoop (L_runglaw17_lives_0 call callD a1 a0 v3 a2 v6) rounds [v2, v4, v5, v7] h1
theorem F_runglaw17_lives_eq (call callD : ACall) (a0 a1 a2 : AVal) (h : AH) : kFunc Tryd.prog [0] call callD N_runglaw17_lives [a0, a1, a2] h = F_runglaw17_lives call callD a0 a1 a2 h := by kernel_rfl
theorem C_runglaw17_lives {ov : AOver} (H : Plain ov) (n : Nat) (a0 a1 a2 : AVal) (h : AH) : kc ov (n + 1) N_runglaw17_lives [a0, a1, a2] h = F_runglaw17_lives (kc ov n) (kd ov n) a0 a1 a2 h := by
  have hov : ov N_runglaw17_lives = none := H _ (by decide)
  unfold kc kd; rw [← F_runglaw17_lives_eq]; simp only [kcall, hov]

/-- rung/fb.of -/
noncomputable def F_fb_of (call callD : ACall) (a0 : AVal) (h : AH) : Ans :=
  kq (some .nilIface) <| fun v0 =>
  kq (some a0) <| fun v1 =>
  kq (rBin .eql .no true v1 (.str [82, 95, 84, 82, 73, 71])) <| fun v2 =>
  kq (some v2) <| fun v3 =>
  kIf v3 (
  kq (rBuild [(.bool false)] [(0, 1)] []) <| fun v4 =>
  kq (some (.iface T_fb_edge v4)) <| fun v5 =>
  kq (some v5) <| fun v6 =>
  some (v6, h)) (
  kq (rBin .eql .no true v1 (.str [70, 95, 84, 82, 73, 71])) <| fun v7 =>
  kq (some v7) <| fun v8 =>
  kIf v8 (
  kq (rBuild [(.bool false)] [(0, 1)] [(0, (.bool true))]) <| fun v9 =>
  kq (some (.iface T_fb_edge v9)) <| fun v10 =>
  kq (some v10) <| fun v11 =>
  some (v11, h)) (
  kq (rBin .eql .no true v1 (.str [83, 82])) <| fun v12 =>
  kq (some v12) <| fun v13 =>
  kIf v13 (
  kq (rBuild [(.str []), (.str [])] [(0, 1), (1, 1)] [(0, (.str [83, 49])), (1, (.str [82]))]) <| fun v14 =>
  kq (some (.iface T_fb_latch v14)) <| fun v15 =>
  kq (some v15) <| fun v16 =>
  some (v16, h)) (
  kq (rBin .eql .no true v1 (.str [82, 83])) <| fun v17 =>
  kq (some v17) <| fun v18 =>
  kIf v18 (
  kq (rBuild [(.str []), (.str [])] [(0, 1), (1, 1)] [(0, (.str [83])), (1, (.str [82, 49]))]) <| fun v19 =>
  kq (some (.iface T_fb_latch v19)) <| fun v20 =>
  kq (some v20) <| fun v21 =>
  some (v21, h)) (
  kq (rBin .eql .no true v1 (.str [67, 84, 85])) <| fun v22 =>
  kq (some v22) <| fun v23 =>
  kIf v23 (
  kq (rBuild [(.str []), (.str []), (.str []), (.str [])] [(0, 1), (1, 1), (2, 1), (3, 1)] [(0, (.str [67, 85])), (2, (.str [82]))]) <| fun v24 =>
  kq (some (.iface T_fb_count v24)) <| fun v25 =>
  kq (some v25) <| fun v26 =>
  some (v26, h)) (
  kq (rBin .eql .no true v1 (.str [67, 84, 68])) <| fun v27 =>
  kq (some v27) <| fun v28 =>
  kIf v28 (
  kq (rBuild [(.str []), (.str []), (.str []), (.str [])] [(0, 1), (1, 1), (2, 1), (3, 1)] [(1, (.str [67, 68])), (3, (.str [76, 68]))]) <| fun v29 =>
  kq (some (.iface T_fb_count v29)) <| fun v30 =>
  kq (some v30) <| fun v31 =>
  some (v31, h)) (
  kq (rBin .eql .no true v1 (.str [67, 84, 85, 68])) <| fun v32 =>
  kq (some v32) <| fun v33 =>
  kIf v33 (
  kq (rBuild [(.str []), (.str []), (.str []), (.str [])] [(0, 1), (1, 1), (2, 1), (3, 1)] [(0, (.str [67, 85])), (1, (.str [67, 68])), (2, (.str [82])), (3, (.str [76, 68]))]) <| fun v34 =>
  kq (some (.iface T_fb_count v34)) <| fun v35 =>
  kq (some v35) <| fun v36 =>
  some (v36, h)) (
  kq (rBin .eql .no true v1 (.str [84, 79, 78])) <| fun v37 =>
  kq (some v37) <| fun v38 =>
  kIf v38 (
  kq (rBuild [] [] []) <| fun v39 =>
  kq (some (.iface T_fb_ton v39)) <| fun v40 =>
  kq (some v40) <| fun v41 =>
  some (v41, h)) (
  kq (rBin .eql .no true v1 (.str [84, 79, 70])) <| fun v42 =>
  kq (some v42) <| fun v43 =>
  kIf v43 (
  kq (rBuild [] [] []) <| fun v44 =>
  kq (some (.iface T_fb_tof v44)) <| fun v45 =>
  kq (some v45) <| fun v46 =>
  some (v46, h)) (
  kq (rBin .eql .no true v1 (.str [84, 80])) <| fun v47 =>
  kq (some v47) <| fun v48 =>
  kIf v48 (
  kq (rBuild [] [] []) <| fun v49 =>
  kq (some (.iface T_fb_tp v49)) <| fun v50 =>
  kq (some v50) <| fun v51 =>
  some (v51, h)) (
  kq (some .nilIface) <| fun v52 =>
  some (v52, h)))))))))))
theorem F_fb_of_eq (call callD : ACall) (a0 : AVal) (h : AH) : kFunc Tryd.prog [0] call callD N_fb_of [a0] h = F_fb_of call callD a0 h := by kernel_rfl
theorem C_fb_of {ov : AOver} (H : Plain ov) (n : Nat) (a0 : AVal) (h : AH) : kc ov (n + 1) N_fb_of [a0] h = F_fb_of (kc ov n) (kd ov n) a0 h := by
  have hov : ov N_fb_of = none := H _ (by decide)
  unfold kc kd; rw [← F_fb_of_eq]; simp only [kcall, hov]

/-- rung/types.Pins -/
noncomputable def F_types_Pins (call callD : ACall) (a0 : AVal) (h : AH) : Ans :=
  kq (some (.slice none 0 0)) <| fun v0 =>
  kq (some (.slice none 0 0)) <| fun v1 =>
  kq (some a0) <| fun v2 =>
  ke (call N_types_pins [v2] h) <| fun v3 h0 =>
  kq (some v3) <| fun v4 =>
  kq (aExtract v4 0) <| fun v5 =>
  kq (aExtract v4 1) <| fun v6 =>
  kq (aExtract v4 2) <| fun v7 =>
  kq (some v5) <| fun v8 =>
  kq (some v6) <| fun v9 =>
  kq (some v7) <| fun v10 =>
  kq (some v8) <| fun v11 =>
  ke (call N_types_every [v11, (.int .i64 0)] h0) <| fun v12 h1 =>
  kq (some v9) <| fun v13 =>
  ke (call N_types_every [v13, (.int .i64 0)] h1) <| fun v14 h2 =>
  kq (some v12) <| fun v15 =>
  kq (some v14) <| fun v16 =>
  some (.tuple [v15, v16], h2)
theorem F_types_Pins_eq (call callD : ACall) (a0 : AVal) (h : AH) : kFunc Tryd.prog [0] call callD N_types_Pins [a0] h = F_types_Pins call callD a0 h := by kernel_rfl
theorem C_types_Pins {ov : AOver} (H : Plain ov) (n : Nat) (a0 : AVal) (h : AH) : kc ov (n + 1) N_types_Pins [a0] h = F_types_Pins (kc ov n) (kd ov n) a0 h := by
  have hov : ov N_types_Pins = none := H _ (by decide)
  unfold kc kd; rw [← F_types_Pins_eq]; simp only [kcall, hov]

/-- rung/num.Wrap -/
noncomputable def F_num_Wrap (call callD : ACall) (a0 a1 : AVal) (h : AH) : Ans :=
  kq (some (.int .i64 0)) <| fun v0 =>
  kq (some a0) <| fun v1 =>
  ke (call N_num_of [v1] h) <| fun v2 h0 =>
  kq (some v2) <| fun v3 =>
  kq (aExtract v3 0) <| fun v4 =>
  kq (aExtract v3 1) <| fun v5 =>
  km (pBox T_num_kind (.agg [(.str []), (.int .i64 0), (.bool false), (.bool false)])) h0 <| fun v6 h1 =>
  ke ((rStore 4 v6 v4 h1).map fun h' => (.tuple [], h')) <| fun v7 h2 =>
  kq (some v5) <| fun v8 =>
  kq (some v8) <| fun v9 =>
  kq (aUn .not v9) <| fun v10 =>
  kIf v10 (
  kq (some (.int .i64 0)) <| fun v11 =>
  some (v11, h2)) (
  kq (some a0) <| fun v12 =>
  kq (rBin .eql .no true v12 (.int .i64 1)) <| fun v13 =>
  kIf v13 (
  kq (some a1) <| fun v14 =>
  kq (rBin .neq .no true v14 (.int .i64 0)) <| fun v15 =>
  ke (call N_num_truth [v15] h2) <| fun v16 h3 =>
  kq (some v16) <| fun v17 =>
  some (v17, h3)) (
  kq (rFieldP 1 v6) <| fun v18 =>
  kq (rLoad v18 h2) <| fun v19 =>
  kq (rBin .sub .no true (.int .i64 64) v19) <| fun v20 =>
  kq (rConvI .u64 v20) <| fun v21 =>
  kq (some v21) <| fun v22 =>
  kq (rFieldP 2 v6) <| fun v23 =>
  kq (rLoad v23 h2) <| fun v24 =>
  kIf v24 (
  kq (some a1) <| fun v25 =>
  kq (some v22) <| fun v26 =>
  kq (rBin .shl .no false v25 v26) <| fun v27 =>
  kq (some v22) <| fun v28 =>
  kq (rBin .shr .no false v27 v28) <| fun v29 =>
  kq (some v29) <| fun v30 =>
  some (v30, h2)) (
  kq (some a1) <| fun v31 =>
  kq (rConvI .u64 v31) <| fun v32 =>
  kq (some v22) <| fun v33 =>
  kq (rBin .shl .no false v32 v33) <| fun v34 =>
  kq (some v22) <| fun v35 =>
  kq (rBin .shr .no false v34 v35) <| fun v36 =>
  kq (rConvI .i64 v36) <| fun v37 =>
  kq (some v37) <| fun v38 =>
  some (v38, h2))))
theorem F_num_Wrap_eq (call callD : ACall) (a0 a1 : AVal) (h : AH) : kFunc Tryd.prog [0] call callD N_num_Wrap [a0, a1] h = F_num_Wrap call callD a0 a1 h := by kernel_rfl
theorem C_num_Wrap {ov : AOver} (H : Plain ov) (n : Nat) (a0 a1 : AVal) (h : AH) : kc ov (n + 1) N_num_Wrap [a0, a1] h = F_num_Wrap (kc ov n) (kd ov n) a0 a1 h := by
  have hov : ov N_num_Wrap = none := H _ (by decide)
  unfold kc kd; rw [← F_num_Wrap_eq]; simp only [kcall, hov]

/-- rung/fb.Step$1 -/
noncomputable def L_fb_Step_1_0 (call callD : ACall) (v1 : AVal) (v0 : AVal) (a1 : AVal) (a3 : AVal) (a2 : AVal) : (List AVal → AH → Ans) → List AVal → AH → Ans := fun j4 l3 h0 =>
  kq (rBin .lss .no false (gd l3 0) v1) <| fun v5 =>
  kIf v5 (
  kq (some (gd l3 0)) <| fun v6 =>
  kq (rAt 1 v0 (gd l3 0)) <| fun v7 =>
  kq (rLoad v7 h0) <| fun v8 =>
  kq (some v6) <| fun v9 =>
  kq (some v8) <| fun v10 =>
  kq (some v9) <| fun v11 =>
  kq (some a1) <| fun v12 =>
  kq (rLen v12) <| fun v13 =>
  kq (rBin .lss .no false v11 v13) <| fun v14 =>
  kj (fun l15 h1 =>
  kq (rBin .add .no true (gd l3 0) (.int .i64 1)) <| fun v17 =>
  kq (some v17) <| fun v18 =>
  j4 [v18] h1) <| fun j16 =>
  kIf v14 (
  kq (rLoad a3 h0) <| fun v19 =>
  kq (aNilCheck v19) <| fun v20 =>
  kq (rFieldP 0 v20) <| fun v21 =>
  kq (rLoad v21 h0) <| fun v22 =>
  kq (some v10) <| fun v23 =>
  kq (rLoad a2 h0) <| fun v24 =>
  kq (some v10) <| fun v25 =>
  kq (some a1) <| fun v26 =>
  kq (some v9) <| fun v27 =>
  kq (rAt 1 v26 v27) <| fun v28 =>
  kq (rLoad v28 h0) <| fun v29 =>
  ke (call N_types_Pin [v24, v25] h0) <| fun v30 h2 =>
  kChk (!true || kSame (rLoad v28 h2) v29) <|
  kChk (!false || kSame (rLoad a2 h2) v24) <|
  kChk (!true || kSame (rLoad v21 h2) v22) <|
  kChk (!true || kSame (rLoad a3 h2) v19) <|
  ke (call N_num_Wrap [v30, v29] h2) <| fun v31 h3 =>
  kChk (!false || kSame (rLoad v28 h3) v29) <|
  kChk (!false || kSame (rLoad a2 h3) v24) <|
  kChk (!true || kSame (rLoad v21 h3) v22) <|
  kChk (!true || kSame (rLoad a3 h3) v19) <|
  ke ((rMapSet .string v22 v23 v31 h3).map fun h' => (.tuple [], h')) <| fun v32 h4 =>
  kChk (!false || kSame (rLoad v28 h4) v29) <|
  kChk (!false || kSame (rLoad a2 h4) v24) <|
  kChk (!false || kSame (rLoad v21 h4) v22) <|
  kChk (!false || kSame (rLoad a3 h4) v19) <|
  j16 [] h4) (
  j16 [] h0)) (
  some (.tuple [], h0))
noncomputable def F_fb_Step_1 (call callD : ACall) (a0 a1 a2 a3 : AVal) (h : AH) : Ans :=
  kq (some a0) <| fun v0 =>
  kq (rLen v0) <| fun v1 =>
  kq (some (.int .i64 0)) <| fun v2 =>
  kLoop (L_fb_Step_1_0 call callD v1 v0 a1 a3 a2) rounds [v2] h
theorem F_fb_Step_1_eq (call callD : ACall) (a0 a1 a2 a3 : AVal) (h : AH) : kFunc Tryd.prog [0] call callD N_fb_Step_1 [a0, a1, a2, a3] h = F_fb_Step_1 call callD a0 a1 a2 a3 h := by kernel_rfl
theorem C_fb_Step_1 {ov : AOver} (H : Plain ov) (n : Nat) (a0 a1 a2 a3 : AVal) (h : AH) : kc ov (n + 1) N_fb_Step_1 [a0, a1, a2, a3] h = F_fb_Step_1 (kc ov n) (kd ov n) a0 a1 a2 a3 h := by
  have hov : ov N_fb_Step_1 = none := H _ (by decide)
  unfold kc kd; rw [← F_fb_Step_1_eq]; simp only [kcall, hov]

/-- rung/types.Pin -/
noncomputable def L_types_Pin_0 (call callD : ACall) (v15 : AVal) (a1 : AVal) : (List AVal → AH → Ans) → List AVal → AH → Ans := fun j18 l17 h2 =>
  kq (some (gd l17 0)) <| fun v19 =>
  kq (rBin .add .no true v19 (.int .i64 1)) <| fun v20 =>
  kq (some v15) <| fun v21 =>
  kq (rLen v21) <| fun v22 =>
  kq (rBin .lss .no false v20 v22) <| fun v23 =>
  kIf v23 (
  kq (some v15) <| fun v24 =>
  kq (some (gd l17 0)) <| fun v25 =>
  kq (rAt 1 v24 v25) <| fun v26 =>
  kq (rLoad v26 h2) <| fun v27 =>
  kq (some a1) <| fun v28 =>
  kq (rBin .eql .no false v27 v28) <| fun v29 =>
  kIf v29 (
  kq (some v15) <| fun v30 =>
  kq (some (gd l17 0)) <| fun v31 =>
  kq (rBin .add .no true v31 (.int .i64 1)) <| fun v32 =>
  kq (rAt 1 v30 v32) <| fun v33 =>
  kq (rLoad v33 h2) <| fun v34 =>
  ke (call N_num_Kind [v34] h2) <| fun v35 h3 =>
  kq (some v35) <| fun v36 =>
  some (v36, h3)) (
  kq (some (gd l17 0)) <| fun v37 =>
  kq (rBin .add .no true v37 (.int .i64 2)) <| fun v38 =>
  kq (some v38) <| fun v39 =>
  j18 [v39] h2)) (
  kq (some (.int .i64 0)) <| fun v40 =>
  some (v40, h2))
noncomputable def F_types_Pin (call callD : ACall) (a0 a1 : AVal) (h : AH) : Ans :=
  kq (some (.int .i64 0)) <| fun v0 =>
  kq (some a0) <| fun v1 =>
  ke (call N_types_pins [v1] h) <| fun v2 h0 =>
  kq (some v2) <| fun v3 =>
  kq (aExtract v3 0) <| fun v4 =>
  kq (aExtract v3 1) <| fun v5 =>
  kq (aExtract v3 2) <| fun v6 =>
  kq (some v4) <| fun v7 =>
  kq (some v5) <| fun v8 =>
  kq (some v6) <| fun v9 =>
  kq (some v7) <| fun v10 =>
  kq (rBin .add .no true v10 (.str [32])) <| fun v11 =>
  kq (some v8) <| fun v12 =>
  kq (rBin .add .no false v11 v12) <| fun v13 =>
  ke (call N_strings_Fields [v13] h0) <| fun v14 h1 =>
  kq (some v14) <| fun v15 =>
  kq (some (.int .i64 0)) <| fun v16 =>
  kLoop (L_types_Pin_0 call callD v15 a1) rounds [v16] h1
theorem F_types_Pin_eq (call callD : ACall) (a0 a1 : AVal) (h : AH) : kFunc Tryd.prog [0] call callD N_types_Pin [a0, a1] h = F_types_Pin call callD a0 a1 h := by kernel_rfl
theorem C_types_Pin {ov : AOver} (H : Plain ov) (n : Nat) (a0 a1 : AVal) (h : AH) : kc ov (n + 1) N_types_Pin [a0, a1] h = F_types_Pin (kc ov n) (kd ov n) a0 a1 h := by
  have hov : ov N_types_Pin = none := H _ (by decide)
  unfold kc kd; rw [← F_types_Pin_eq]; simp only [kcall, hov]

/-- rung/rungref15.Pins -/
noncomputable def F_rungref15_Pins (call callD : ACall) (a0 : AVal) (h : AH) : Ans :=
  kq (some (.slice none 0 0)) <| fun v0 =>
  kq (some (.slice none 0 0)) <| fun v1 =>
  kq (some a0) <| fun v2 =>
  kq (rBin .eql .no true v2 (.str [84, 79, 78])) <| fun v3 =>
  kq (some v3) <| fun v4 =>
  kj (fun l5 h0 =>
  kIf (gd l5 0) (
  km (mBuildSl T_string 1 [(.str [])] 2 [(0, (.str [73, 78])), (1, (.str [80, 84]))]) h0 <| fun v7 h1 =>
  km (mBuildSl T_string 1 [(.str [])] 2 [(0, (.str [81])), (1, (.str [69, 84]))]) h1 <| fun v8 h2 =>
  kq (some v7) <| fun v9 =>
  kq (some v8) <| fun v10 =>
  some (.tuple [v9, v10], h2)) (
  kq (rBin .eql .no true v2 (.str [67, 84, 85])) <| fun v11 =>
  kq (some v11) <| fun v12 =>
  kIf v12 (
  km (mBuildSl T_string 1 [(.str [])] 3 [(0, (.str [67, 85])), (1, (.str [82])), (2, (.str [80, 86]))]) h0 <| fun v13 h3 =>
  km (mBuildSl T_string 1 [(.str [])] 2 [(0, (.str [81])), (1, (.str [67, 86]))]) h3 <| fun v14 h4 =>
  kq (some v13) <| fun v15 =>
  kq (some v14) <| fun v16 =>
  some (.tuple [v15, v16], h4)) (
  kq (rBin .eql .no true v2 (.str [67, 84, 68])) <| fun v17 =>
  kq (some v17) <| fun v18 =>
  kIf v18 (
  km (mBuildSl T_string 1 [(.str [])] 3 [(0, (.str [67, 68])), (1, (.str [76, 68])), (2, (.str [80, 86]))]) h0 <| fun v19 h5 =>
  km (mBuildSl T_string 1 [(.str [])] 2 [(0, (.str [81])), (1, (.str [67, 86]))]) h5 <| fun v20 h6 =>
  kq (some v19) <| fun v21 =>
  kq (some v20) <| fun v22 =>
  some (.tuple [v21, v22], h6)) (
  kq (rBin .eql .no true v2 (.str [67, 84, 85, 68])) <| fun v23 =>
  kq (some v23) <| fun v24 =>
  kIf v24 (
  km (mBuildSl T_string 1 [(.str [])] 5 [(0, (.str [67, 85])), (1, (.str [67, 68])), (2, (.str [82])), (3, (.str [76, 68])), (4, (.str [80, 86]))]) h0 <| fun v25 h7 =>
  km (mBuildSl T_string 1 [(.str [])] 3 [(0, (.str [81, 85])), (1, (.str [81, 68])), (2, (.str [67, 86]))]) h7 <| fun v26 h8 =>
  kq (some v25) <| fun v27 =>
  kq (some v26) <| fun v28 =>
  some (.tuple [v27, v28], h8)) (
  kq (rBin .eql .no true v2 (.str [82, 95, 84, 82, 73, 71])) <| fun v29 =>
  kq (some v29) <| fun v30 =>
  kj (fun l31 h9 =>
  kIf (gd l31 0) (
  km (mBuildSl T_string 1 [(.str [])] 1 [(0, (.str [67, 76, 75]))]) h9 <| fun v33 h10 =>
  km (mBuildSl T_string 1 [(.str [])] 1 [(0, (.str [81]))]) h10 <| fun v34 h11 =>
  kq (some v33) <| fun v35 =>
  kq (some v34) <| fun v36 =>
  some (.tuple [v35, v36], h11)) (
  kq (rBin .eql .no true v2 (.str [83, 82])) <| fun v37 =>
  kq (some v37) <| fun v38 =>
  kIf v38 (
  km (mBuildSl T_string 1 [(.str [])] 2 [(0, (.str [83, 49])), (1, (.str [82]))]) h9 <| fun v39 h12 =>
  km (mBuildSl T_string 1 [(.str [])] 1 [(0, (.str [81, 49]))]) h12 <| fun v40 h13 =>
  kq (some v39) <| fun v41 =>
  kq (some v40) <| fun v42 =>
  some (.tuple [v41, v42], h13)) (
  kq (rBin .eql .no true v2 (.str [82, 83])) <| fun v43 =>
  kq (some v43) <| fun v44 =>
  kIf v44 (
  km (mBuildSl T_string 1 [(.str [])] 2 [(0, (.str [83])), (1, (.str [82, 49]))]) h9 <| fun v45 h14 =>
  km (mBuildSl T_string 1 [(.str [])] 1 [(0, (.str [81, 49]))]) h14 <| fun v46 h15 =>
  kq (some v45) <| fun v47 =>
  kq (some v46) <| fun v48 =>
  some (.tuple [v47, v48], h15)) (
  kq (some (.slice none 0 0)) <| fun v49 =>
  kq (some (.slice none 0 0)) <| fun v50 =>
  some (.tuple [v49, v50], h9))))) <| fun j32 =>
  kIf v30 (
  j32 [v30] h0) (
  kq (rBin .eql .no true v2 (.str [70, 95, 84, 82, 73, 71])) <| fun v51 =>
  kq (some v51) <| fun v52 =>
  j32 [v52] h0)))))) <| fun j6 =>
  kIf v4 (
  j6 [v4] h) (
  kq (rBin .eql .no true v2 (.str [84, 79, 70])) <| fun v53 =>
  kq (some v53) <| fun v54 =>
  kj (fun l55 h16 =>
  j6 [(gd l55 0)] h16) <| fun j56 =>
  kIf v54 (
  j56 [v54] h) (
  kq (rBin .eql .no true v2 (.str [84, 80])) <| fun v57 =>
  kq (some v57) <| fun v58 =>
  j56 [v58] h))
theorem F_rungref15_Pins_eq (call callD : ACall) (a0 : AVal) (h : AH) : kFunc Tryd.prog [0] call callD N_rungref15_Pins [a0] h = F_rungref15_Pins call callD a0 h := by kernel_rfl
theorem C_rungref15_Pins {ov : AOver} (H : Plain ov) (n : Nat) (a0 : AVal) (h : AH) : kc ov (n + 1) N_rungref15_Pins [a0] h = F_rungref15_Pins (kc ov n) (kd ov n) a0 h := by
  have hov : ov N_rungref15_Pins = none := H _ (by decide)
  unfold kc kd; rw [← F_rungref15_Pins_eq]; simp only [kcall, hov]

/-- rung/rungref17.pad -/
noncomputable def F_rungref17_pad (call callD : ACall) (a0 a1 : AVal) (h : AH) : Ans :=
  kq (some (.slice none 0 0)) <| fun v0 =>
  kq (some a1) <| fun v1 =>
  km (mMakeSl T_int64 1 8 [(.int .i64 0)] v1 v1) h <| fun v2 h0 =>
  kq (some v2) <| fun v3 =>
  kq (some v3) <| fun v4 =>
  kq (some a0) <| fun v5 =>
  ke (rCopy 1 v4 v5 h0) <| fun v6 h1 =>
  kq (some v3) <| fun v7 =>
  kq (some v7) <| fun v8 =>
  some (v8, h1)
theorem F_rungref17_pad_eq (call callD : ACall) (a0 a1 : AVal) (h : AH) : kFunc Tryd.prog [0] call callD N_rungref17_pad [a0, a1] h = F_rungref17_pad call callD a0 a1 h := by kernel_rfl
theorem C_rungref17_pad {ov : AOver} (H : Plain ov) (n : Nat) (a0 a1 : AVal) (h : AH) : kc ov (n + 1) N_rungref17_pad [a0, a1] h = F_rungref17_pad (kc ov n) (kd ov n) a0 a1 h := by
  have hov : ov N_rungref17_pad = none := H _ (by decide)
  unfold kc kd; rw [← F_rungref17_pad_eq]; simp only [kcall, hov]

/-- rung/rungref17.truth -/
noncomputable def F_rungref17_truth (call callD : ACall) (a0 : AVal) (h : AH) : Ans :=
  kq (some (.int .i64 0)) <| fun v0 =>
  kq (some a0) <| fun v1 =>
  kIf v1 (
  kq (some (.int .i64 1)) <| fun v2 =>
  some (v2, h)) (
  kq (some (.int .i64 0)) <| fun v3 =>
  some (v3, h))
theorem F_rungref17_truth_eq (call callD : ACall) (a0 : AVal) (h : AH) : kFunc Tryd.prog [0] call callD N_rungref17_truth [a0] h = F_rungref17_truth call callD a0 h := by kernel_rfl
theorem C_rungref17_truth {ov : AOver} (H : Plain ov) (n : Nat) (a0 : AVal) (h : AH) : kc ov (n + 1) N_rungref17_truth [a0] h = F_rungref17_truth (kc ov n) (kd ov n) a0 h := by
  have hov : ov N_rungref17_truth = none := H _ (by decide)
  unfold kc kd; rw [← F_rungref17_truth_eq]; simp only [kcall, hov]

/-- rung/rungref17.timer -/
noncomputable def F_rungref17_timer (call callD : ACall) (a0 a1 a2 a3 a4 a5 : AVal) (h : AH) : Ans :=
  km (pBox T__3_int64 a3) h <| fun v0 h0 =>
  kq (some (.slice none 0 0)) <| fun v1 =>
  km (pBox T__3_int64 (.agg [(.int .i64 0), (.int .i64 0), (.int .i64 0)])) h0 <| fun v2 h1 =>
  kq (some a4) <| fun v3 =>
  kq (rAt 1 v3 (.int .i64 0)) <| fun v4 =>
  kq (rLoad v4 h1) <| fun v5 =>
  kq (rBin .neq .no true v5 (.int .i64 0)) <| fun v6 =>
  kq (some a4) <| fun v7 =>
  kq (rAt 1 v7 (.int .i64 1)) <| fun v8 =>
  kq (rLoad v8 h1) <| fun v9 =>
  ke (call N_rungref1_Wrap [(.int .i64 11), v9] h1) <| fun v10 h2 =>
  kq (some v6) <| fun v11 =>
  kq (some v10) <| fun v12 =>
  kChk (!false || kSame (rLoad v8 h2) v9) <|
  kChk (!true || kSame (rLoad v4 h2) v5) <|
  kq (some a1) <| fun v13 =>
  kq (some v13) <| fun v14 =>
  kt (fun v20 =>
  kq (some v20) <| fun v21 =>
  kq (some a1) <| fun v22 =>
  kq (aUn .not v22) <| fun v23 =>
  kq (some v23) <| fun v24 =>
  kt (fun v30 =>
  kq (some v30) <| fun v31 =>
  kq (some a0) <| fun v32 =>
  kj (fun l33 h5 =>
  kq (some a1) <| fun v35 =>
  ke (call N_rungref17_truth [v35] h5) <| fun v36 h6 =>
  kq (rAtArr 3 1 v0 (.int .i64 0)) <| fun v37 =>
  ke ((rStore 1 v37 v36 h6).map fun h' => (.tuple [], h')) <| fun v38 h7 =>
  kq (some (gd l33 0)) <| fun v39 =>
  kq (some (gd l33 1)) <| fun v40 =>
  kq (rLoadA 3 v0 h7) <| fun v41 =>
  ke (call N_rungref17_truth [v39] h7) <| fun v42 h8 =>
  km (mBuildSl T_int64 1 [(.int .i64 0)] 2 [(0, v42), (1, v40)]) h8 <| fun v43 h9 =>
  kq (some v43) <| fun v44 =>
  kChk (!true || kSame (rLoadA 3 v0 h9) v41) <|
  ke ((rStore 3 v2 v41 h9).map fun h' => (.tuple [], h')) <| fun v45 h10 =>
  kChk (!false || kSame (rLoadA 3 v0 h10) v41) <|
  kq (rLoadA 3 v2 h10) <| fun v46 =>
  some (.tuple [v44, v46], h10)) <| fun j34 =>
  kq (rBin .eql .no true v32 (.str [84, 79, 78])) <| fun v47 =>
  kq (some v47) <| fun v48 =>
  kj (fun l49 h11 =>
  j34 [(gd l49 0), (gd l49 1)] h11) <| fun j50 =>
  kIf v48 (
  kq (some v21) <| fun v51 =>
  kj (fun l52 h12 =>
  kq (some a1) <| fun v54 =>
  kq (aUn .not v54) <| fun v55 =>
  kq (some v55) <| fun v56 =>
  kj (fun l57 h13 =>
  j50 [(gd l57 0), (gd l57 1)] h13) <| fun j58 =>
  kIf v56 (
  kq (some (.bool false)) <| fun v59 =>
  kq (some (.int .i64 0)) <| fun v60 =>
  kq (rAtArr 3 1 v0 (.int .i64 2)) <| fun v61 =>
  ke ((rStore 1 v61 (.int .i64 0) h12).map fun h' => (.tuple [], h')) <| fun v62 h14 =>
  j58 [v59, v60] h14) (
  kq (rAtArr 3 1 v0 (.int .i64 2)) <| fun v63 =>
  kq (rLoad v63 h12) <| fun v64 =>
  kq (rBin .eql .no true v64 (.int .i64 1)) <| fun v65 =>
  kq (some v65) <| fun v66 =>
  kj (fun l67 h15 =>
  j58 [(gd l67 0), (gd l67 1)] h15) <| fun j68 =>
  kIf v66 (
  kq (some a2) <| fun v69 =>
  kq (some (.bool true)) <| fun v70 =>
  kq (some v69) <| fun v71 =>
  j68 [v70, v71] h12) (
  kq (some a5) <| fun v72 =>
  kq (rAtArr 3 1 v0 (.int .i64 1)) <| fun v73 =>
  kq (rLoad v73 h12) <| fun v74 =>
  ke (call N_rungref17_since [v72, v74] h12) <| fun v75 h16 =>
  kq (some a2) <| fun v76 =>
  kq (aMM aMin2 [v75, v76]) <| fun v77 =>
  kq (some v77) <| fun v78 =>
  kq (some v78) <| fun v79 =>
  kq (some a2) <| fun v80 =>
  kq (rBin .geq .no false v79 v80) <| fun v81 =>
  kq (some v81) <| fun v82 =>
  kq (some v82) <| fun v83 =>
  ke (call N_rungref17_truth [v83] h16) <| fun v84 h17 =>
  kq (rAtArr 3 1 v0 (.int .i64 2)) <| fun v85 =>
  ke ((rStore 1 v85 v84 h17).map fun h' => (.tuple [], h')) <| fun v86 h18 =>
  j68 [v82, v78] h18))) <| fun j53 =>
  kIf v51 (
  kq (some a5) <| fun v87 =>
  kq (rAtArr 3 1 v0 (.int .i64 1)) <| fun v88 =>
  ke ((rStore 1 v88 v87 h2).map fun h' => (.tuple [], h')) <| fun v89 h19 =>
  kq (rAtArr 3 1 v0 (.int .i64 2)) <| fun v90 =>
  ke ((rStore 1 v90 (.int .i64 0) h19).map fun h' => (.tuple [], h')) <| fun v91 h20 =>
  j53 [] h20) (
  j53 [] h2)) (
  kq (rBin .eql .no true v32 (.str [84, 79, 70])) <| fun v92 =>
  kq (some v92) <| fun v93 =>
  kj (fun l94 h21 =>
  j50 [(gd l94 0), (gd l94 1)] h21) <| fun j95 =>
  kIf v93 (
  kq (some a1) <| fun v96 =>
  kIf v96 (
  kq (some (.bool true)) <| fun v97 =>
  kq (some (.int .i64 0)) <| fun v98 =>
  kq (rAtArr 3 1 v0 (.int .i64 2)) <| fun v99 =>
  ke ((rStore 1 v99 (.int .i64 0) h2).map fun h' => (.tuple [], h')) <| fun v100 h22 =>
  j34 [v97, v98] h22) (
  kq (some v31) <| fun v101 =>
  kj (fun l102 h23 =>
  kq (some (.bool false)) <| fun v104 =>
  kq (rAtArr 3 1 v0 (.int .i64 2)) <| fun v105 =>
  kq (rLoad v105 h23) <| fun v106 =>
  kq (rBin .neq .no true v106 (.int .i64 0)) <| fun v107 =>
  kj (fun l108 h24 =>
  j95 [(gd l108 0), (gd l108 1)] h24) <| fun j109 =>
  kIf v107 (
  kq (some a5) <| fun v110 =>
  kq (rAtArr 3 1 v0 (.int .i64 1)) <| fun v111 =>
  kq (rLoad v111 h23) <| fun v112 =>
  ke (call N_rungref17_since [v110, v112] h23) <| fun v113 h25 =>
  kq (some a2) <| fun v114 =>
  kq (aMM aMin2 [v113, v114]) <| fun v115 =>
  kq (some v115) <| fun v116 =>
  kq (some v116) <| fun v117 =>
  kq (some a2) <| fun v118 =>
  kq (rBin .lss .no false v117 v118) <| fun v119 =>
  kq (some v119) <| fun v120 =>
  kq (some v120) <| fun v121 =>
  kq (aUn .not v121) <| fun v122 =>
  kj (fun l123 h26 =>
  j109 [v120, v116] h26) <| fun j124 =>
  kIf v122 (
  kq (rAtArr 3 1 v0 (.int .i64 2)) <| fun v125 =>
  ke ((rStore 1 v125 (.int .i64 0) h25).map fun h' => (.tuple [], h')) <| fun v126 h27 =>
  j124 [] h27) (
  j124 [] h25)) (
  j109 [v104, v12] h23)) <| fun j103 =>
  kIf v101 (
  kq (some a5) <| fun v127 =>
  kq (rAtArr 3 1 v0 (.int .i64 1)) <| fun v128 =>
  ke ((rStore 1 v128 v127 h2).map fun h' => (.tuple [], h')) <| fun v129 h28 =>
  kq (rAtArr 3 1 v0 (.int .i64 2)) <| fun v130 =>
  ke ((rStore 1 v130 (.int .i64 1) h28).map fun h' => (.tuple [], h')) <| fun v131 h29 =>
  j103 [] h29) (
  j103 [] h2))) (
  kq (rBin .eql .no true v32 (.str [84, 80])) <| fun v132 =>
  kq (some v132) <| fun v133 =>
  kj (fun l134 h30 =>
  j95 [(gd l134 0), (gd l134 1)] h30) <| fun j135 =>
  kIf v133 (
  kq (rAtArr 3 1 v0 (.int .i64 2)) <| fun v136 =>
  kq (rLoad v136 h2) <| fun v137 =>
  kq (rBin .neq .no true v137 (.int .i64 1)) <| fun v138 =>
  kq (some v138) <| fun v139 =>
  kt (fun v143 =>
  kj (fun l144 h32 =>
  kq (some (.bool false)) <| fun v146 =>
  kq (rAtArr 3 1 v0 (.int .i64 2)) <| fun v147 =>
  kq (rLoad v147 h32) <| fun v148 =>
  kq (rBin .eql .no true v148 (.int .i64 1)) <| fun v149 =>
  kj (fun l150 h33 =>
  kq (rAtArr 3 1 v0 (.int .i64 2)) <| fun v152 =>
  kq (rLoad v152 h33) <| fun v153 =>
  kq (rBin .neq .no true v153 (.int .i64 1)) <| fun v154 =>
  kq (some v154) <| fun v155 =>
  kt (fun v160 =>
  kj (fun l161 h35 =>
  j135 [(gd l150 0), (gd l161 0)] h35) <| fun j162 =>
  kIf v160 (
  kq (some (.int .i64 0)) <| fun v163 =>
  kq (rAtArr 3 1 v0 (.int .i64 2)) <| fun v164 =>
  ke ((rStore 1 v164 (.int .i64 0) h33).map fun h' => (.tuple [], h')) <| fun v165 h36 =>
  j162 [v163] h36) (
  j162 [(gd l150 1)] h33)) <| fun j156 =>
  kgq v155 true (fun k => kq (some a1) k) <| fun v157 =>
  kgq v155 true (fun k => kq (aUn .not v157) k) <| fun v158 =>
  kq (rPick v155 v158 (.bool false)) <| fun v159 =>
  j156 v159) <| fun j151 =>
  kIf v149 (
  kq (some a5) <| fun v166 =>
  kq (rAtArr 3 1 v0 (.int .i64 1)) <| fun v167 =>
  kq (rLoad v167 h32) <| fun v168 =>
  ke (call N_rungref17_since [v166, v168] h32) <| fun v169 h37 =>
  kq (some a2) <| fun v170 =>
  kq (aMM aMin2 [v169, v170]) <| fun v171 =>
  kq (some v171) <| fun v172 =>
  kq (some v172) <| fun v173 =>
  kq (some a2) <| fun v174 =>
  kq (rBin .lss .no false v173 v174) <| fun v175 =>
  kq (some v175) <| fun v176 =>
  kq (some v176) <| fun v177 =>
  kq (aUn .not v177) <| fun v178 =>
  kj (fun l179 h38 =>
  j151 [v176, v172] h38) <| fun j180 =>
  kIf v178 (
  kq (rAtArr 3 1 v0 (.int .i64 2)) <| fun v181 =>
  ke ((rStore 1 v181 (.int .i64 2) h37).map fun h' => (.tuple [], h')) <| fun v182 h39 =>
  j180 [] h39) (
  j180 [] h37)) (
  j151 [v146, v12] h32)) <| fun j145 =>
  kIf v143 (
  kq (some a5) <| fun v183 =>
  kq (rAtArr 3 1 v0 (.int .i64 1)) <| fun v184 =>
  ke ((rStore 1 v184 v183 h2).map fun h' => (.tuple [], h')) <| fun v185 h40 =>
  kq (rAtArr 3 1 v0 (.int .i64 2)) <| fun v186 =>
  ke ((rStore 1 v186 (.int .i64 1) h40).map fun h' => (.tuple [], h')) <| fun v187 h41 =>
  j145 [] h41) (
  j145 [] h2)) <| fun j140 =>
  kgq v139 true (fun k => kq (some v21) k) <| fun v141 =>
  kq (rPick v139 v141 (.bool false)) <| fun v142 =>
  j140 v142) (
  j135 [v11, v12] h2)))) <| fun j25 =>
  kgq v24 true (fun k => kq (rAtArr 3 1 v0 (.int .i64 0)) k) <| fun v26 =>
  kgq v24 true (fun k => kq (rLoad v26 h2) k) <| fun v27 =>
  kgq v24 true (fun k => kq (rBin .neq .no true v27 (.int .i64 0)) k) <| fun v28 =>
  kq (rPick v24 v28 (.bool false)) <| fun v29 =>
  j25 v29) <| fun j15 =>
  kgq v14 true (fun k => kq (rAtArr 3 1 v0 (.int .i64 0)) k) <| fun v16 =>
  kgq v14 true (fun k => kq (rLoad v16 h2) k) <| fun v17 =>
  kgq v14 true (fun k => kq (rBin .eql .no true v17 (.int .i64 0)) k) <| fun v18 =>
  kq (rPick v14 v18 (.bool false)) <| fun v19 =>
  j15 v19
theorem F_rungref17_timer_eq (call callD : ACall) (a0 a1 a2 a3 a4 a5 : AVal) (h : AH) : kFunc Tryd.prog [0] call callD N_rungref17_timer [a0, a1, a2, a3, a4, a5] h = F_rungref17_timer call callD a0 a1 a2 a3 a4 a5 h := by kernel_rfl
theorem C_rungref17_timer {ov : AOver} (H : Plain ov) (n : Nat) (a0 a1 a2 a3 a4 a5 : AVal) (h : AH) : kc ov (n + 1) N_rungref17_timer [a0, a1, a2, a3, a4, a5] h = F_rungref17_timer (kc ov n) (kd ov n) a0 a1 a2 a3 a4 a5 h := by
  have hov : ov N_rungref17_timer = none := H _ (by decide)
  unfold kc kd; rw [← F_rungref17_timer_eq]; simp only [kcall, hov]

/-- rung/rungref1.Width -/
noncomputable def F_rungref1_Width (call callD : ACall) (a0 : AVal) (h : AH) : Ans :=
  kq (some (.int .i64 0)) <| fun v0 =>
  kq (some a0) <| fun v1 =>
  ke (call N_rungref1_Scalar [v1] h) <| fun v2 h0 =>
  kq (aUn .not v2) <| fun v3 =>
  kIf v3 (
  kq (some (.int .i64 0)) <| fun v4 =>
  some (v4, h0)) (
  km (mBuildSl T_int 1 [(.int .i64 0)] 11 [(0, (.int .i64 1)), (1, (.int .i64 8)), (2, (.int .i64 16)), (3, (.int .i64 32)), (4, (.int .i64 8)), (5, (.int .i64 16)), (6, (.int .i64 32)), (7, (.int .i64 8)), (8, (.int .i64 16)), (9, (.int .i64 32)), (10, (.int .i64 32))]) h0 <| fun v5 h1 =>
  kq (some a0) <| fun v6 =>
  kq (rBin .sub .no true v6 (.int .i64 1)) <| fun v7 =>
  kq (rAt 1 v5 v7) <| fun v8 =>
  kq (rLoad v8 h1) <| fun v9 =>
  kq (some v9) <| fun v10 =>
  some (v10, h1))
theorem F_rungref1_Width_eq (call callD : ACall) (a0 : AVal) (h : AH) : kFunc Tryd.prog [0] call callD N_rungref1_Width [a0] h = F_rungref1_Width call callD a0 h := by kernel_rfl
theorem C_rungref1_Width {ov : AOver} (H : Plain ov) (n : Nat) (a0 : AVal) (h : AH) : kc ov (n + 1) N_rungref1_Width [a0] h = F_rungref1_Width (kc ov n) (kd ov n) a0 h := by
  have hov : ov N_rungref1_Width = none := H _ (by decide)
  unfold kc kd; rw [← F_rungref1_Width_eq]; simp only [kcall, hov]

/-- rung/rungref1.Range -/
noncomputable def F_rungref1_Range (call callD : ACall) (a0 : AVal) (h : AH) : Ans :=
  kq (some (.int .i64 0)) <| fun v0 =>
  kq (some (.int .i64 0)) <| fun v1 =>
  kq (some a0) <| fun v2 =>
  ke (call N_rungref1_Width [v2] h) <| fun v3 h0 =>
  kq (some v3) <| fun v4 =>
  kq (some v4) <| fun v5 =>
  kq (rBin .eql .no true v5 (.int .i64 0)) <| fun v6 =>
  kIf v6 (
  kq (some (.int .i64 0)) <| fun v7 =>
  kq (some (.int .i64 0)) <| fun v8 =>
  some (.tuple [v7, v8], h0)) (
  kq (some a0) <| fun v9 =>
  ke (call N_rungref1_Signed [v9] h0) <| fun v10 h1 =>
  kIf v10 (
  kq (some v4) <| fun v11 =>
  kq (rBin .sub .no true v11 (.int .i64 1)) <| fun v12 =>
  kq (rBin .shl .no true (.int .i64 (-1)) v12) <| fun v13 =>
  kq (some v4) <| fun v14 =>
  kq (rBin .sub .no true v14 (.int .i64 1)) <| fun v15 =>
  kq (rBin .shl .no true (.int .i64 1) v15) <| fun v16 =>
  kq (rBin .sub .no true v16 (.int .i64 1)) <| fun v17 =>
  kq (some v13) <| fun v18 =>
  kq (some v17) <| fun v19 =>
  some (.tuple [v18, v19], h1)) (
  kq (some v4) <| fun v20 =>
  kq (rBin .shl .no true (.int .i64 1) v20) <| fun v21 =>
  kq (rBin .sub .no true v21 (.int .i64 1)) <| fun v22 =>
  kq (some (.int .i64 0)) <| fun v23 =>
  kq (some v22) <| fun v24 =>
  some (.tuple [v23, v24], h1)))
theorem F_rungref1_Range_eq (call callD : ACall) (a0 : AVal) (h : AH) : kFunc Tryd.prog [0] call callD N_rungref1_Range [a0] h = F_rungref1_Range call callD a0 h := by kernel_rfl
theorem C_rungref1_Range {ov : AOver} (H : Plain ov) (n : Nat) (a0 : AVal) (h : AH) : kc ov (n + 1) N_rungref1_Range [a0] h = F_rungref1_Range (kc ov n) (kd ov n) a0 h := by
  have hov : ov N_rungref1_Range = none := H _ (by decide)
  unfold kc kd; rw [← F_rungref1_Range_eq]; simp only [kcall, hov]

/-- rung/types.pins -/
noncomputable def F_types_pins (call callD : ACall) (a0 : AVal) (h : AH) : Ans :=
  kq (some (.str [])) <| fun v0 =>
  kq (some (.str [])) <| fun v1 =>
  kq (some (.bool false)) <| fun v2 =>
  kq (some a0) <| fun v3 =>
  kq (rBin .eql .no true v3 (.str [84, 79, 78])) <| fun v4 =>
  kq (some v4) <| fun v5 =>
  kj (fun l6 h0 =>
  kIf (gd l6 0) (
  kq (some (.str [73, 78, 32, 66, 79, 79, 76, 32, 80, 84, 32, 84, 73, 77, 69])) <| fun v8 =>
  kq (some (.str [81, 32, 66, 79, 79, 76, 32, 69, 84, 32, 84, 73, 77, 69])) <| fun v9 =>
  kq (some (.bool true)) <| fun v10 =>
  some (.tuple [v8, v9, v10], h0)) (
  kq (rBin .eql .no true v3 (.str [67, 84, 85])) <| fun v11 =>
  kq (some v11) <| fun v12 =>
  kIf v12 (
  kq (some (.str [67, 85, 32, 66, 79, 79, 76, 32, 82, 32, 66, 79, 79, 76, 32, 80, 86, 32, 73, 78, 84])) <| fun v13 =>
  kq (some (.str [81, 32, 66, 79, 79, 76, 32, 67, 86, 32, 73, 78, 84])) <| fun v14 =>
  kq (some (.bool true)) <| fun v15 =>
  some (.tuple [v13, v14, v15], h0)) (
  kq (rBin .eql .no true v3 (.str [67, 84, 68])) <| fun v16 =>
  kq (some v16) <| fun v17 =>
  kIf v17 (
  kq (some (.str [67, 68, 32, 66, 79, 79, 76, 32, 76, 68, 32, 66, 79, 79, 76, 32, 80, 86, 32, 73, 78, 84])) <| fun v18 =>
  kq (some (.str [81, 32, 66, 79, 79, 76, 32, 67, 86, 32, 73, 78, 84])) <| fun v19 =>
  kq (some (.bool true)) <| fun v20 =>
  some (.tuple [v18, v19, v20], h0)) (
  kq (rBin .eql .no true v3 (.str [67, 84, 85, 68])) <| fun v21 =>
  kq (some v21) <| fun v22 =>
  kIf v22 (
  kq (some (.str [67, 85, 32, 66, 79, 79, 76, 32, 67, 68, 32, 66, 79, 79, 76, 32, 82, 32, 66, 79, 79, 76, 32, 76, 68, 32, 66, 79, 79, 76, 32, 80, 86, 32, 73, 78, 84])) <| fun v23 =>
  kq (some (.str [81, 85, 32, 66, 79, 79, 76, 32, 81, 68, 32, 66, 79, 79, 76, 32, 67, 86, 32, 73, 78, 84])) <| fun v24 =>
  kq (some (.bool true)) <| fun v25 =>
  some (.tuple [v23, v24, v25], h0)) (
  kq (rBin .eql .no true v3 (.str [82, 95, 84, 82, 73, 71])) <| fun v26 =>
  kq (some v26) <| fun v27 =>
  kj (fun l28 h1 =>
  kIf (gd l28 0) (
  kq (some (.str [67, 76, 75, 32, 66, 79, 79, 76])) <| fun v30 =>
  kq (some (.str [81, 32, 66, 79, 79, 76])) <| fun v31 =>
  kq (some (.bool true)) <| fun v32 =>
  some (.tuple [v30, v31, v32], h1)) (
  kq (rBin .eql .no true v3 (.str [83, 82])) <| fun v33 =>
  kq (some v33) <| fun v34 =>
  kIf v34 (
  kq (some (.str [83, 49, 32, 66, 79, 79, 76, 32, 82, 32, 66, 79, 79, 76])) <| fun v35 =>
  kq (some (.str [81, 49, 32, 66, 79, 79, 76])) <| fun v36 =>
  kq (some (.bool true)) <| fun v37 =>
  some (.tuple [v35, v36, v37], h1)) (
  kq (rBin .eql .no true v3 (.str [82, 83])) <| fun v38 =>
  kq (some v38) <| fun v39 =>
  kIf v39 (
  kq (some (.str [83, 32, 66, 79, 79, 76, 32, 82, 49, 32, 66, 79, 79, 76])) <| fun v40 =>
  kq (some (.str [81, 49, 32, 66, 79, 79, 76])) <| fun v41 =>
  kq (some (.bool true)) <| fun v42 =>
  some (.tuple [v40, v41, v42], h1)) (
  kq (some (.str [])) <| fun v43 =>
  kq (some (.str [])) <| fun v44 =>
  kq (some (.bool false)) <| fun v45 =>
  some (.tuple [v43, v44, v45], h1))))) <| fun j29 =>
  kIf v27 (
  j29 [v27] h0) (
  kq (rBin .eql .no true v3 (.str [70, 95, 84, 82, 73, 71])) <| fun v46 =>
  kq (some v46) <| fun v47 =>
  j29 [v47] h0)))))) <| fun j7 =>
  kIf v5 (
  j7 [v5] h) (
  kq (rBin .eql .no true v3 (.str [84, 79, 70])) <| fun v48 =>
  kq (some v48) <| fun v49 =>
  kj (fun l50 h2 =>
  j7 [(gd l50 0)] h2) <| fun j51 =>
  kIf v49 (
  j51 [v49] h) (
  kq (rBin .eql .no true v3 (.str [84, 80])) <| fun v52 =>
  kq (some v52) <| fun v53 =>
  j51 [v53] h))
theorem F_types_pins_eq (call callD : ACall) (a0 : AVal) (h : AH) : kFunc Tryd.prog [0] call callD N_types_pins [a0] h = F_types_pins call callD a0 h := by kernel_rfl
theorem C_types_pins {ov : AOver} (H : Plain ov) (n : Nat) (a0 : AVal) (h : AH) : kc ov (n + 1) N_types_pins [a0] h = F_types_pins (kc ov n) (kd ov n) a0 h := by
  have hov : ov N_types_pins = none := H _ (by decide)
  unfold kc kd; rw [← F_types_pins_eq]; simp only [kcall, hov]

/-- rung/types.every -/
noncomputable def L_types_every_0 (call callD : ACall) (v4 : AVal) (v3 : AVal) (a1 : AVal) : (List AVal → AH → Ans) → List AVal → AH → Ans := fun j7 l6 h1 =>
  kq (rBin .lss .no false (gd l6 1) v4) <| fun v8 =>
  kIf v8 (
  kq (some (gd l6 1)) <| fun v9 =>
  kq (rAt 1 v3 (gd l6 1)) <| fun v10 =>
  kq (rLoad v10 h1) <| fun v11 =>
  kq (some v9) <| fun v12 =>
  kq (some v11) <| fun v13 =>
  kq (some v12) <| fun v14 =>
  kq (rBin .rem .no true v14 (.int .i64 2)) <| fun v15 =>
  kq (some a1) <| fun v16 =>
  kq (rBin .eql .no false v15 v16) <| fun v17 =>
  kj (fun l18 h2 =>
  kq (rBin .add .no true (gd l6 1) (.int .i64 1)) <| fun v20 =>
  kq (some v20) <| fun v21 =>
  j7 [(gd l18 0), v21] h2) <| fun j19 =>
  kIf v17 (
  kq (some (gd l6 0)) <| fun v22 =>
  kq (some v13) <| fun v23 =>
  km (mBuildSl T_string 1 [(.str [])] 1 [(0, v23)]) h1 <| fun v24 h3 =>
  ke (rAppend T_string 1 16 v22 v24 h3) <| fun v25 h4 =>
  kq (some v25) <| fun v26 =>
  j19 [v26] h4) (
  j19 [(gd l6 0)] h1)) (
  kq (some (gd l6 0)) <| fun v27 =>
  kq (some v27) <| fun v28 =>
  some (v28, h1))
noncomputable def F_types_every (call callD : ACall) (a0 a1 : AVal) (h : AH) : Ans :=
  kq (some (.slice none 0 0)) <| fun v0 =>
  kq (some (.slice none 0 0)) <| fun v1 =>
  kq (some a0) <| fun v2 =>
  ke (call N_strings_Fields [v2] h) <| fun v3 h0 =>
  kq (rLen v3) <| fun v4 =>
  kq (some (.int .i64 0)) <| fun v5 =>
  kLoop (L_types_every_0 call callD v4 v3 a1) rounds [v1, v5] h0
theorem F_types_every_eq (call callD : ACall) (a0 a1 : AVal) (h : AH) : kFunc Tryd.prog [0] call callD N_types_every [a0, a1] h = F_types_every call callD a0 a1 h := by kernel_rfl
theorem C_types_every {ov : AOver} (H : Plain ov) (n : Nat) (a0 a1 : AVal) (h : AH) : kc ov (n + 1) N_types_every [a0, a1] h = F_types_every (kc ov n) (kd ov n) a0 a1 h := by
  have hov : ov N_types_every = none := H _ (by decide)
  unfold kc kd; rw [← F_types_every_eq]; simp only [kcall, hov]

/-- rung/num.of -/
noncomputable def F_num_of (call callD : ACall) (a0 : AVal) (h : AH) : Ans :=
  km (pBox T_num_kind (.agg [(.str []), (.int .i64 0), (.bool false), (.bool false)])) h <| fun v0 h0 =>
  kq (some (.bool false)) <| fun v1 =>
  kq (some a0) <| fun v2 =>
  kq (rBin .eql .no true v2 (.int .i64 1)) <| fun v3 =>
  kq (some v3) <| fun v4 =>
  kIf v4 (
  kq (rBuild [(.str []), (.int .i64 0), (.bool false), (.bool false)] [(0, 1), (1, 1), (2, 1), (3, 1)] [(0, (.str [66, 79, 79, 76])), (1, (.int .i64 1)), (2, (.bool false)), (3, (.bool true))]) <| fun v5 =>
  ke ((rStore 4 v0 v5 h0).map fun h' => (.tuple [], h')) <| fun v6 h1 =>
  kq (some (.bool true)) <| fun v7 =>
  kq (rLoadA 4 v0 h1) <| fun v8 =>
  some (.tuple [v8, v7], h1)) (
  kq (rBin .eql .no true v2 (.int .i64 2)) <| fun v9 =>
  kq (some v9) <| fun v10 =>
  kIf v10 (
  kq (rBuild [(.str []), (.int .i64 0), (.bool false), (.bool false)] [(0, 1), (1, 1), (2, 1), (3, 1)] [(0, (.str [83, 73, 78, 84])), (1, (.int .i64 8)), (2, (.bool true)), (3, (.bool false))]) <| fun v11 =>
  ke ((rStore 4 v0 v11 h0).map fun h' => (.tuple [], h')) <| fun v12 h2 =>
  kq (some (.bool true)) <| fun v13 =>
  kq (rLoadA 4 v0 h2) <| fun v14 =>
  some (.tuple [v14, v13], h2)) (
  kq (rBin .eql .no true v2 (.int .i64 3)) <| fun v15 =>
  kq (some v15) <| fun v16 =>
  kIf v16 (
  kq (rBuild [(.str []), (.int .i64 0), (.bool false), (.bool false)] [(0, 1), (1, 1), (2, 1), (3, 1)] [(0, (.str [73, 78, 84])), (1, (.int .i64 16)), (2, (.bool true)), (3, (.bool false))]) <| fun v17 =>
  ke ((rStore 4 v0 v17 h0).map fun h' => (.tuple [], h')) <| fun v18 h3 =>
  kq (some (.bool true)) <| fun v19 =>
  kq (rLoadA 4 v0 h3) <| fun v20 =>
  some (.tuple [v20, v19], h3)) (
  kq (rBin .eql .no true v2 (.int .i64 4)) <| fun v21 =>
  kq (some v21) <| fun v22 =>
  kIf v22 (
  kq (rBuild [(.str []), (.int .i64 0), (.bool false), (.bool false)] [(0, 1), (1, 1), (2, 1), (3, 1)] [(0, (.str [68, 73, 78, 84])), (1, (.int .i64 32)), (2, (.bool true)), (3, (.bool false))]) <| fun v23 =>
  ke ((rStore 4 v0 v23 h0).map fun h' => (.tuple [], h')) <| fun v24 h4 =>
  kq (some (.bool true)) <| fun v25 =>
  kq (rLoadA 4 v0 h4) <| fun v26 =>
  some (.tuple [v26, v25], h4)) (
  kq (rBin .eql .no true v2 (.int .i64 5)) <| fun v27 =>
  kq (some v27) <| fun v28 =>
  kIf v28 (
  kq (rBuild [(.str []), (.int .i64 0), (.bool false), (.bool false)] [(0, 1), (1, 1), (2, 1), (3, 1)] [(0, (.str [85, 83, 73, 78, 84])), (1, (.int .i64 8)), (2, (.bool false)), (3, (.bool false))]) <| fun v29 =>
  ke ((rStore 4 v0 v29 h0).map fun h' => (.tuple [], h')) <| fun v30 h5 =>
  kq (some (.bool true)) <| fun v31 =>
  kq (rLoadA 4 v0 h5) <| fun v32 =>
  some (.tuple [v32, v31], h5)) (
  kq (rBin .eql .no true v2 (.int .i64 6)) <| fun v33 =>
  kq (some v33) <| fun v34 =>
  kIf v34 (
  kq (rBuild [(.str []), (.int .i64 0), (.bool false), (.bool false)] [(0, 1), (1, 1), (2, 1), (3, 1)] [(0, (.str [85, 73, 78, 84])), (1, (.int .i64 16)), (2, (.bool false)), (3, (.bool false))]) <| fun v35 =>
  ke ((rStore 4 v0 v35 h0).map fun h' => (.tuple [], h')) <| fun v36 h6 =>
  kq (some (.bool true)) <| fun v37 =>
  kq (rLoadA 4 v0 h6) <| fun v38 =>
  some (.tuple [v38, v37], h6)) (
  kq (rBin .eql .no true v2 (.int .i64 7)) <| fun v39 =>
  kq (some v39) <| fun v40 =>
  kIf v40 (
  kq (rBuild [(.str []), (.int .i64 0), (.bool false), (.bool false)] [(0, 1), (1, 1), (2, 1), (3, 1)] [(0, (.str [85, 68, 73, 78, 84])), (1, (.int .i64 32)), (2, (.bool false)), (3, (.bool false))]) <| fun v41 =>
  ke ((rStore 4 v0 v41 h0).map fun h' => (.tuple [], h')) <| fun v42 h7 =>
  kq (some (.bool true)) <| fun v43 =>
  kq (rLoadA 4 v0 h7) <| fun v44 =>
  some (.tuple [v44, v43], h7)) (
  kq (rBin .eql .no true v2 (.int .i64 8)) <| fun v45 =>
  kq (some v45) <| fun v46 =>
  kIf v46 (
  kq (rBuild [(.str []), (.int .i64 0), (.bool false), (.bool false)] [(0, 1), (1, 1), (2, 1), (3, 1)] [(0, (.str [66, 89, 84, 69])), (1, (.int .i64 8)), (2, (.bool false)), (3, (.bool true))]) <| fun v47 =>
  ke ((rStore 4 v0 v47 h0).map fun h' => (.tuple [], h')) <| fun v48 h8 =>
  kq (some (.bool true)) <| fun v49 =>
  kq (rLoadA 4 v0 h8) <| fun v50 =>
  some (.tuple [v50, v49], h8)) (
  kq (rBin .eql .no true v2 (.int .i64 9)) <| fun v51 =>
  kq (some v51) <| fun v52 =>
  kIf v52 (
  kq (rBuild [(.str []), (.int .i64 0), (.bool false), (.bool false)] [(0, 1), (1, 1), (2, 1), (3, 1)] [(0, (.str [87, 79, 82, 68])), (1, (.int .i64 16)), (2, (.bool false)), (3, (.bool true))]) <| fun v53 =>
  ke ((rStore 4 v0 v53 h0).map fun h' => (.tuple [], h')) <| fun v54 h9 =>
  kq (some (.bool true)) <| fun v55 =>
  kq (rLoadA 4 v0 h9) <| fun v56 =>
  some (.tuple [v56, v55], h9)) (
  kq (rBin .eql .no true v2 (.int .i64 10)) <| fun v57 =>
  kq (some v57) <| fun v58 =>
  kIf v58 (
  kq (rBuild [(.str []), (.int .i64 0), (.bool false), (.bool false)] [(0, 1), (1, 1), (2, 1), (3, 1)] [(0, (.str [68, 87, 79, 82, 68])), (1, (.int .i64 32)), (2, (.bool false)), (3, (.bool true))]) <| fun v59 =>
  ke ((rStore 4 v0 v59 h0).map fun h' => (.tuple [], h')) <| fun v60 h10 =>
  kq (some (.bool true)) <| fun v61 =>
  kq (rLoadA 4 v0 h10) <| fun v62 =>
  some (.tuple [v62, v61], h10)) (
  kq (rBin .eql .no true v2 (.int .i64 11)) <| fun v63 =>
  kq (some v63) <| fun v64 =>
  kIf v64 (
  kq (rBuild [(.str []), (.int .i64 0), (.bool false), (.bool false)] [(0, 1), (1, 1), (2, 1), (3, 1)] [(0, (.str [84, 73, 77, 69])), (1, (.int .i64 32)), (2, (.bool true)), (3, (.bool false))]) <| fun v65 =>
  ke ((rStore 4 v0 v65 h0).map fun h' => (.tuple [], h')) <| fun v66 h11 =>
  kq (some (.bool true)) <| fun v67 =>
  kq (rLoadA 4 v0 h11) <| fun v68 =>
  some (.tuple [v68, v67], h11)) (
  kq (rBuild [(.str []), (.int .i64 0), (.bool false), (.bool false)] [(0, 1), (1, 1), (2, 1), (3, 1)] []) <| fun v69 =>
  ke ((rStore 4 v0 v69 h0).map fun h' => (.tuple [], h')) <| fun v70 h12 =>
  kq (some (.bool false)) <| fun v71 =>
  kq (rLoadA 4 v0 h12) <| fun v72 =>
  some (.tuple [v72, v71], h12))))))))))))
theorem F_num_of_eq (call callD : ACall) (a0 : AVal) (h : AH) : kFunc Tryd.prog [0] call callD N_num_of [a0] h = F_num_of call callD a0 h := by kernel_rfl
theorem C_num_of {ov : AOver} (H : Plain ov) (n : Nat) (a0 : AVal) (h : AH) : kc ov (n + 1) N_num_of [a0] h = F_num_of (kc ov n) (kd ov n) a0 h := by
  have hov : ov N_num_of = none := H _ (by decide)
  unfold kc kd; rw [← F_num_of_eq]; simp only [kcall, hov]

/-- rung/num.truth -/
noncomputable def F_num_truth (call callD : ACall) (a0 : AVal) (h : AH) : Ans :=
  kq (some (.int .i64 0)) <| fun v0 =>
  kq (some a0) <| fun v1 =>
  kIf v1 (
  kq (some (.int .i64 1)) <| fun v2 =>
  some (v2, h)) (
  kq (some (.int .i64 0)) <| fun v3 =>
  some (v3, h))
theorem F_num_truth_eq (call callD : ACall) (a0 : AVal) (h : AH) : kFunc Tryd.prog [0] call callD N_num_truth [a0] h = F_num_truth call callD a0 h := by kernel_rfl
theorem C_num_truth {ov : AOver} (H : Plain ov) (n : Nat) (a0 : AVal) (h : AH) : kc ov (n + 1) N_num_truth [a0] h = F_num_truth (kc ov n) (kd ov n) a0 h := by
  have hov : ov N_num_truth = none := H _ (by decide)
  unfold kc kd; rw [← F_num_truth_eq]; simp only [kcall, hov]

/-- strings.Fields -/
noncomputable def L_strings_Fields_0 (call callD : ACall) (a0 : AVal) (j75 : List AVal → AH → Ans) (v95 : AVal) : (List AVal → AH → Ans) → List AVal → AH → Ans := fun j100 l99 h8 =>
  kq (some (gd l99 0)) <| fun v101 =>
  kq (some a0) <| fun v102 =>
  kq (rLenS v102) <| fun v103 =>
  kq (rBin .lss .no false v101 v103) <| fun v104 =>
  kq (some v104) <| fun v105 =>
  kt (fun v114 =>
  kIf v114 (
  kq (some (gd l99 0)) <| fun v115 =>
  kq (rBin .add .no true v115 (.int .i64 1)) <| fun v116 =>
  kq (some v116) <| fun v117 =>
  j100 [v117] h8) (
  kq (some (gd l99 0)) <| fun v118 =>
  kq (some v118) <| fun v119 =>
  j75 [v95, v119, (gd l99 0)] h8)) <| fun j106 =>
  kgq v105 true (fun k => kq (some a0) k) <| fun v107 =>
  kgq v105 true (fun k => kq (some (gd l99 0)) k) <| fun v108 =>
  kgq v105 true (fun k => kq (rIndexS v107 v108) k) <| fun v109 =>
  kgq v105 true (fun k => kq (rAtArr 256 1 (.ptr (some (0, 0))) v109) k) <| fun v110 =>
  kgq v105 true (fun k => kq (rLoad v110 h8) k) <| fun v111 =>
  kgq v105 true (fun k => kq (rBin .neq .no true v111 (.int .u8 0)) k) <| fun v112 =>
  kq (rPick v105 v112 (.bool false)) <| fun v113 =>
  j106 v113
noncomputable def L_strings_Fields_1 (call callD : ACall) (a0 : AVal) (v43 : AVal) : (List AVal → AH → Ans) → List AVal → AH → Ans := fun j69 l68 h5 =>
  kq (some (gd l68 2)) <| fun v70 =>
  kq (some a0) <| fun v71 =>
  kq (rLenS v71) <| fun v72 =>
  kq (rBin .lss .no false v70 v72) <| fun v73 =>
  kIf v73 (
  kj (fun l74 h6 =>
  j69 [(gd l74 0), (gd l74 1), (gd l74 2)] h6) <| fun j75 =>
  kq (some a0) <| fun v76 =>
  kq (some (gd l68 2)) <| fun v77 =>
  kq (rIndexS v76 v77) <| fun v78 =>
  kq (rAtArr 256 1 (.ptr (some (0, 0))) v78) <| fun v79 =>
  kq (rLoad v79 h5) <| fun v80 =>
  kq (rBin .eql .no true v80 (.int .u8 0)) <| fun v81 =>
  kIf v81 (
  kq (some (gd l68 2)) <| fun v82 =>
  kq (rBin .add .no true v82 (.int .i64 1)) <| fun v83 =>
  kq (some v83) <| fun v84 =>
  j75 [(gd l68 0), (gd l68 1), v84] h5) (
  kq (some v43) <| fun v85 =>
  kq (some (gd l68 0)) <| fun v86 =>
  kq (some a0) <| fun v87 =>
  kq (some (gd l68 1)) <| fun v88 =>
  kq (some (gd l68 2)) <| fun v89 =>
  kq (rCutS v87 (some v88) (some v89)) <| fun v90 =>
  kq (rAt 1 v85 v86) <| fun v91 =>
  ke ((rStore 1 v91 v90 h5).map fun h' => (.tuple [], h')) <| fun v92 h7 =>
  kq (some (gd l68 0)) <| fun v93 =>
  kq (rBin .add .no true v93 (.int .i64 1)) <| fun v94 =>
  kq (some v94) <| fun v95 =>
  kq (some (gd l68 2)) <| fun v96 =>
  kq (rBin .add .no true v96 (.int .i64 1)) <| fun v97 =>
  kq (some v97) <| fun v98 =>
  kLoop (L_strings_Fields_0 call callD a0 j75 v95) rounds [v98] h7)) (
  kq (some (gd l68 1)) <| fun v120 =>
  kq (some a0) <| fun v121 =>
  kq (rLenS v121) <| fun v122 =>
  kq (rBin .lss .no false v120 v122) <| fun v123 =>
  kj (fun l124 h10 =>
  kq (some v43) <| fun v126 =>
  kq (some v126) <| fun v127 =>
  some (v127, h10)) <| fun j125 =>
  kIf v123 (
  kq (some v43) <| fun v128 =>
  kq (some (gd l68 0)) <| fun v129 =>
  kq (some a0) <| fun v130 =>
  kq (some (gd l68 1)) <| fun v131 =>
  kq (rCutS v130 (some v131) none) <| fun v132 =>
  kq (rAt 1 v128 v129) <| fun v133 =>
  ke ((rStore 1 v133 v132 h5).map fun h' => (.tuple [], h')) <| fun v134 h11 =>
  j125 [] h11) (
  j125 [] h5))
noncomputable def L_strings_Fields_2 (call callD : ACall) (a0 : AVal) (v43 : AVal) (v44 : AVal) : (List AVal → AH → Ans) → List AVal → AH → Ans := fun j48 l47 h3 =>
  kq (some (gd l47 0)) <| fun v49 =>
  kq (some a0) <| fun v50 =>
  kq (rLenS v50) <| fun v51 =>
  kq (rBin .lss .no false v49 v51) <| fun v52 =>
  kq (some v52) <| fun v53 =>
  kt (fun v62 =>
  kIf v62 (
  kq (some (gd l47 0)) <| fun v63 =>
  kq (rBin .add .no true v63 (.int .i64 1)) <| fun v64 =>
  kq (some v64) <| fun v65 =>
  j48 [v65] h3) (
  kq (some (gd l47 0)) <| fun v66 =>
  kq (some v66) <| fun v67 =>
  kLoop (L_strings_Fields_1 call callD a0 v43) rounds [v44, v67, (gd l47 0)] h3)) <| fun j54 =>
  kgq v53 true (fun k => kq (some a0) k) <| fun v55 =>
  kgq v53 true (fun k => kq (some (gd l47 0)) k) <| fun v56 =>
  kgq v53 true (fun k => kq (rIndexS v55 v56) k) <| fun v57 =>
  kgq v53 true (fun k => kq (rAtArr 256 1 (.ptr (some (0, 0))) v57) k) <| fun v58 =>
  kgq v53 true (fun k => kq (rLoad v58 h3) k) <| fun v59 =>
  kgq v53 true (fun k => kq (rBin .neq .no true v59 (.int .u8 0)) k) <| fun v60 =>
  kq (rPick v53 v60 (.bool false)) <| fun v61 =>
  j54 v61
noncomputable def L_strings_Fields_3 (call callD : ACall) (a0 : AVal) : (List AVal → AH → Ans) → List AVal → AH → Ans := fun j6 l5 h0 =>
  kq (some (gd l5 3)) <| fun v7 =>
  kq (some a0) <| fun v8 =>
  kq (rLenS v8) <| fun v9 =>
  kq (rBin .lss .no false v7 v9) <| fun v10 =>
  kIf v10 (
  kq (some a0) <| fun v11 =>
  kq (some (gd l5 3)) <| fun v12 =>
  kq (rIndexS v11 v12) <| fun v13 =>
  kq (some v13) <| fun v14 =>
  kq (some (gd l5 2)) <| fun v15 =>
  kq (some v14) <| fun v16 =>
  kq (rBin .or .no false v15 v16) <| fun v17 =>
  kq (some v17) <| fun v18 =>
  kq (some v14) <| fun v19 =>
  kq (rAtArr 256 1 (.ptr (some (0, 0))) v19) <| fun v20 =>
  kq (rLoad v20 h0) <| fun v21 =>
  kq (rConvI .i64 v21) <| fun v22 =>
  kq (some v22) <| fun v23 =>
  kq (some (gd l5 0)) <| fun v24 =>
  kq (some (gd l5 1)) <| fun v25 =>
  kq (some v23) <| fun v26 =>
  kq (aUn .xor v26) <| fun v27 =>
  kq (rBin .and .no false v25 v27) <| fun v28 =>
  kq (rBin .add .no false v24 v28) <| fun v29 =>
  kq (some v29) <| fun v30 =>
  kq (some v23) <| fun v31 =>
  kq (some v31) <| fun v32 =>
  kq (some (gd l5 3)) <| fun v33 =>
  kq (rBin .add .no true v33 (.int .i64 1)) <| fun v34 =>
  kq (some v34) <| fun v35 =>
  j6 [v30, v32, v18, v35] h0) (
  kq (some (gd l5 2)) <| fun v36 =>
  kq (rBin .geq .no true v36 (.int .u8 128)) <| fun v37 =>
  kIf v37 (
  kq (some a0) <| fun v38 =>
  ke (call N_strings_FieldsFunc [v38, (.func (.func N_unicode_IsSpace) [] [])] h0) <| fun v39 h1 =>
  kq (some v39) <| fun v40 =>
  some (v40, h1)) (
  kq (some (gd l5 0)) <| fun v41 =>
  km (mMakeSl T_string 1 16 [(.str [])] v41 v41) h0 <| fun v42 h2 =>
  kq (some v42) <| fun v43 =>
  kq (some (.int .i64 0)) <| fun v44 =>
  kq (some (.int .i64 0)) <| fun v45 =>
  kq (some (.int .i64 0)) <| fun v46 =>
  kLoop (L_strings_Fields_2 call callD a0 v43 v44) rounds [v46] h2))
noncomputable def F_strings_Fields (call callD : ACall) (a0 : AVal) (h : AH) : Ans :=
  kq (some (.slice none 0 0)) <| fun v0 =>
  kq (some (.int .i64 0)) <| fun v1 =>
  kq (some (.int .i64 1)) <| fun v2 =>
  kq (some (.int .u8 0)) <| fun v3 =>
  kq (some (.int .i64 0)) <| fun v4 =>
  kLoop (L_strings_Fields_3 call callD a0) rounds [v1, v2, v3, v4] h
theorem F_strings_Fields_eq (call callD : ACall) (a0 : AVal) (h : AH) : kFunc Tryd.prog [0] call callD N_strings_Fields [a0] h = F_strings_Fields call callD a0 h := by kernel_rfl
theorem C_strings_Fields {ov : AOver} (H : Plain ov) (n : Nat) (a0 : AVal) (h : AH) : kc ov (n + 1) N_strings_Fields [a0] h = F_strings_Fields (kc ov n) (kd ov n) a0 h := by
  have hov : ov N_strings_Fields = none := H _ (by decide)
  unfold kc kd; rw [← F_strings_Fields_eq]; simp only [kcall, hov]

/-- rung/num.Kind -/
noncomputable def L_num_Kind_0 (call callD : ACall) (a0 : AVal) : (List AVal → AH → Ans) → List AVal → AH → Ans := fun j3 l2 h0 =>
  kq (some (gd l2 0)) <| fun v4 =>
  kq (rBin .leq .no true v4 (.int .i64 11)) <| fun v5 =>
  kq (some v5) <| fun v6 =>
  kt (fun v11 =>
  kIf v11 (
  kq (some (gd l2 0)) <| fun v12 =>
  ke (call N_num_Name [v12] h0) <| fun v13 h2 =>
  kq (some a0) <| fun v14 =>
  kq (rBin .eql .no false v13 v14) <| fun v15 =>
  kIf v15 (
  kq (some (gd l2 0)) <| fun v16 =>
  kq (some v16) <| fun v17 =>
  some (v17, h2)) (
  kq (some (gd l2 0)) <| fun v18 =>
  kq (rBin .add .no true v18 (.int .i64 1)) <| fun v19 =>
  kq (some v19) <| fun v20 =>
  j3 [v20] h2)) (
  kq (some (.int .i64 0)) <| fun v21 =>
  some (v21, h0))) <| fun j7 =>
  kgq v6 true (fun k => kq (some a0) k) <| fun v8 =>
  kgq v6 true (fun k => kq (rBin .neq .no true v8 (.str [])) k) <| fun v9 =>
  kq (rPick v6 v9 (.bool false)) <| fun v10 =>
  j7 v10
noncomputable def F_num_Kind (call callD : ACall) (a0 : AVal) (h : AH) : Ans :=
  kq (some (.int .i64 0)) <| fun v0 =>
  kq (some (.int .i64 1)) <| fun v1 =>
  kLoop (L_num_Kind_0 call callD a0) rounds [v1] h
theorem F_num_Kind_eq (call callD : ACall) (a0 : AVal) (h : AH) : kFunc Tryd.prog [0] call callD N_num_Kind [a0] h = F_num_Kind call callD a0 h := by kernel_rfl
theorem C_num_Kind {ov : AOver} (H : Plain ov) (n : Nat) (a0 : AVal) (h : AH) : kc ov (n + 1) N_num_Kind [a0] h = F_num_Kind (kc ov n) (kd ov n) a0 h := by
  have hov : ov N_num_Kind = none := H _ (by decide)
  unfold kc kd; rw [← F_num_Kind_eq]; simp only [kcall, hov]

/-- rung/rungref17.since -/
noncomputable def F_rungref17_since (call callD : ACall) (a0 a1 : AVal) (h : AH) : Ans :=
  kq (some (.int .i64 0)) <| fun v0 =>
  kq (some a0) <| fun v1 =>
  kq (some a1) <| fun v2 =>
  kq (rBin .sub .no false v1 v2) <| fun v3 =>
  ke (call N_rungref1_Wrap [(.int .i64 4), v3] h) <| fun v4 h0 =>
  kq (aMM aMax2 [v4, (.int .i64 0)]) <| fun v5 =>
  kq (some v5) <| fun v6 =>
  some (v6, h0)
theorem F_rungref17_since_eq (call callD : ACall) (a0 a1 : AVal) (h : AH) : kFunc Tryd.prog [0] call callD N_rungref17_since [a0, a1] h = F_rungref17_since call callD a0 a1 h := by kernel_rfl
theorem C_rungref17_since {ov : AOver} (H : Plain ov) (n : Nat) (a0 a1 : AVal) (h : AH) : kc ov (n + 1) N_rungref17_since [a0, a1] h = F_rungref17_since (kc ov n) (kd ov n) a0 a1 h := by
  have hov : ov N_rungref17_since = none := H _ (by decide)
  unfold kc kd; rw [← F_rungref17_since_eq]; simp only [kcall, hov]

/-- rung/rungref1.Scalar -/
noncomputable def F_rungref1_Scalar (call callD : ACall) (a0 : AVal) (h : AH) : Ans :=
  kq (some (.bool false)) <| fun v0 =>
  kq (some a0) <| fun v1 =>
  kq (rBin .geq .no true v1 (.int .i64 1)) <| fun v2 =>
  kq (some v2) <| fun v3 =>
  kt (fun v8 =>
  kq (some v8) <| fun v9 =>
  some (v9, h)) <| fun j4 =>
  kgq v3 true (fun k => kq (some a0) k) <| fun v5 =>
  kgq v3 true (fun k => kq (rBin .leq .no true v5 (.int .i64 11)) k) <| fun v6 =>
  kq (rPick v3 v6 (.bool false)) <| fun v7 =>
  j4 v7
theorem F_rungref1_Scalar_eq (call callD : ACall) (a0 : AVal) (h : AH) : kFunc Tryd.prog [0] call callD N_rungref1_Scalar [a0] h = F_rungref1_Scalar call callD a0 h := by kernel_rfl
theorem C_rungref1_Scalar {ov : AOver} (H : Plain ov) (n : Nat) (a0 : AVal) (h : AH) : kc ov (n + 1) N_rungref1_Scalar [a0] h = F_rungref1_Scalar (kc ov n) (kd ov n) a0 h := by
  have hov : ov N_rungref1_Scalar = none := H _ (by decide)
  unfold kc kd; rw [← F_rungref1_Scalar_eq]; simp only [kcall, hov]

/-- rung/rungref1.Signed -/
noncomputable def F_rungref1_Signed (call callD : ACall) (a0 : AVal) (h : AH) : Ans :=
  kq (some (.bool false)) <| fun v0 =>
  kq (some a0) <| fun v1 =>
  kq (rBin .eql .no true v1 (.int .i64 2)) <| fun v2 =>
  kq (some v2) <| fun v3 =>
  kt (fun v16 =>
  kq (some v16) <| fun v17 =>
  some (v17, h)) <| fun j4 =>
  kgq v3 false (fun k => kq (some a0) k) <| fun v5 =>
  kgq v3 false (fun k => kq (rBin .eql .no true v5 (.int .i64 3)) k) <| fun v6 =>
  kq (rPick v3 (.bool true) v6) <| fun v7 =>
  kq (some v7) <| fun v8 =>
  kgq v8 false (fun k => kq (some a0) k) <| fun v9 =>
  kgq v8 false (fun k => kq (rBin .eql .no true v9 (.int .i64 4)) k) <| fun v10 =>
  kq (rPick v8 (.bool true) v10) <| fun v11 =>
  kq (some v11) <| fun v12 =>
  kgq v12 false (fun k => kq (some a0) k) <| fun v13 =>
  kgq v12 false (fun k => kq (rBin .eql .no true v13 (.int .i64 11)) k) <| fun v14 =>
  kq (rPick v12 (.bool true) v14) <| fun v15 =>
  j4 v15
theorem F_rungref1_Signed_eq (call callD : ACall) (a0 : AVal) (h : AH) : kFunc Tryd.prog [0] call callD N_rungref1_Signed [a0] h = F_rungref1_Signed call callD a0 h := by kernel_rfl
theorem C_rungref1_Signed {ov : AOver} (H : Plain ov) (n : Nat) (a0 : AVal) (h : AH) : kc ov (n + 1) N_rungref1_Signed [a0] h = F_rungref1_Signed (kc ov n) (kd ov n) a0 h := by
  have hov : ov N_rungref1_Signed = none := H _ (by decide)
  unfold kc kd; rw [← F_rungref1_Signed_eq]; simp only [kcall, hov]

/-- strings.FieldsFunc -/
noncomputable def L_strings_FieldsFunc_0 (call callD : ACall) (v48 : AVal) (v47 : AVal) (v46 : AVal) (a0 : AVal) : (List AVal → AH → Ans) → List AVal → AH → Ans := fun j51 l50 h12 =>
  kq (rBin .lss .no false (gd l50 0) v48) <| fun v52 =>
  kIf v52 (
  kq (some (gd l50 0)) <| fun v53 =>
  kq (rAt 2 v47 (gd l50 0)) <| fun v54 =>
  kq (rLoadA 2 v54 h12) <| fun v55 =>
  km (pBox T_strings_span (.agg [(.int .i64 0), (.int .i64 0)])) h12 <| fun v56 h13 =>
  kq (some v53) <| fun v57 =>
  ke ((rStore 2 v56 v55 h13).map fun h' => (.tuple [], h')) <| fun v58 h14 =>
  kq (some v46) <| fun v59 =>
  kq (some v57) <| fun v60 =>
  kq (some a0) <| fun v61 =>
  kq (rFieldP 0 v56) <| fun v62 =>
  kq (rLoad v62 h14) <| fun v63 =>
  kq (rFieldP 1 v56) <| fun v64 =>
  kq (rLoad v64 h14) <| fun v65 =>
  kq (rCutS v61 (some v63) (some v65)) <| fun v66 =>
  kq (rAt 1 v59 v60) <| fun v67 =>
  ke ((rStore 1 v67 v66 h14).map fun h' => (.tuple [], h')) <| fun v68 h15 =>
  kq (rBin .add .no true (gd l50 0) (.int .i64 1)) <| fun v69 =>
  kq (some v69) <| fun v70 =>
  j51 [v70] h15) (
  kq (some v46) <| fun v71 =>
  kq (some v71) <| fun v72 =>
  some (v72, h12))
noncomputable def L_strings_FieldsFunc_1 (call callD : ACall) (a1 : AVal) (a0 : AVal) : (List AVal → AH → Ans) → List AVal → AH → Ans := fun j7 l6 h2 =>
  ke (none) <| fun v8 h3 =>
  kq (aExtract v8 0) <| fun v9 =>
  kIf v9 (
  kq (aExtract v8 1) <| fun v10 =>
  kq (aExtract v8 2) <| fun v11 =>
  kq (some v10) <| fun v12 =>
  kq (some v11) <| fun v13 =>
  kq (some a1) <| fun v14 =>
  kq (some v13) <| fun v15 =>
  ke (rCallV call v14 [v15] h3) <| fun v16 h4 =>
  kj (fun l17 h5 =>
  j7 [(gd l17 0), (gd l17 1)] h5) <| fun j18 =>
  kIf v16 (
  kq (some (gd l6 1)) <| fun v19 =>
  kq (rBin .geq .no true v19 (.int .i64 0)) <| fun v20 =>
  kj (fun l21 h6 =>
  j18 [(gd l21 0), (gd l21 1)] h6) <| fun j22 =>
  kIf v20 (
  kq (some (gd l6 0)) <| fun v23 =>
  kq (some (gd l6 1)) <| fun v24 =>
  kq (some v12) <| fun v25 =>
  kq (rBuild [(.int .i64 0), (.int .i64 0)] [(0, 1), (1, 1)] [(0, v24), (1, v25)]) <| fun v26 =>
  km (mBuildSl T_strings_span 2 [(.int .i64 0), (.int .i64 0)] 1 [(0, v26)]) h4 <| fun v27 h7 =>
  ke (rAppend T_strings_span 2 16 v23 v27 h7) <| fun v28 h8 =>
  kq (some v28) <| fun v29 =>
  kq (some (gd l6 1)) <| fun v30 =>
  kq (aUn .xor v30) <| fun v31 =>
  kq (some v31) <| fun v32 =>
  j22 [v29, v32] h8) (
  j22 [(gd l6 0), (gd l6 1)] h4)) (
  kq (some (gd l6 1)) <| fun v33 =>
  kq (rBin .lss .no true v33 (.int .i64 0)) <| fun v34 =>
  kj (fun l35 h9 =>
  j18 [(gd l6 0), (gd l35 0)] h9) <| fun j36 =>
  kIf v34 (
  kq (some v12) <| fun v37 =>
  kq (some v37) <| fun v38 =>
  j36 [v38] h4) (
  j36 [(gd l6 1)] h4))) (
  kq (some (gd l6 1)) <| fun v39 =>
  kq (rBin .geq .no true v39 (.int .i64 0)) <| fun v40 =>
  kj (fun l41 h10 =>
  kq (some (gd l41 0)) <| fun v43 =>
  kq (rLen v43) <| fun v44 =>
  km (mMakeSl T_string 1 16 [(.str [])] v44 v44) h10 <| fun v45 h11 =>
  kq (some v45) <| fun v46 =>
  kq (some (gd l41 0)) <| fun v47 =>
  kq (rLen v47) <| fun v48 =>
  kq (some (.int .i64 0)) <| fun v49 =>
  kLoop (L_strings_FieldsFunc_0 call callD v48 v47 v46 a0) rounds [v49] h11) <| fun j42 =>
  kIf v40 (
  kq (some (gd l6 0)) <| fun v73 =>
  kq (some (gd l6 1)) <| fun v74 =>
  kq (some a0) <| fun v75 =>
  kq (rLenS v75) <| fun v76 =>
  kq (rBuild [(.int .i64 0), (.int .i64 0)] [(0, 1), (1, 1)] [(0, v74), (1, v76)]) <| fun v77 =>
  km (mBuildSl T_strings_span 2 [(.int .i64 0), (.int .i64 0)] 1 [(0, v77)]) h3 <| fun v78 h16 =>
  ke (rAppend T_strings_span 2 16 v73 v78 h16) <| fun v79 h17 =>
  kq (some v79) <| fun v80 =>
  j42 [v80] h17) (
  j42 [(gd l6 0)] h3))
noncomputable def F_strings_FieldsFunc (call callD : ACall) (a0 a1 : AVal) (h : AH) : Ans :=
  kq (some (.slice none 0 0)) <| fun v0 =>
  km (mMakeSl T_strings_span 2 16 [(.int .i64 0), (.int .i64 0)] (.int .i64 0) (.int .i64 32)) h <| fun v1 h0 =>
  kq (some v1) <| fun v2 =>
  kq (some (.int .i64 (-1))) <| fun v3 =>
  kq (some a0) <| fun v4 =>
  ke (none) <| fun v5 h1 =>
  kLoop (L_strings_FieldsFunc_1 call callD a1 a0) rounds [v2, v3] h1
theorem F_strings_FieldsFunc_eq (call callD : ACall) (a0 a1 : AVal) (h : AH) : kFunc Tryd.prog [0] call callD N_strings_FieldsFunc [a0, a1] h = F_strings_FieldsFunc call callD a0 a1 h := by kernel_rfl
theorem C_strings_FieldsFunc {ov : AOver} (H : Plain ov) (n : Nat) (a0 a1 : AVal) (h : AH) : kc ov (n + 1) N_strings_FieldsFunc [a0, a1] h = F_strings_FieldsFunc (kc ov n) (kd ov n) a0 a1 h := by
  have hov : ov N_strings_FieldsFunc = none := H _ (by decide)
  unfold kc kd; rw [← F_strings_FieldsFunc_eq]; simp only [kcall, hov]

/-- unicode.IsSpace -/
noncomputable def F_unicode_IsSpace (call callD : ACall) (a0 : AVal) (h : AH) : Ans :=
  kq (some (.bool false)) <| fun v0 =>
  kq (some a0) <| fun v1 =>
  kq (rConvI .u32 v1) <| fun v2 =>
  kq (rBin .leq .no true v2 (.int .u32 255)) <| fun v3 =>
  kIf v3 (
  kq (some a0) <| fun v4 =>
  kq (rBin .eql .no true v4 (.int .i32 9)) <| fun v5 =>
  kq (some v5) <| fun v6 =>
  kj (fun l7 h0 =>
  kIf (gd l7 0) (
  kq (some (.bool true)) <| fun v9 =>
  some (v9, h0)) (
  kq (some (.bool false)) <| fun v10 =>
  some (v10, h0))) <| fun j8 =>
  kIf v6 (
  j8 [v6] h) (
  kq (rBin .eql .no true v4 (.int .i32 10)) <| fun v11 =>
  kq (some v11) <| fun v12 =>
  kj (fun l13 h1 =>
  j8 [(gd l13 0)] h1) <| fun j14 =>
  kIf v12 (
  j14 [v12] h) (
  kq (rBin .eql .no true v4 (.int .i32 11)) <| fun v15 =>
  kq (some v15) <| fun v16 =>
  kj (fun l17 h2 =>
  j14 [(gd l17 0)] h2) <| fun j18 =>
  kIf v16 (
  j18 [v16] h) (
  kq (rBin .eql .no true v4 (.int .i32 12)) <| fun v19 =>
  kq (some v19) <| fun v20 =>
  kj (fun l21 h3 =>
  j18 [(gd l21 0)] h3) <| fun j22 =>
  kIf v20 (
  j22 [v20] h) (
  kq (rBin .eql .no true v4 (.int .i32 13)) <| fun v23 =>
  kq (some v23) <| fun v24 =>
  kj (fun l25 h4 =>
  j22 [(gd l25 0)] h4) <| fun j26 =>
  kIf v24 (
  j26 [v24] h) (
  kq (rBin .eql .no true v4 (.int .i32 32)) <| fun v27 =>
  kq (some v27) <| fun v28 =>
  kj (fun l29 h5 =>
  j26 [(gd l29 0)] h5) <| fun j30 =>
  kIf v28 (
  j30 [v28] h) (
  kq (rBin .eql .no true v4 (.int .i32 133)) <| fun v31 =>
  kq (some v31) <| fun v32 =>
  kj (fun l33 h6 =>
  j30 [(gd l33 0)] h6) <| fun j34 =>
  kIf v32 (
  j34 [v32] h) (
  kq (rBin .eql .no true v4 (.int .i32 160)) <| fun v35 =>
  kq (some v35) <| fun v36 =>
  j34 [v36] h)))))))) (
  kq (rLoad AVal.any h) <| fun v37 =>
  kq (some a0) <| fun v38 =>
  ke (call N_unicode_isExcludingLatin [v37, v38] h) <| fun v39 h7 =>
  kq (some v39) <| fun v40 =>
  some (v40, h7))
theorem F_unicode_IsSpace_eq (call callD : ACall) (a0 : AVal) (h : AH) : kFunc Tryd.prog [0] call callD N_unicode_IsSpace [a0] h = F_unicode_IsSpace call callD a0 h := by kernel_rfl
theorem C_unicode_IsSpace {ov : AOver} (H : Plain ov) (n : Nat) (a0 : AVal) (h : AH) : kc ov (n + 1) N_unicode_IsSpace [a0] h = F_unicode_IsSpace (kc ov n) (kd ov n) a0 h := by
  have hov : ov N_unicode_IsSpace = none := H _ (by decide)
  unfold kc kd; rw [← F_unicode_IsSpace_eq]; simp only [kcall, hov]

/-- rung/num.Name -/
noncomputable def F_num_Name (call callD : ACall) (a0 : AVal) (h : AH) : Ans :=
  kq (some (.str [])) <| fun v0 =>
  kq (some a0) <| fun v1 =>
  ke (call N_num_of [v1] h) <| fun v2 h0 =>
  kq (some v2) <| fun v3 =>
  kq (aExtract v3 0) <| fun v4 =>
  kq (aExtract v3 1) <| fun v5 =>
  km (pBox T_num_kind (.agg [(.str []), (.int .i64 0), (.bool false), (.bool false)])) h0 <| fun v6 h1 =>
  ke ((rStore 4 v6 v4 h1).map fun h' => (.tuple [], h')) <| fun v7 h2 =>
  kq (some v5) <| fun v8 =>
  kq (rFieldP 0 v6) <| fun v9 =>
  kq (rLoad v9 h2) <| fun v10 =>
  kq (some v10) <| fun v11 =>
  some (v11, h2)
theorem F_num_Name_eq (call callD : ACall) (a0 : AVal) (h : AH) : kFunc Tryd.prog [0] call callD N_num_Name [a0] h = F_num_Name call callD a0 h := by kernel_rfl
theorem C_num_Name {ov : AOver} (H : Plain ov) (n : Nat) (a0 : AVal) (h : AH) : kc ov (n + 1) N_num_Name [a0] h = F_num_Name (kc ov n) (kd ov n) a0 h := by
  have hov : ov N_num_Name = none := H _ (by decide)
  unfold kc kd; rw [← F_num_Name_eq]; simp only [kcall, hov]

/-- unicode.isExcludingLatin -/
noncomputable def F_unicode_isExcludingLatin (call callD : ACall) (a0 a1 : AVal) (h : AH) : Ans :=
  kq (some (.bool false)) <| fun v0 =>
  kq (some a0) <| fun v1 =>
  kq (aNilCheck v1) <| fun v2 =>
  kq (rFieldP 0 v2) <| fun v3 =>
  kq (rLoad v3 h) <| fun v4 =>
  kq (some v4) <| fun v5 =>
  kq (some a0) <| fun v6 =>
  kq (aNilCheck v6) <| fun v7 =>
  kq (rFieldP 2 v7) <| fun v8 =>
  kq (rLoad v8 h) <| fun v9 =>
  kq (some v9) <| fun v10 =>
  kq (some v5) <| fun v11 =>
  kq (rLen v11) <| fun v12 =>
  kq (some v10) <| fun v13 =>
  kq (rBin .gtr .no false v12 v13) <| fun v14 =>
  kq (some v14) <| fun v15 =>
  kt (fun v29 =>
  kIf v29 (
  kq (some v5) <| fun v30 =>
  kq (some v10) <| fun v31 =>
  kq (rCut 3 v30 (some v31) none none) <| fun v32 =>
  kq (some a1) <| fun v33 =>
  kq (rConvI .u16 v33) <| fun v34 =>
  ke (call N_unicode_is16 [v32, v34] h) <| fun v35 h1 =>
  kq (some v35) <| fun v36 =>
  some (v36, h1)) (
  kq (some a0) <| fun v37 =>
  kq (aNilCheck v37) <| fun v38 =>
  kq (rFieldP 1 v38) <| fun v39 =>
  kq (rLoad v39 h) <| fun v40 =>
  kq (some v40) <| fun v41 =>
  kq (some v41) <| fun v42 =>
  kq (rLen v42) <| fun v43 =>
  kq (rBin .gtr .no true v43 (.int .i64 0)) <| fun v44 =>
  kq (some v44) <| fun v45 =>
  kt (fun v55 =>
  kIf v55 (
  kq (some v41) <| fun v56 =>
  kq (some a1) <| fun v57 =>
  kq (rConvI .u32 v57) <| fun v58 =>
  ke (call N_unicode_is32 [v56, v58] h) <| fun v59 h3 =>
  kq (some v59) <| fun v60 =>
  some (v60, h3)) (
  kq (some (.bool false)) <| fun v61 =>
  some (v61, h))) <| fun j46 =>
  kgq v45 true (fun k => kq (some a1) k) <| fun v47 =>
  kgq v45 true (fun k => kq (some v41) k) <| fun v48 =>
  kgq v45 true (fun k => kq (rAt 3 v48 (.int .i64 0)) k) <| fun v49 =>
  kgq v45 true (fun k => kq (rFieldP 0 v49) k) <| fun v50 =>
  kgq v45 true (fun k => kq (rLoad v50 h) k) <| fun v51 =>
  kgq v45 true (fun k => kq (rConvI .i32 v51) k) <| fun v52 =>
  kgq v45 true (fun k => kq (rBin .geq .no false v47 v52) k) <| fun v53 =>
  kq (rPick v45 v53 (.bool false)) <| fun v54 =>
  j46 v54)) <| fun j16 =>
  kgq v15 true (fun k => kq (some a1) k) <| fun v17 =>
  kgq v15 true (fun k => kq (rConvI .u32 v17) k) <| fun v18 =>
  kgq v15 true (fun k => kq (some v5) k) <| fun v19 =>
  kgq v15 true (fun k => kq (some v5) k) <| fun v20 =>
  kgq v15 true (fun k => kq (rLen v20) k) <| fun v21 =>
  kgq v15 true (fun k => kq (rBin .sub .no true v21 (.int .i64 1)) k) <| fun v22 =>
  kgq v15 true (fun k => kq (rAt 3 v19 v22) k) <| fun v23 =>
  kgq v15 true (fun k => kq (rFieldP 1 v23) k) <| fun v24 =>
  kgq v15 true (fun k => kq (rLoad v24 h) k) <| fun v25 =>
  kgq v15 true (fun k => kq (rConvI .u32 v25) k) <| fun v26 =>
  kgq v15 true (fun k => kq (rBin .leq .no false v18 v26) k) <| fun v27 =>
  kq (rPick v15 v27 (.bool false)) <| fun v28 =>
  j16 v28
theorem F_unicode_isExcludingLatin_eq (call callD : ACall) (a0 a1 : AVal) (h : AH) : kFunc Tryd.prog [0] call callD N_unicode_isExcludingLatin [a0, a1] h = F_unicode_isExcludingLatin call callD a0 a1 h := by kernel_rfl
theorem C_unicode_isExcludingLatin {ov : AOver} (H : Plain ov) (n : Nat) (a0 a1 : AVal) (h : AH) : kc ov (n + 1) N_unicode_isExcludingLatin [a0, a1] h = F_unicode_isExcludingLatin (kc ov n) (kd ov n) a0 a1 h := by
  have hov : ov N_unicode_isExcludingLatin = none := H _ (by decide)
  unfold kc kd; rw [← F_unicode_isExcludingLatin_eq]; simp only [kcall, hov]

/-- unicode.is16 -/
noncomputable def L_unicode_is16_0 (call callD : ACall) (v11 : AVal) (a0 : AVal) (a1 : AVal) : (List AVal → AH → Ans) → List AVal → AH → Ans := fun j14 l13 h1 =>
  kq (rBin .lss .no false (gd l13 0) v11) <| fun v15 =>
  kIf v15 (
  kq (some (gd l13 0)) <| fun v16 =>
  kq (some v16) <| fun v17 =>
  kq (some a0) <| fun v18 =>
  kq (some v17) <| fun v19 =>
  kq (rAt 3 v18 v19) <| fun v20 =>
  kq (some v20) <| fun v21 =>
  kq (some a1) <| fun v22 =>
  kq (some v21) <| fun v23 =>
  kq (aNilCheck v23) <| fun v24 =>
  kq (rFieldP 0 v24) <| fun v25 =>
  kq (rLoad v25 h1) <| fun v26 =>
  kq (rBin .lss .no false v22 v26) <| fun v27 =>
  kIf v27 (
  kq (some (.bool false)) <| fun v28 =>
  some (v28, h1)) (
  kq (some a1) <| fun v29 =>
  kq (some v21) <| fun v30 =>
  kq (aNilCheck v30) <| fun v31 =>
  kq (rFieldP 1 v31) <| fun v32 =>
  kq (rLoad v32 h1) <| fun v33 =>
  kq (rBin .leq .no false v29 v33) <| fun v34 =>
  kIf v34 (
  kq (some v21) <| fun v35 =>
  kq (aNilCheck v35) <| fun v36 =>
  kq (rFieldP 2 v36) <| fun v37 =>
  kq (rLoad v37 h1) <| fun v38 =>
  kq (rBin .eql .no true v38 (.int .u16 1)) <| fun v39 =>
  kq (some v39) <| fun v40 =>
  kgq v40 false (fun k => kq (some a1) k) <| fun v41 =>
  kgq v40 false (fun k => kq (some v21) k) <| fun v42 =>
  kgq v40 false (fun k => kq (aNilCheck v42) k) <| fun v43 =>
  kgq v40 false (fun k => kq (rFieldP 0 v43) k) <| fun v44 =>
  kgq v40 false (fun k => kq (rLoad v44 h1) k) <| fun v45 =>
  kgq v40 false (fun k => kq (rBin .sub .no false v41 v45) k) <| fun v46 =>
  kgq v40 false (fun k => kq (some v21) k) <| fun v47 =>
  kgq v40 false (fun k => kq (aNilCheck v47) k) <| fun v48 =>
  kgq v40 false (fun k => kq (rFieldP 2 v48) k) <| fun v49 =>
  kgq v40 false (fun k => kq (rLoad v49 h1) k) <| fun v50 =>
  kgq v40 false (fun k => kq (rBin .rem .no false v46 v50) k) <| fun v51 =>
  kgq v40 false (fun k => kq (rBin .eql .no true v51 (.int .u16 0)) k) <| fun v52 =>
  kq (rPick v40 (.bool true) v52) <| fun v53 =>
  kq (some v53) <| fun v54 =>
  some (v54, h1)) (
  kq (rBin .add .no true (gd l13 0) (.int .i64 1)) <| fun v55 =>
  kq (some v55) <| fun v56 =>
  j14 [v56] h1))) (
  kq (some (.bool false)) <| fun v57 =>
  some (v57, h1))
noncomputable def L_unicode_is16_1 (call callD : ACall) (a0 : AVal) (a1 : AVal) : (List AVal → AH → Ans) → List AVal → AH → Ans := fun j63 l62 h2 =>
  kq (some (gd l62 0)) <| fun v64 =>
  kq (some (gd l62 1)) <| fun v65 =>
  kq (rBin .lss .no false v64 v65) <| fun v66 =>
  kIf v66 (
  kq (some (gd l62 0)) <| fun v67 =>
  kq (some (gd l62 1)) <| fun v68 =>
  kq (rBin .add .no false v67 v68) <| fun v69 =>
  kq (rConvI .u64 v69) <| fun v70 =>
  kq (rBin .shr .no true v70 (.int .u64 1)) <| fun v71 =>
  kq (rConvI .i64 v71) <| fun v72 =>
  kq (some v72) <| fun v73 =>
  kq (some a0) <| fun v74 =>
  kq (some v73) <| fun v75 =>
  kq (rAt 3 v74 v75) <| fun v76 =>
  kq (some v76) <| fun v77 =>
  kq (some v77) <| fun v78 =>
  kq (aNilCheck v78) <| fun v79 =>
  kq (rFieldP 0 v79) <| fun v80 =>
  kq (rLoad v80 h2) <| fun v81 =>
  kq (some a1) <| fun v82 =>
  kq (rBin .leq .no false v81 v82) <| fun v83 =>
  kq (some v83) <| fun v84 =>
  kt (fun v93 =>
  kIf v93 (
  kq (some v77) <| fun v94 =>
  kq (aNilCheck v94) <| fun v95 =>
  kq (rFieldP 2 v95) <| fun v96 =>
  kq (rLoad v96 h2) <| fun v97 =>
  kq (rBin .eql .no true v97 (.int .u16 1)) <| fun v98 =>
  kq (some v98) <| fun v99 =>
  kgq v99 false (fun k => kq (some a1) k) <| fun v100 =>
  kgq v99 false (fun k => kq (some v77) k) <| fun v101 =>
  kgq v99 false (fun k => kq (aNilCheck v101) k) <| fun v102 =>
  kgq v99 false (fun k => kq (rFieldP 0 v102) k) <| fun v103 =>
  kgq v99 false (fun k => kq (rLoad v103 h2) k) <| fun v104 =>
  kgq v99 false (fun k => kq (rBin .sub .no false v100 v104) k) <| fun v105 =>
  kgq v99 false (fun k => kq (some v77) k) <| fun v106 =>
  kgq v99 false (fun k => kq (aNilCheck v106) k) <| fun v107 =>
  kgq v99 false (fun k => kq (rFieldP 2 v107) k) <| fun v108 =>
  kgq v99 false (fun k => kq (rLoad v108 h2) k) <| fun v109 =>
  kgq v99 false (fun k => kq (rBin .rem .no false v105 v109) k) <| fun v110 =>
  kgq v99 false (fun k => kq (rBin .eql .no true v110 (.int .u16 0)) k) <| fun v111 =>
  kq (rPick v99 (.bool true) v111) <| fun v112 =>
  kq (some v112) <| fun v113 =>
  some (v113, h2)) (
  kq (some a1) <| fun v114 =>
  kq (some v77) <| fun v115 =>
  kq (aNilCheck v115) <| fun v116 =>
  kq (rFieldP 0 v116) <| fun v117 =>
  kq (rLoad v117 h2) <| fun v118 =>
  kq (rBin .lss .no false v114 v118) <| fun v119 =>
  kj (fun l120 h4 =>
  j63 [(gd l120 0), (gd l120 1)] h4) <| fun j121 =>
  kIf v119 (
  kq (some v73) <| fun v122 =>
  kq (some v122) <| fun v123 =>
  j121 [(gd l62 0), v123] h2) (
  kq (some v73) <| fun v124 =>
  kq (rBin .add .no true v124 (.int .i64 1)) <| fun v125 =>
  kq (some v125) <| fun v126 =>
  j121 [v126, (gd l62 1)] h2))) <| fun j85 =>
  kgq v84 true (fun k => kq (some a1) k) <| fun v86 =>
  kgq v84 true (fun k => kq (some v77) k) <| fun v87 =>
  kgq v84 true (fun k => kq (aNilCheck v87) k) <| fun v88 =>
  kgq v84 true (fun k => kq (rFieldP 1 v88) k) <| fun v89 =>
  kgq v84 true (fun k => kq (rLoad v89 h2) k) <| fun v90 =>
  kgq v84 true (fun k => kq (rBin .leq .no false v86 v90) k) <| fun v91 =>
  kq (rPick v84 v91 (.bool false)) <| fun v92 =>
  j85 v92) (
  kq (some (.bool false)) <| fun v127 =>
  some (v127, h2))
noncomputable def F_unicode_is16 (call callD : ACall) (a0 a1 : AVal) (h : AH) : Ans :=
  kq (some (.bool false)) <| fun v0 =>
  kq (some a0) <| fun v1 =>
  kq (rLen v1) <| fun v2 =>
  kq (rBin .leq .no true v2 (.int .i64 18)) <| fun v3 =>
  kq (some v3) <| fun v4 =>
  kt (fun v9 =>
  kIf v9 (
  kq (some a0) <| fun v10 =>
  kq (rLen v10) <| fun v11 =>
  kq (some (.int .i64 0)) <| fun v12 =>
  kLoop (L_unicode_is16_0 call callD v11 a0 a1) rounds [v12] h) (
  kq (some (.int .i64 0)) <| fun v58 =>
  kq (some a0) <| fun v59 =>
  kq (rLen v59) <| fun v60 =>
  kq (some v60) <| fun v61 =>
  kLoop (L_unicode_is16_1 call callD a0 a1) rounds [v58, v61] h)) <| fun j5 =>
  kgq v4 false (fun k => kq (some a1) k) <| fun v6 =>
  kgq v4 false (fun k => kq (rBin .leq .no true v6 (.int .u16 255)) k) <| fun v7 =>
  kq (rPick v4 (.bool true) v7) <| fun v8 =>
  j5 v8
theorem F_unicode_is16_eq (call callD : ACall) (a0 a1 : AVal) (h : AH) : kFunc Tryd.prog [0] call callD N_unicode_is16 [a0, a1] h = F_unicode_is16 call callD a0 a1 h := by kernel_rfl
theorem C_unicode_is16 {ov : AOver} (H : Plain ov) (n : Nat) (a0 a1 : AVal) (h : AH) : kc ov (n + 1) N_unicode_is16 [a0, a1] h = F_unicode_is16 (kc ov n) (kd ov n) a0 a1 h := by
  have hov : ov N_unicode_is16 = none := H _ (by decide)
  unfold kc kd; rw [← F_unicode_is16_eq]; simp only [kcall, hov]

/-- unicode.is32 -/
noncomputable def L_unicode_is32_0 (call callD : ACall) (v5 : AVal) (a0 : AVal) (a1 : AVal) : (List AVal → AH → Ans) → List AVal → AH → Ans := fun j8 l7 h0 =>
  kq (rBin .lss .no false (gd l7 0) v5) <| fun v9 =>
  kIf v9 (
  kq (some (gd l7 0)) <| fun v10 =>
  kq (some v10) <| fun v11 =>
  kq (some a0) <| fun v12 =>
  kq (some v11) <| fun v13 =>
  kq (rAt 3 v12 v13) <| fun v14 =>
  kq (some v14) <| fun v15 =>
  kq (some a1) <| fun v16 =>
  kq (some v15) <| fun v17 =>
  kq (aNilCheck v17) <| fun v18 =>
  kq (rFieldP 0 v18) <| fun v19 =>
  kq (rLoad v19 h0) <| fun v20 =>
  kq (rBin .lss .no false v16 v20) <| fun v21 =>
  kIf v21 (
  kq (some (.bool false)) <| fun v22 =>
  some (v22, h0)) (
  kq (some a1) <| fun v23 =>
  kq (some v15) <| fun v24 =>
  kq (aNilCheck v24) <| fun v25 =>
  kq (rFieldP 1 v25) <| fun v26 =>
  kq (rLoad v26 h0) <| fun v27 =>
  kq (rBin .leq .no false v23 v27) <| fun v28 =>
  kIf v28 (
  kq (some v15) <| fun v29 =>
  kq (aNilCheck v29) <| fun v30 =>
  kq (rFieldP 2 v30) <| fun v31 =>
  kq (rLoad v31 h0) <| fun v32 =>
  kq (rBin .eql .no true v32 (.int .u32 1)) <| fun v33 =>
  kq (some v33) <| fun v34 =>
  kgq v34 false (fun k => kq (some a1) k) <| fun v35 =>
  kgq v34 false (fun k => kq (some v15) k) <| fun v36 =>
  kgq v34 false (fun k => kq (aNilCheck v36) k) <| fun v37 =>
  kgq v34 false (fun k => kq (rFieldP 0 v37) k) <| fun v38 =>
  kgq v34 false (fun k => kq (rLoad v38 h0) k) <| fun v39 =>
  kgq v34 false (fun k => kq (rBin .sub .no false v35 v39) k) <| fun v40 =>
  kgq v34 false (fun k => kq (some v15) k) <| fun v41 =>
  kgq v34 false (fun k => kq (aNilCheck v41) k) <| fun v42 =>
  kgq v34 false (fun k => kq (rFieldP 2 v42) k) <| fun v43 =>
  kgq v34 false (fun k => kq (rLoad v43 h0) k) <| fun v44 =>
  kgq v34 false (fun k => kq (rBin .rem .no false v40 v44) k) <| fun v45 =>
  kgq v34 false (fun k => kq (rBin .eql .no true v45 (.int .u32 0)) k) <| fun v46 =>
  kq (rPick v34 (.bool true) v46) <| fun v47 =>
  kq (some v47) <| fun v48 =>
  some (v48, h0)) (
  kq (rBin .add .no true (gd l7 0) (.int .i64 1)) <| fun v49 =>
  kq (some v49) <| fun v50 =>
  j8 [v50] h0))) (
  kq (some (.bool false)) <| fun v51 =>
  some (v51, h0))
noncomputable def L_unicode_is32_1 (call callD : ACall) (a0 : AVal) (a1 : AVal) : (List AVal → AH → Ans) → List AVal → AH → Ans := fun j57 l56 h1 =>
  kq (some (gd l56 0)) <| fun v58 =>
  kq (some (gd l56 1)) <| fun v59 =>
  kq (rBin .lss .no false v58 v59) <| fun v60 =>
  kIf v60 (
  kq (some (gd l56 0)) <| fun v61 =>
  kq (some (gd l56 1)) <| fun v62 =>
  kq (rBin .add .no false v61 v62) <| fun v63 =>
  kq (rConvI .u64 v63) <| fun v64 =>
  kq (rBin .shr .no true v64 (.int .u64 1)) <| fun v65 =>
  kq (rConvI .i64 v65) <| fun v66 =>
  kq (some v66) <| fun v67 =>
  kq (some a0) <| fun v68 =>
  kq (some v67) <| fun v69 =>
  kq (rAt 3 v68 v69) <| fun v70 =>
  kq (rLoadA 3 v70 h1) <| fun v71 =>
  km (pBox T_unicode_Range32 (.agg [(.int .u32 0), (.int .u32 0), (.int .u32 0)])) h1 <| fun v72 h2 =>
  ke ((rStore 3 v72 v71 h2).map fun h' => (.tuple [], h')) <| fun v73 h3 =>
  kq (rFieldP 0 v72) <| fun v74 =>
  kq (rLoad v74 h3) <| fun v75 =>
  kq (some a1) <| fun v76 =>
  kq (rBin .leq .no false v75 v76) <| fun v77 =>
  kq (some v77) <| fun v78 =>
  kt (fun v85 =>
  kIf v85 (
  kq (rFieldP 2 v72) <| fun v86 =>
  kq (rLoad v86 h3) <| fun v87 =>
  kq (rBin .eql .no true v87 (.int .u32 1)) <| fun v88 =>
  kq (some v88) <| fun v89 =>
  kt (fun v100 =>
  kq (some v100) <| fun v101 =>
  some (v101, h3)) <| fun j90 =>
  kgq v89 false (fun k => kq (some a1) k) <| fun v91 =>
  kgq v89 false (fun k => kq (rFieldP 0 v72) k) <| fun v92 =>
  kgq v89 false (fun k => kq (rLoad v92 h3) k) <| fun v93 =>
  kgq v89 false (fun k => kq (rBin .sub .no false v91 v93) k) <| fun v94 =>
  kgq v89 false (fun k => kq (rFieldP 2 v72) k) <| fun v95 =>
  kgq v89 false (fun k => kq (rLoad v95 h3) k) <| fun v96 =>
  kgq v89 false (fun k => kq (rBin .rem .no false v94 v96) k) <| fun v97 =>
  kgq v89 false (fun k => kq (rBin .eql .no true v97 (.int .u32 0)) k) <| fun v98 =>
  kq (rPick v89 (.bool true) v98) <| fun v99 =>
  j90 v99) (
  kq (some a1) <| fun v102 =>
  kq (rFieldP 0 v72) <| fun v103 =>
  kq (rLoad v103 h3) <| fun v104 =>
  kq (rBin .lss .no false v102 v104) <| fun v105 =>
  kj (fun l106 h6 =>
  j57 [(gd l106 0), (gd l106 1)] h6) <| fun j107 =>
  kIf v105 (
  kq (some v67) <| fun v108 =>
  kq (some v108) <| fun v109 =>
  j107 [(gd l56 0), v109] h3) (
  kq (some v67) <| fun v110 =>
  kq (rBin .add .no true v110 (.int .i64 1)) <| fun v111 =>
  kq (some v111) <| fun v112 =>
  j107 [v112, (gd l56 1)] h3))) <| fun j79 =>
  kgq v78 true (fun k => kq (some a1) k) <| fun v80 =>
  kgq v78 true (fun k => kq (rFieldP 1 v72) k) <| fun v81 =>
  kgq v78 true (fun k => kq (rLoad v81 h3) k) <| fun v82 =>
  kgq v78 true (fun k => kq (rBin .leq .no false v80 v82) k) <| fun v83 =>
  kq (rPick v78 v83 (.bool false)) <| fun v84 =>
  j79 v84) (
  kq (some (.bool false)) <| fun v113 =>
  some (v113, h1))
noncomputable def F_unicode_is32 (call callD : ACall) (a0 a1 : AVal) (h : AH) : Ans :=
  kq (some (.bool false)) <| fun v0 =>
  kq (some a0) <| fun v1 =>
  kq (rLen v1) <| fun v2 =>
  kq (rBin .leq .no true v2 (.int .i64 18)) <| fun v3 =>
  kIf v3 (
  kq (some a0) <| fun v4 =>
  kq (rLen v4) <| fun v5 =>
  kq (some (.int .i64 0)) <| fun v6 =>
  kLoop (L_unicode_is32_0 call callD v5 a0 a1) rounds [v6] h) (
  kq (some (.int .i64 0)) <| fun v52 =>
  kq (some a0) <| fun v53 =>
  kq (rLen v53) <| fun v54 =>
  kq (some v54) <| fun v55 =>
  kLoop (L_unicode_is32_1 call callD a0 a1) rounds [v52, v55] h)
theorem F_unicode_is32_eq (call callD : ACall) (a0 a1 : AVal) (h : AH) : kFunc Tryd.prog [0] call callD N_unicode_is32 [a0, a1] h = F_unicode_is32 call callD a0 a1 h := by kernel_rfl
theorem C_unicode_is32 {ov : AOver} (H : Plain ov) (n : Nat) (a0 a1 : AVal) (h : AH) : kc ov (n + 1) N_unicode_is32 [a0, a1] h = F_unicode_is32 (kc ov n) (kd ov n) a0 a1 h := by
  have hov : ov N_unicode_is32 = none := H _ (by decide)
  unfold kc kd; rw [← F_unicode_is32_eq]; simp only [kcall, hov]

/-- (*rung/fb.state).elapsed -/
noncomputable def F_fb_state_elapsed (call callD : ACall) (a0 : AVal) (h : AH) : Ans :=
  kq (some (.int .i64 0)) <| fun v0 =>
  kq (some a0) <| fun v1 =>
  ke (call N_fb_state_since [v1] h) <| fun v2 h0 =>
  kq (some a0) <| fun v3 =>
  ke (call N_fb_state_pt [v3] h0) <| fun v4 h1 =>
  kq (aMM aMin2 [v2, v4]) <| fun v5 =>
  kq (some v5) <| fun v6 =>
  some (v6, h1)
theorem F_fb_state_elapsed_eq (call callD : ACall) (a0 : AVal) (h : AH) : kFunc Tryd.prog [0] call callD N_fb_state_elapsed [a0] h = F_fb_state_elapsed call callD a0 h := by kernel_rfl
theorem C_fb_state_elapsed {ov : AOver} (H : Plain ov) (n : Nat) (a0 : AVal) (h : AH) : kc ov (n + 1) N_fb_state_elapsed [a0] h = F_fb_state_elapsed (kc ov n) (kd ov n) a0 h := by
  have hov : ov N_fb_state_elapsed = none := H _ (by decide)
  unfold kc kd; rw [← F_fb_state_elapsed_eq]; simp only [kcall, hov]

/-- (rung/fb.edge).step -/
noncomputable def F__fb_edge_step (call callD : ACall) (a0 a1 : AVal) (h : AH) : Ans :=
  km (pBox T_fb_edge a0) h <| fun v0 h0 =>
  kq (some a1) <| fun v1 =>
  kq (some a1) <| fun v2 =>
  kq (aNilCheck v2) <| fun v3 =>
  kq (rFieldP 1 v3) <| fun v4 =>
  kq (rAtArr 3 1 v4 (.int .i64 0)) <| fun v5 =>
  kq (rLoad v5 h0) <| fun v6 =>
  kq (rBin .neq .no true v6 (.int .i64 0)) <| fun v7 =>
  ke (call N_fb_state_is [v1, (.str [67, 76, 75])] h0) <| fun v8 h1 =>
  kq (some v8) <| fun v9 =>
  kq (some v7) <| fun v10 =>
  kChk (!true || kSame (rLoad v5 h1) v6) <|
  kq (some a1) <| fun v11 =>
  kq (some v9) <| fun v12 =>
  kq (some v10) <| fun v13 =>
  kq (rBin .neq .bool false v12 v13) <| fun v14 =>
  kq (some v14) <| fun v15 =>
  kt (fun v22 =>
  ke (call N_fb_state_set [v11, (.str [81]), v22] h1) <| fun v23 h3 =>
  kq (some a1) <| fun v24 =>
  kq (some v9) <| fun v25 =>
  kq (aNilCheck v24) <| fun v26 =>
  kq (rFieldP 1 v26) <| fun v27 =>
  ke (call N_fb_truth [v25] h3) <| fun v28 h4 =>
  kq (rAtArr 3 1 v27 (.int .i64 0)) <| fun v29 =>
  ke ((rStore 1 v29 v28 h4).map fun h' => (.tuple [], h')) <| fun v30 h5 =>
  some (.tuple [], h5)) <| fun j16 =>
  kgq v15 true (fun k => kq (some v9) k) <| fun v17 =>
  kgq v15 true (fun k => kq (rFieldP 0 v0) k) <| fun v18 =>
  kgq v15 true (fun k => kq (rLoad v18 h1) k) <| fun v19 =>
  kgq v15 true (fun k => kq (rBin .neq .bool false v17 v19) k) <| fun v20 =>
  kq (rPick v15 v20 (.bool false)) <| fun v21 =>
  j16 v21
theorem F__fb_edge_step_eq (call callD : ACall) (a0 a1 : AVal) (h : AH) : kFunc Tryd.prog [0] call callD N__fb_edge_step [a0, a1] h = F__fb_edge_step call callD a0 a1 h := by kernel_rfl
theorem C__fb_edge_step {ov : AOver} (H : Plain ov) (n : Nat) (a0 a1 : AVal) (h : AH) : kc ov (n + 1) N__fb_edge_step [a0, a1] h = F__fb_edge_step (kc ov n) (kd ov n) a0 a1 h := by
  have hov : ov N__fb_edge_step = none := H _ (by decide)
  unfold kc kd; rw [← F__fb_edge_step_eq]; simp only [kcall, hov]

/-- (*rung/fb.state).is -/
noncomputable def F_fb_state_is (call callD : ACall) (a0 a1 : AVal) (h : AH) : Ans :=
  kq (some (.bool false)) <| fun v0 =>
  kq (some a0) <| fun v1 =>
  kq (aNilCheck v1) <| fun v2 =>
  kq (rFieldP 0 v2) <| fun v3 =>
  kq (rLoad v3 h) <| fun v4 =>
  kq (some a1) <| fun v5 =>
  kq (rLook .string (.int .i64 0) false v4 v5 h) <| fun v6 =>
  kq (rBin .neq .no true v6 (.int .i64 0)) <| fun v7 =>
  kq (some v7) <| fun v8 =>
  some (v8, h)
theorem F_fb_state_is_eq (call callD : ACall) (a0 a1 : AVal) (h : AH) : kFunc Tryd.prog [0] call callD N_fb_state_is [a0, a1] h = F_fb_state_is call callD a0 a1 h := by kernel_rfl
theorem C_fb_state_is {ov : AOver} (H : Plain ov) (n : Nat) (a0 a1 : AVal) (h : AH) : kc ov (n + 1) N_fb_state_is [a0, a1] h = F_fb_state_is (kc ov n) (kd ov n) a0 a1 h := by
  have hov : ov N_fb_state_is = none := H _ (by decide)
  unfold kc kd; rw [← F_fb_state_is_eq]; simp only [kcall, hov]

/-- (*rung/fb.state).set -/
noncomputable def F_fb_state_set (call callD : ACall) (a0 a1 a2 : AVal) (h : AH) : Ans :=
  kq (some a0) <| fun v0 =>
  kq (aNilCheck v0) <| fun v1 =>
  kq (rFieldP 0 v1) <| fun v2 =>
  kq (rLoad v2 h) <| fun v3 =>
  kq (some a1) <| fun v4 =>
  kq (some a2) <| fun v5 =>
  ke (call N_fb_truth [v5] h) <| fun v6 h0 =>
  kChk (!true || kSame (rLoad v2 h0) v3) <|
  ke ((rMapSet .string v3 v4 v6 h0).map fun h' => (.tuple [], h')) <| fun v7 h1 =>
  kChk (!false || kSame (rLoad v2 h1) v3) <|
  some (.tuple [], h1)
theorem F_fb_state_set_eq (call callD : ACall) (a0 a1 a2 : AVal) (h : AH) : kFunc Tryd.prog [0] call callD N_fb_state_set [a0, a1, a2] h = F_fb_state_set call callD a0 a1 a2 h := by kernel_rfl
theorem C_fb_state_set {ov : AOver} (H : Plain ov) (n : Nat) (a0 a1 a2 : AVal) (h : AH) : kc ov (n + 1) N_fb_state_set [a0, a1, a2] h = F_fb_state_set (kc ov n) (kd ov n) a0 a1 a2 h := by
  have hov : ov N_fb_state_set = none := H _ (by decide)
  unfold kc kd; rw [← F_fb_state_set_eq]; simp only [kcall, hov]

/-- rung/fb.truth -/
noncomputable def F_fb_truth (call callD : ACall) (a0 : AVal) (h : AH) : Ans :=
  kq (some (.int .i64 0)) <| fun v0 =>
  kq (some a0) <| fun v1 =>
  kIf v1 (
  kq (some (.int .i64 1)) <| fun v2 =>
  some (v2, h)) (
  kq (some (.int .i64 0)) <| fun v3 =>
  some (v3, h))
theorem F_fb_truth_eq (call callD : ACall) (a0 : AVal) (h : AH) : kFunc Tryd.prog [0] call callD N_fb_truth [a0] h = F_fb_truth call callD a0 h := by kernel_rfl
theorem C_fb_truth {ov : AOver} (H : Plain ov) (n : Nat) (a0 : AVal) (h : AH) : kc ov (n + 1) N_fb_truth [a0] h = F_fb_truth (kc ov n) (kd ov n) a0 h := by
  have hov : ov N_fb_truth = none := H _ (by decide)
  unfold kc kd; rw [← F_fb_truth_eq]; simp only [kcall, hov]

/-- (rung/fb.latch).step -/
noncomputable def F__fb_latch_step (call callD : ACall) (a0 a1 : AVal) (h : AH) : Ans :=
  km (pBox T_fb_latch a0) h <| fun v0 h0 =>
  kq (rFieldP 0 v0) <| fun v1 =>
  kq (rLoad v1 h0) <| fun v2 =>
  kq (rBin .eql .no true v2 (.str [83, 49])) <| fun v3 =>
  kIf v3 (
  kq (some a1) <| fun v4 =>
  kq (some a1) <| fun v5 =>
  ke (call N_fb_state_is [v5, (.str [83, 49])] h0) <| fun v6 h1 =>
  kq (some v6) <| fun v7 =>
  kth (fun v19 h6 =>
  ke (call N_fb_state_set [v4, (.str [81, 49]), v19] h6) <| fun v20 h7 =>
  some (.tuple [], h7)) <| fun j8 =>
  kgq v7 false (fun k => kq (some a1) k) <| fun v9 =>
  kgh v7 false h1 (fun k => ke (call N_fb_state_is [v9, (.str [81, 49])] h1) <| fun v10 h2 =>
  k v10 h2) <| fun v11 h3 =>
  kgq v7 false (fun k => kq (some v11) k) <| fun v12 =>
  kgq v12 true (fun k => kq (some a1) k) <| fun v13 =>
  kgh v12 true h3 (fun k => ke (call N_fb_state_is [v13, (.str [82])] h3) <| fun v14 h4 =>
  k v14 h4) <| fun v15 h5 =>
  kgq v12 true (fun k => kq (aUn .not v15) k) <| fun v16 =>
  kgq v7 false (fun k => kq (rPick v12 v16 (.bool false)) k) <| fun v17 =>
  kq (rPick v7 (.bool true) v17) <| fun v18 =>
  j8 v18 h5) (
  kq (some a1) <| fun v21 =>
  kq (some a1) <| fun v22 =>
  ke (call N_fb_state_is [v22, (.str [82, 49])] h0) <| fun v23 h8 =>
  kq (aUn .not v23) <| fun v24 =>
  kq (some v24) <| fun v25 =>
  kth (fun v36 h13 =>
  ke (call N_fb_state_set [v21, (.str [81, 49]), v36] h13) <| fun v37 h14 =>
  some (.tuple [], h14)) <| fun j26 =>
  kgq v25 true (fun k => kq (some a1) k) <| fun v27 =>
  kgh v25 true h8 (fun k => ke (call N_fb_state_is [v27, (.str [83])] h8) <| fun v28 h9 =>
  k v28 h9) <| fun v29 h10 =>
  kgq v25 true (fun k => kq (some v29) k) <| fun v30 =>
  kgq v30 false (fun k => kq (some a1) k) <| fun v31 =>
  kgh v30 false h10 (fun k => ke (call N_fb_state_is [v31, (.str [81, 49])] h10) <| fun v32 h11 =>
  k v32 h11) <| fun v33 h12 =>
  kgq v25 true (fun k => kq (rPick v30 (.bool true) v33) k) <| fun v34 =>
  kq (rPick v25 v34 (.bool false)) <| fun v35 =>
  j26 v35 h12)
theorem F__fb_latch_step_eq (call callD : ACall) (a0 a1 : AVal) (h : AH) : kFunc Tryd.prog [0] call callD N__fb_latch_step [a0, a1] h = F__fb_latch_step call callD a0 a1 h := by kernel_rfl
theorem C__fb_latch_step {ov : AOver} (H : Plain ov) (n : Nat) (a0 a1 : AVal) (h : AH) : kc ov (n + 1) N__fb_latch_step [a0, a1] h = F__fb_latch_step (kc ov n) (kd ov n) a0 a1 h := by
  have hov : ov N__fb_latch_step = none := H _ (by decide)
  unfold kc kd; rw [← F__fb_latch_step_eq]; simp only [kcall, hov]

/-- (rung/fb.count).step -/
noncomputable def F__fb_count_step (call callD : ACall) (a0 a1 : AVal) (h : AH) : Ans :=
  km (pBox T_fb_count a0) h <| fun v0 h0 =>
  kq (some a1) <| fun v1 =>
  kq (aNilCheck v1) <| fun v2 =>
  kq (rFieldP 0 v2) <| fun v3 =>
  kq (rLoad v3 h0) <| fun v4 =>
  kq (rLook .string (.int .i64 0) false v4 (.str [67, 86]) h0) <| fun v5 =>
  kq (some v5) <| fun v6 =>
  kq (rFieldP 0 v0) <| fun v7 =>
  kq (rLoad v7 h0) <| fun v8 =>
  kq (rBin .neq .no true v8 (.str [])) <| fun v9 =>
  kq (some v9) <| fun v10 =>
  kth (fun v18 h3 =>
  kq (some v18) <| fun v19 =>
  kq (some (.int .i64 0)) <| fun v20 =>
  kq (rFieldP 0 v0) <| fun v21 =>
  kq (rLoad v21 h3) <| fun v22 =>
  kq (rBin .neq .no true v22 (.str [])) <| fun v23 =>
  kj (fun l24 h4 =>
  kq (rFieldP 1 v0) <| fun v26 =>
  kq (rLoad v26 h4) <| fun v27 =>
  kq (rBin .neq .no true v27 (.str [])) <| fun v28 =>
  kq (some v28) <| fun v29 =>
  kth (fun v38 h7 =>
  kq (some v38) <| fun v39 =>
  ke (call N_num_Range [(.int .i64 3)] h7) <| fun v40 h8 =>
  kq (some v40) <| fun v41 =>
  kq (aExtract v41 0) <| fun v42 =>
  kq (aExtract v41 1) <| fun v43 =>
  kq (some v42) <| fun v44 =>
  kq (some v43) <| fun v45 =>
  kq (some a1) <| fun v46 =>
  kq (rFieldP 2 v0) <| fun v47 =>
  kq (rLoad v47 h8) <| fun v48 =>
  ke (call N_fb_state_is [v46, v48] h8) <| fun v49 h9 =>
  kq (some v49) <| fun v50 =>
  kj (fun l51 h10 =>
  kq (some a1) <| fun v53 =>
  kq (aNilCheck v53) <| fun v54 =>
  kq (rFieldP 0 v54) <| fun v55 =>
  kq (rLoad v55 h10) <| fun v56 =>
  kq (some (gd l51 0)) <| fun v57 =>
  ke ((rMapSet .string v56 (.str [67, 86]) v57 h10).map fun h' => (.tuple [], h')) <| fun v58 h11 =>
  kq (some (.str [81, 85])) <| fun v59 =>
  kq (some (.str [81, 68])) <| fun v60 =>
  kq (rFieldP 1 v0) <| fun v61 =>
  kq (rLoad v61 h11) <| fun v62 =>
  kq (rBin .eql .no true v62 (.str [])) <| fun v63 =>
  kj (fun l64 h12 =>
  kq (rFieldP 0 v0) <| fun v66 =>
  kq (rLoad v66 h12) <| fun v67 =>
  kq (rBin .eql .no true v67 (.str [])) <| fun v68 =>
  kj (fun l69 h13 =>
  kq (rFieldP 0 v0) <| fun v71 =>
  kq (rLoad v71 h13) <| fun v72 =>
  kq (rBin .neq .no true v72 (.str [])) <| fun v73 =>
  kj (fun l74 h14 =>
  kq (rFieldP 1 v0) <| fun v76 =>
  kq (rLoad v76 h14) <| fun v77 =>
  kq (rBin .neq .no true v77 (.str [])) <| fun v78 =>
  kj (fun l79 h15 =>
  some (.tuple [], h15)) <| fun j80 =>
  kIf v78 (
  kq (some a1) <| fun v81 =>
  kq (some (gd l69 0)) <| fun v82 =>
  kq (some (gd l51 0)) <| fun v83 =>
  kq (rBin .leq .no true v83 (.int .i64 0)) <| fun v84 =>
  ke (call N_fb_state_set [v81, v82, v84] h14) <| fun v85 h16 =>
  j80 [] h16) (
  j80 [] h14)) <| fun j75 =>
  kIf v73 (
  kq (some a1) <| fun v86 =>
  kq (some (gd l64 0)) <| fun v87 =>
  kq (some (gd l51 0)) <| fun v88 =>
  kq (some a1) <| fun v89 =>
  kq (aNilCheck v89) <| fun v90 =>
  kq (rFieldP 0 v90) <| fun v91 =>
  kq (rLoad v91 h13) <| fun v92 =>
  kq (rLook .string (.int .i64 0) false v92 (.str [80, 86]) h13) <| fun v93 =>
  kq (rBin .geq .no false v88 v93) <| fun v94 =>
  ke (call N_fb_state_set [v86, v87, v94] h13) <| fun v95 h17 =>
  j75 [] h17) (
  j75 [] h13)) <| fun j70 =>
  kIf v68 (
  kq (some (.str [81])) <| fun v96 =>
  j70 [v96] h12) (
  j70 [v60] h12)) <| fun j65 =>
  kIf v63 (
  kq (some (.str [81])) <| fun v97 =>
  j65 [v97] h11) (
  j65 [v59] h11)) <| fun j52 =>
  kIf v50 (
  kq (some (.int .i64 0)) <| fun v98 =>
  j52 [v98] h9) (
  kq (some a1) <| fun v99 =>
  kq (rFieldP 3 v0) <| fun v100 =>
  kq (rLoad v100 h9) <| fun v101 =>
  ke (call N_fb_state_is [v99, v101] h9) <| fun v102 h18 =>
  kq (some v102) <| fun v103 =>
  kj (fun l104 h19 =>
  j52 [(gd l104 0)] h19) <| fun j105 =>
  kIf v103 (
  kq (some a1) <| fun v106 =>
  kq (aNilCheck v106) <| fun v107 =>
  kq (rFieldP 0 v107) <| fun v108 =>
  kq (rLoad v108 h18) <| fun v109 =>
  kq (rLook .string (.int .i64 0) false v109 (.str [80, 86]) h18) <| fun v110 =>
  kq (some v110) <| fun v111 =>
  j105 [v111] h18) (
  kq (some v19) <| fun v112 =>
  kq (some v112) <| fun v113 =>
  kt (fun v118 =>
  kq (some v118) <| fun v119 =>
  kj (fun l120 h21 =>
  j105 [(gd l120 0)] h21) <| fun j121 =>
  kIf v119 (
  kq (some v6) <| fun v122 =>
  kq (rBin .add .no true v122 (.int .i64 1)) <| fun v123 =>
  kq (some v45) <| fun v124 =>
  kq (aMM aMin2 [v123, v124]) <| fun v125 =>
  kq (some v125) <| fun v126 =>
  j121 [v126] h18) (
  kq (some v39) <| fun v127 =>
  kq (some v127) <| fun v128 =>
  kt (fun v133 =>
  kq (some v133) <| fun v134 =>
  kj (fun l135 h23 =>
  j121 [(gd l135 0)] h23) <| fun j136 =>
  kIf v134 (
  kq (some v6) <| fun v137 =>
  kq (rBin .sub .no true v137 (.int .i64 1)) <| fun v138 =>
  kq (some v44) <| fun v139 =>
  kq (aMM aMax2 [v138, v139]) <| fun v140 =>
  kq (some v140) <| fun v141 =>
  j136 [v141] h18) (
  j136 [v6] h18)) <| fun j129 =>
  kgq v128 true (fun k => kq (some v19) k) <| fun v130 =>
  kgq v128 true (fun k => kq (aUn .not v130) k) <| fun v131 =>
  kq (rPick v128 v131 (.bool false)) <| fun v132 =>
  j129 v132)) <| fun j114 =>
  kgq v113 true (fun k => kq (some v39) k) <| fun v115 =>
  kgq v113 true (fun k => kq (aUn .not v115) k) <| fun v116 =>
  kq (rPick v113 v116 (.bool false)) <| fun v117 =>
  j114 v117))) <| fun j30 =>
  kgq v29 true (fun k => kq (some a1) k) <| fun v31 =>
  kgq v29 true (fun k => kq (rFieldP 1 v0) k) <| fun v32 =>
  kgq v29 true (fun k => kq (rLoad v32 h4) k) <| fun v33 =>
  kgq v29 true (fun k => kq (some (gd l24 0)) k) <| fun v34 =>
  kgh v29 true h4 (fun k => ke (call N_fb_state_rises [v31, v33, v34] h4) <| fun v35 h5 =>
  k v35 h5) <| fun v36 h6 =>
  kq (rPick v29 v36 (.bool false)) <| fun v37 =>
  j30 v37 h6) <| fun j25 =>
  kIf v23 (
  kq (some (.int .i64 1)) <| fun v142 =>
  j25 [v142] h3) (
  j25 [v20] h3)) <| fun j11 =>
  kgq v10 true (fun k => kq (some a1) k) <| fun v12 =>
  kgq v10 true (fun k => kq (rFieldP 0 v0) k) <| fun v13 =>
  kgq v10 true (fun k => kq (rLoad v13 h0) k) <| fun v14 =>
  kgh v10 true h0 (fun k => ke (call N_fb_state_rises [v12, v14, (.int .i64 0)] h0) <| fun v15 h1 =>
  k v15 h1) <| fun v16 h2 =>
  kq (rPick v10 v16 (.bool false)) <| fun v17 =>
  j11 v17 h2
theorem F__fb_count_step_eq (call callD : ACall) (a0 a1 : AVal) (h : AH) : kFunc Tryd.prog [0] call callD N__fb_count_step [a0, a1] h = F__fb_count_step call callD a0 a1 h := by kernel_rfl
theorem C__fb_count_step {ov : AOver} (H : Plain ov) (n : Nat) (a0 a1 : AVal) (h : AH) : kc ov (n + 1) N__fb_count_step [a0, a1] h = F__fb_count_step (kc ov n) (kd ov n) a0 a1 h := by
  have hov : ov N__fb_count_step = none := H _ (by decide)
  unfold kc kd; rw [← F__fb_count_step_eq]; simp only [kcall, hov]

/-- (*rung/fb.state).rises -/
noncomputable def F_fb_state_rises (call callD : ACall) (a0 a1 a2 : AVal) (h : AH) : Ans :=
  kq (some (.bool false)) <| fun v0 =>
  kq (some a0) <| fun v1 =>
  kq (some a2) <| fun v2 =>
  kq (aNilCheck v1) <| fun v3 =>
  kq (rFieldP 1 v3) <| fun v4 =>
  kq (rAtArr 3 1 v4 v2) <| fun v5 =>
  kq (rLoad v5 h) <| fun v6 =>
  kq (rBin .neq .no true v6 (.int .i64 0)) <| fun v7 =>
  kq (some v7) <| fun v8 =>
  kq (some a0) <| fun v9 =>
  kq (some a2) <| fun v10 =>
  kq (some a0) <| fun v11 =>
  kq (some a1) <| fun v12 =>
  kq (aNilCheck v9) <| fun v13 =>
  kq (rFieldP 1 v13) <| fun v14 =>
  ke (call N_fb_state_is [v11, v12] h) <| fun v15 h0 =>
  ke (call N_fb_truth [v15] h0) <| fun v16 h1 =>
  kq (rAtArr 3 1 v14 v10) <| fun v17 =>
  ke ((rStore 1 v17 v16 h1).map fun h' => (.tuple [], h')) <| fun v18 h2 =>
  kq (some a0) <| fun v19 =>
  kq (some a1) <| fun v20 =>
  ke (call N_fb_state_is [v19, v20] h2) <| fun v21 h3 =>
  kq (some v21) <| fun v22 =>
  kt (fun v27 =>
  kq (some v27) <| fun v28 =>
  some (v28, h3)) <| fun j23 =>
  kgq v22 true (fun k => kq (some v8) k) <| fun v24 =>
  kgq v22 true (fun k => kq (aUn .not v24) k) <| fun v25 =>
  kq (rPick v22 v25 (.bool false)) <| fun v26 =>
  j23 v26
theorem F_fb_state_rises_eq (call callD : ACall) (a0 a1 a2 : AVal) (h : AH) : kFunc Tryd.prog [0] call callD N_fb_state_rises [a0, a1, a2] h = F_fb_state_rises call callD a0 a1 a2 h := by kernel_rfl
theorem C_fb_state_rises {ov : AOver} (H : Plain ov) (n : Nat) (a0 a1 a2 : AVal) (h : AH) : kc ov (n + 1) N_fb_state_rises [a0, a1, a2] h = F_fb_state_rises (kc ov n) (kd ov n) a0 a1 a2 h := by
  have hov : ov N_fb_state_rises = none := H _ (by decide)
  unfold kc kd; rw [← F_fb_state_rises_eq]; simp only [kcall, hov]

/-- rung/num.Range -/
noncomputable def F_num_Range (call callD : ACall) (a0 : AVal) (h : AH) : Ans :=
  kq (some (.int .i64 0)) <| fun v0 =>
  kq (some (.int .i64 0)) <| fun v1 =>
  kq (some a0) <| fun v2 =>
  ke (call N_num_of [v2] h) <| fun v3 h0 =>
  kq (some v3) <| fun v4 =>
  kq (aExtract v4 0) <| fun v5 =>
  kq (aExtract v4 1) <| fun v6 =>
  km (pBox T_num_kind (.agg [(.str []), (.int .i64 0), (.bool false), (.bool false)])) h0 <| fun v7 h1 =>
  ke ((rStore 4 v7 v5 h1).map fun h' => (.tuple [], h')) <| fun v8 h2 =>
  kq (some v6) <| fun v9 =>
  kq (some v9) <| fun v10 =>
  kq (aUn .not v10) <| fun v11 =>
  kq (some v11) <| fun v12 =>
  kIf v12 (
  kq (some (.int .i64 0)) <| fun v13 =>
  kq (some (.int .i64 0)) <| fun v14 =>
  some (.tuple [v13, v14], h2)) (
  kq (rFieldP 2 v7) <| fun v15 =>
  kq (rLoad v15 h2) <| fun v16 =>
  kq (some v16) <| fun v17 =>
  kIf v17 (
  kq (rFieldP 1 v7) <| fun v18 =>
  kq (rLoad v18 h2) <| fun v19 =>
  kq (rBin .sub .no true v19 (.int .i64 1)) <| fun v20 =>
  kq (rConvI .u64 v20) <| fun v21 =>
  kq (rBin .shl .no true (.int .i64 (-1)) v21) <| fun v22 =>
  kq (rFieldP 1 v7) <| fun v23 =>
  kq (rLoad v23 h2) <| fun v24 =>
  kq (rBin .sub .no true v24 (.int .i64 1)) <| fun v25 =>
  kq (rConvI .u64 v25) <| fun v26 =>
  kq (rBin .shl .no true (.int .i64 1) v26) <| fun v27 =>
  kq (rBin .sub .no true v27 (.int .i64 1)) <| fun v28 =>
  kq (some v22) <| fun v29 =>
  kq (some v28) <| fun v30 =>
  some (.tuple [v29, v30], h2)) (
  kq (rFieldP 1 v7) <| fun v31 =>
  kq (rLoad v31 h2) <| fun v32 =>
  kq (rConvI .u64 v32) <| fun v33 =>
  kq (rBin .shl .no true (.int .i64 1) v33) <| fun v34 =>
  kq (rBin .sub .no true v34 (.int .i64 1)) <| fun v35 =>
  kq (some (.int .i64 0)) <| fun v36 =>
  kq (some v35) <| fun v37 =>
  some (.tuple [v36, v37], h2)))
theorem F_num_Range_eq (call callD : ACall) (a0 : AVal) (h : AH) : kFunc Tryd.prog [0] call callD N_num_Range [a0] h = F_num_Range call callD a0 h := by kernel_rfl
theorem C_num_Range {ov : AOver} (H : Plain ov) (n : Nat) (a0 : AVal) (h : AH) : kc ov (n + 1) N_num_Range [a0] h = F_num_Range (kc ov n) (kd ov n) a0 h := by
  have hov : ov N_num_Range = none := H _ (by decide)
  unfold kc kd; rw [← F_num_Range_eq]; simp only [kcall, hov]

/-- (rung/fb.ton).step -/
noncomputable def F__fb_ton_step (call callD : ACall) (a0 a1 : AVal) (h : AH) : Ans :=
  km (pBox T_fb_ton a0) h <| fun v0 h0 =>
  kq (some a1) <| fun v1 =>
  ke (call N_fb_state_rises [v1, (.str [73, 78]), (.int .i64 0)] h0) <| fun v2 h1 =>
  kj (fun l3 h2 =>
  kq (some a1) <| fun v5 =>
  ke (call N_fb_state_is [v5, (.str [73, 78])] h2) <| fun v6 h3 =>
  kq (aUn .not v6) <| fun v7 =>
  kq (some v7) <| fun v8 =>
  kj (fun l9 h4 =>
  some (.tuple [], h4)) <| fun j10 =>
  kIf v8 (
  kq (some a1) <| fun v11 =>
  kq (aNilCheck v11) <| fun v12 =>
  kq (rFieldP 0 v12) <| fun v13 =>
  kq (rLoad v13 h3) <| fun v14 =>
  kq (some a1) <| fun v15 =>
  kq (aNilCheck v15) <| fun v16 =>
  kq (rFieldP 0 v16) <| fun v17 =>
  kq (rLoad v17 h3) <| fun v18 =>
  kq (some a1) <| fun v19 =>
  kq (aNilCheck v19) <| fun v20 =>
  kq (rFieldP 1 v20) <| fun v21 =>
  ke (rMapEnt .string (.int .i64 0) v14 (.str [69, 84]) h3) <| fun v22 h5 =>
  kq (aExtract v22 1) <| fun v23 =>
  kChk (!false || kSame (rLoad v17 h5) v18) <|
  kChk (!false || kSame (rLoad v13 h5) v14) <|
  ke ((rEntSet v14 v23 (.int .i64 0) h5).map fun h' => (.tuple [], h')) <| fun v24 h6 =>
  kChk (!false || kSame (rLoad v17 h6) v18) <|
  kChk (!false || kSame (rLoad v13 h6) v14) <|
  ke (rMapEnt .string (.int .i64 0) v18 (.str [81]) h6) <| fun v25 h7 =>
  kq (aExtract v25 1) <| fun v26 =>
  kChk (!false || kSame (rLoad v17 h7) v18) <|
  kChk (!false || kSame (rLoad v13 h7) v14) <|
  ke ((rEntSet v18 v26 (.int .i64 0) h7).map fun h' => (.tuple [], h')) <| fun v27 h8 =>
  kq (rAtArr 3 1 v21 (.int .i64 2)) <| fun v28 =>
  kChk (!false || kSame (rLoad v17 h8) v18) <|
  kChk (!false || kSame (rLoad v13 h8) v14) <|
  ke ((rStore 1 v28 (.int .i64 0) h8).map fun h' => (.tuple [], h')) <| fun v29 h9 =>
  kChk (!false || kSame (rLoad v17 h9) v18) <|
  kChk (!false || kSame (rLoad v13 h9) v14) <|
  j10 [] h9) (
  kq (some a1) <| fun v30 =>
  kq (aNilCheck v30) <| fun v31 =>
  kq (rFieldP 1 v31) <| fun v32 =>
  kq (rAtArr 3 1 v32 (.int .i64 2)) <| fun v33 =>
  kq (rLoad v33 h3) <| fun v34 =>
  kq (rBin .eql .no true v34 (.int .i64 1)) <| fun v35 =>
  kq (some v35) <| fun v36 =>
  kj (fun l37 h10 =>
  j10 [] h10) <| fun j38 =>
  kIf v36 (
  kq (some a1) <| fun v39 =>
  kq (aNilCheck v39) <| fun v40 =>
  kq (rFieldP 0 v40) <| fun v41 =>
  kq (rLoad v41 h3) <| fun v42 =>
  kq (some a1) <| fun v43 =>
  kq (aNilCheck v43) <| fun v44 =>
  kq (rFieldP 0 v44) <| fun v45 =>
  kq (rLoad v45 h3) <| fun v46 =>
  kq (some a1) <| fun v47 =>
  ke (call N_fb_state_pt [v47] h3) <| fun v48 h11 =>
  kChk (!true || kSame (rLoad v45 h11) v46) <|
  kChk (!true || kSame (rLoad v41 h11) v42) <|
  ke (rMapEnt .string (.int .i64 0) v42 (.str [69, 84]) h11) <| fun v49 h12 =>
  kq (aExtract v49 1) <| fun v50 =>
  kChk (!false || kSame (rLoad v45 h12) v46) <|
  kChk (!false || kSame (rLoad v41 h12) v42) <|
  ke ((rEntSet v42 v50 v48 h12).map fun h' => (.tuple [], h')) <| fun v51 h13 =>
  kChk (!false || kSame (rLoad v45 h13) v46) <|
  kChk (!false || kSame (rLoad v41 h13) v42) <|
  ke (rMapEnt .string (.int .i64 0) v46 (.str [81]) h13) <| fun v52 h14 =>
  kq (aExtract v52 1) <| fun v53 =>
  kChk (!false || kSame (rLoad v45 h14) v46) <|
  kChk (!false || kSame (rLoad v41 h14) v42) <|
  ke ((rEntSet v46 v53 (.int .i64 1) h14).map fun h' => (.tuple [], h')) <| fun v54 h15 =>
  kChk (!false || kSame (rLoad v45 h15) v46) <|
  kChk (!false || kSame (rLoad v41 h15) v42) <|
  j38 [] h15) (
  kq (some a1) <| fun v55 =>
  kq (aNilCheck v55) <| fun v56 =>
  kq (rFieldP 0 v56) <| fun v57 =>
  kq (rLoad v57 h3) <| fun v58 =>
  kq (some a1) <| fun v59 =>
  ke (call N_fb_state_elapsed [v59] h3) <| fun v60 h16 =>
  kChk (!true || kSame (rLoad v57 h16) v58) <|
  ke ((rMapSet .string v58 (.str [69, 84]) v60 h16).map fun h' => (.tuple [], h')) <| fun v61 h17 =>
  kChk (!false || kSame (rLoad v57 h17) v58) <|
  kq (some a1) <| fun v62 =>
  kq (some a1) <| fun v63 =>
  kq (aNilCheck v63) <| fun v64 =>
  kq (rFieldP 0 v64) <| fun v65 =>
  kq (rLoad v65 h17) <| fun v66 =>
  kq (rLook .string (.int .i64 0) false v66 (.str [69, 84]) h17) <| fun v67 =>
  kq (some a1) <| fun v68 =>
  ke (call N_fb_state_pt [v68] h17) <| fun v69 h18 =>
  kq (rBin .geq .no false v67 v69) <| fun v70 =>
  kChk (!true || kSame (rLook .string (.int .i64 0) false v66 (.str [69, 84]) h18) v67) <|
  kChk (!true || kSame (rLoad v65 h18) v66) <|
  ke (call N_fb_state_set [v62, (.str [81]), v70] h18) <| fun v71 h19 =>
  kChk (!false || kSame (rLook .string (.int .i64 0) false v66 (.str [69, 84]) h19) v67) <|
  kChk (!false || kSame (rLoad v65 h19) v66) <|
  kq (some a1) <| fun v72 =>
  kq (some a1) <| fun v73 =>
  kq (aNilCheck v73) <| fun v74 =>
  kq (rFieldP 0 v74) <| fun v75 =>
  kq (rLoad v75 h19) <| fun v76 =>
  kq (rLook .string (.int .i64 0) false v76 (.str [81]) h19) <| fun v77 =>
  kq (aNilCheck v72) <| fun v78 =>
  kq (rFieldP 1 v78) <| fun v79 =>
  kq (rAtArr 3 1 v79 (.int .i64 2)) <| fun v80 =>
  ke ((rStore 1 v80 v77 h19).map fun h' => (.tuple [], h')) <| fun v81 h20 =>
  kChk (!false || kSame (rLook .string (.int .i64 0) false v76 (.str [81]) h20) v77) <|
  kChk (!false || kSame (rLoad v75 h20) v76) <|
  j38 [] h20))) <| fun j4 =>
  kIf v2 (
  kq (some a1) <| fun v82 =>
  kq (some a1) <| fun v83 =>
  kq (some a1) <| fun v84 =>
  kq (aNilCheck v84) <| fun v85 =>
  kq (rFieldP 4 v85) <| fun v86 =>
  kq (rLoad v86 h1) <| fun v87 =>
  kq (aNilCheck v82) <| fun v88 =>
  kq (rFieldP 1 v88) <| fun v89 =>
  kq (rAtArr 3 1 v89 (.int .i64 1)) <| fun v90 =>
  kq (aNilCheck v83) <| fun v91 =>
  kq (rFieldP 1 v91) <| fun v92 =>
  ke ((rStore 1 v90 v87 h1).map fun h' => (.tuple [], h')) <| fun v93 h21 =>
  kq (rAtArr 3 1 v92 (.int .i64 2)) <| fun v94 =>
  kChk (!false || kSame (rLoad v86 h21) v87) <|
  ke ((rStore 1 v94 (.int .i64 0) h21).map fun h' => (.tuple [], h')) <| fun v95 h22 =>
  kChk (!false || kSame (rLoad v86 h22) v87) <|
  j4 [] h22) (
  j4 [] h1)
theorem F__fb_ton_step_eq (call callD : ACall) (a0 a1 : AVal) (h : AH) : kFunc Tryd.prog [0] call callD N__fb_ton_step [a0, a1] h = F__fb_ton_step call callD a0 a1 h := by kernel_rfl
theorem C__fb_ton_step {ov : AOver} (H : Plain ov) (n : Nat) (a0 a1 : AVal) (h : AH) : kc ov (n + 1) N__fb_ton_step [a0, a1] h = F__fb_ton_step (kc ov n) (kd ov n) a0 a1 h := by
  have hov : ov N__fb_ton_step = none := H _ (by decide)
  unfold kc kd; rw [← F__fb_ton_step_eq]; simp only [kcall, hov]

/-- (*rung/fb.state).pt -/
noncomputable def F_fb_state_pt (call callD : ACall) (a0 : AVal) (h : AH) : Ans :=
  kq (some (.int .i64 0)) <| fun v0 =>
  kq (some a0) <| fun v1 =>
  kq (aNilCheck v1) <| fun v2 =>
  kq (rFieldP 0 v2) <| fun v3 =>
  kq (rLoad v3 h) <| fun v4 =>
  kq (rLook .string (.int .i64 0) false v4 (.str [80, 84]) h) <| fun v5 =>
  kq (aMM aMax2 [v5, (.int .i64 0)]) <| fun v6 =>
  kq (some v6) <| fun v7 =>
  some (v7, h)
theorem F_fb_state_pt_eq (call callD : ACall) (a0 : AVal) (h : AH) : kFunc Tryd.prog [0] call callD N_fb_state_pt [a0] h = F_fb_state_pt call callD a0 h := by kernel_rfl
theorem C_fb_state_pt {ov : AOver} (H : Plain ov) (n : Nat) (a0 : AVal) (h : AH) : kc ov (n + 1) N_fb_state_pt [a0] h = F_fb_state_pt (kc ov n) (kd ov n) a0 h := by
  have hov : ov N_fb_state_pt = none := H _ (by decide)
  unfold kc kd; rw [← F_fb_state_pt_eq]; simp only [kcall, hov]

/-- (*rung/fb.state).since -/
noncomputable def F_fb_state_since (call callD : ACall) (a0 : AVal) (h : AH) : Ans :=
  kq (some (.int .i64 0)) <| fun v0 =>
  kq (some a0) <| fun v1 =>
  kq (aNilCheck v1) <| fun v2 =>
  kq (rFieldP 4 v2) <| fun v3 =>
  kq (rLoad v3 h) <| fun v4 =>
  kq (some a0) <| fun v5 =>
  kq (aNilCheck v5) <| fun v6 =>
  kq (rFieldP 1 v6) <| fun v7 =>
  kq (rAtArr 3 1 v7 (.int .i64 1)) <| fun v8 =>
  kq (rLoad v8 h) <| fun v9 =>
  kq (rBin .sub .no false v4 v9) <| fun v10 =>
  ke (call N_num_Wrap [(.int .i64 4), v10] h) <| fun v11 h0 =>
  kq (aMM aMax2 [v11, (.int .i64 0)]) <| fun v12 =>
  kq (some v12) <| fun v13 =>
  kChk (!false || kSame (rLoad v8 h0) v9) <|
  kChk (!false || kSame (rLoad v3 h0) v4) <|
  some (v13, h0)
theorem F_fb_state_since_eq (call callD : ACall) (a0 : AVal) (h : AH) : kFunc Tryd.prog [0] call callD N_fb_state_since [a0] h = F_fb_state_since call callD a0 h := by kernel_rfl
theorem C_fb_state_since {ov : AOver} (H : Plain ov) (n : Nat) (a0 : AVal) (h : AH) : kc ov (n + 1) N_fb_state_since [a0] h = F_fb_state_since (kc ov n) (kd ov n) a0 h := by
  have hov : ov N_fb_state_since = none := H _ (by decide)
  unfold kc kd; rw [← F_fb_state_since_eq]; simp only [kcall, hov]

/-- (rung/fb.tof).step -/
noncomputable def F__fb_tof_step (call callD : ACall) (a0 a1 : AVal) (h : AH) : Ans :=
  km (pBox T_fb_tof a0) h <| fun v0 h0 =>
  kq (some a1) <| fun v1 =>
  kq (aNilCheck v1) <| fun v2 =>
  kq (rFieldP 1 v2) <| fun v3 =>
  kq (rAtArr 3 1 v3 (.int .i64 0)) <| fun v4 =>
  kq (rLoad v4 h0) <| fun v5 =>
  kq (rBin .neq .no true v5 (.int .i64 0)) <| fun v6 =>
  kq (some v6) <| fun v7 =>
  kq (some a1) <| fun v8 =>
  kq (some a1) <| fun v9 =>
  kq (aNilCheck v8) <| fun v10 =>
  kq (rFieldP 1 v10) <| fun v11 =>
  ke (call N_fb_state_is [v9, (.str [73, 78])] h0) <| fun v12 h1 =>
  ke (call N_fb_truth [v12] h1) <| fun v13 h2 =>
  kq (rAtArr 3 1 v11 (.int .i64 0)) <| fun v14 =>
  ke ((rStore 1 v14 v13 h2).map fun h' => (.tuple [], h')) <| fun v15 h3 =>
  kq (some a1) <| fun v16 =>
  ke (call N_fb_state_is [v16, (.str [73, 78])] h3) <| fun v17 h4 =>
  kIf v17 (
  kq (some a1) <| fun v18 =>
  kq (aNilCheck v18) <| fun v19 =>
  kq (rFieldP 0 v19) <| fun v20 =>
  kq (rLoad v20 h4) <| fun v21 =>
  kq (some a1) <| fun v22 =>
  kq (aNilCheck v22) <| fun v23 =>
  kq (rFieldP 0 v23) <| fun v24 =>
  kq (rLoad v24 h4) <| fun v25 =>
  kq (some a1) <| fun v26 =>
  kq (aNilCheck v26) <| fun v27 =>
  kq (rFieldP 1 v27) <| fun v28 =>
  ke (rMapEnt .string (.int .i64 0) v21 (.str [81]) h4) <| fun v29 h5 =>
  kq (aExtract v29 1) <| fun v30 =>
  kChk (!false || kSame (rLoad v24 h5) v25) <|
  kChk (!false || kSame (rLoad v20 h5) v21) <|
  ke ((rEntSet v21 v30 (.int .i64 1) h5).map fun h' => (.tuple [], h')) <| fun v31 h6 =>
  kChk (!false || kSame (rLoad v24 h6) v25) <|
  kChk (!false || kSame (rLoad v20 h6) v21) <|
  ke (rMapEnt .string (.int .i64 0) v25 (.str [69, 84]) h6) <| fun v32 h7 =>
  kq (aExtract v32 1) <| fun v33 =>
  kChk (!false || kSame (rLoad v24 h7) v25) <|
  kChk (!false || kSame (rLoad v20 h7) v21) <|
  ke ((rEntSet v25 v33 (.int .i64 0) h7).map fun h' => (.tuple [], h')) <| fun v34 h8 =>
  kq (rAtArr 3 1 v28 (.int .i64 2)) <| fun v35 =>
  kChk (!false || kSame (rLoad v24 h8) v25) <|
  kChk (!false || kSame (rLoad v20 h8) v21) <|
  ke ((rStore 1 v35 (.int .i64 0) h8).map fun h' => (.tuple [], h')) <| fun v36 h9 =>
  kChk (!false || kSame (rLoad v24 h9) v25) <|
  kChk (!false || kSame (rLoad v20 h9) v21) <|
  some (.tuple [], h9)) (
  kq (some v7) <| fun v37 =>
  kj (fun l38 h10 =>
  kq (some a1) <| fun v40 =>
  kq (aNilCheck v40) <| fun v41 =>
  kq (rFieldP 1 v41) <| fun v42 =>
  kq (rAtArr 3 1 v42 (.int .i64 2)) <| fun v43 =>
  kq (rLoad v43 h10) <| fun v44 =>
  kq (rBin .eql .no true v44 (.int .i64 0)) <| fun v45 =>
  kIf v45 (
  kq (some a1) <| fun v46 =>
  kq (aNilCheck v46) <| fun v47 =>
  kq (rFieldP 0 v47) <| fun v48 =>
  kq (rLoad v48 h10) <| fun v49 =>
  ke ((rMapSet .string v49 (.str [81]) (.int .i64 0) h10).map fun h' => (.tuple [], h')) <| fun v50 h11 =>
  some (.tuple [], h11)) (
  kq (some a1) <| fun v51 =>
  kq (aNilCheck v51) <| fun v52 =>
  kq (rFieldP 0 v52) <| fun v53 =>
  kq (rLoad v53 h10) <| fun v54 =>
  kq (some a1) <| fun v55 =>
  ke (call N_fb_state_elapsed [v55] h10) <| fun v56 h12 =>
  kChk (!true || kSame (rLoad v53 h12) v54) <|
  ke ((rMapSet .string v54 (.str [69, 84]) v56 h12).map fun h' => (.tuple [], h')) <| fun v57 h13 =>
  kChk (!false || kSame (rLoad v53 h13) v54) <|
  kq (some a1) <| fun v58 =>
  kq (some a1) <| fun v59 =>
  kq (aNilCheck v59) <| fun v60 =>
  kq (rFieldP 0 v60) <| fun v61 =>
  kq (rLoad v61 h13) <| fun v62 =>
  kq (rLook .string (.int .i64 0) false v62 (.str [69, 84]) h13) <| fun v63 =>
  kq (some a1) <| fun v64 =>
  ke (call N_fb_state_pt [v64] h13) <| fun v65 h14 =>
  kq (rBin .lss .no false v63 v65) <| fun v66 =>
  kChk (!true || kSame (rLook .string (.int .i64 0) false v62 (.str [69, 84]) h14) v63) <|
  kChk (!true || kSame (rLoad v61 h14) v62) <|
  ke (call N_fb_state_set [v58, (.str [81]), v66] h14) <| fun v67 h15 =>
  kChk (!false || kSame (rLook .string (.int .i64 0) false v62 (.str [69, 84]) h15) v63) <|
  kChk (!false || kSame (rLoad v61 h15) v62) <|
  kq (some a1) <| fun v68 =>
  ke (call N_fb_state_is [v68, (.str [81])] h15) <| fun v69 h16 =>
  kq (aUn .not v69) <| fun v70 =>
  kj (fun l71 h17 =>
  some (.tuple [], h17)) <| fun j72 =>
  kIf v70 (
  kq (some a1) <| fun v73 =>
  kq (aNilCheck v73) <| fun v74 =>
  kq (rFieldP 1 v74) <| fun v75 =>
  kq (rAtArr 3 1 v75 (.int .i64 2)) <| fun v76 =>
  ke ((rStore 1 v76 (.int .i64 0) h16).map fun h' => (.tuple [], h')) <| fun v77 h18 =>
  j72 [] h18) (
  j72 [] h16))) <| fun j39 =>
  kIf v37 (
  kq (some a1) <| fun v78 =>
  kq (some a1) <| fun v79 =>
  kq (some a1) <| fun v80 =>
  kq (aNilCheck v80) <| fun v81 =>
  kq (rFieldP 4 v81) <| fun v82 =>
  kq (rLoad v82 h4) <| fun v83 =>
  kq (aNilCheck v78) <| fun v84 =>
  kq (rFieldP 1 v84) <| fun v85 =>
  kq (rAtArr 3 1 v85 (.int .i64 1)) <| fun v86 =>
  kq (aNilCheck v79) <| fun v87 =>
  kq (rFieldP 1 v87) <| fun v88 =>
  ke ((rStore 1 v86 v83 h4).map fun h' => (.tuple [], h')) <| fun v89 h19 =>
  kq (rAtArr 3 1 v88 (.int .i64 2)) <| fun v90 =>
  kChk (!false || kSame (rLoad v82 h19) v83) <|
  ke ((rStore 1 v90 (.int .i64 1) h19).map fun h' => (.tuple [], h')) <| fun v91 h20 =>
  kChk (!false || kSame (rLoad v82 h20) v83) <|
  j39 [] h20) (
  j39 [] h4))
theorem F__fb_tof_step_eq (call callD : ACall) (a0 a1 : AVal) (h : AH) : kFunc Tryd.prog [0] call callD N__fb_tof_step [a0, a1] h = F__fb_tof_step call callD a0 a1 h := by kernel_rfl
theorem C__fb_tof_step {ov : AOver} (H : Plain ov) (n : Nat) (a0 a1 : AVal) (h : AH) : kc ov (n + 1) N__fb_tof_step [a0, a1] h = F__fb_tof_step (kc ov n) (kd ov n) a0 a1 h := by
  have hov : ov N__fb_tof_step = none := H _ (by decide)
  unfold kc kd; rw [← F__fb_tof_step_eq]; simp only [kcall, hov]

/-- (rung/fb.tp).step -/
noncomputable def F__fb_tp_step (call callD : ACall) (a0 a1 : AVal) (h : AH) : Ans :=
  km (pBox T_fb_tp a0) h <| fun v0 h0 =>
  kq (some a1) <| fun v1 =>
  ke (call N_fb_state_rises [v1, (.str [73, 78]), (.int .i64 0)] h0) <| fun v2 h1 =>
  kq (some v2) <| fun v3 =>
  kq (some a1) <| fun v4 =>
  kq (aNilCheck v4) <| fun v5 =>
  kq (rFieldP 1 v5) <| fun v6 =>
  kq (rAtArr 3 1 v6 (.int .i64 2)) <| fun v7 =>
  kq (rLoad v7 h1) <| fun v8 =>
  kq (rBin .neq .no true v8 (.int .i64 1)) <| fun v9 =>
  kq (some v9) <| fun v10 =>
  kt (fun v14 =>
  kj (fun l15 h3 =>
  kq (some a1) <| fun v17 =>
  kq (aNilCheck v17) <| fun v18 =>
  kq (rFieldP 1 v18) <| fun v19 =>
  kq (rAtArr 3 1 v19 (.int .i64 2)) <| fun v20 =>
  kq (rLoad v20 h3) <| fun v21 =>
  kq (rBin .eql .no true v21 (.int .i64 1)) <| fun v22 =>
  kj (fun l23 h4 =>
  kq (some a1) <| fun v25 =>
  kq (aNilCheck v25) <| fun v26 =>
  kq (rFieldP 1 v26) <| fun v27 =>
  kq (rAtArr 3 1 v27 (.int .i64 2)) <| fun v28 =>
  kq (rLoad v28 h4) <| fun v29 =>
  kq (rBin .neq .no true v29 (.int .i64 1)) <| fun v30 =>
  kq (some v30) <| fun v31 =>
  kth (fun v38 h7 =>
  kj (fun l39 h8 =>
  some (.tuple [], h8)) <| fun j40 =>
  kIf v38 (
  kq (some a1) <| fun v41 =>
  kq (aNilCheck v41) <| fun v42 =>
  kq (rFieldP 0 v42) <| fun v43 =>
  kq (rLoad v43 h7) <| fun v44 =>
  kq (some a1) <| fun v45 =>
  kq (aNilCheck v45) <| fun v46 =>
  kq (rFieldP 1 v46) <| fun v47 =>
  ke (rMapEnt .string (.int .i64 0) v44 (.str [69, 84]) h7) <| fun v48 h9 =>
  kq (aExtract v48 1) <| fun v49 =>
  kChk (!false || kSame (rLoad v43 h9) v44) <|
  ke ((rEntSet v44 v49 (.int .i64 0) h9).map fun h' => (.tuple [], h')) <| fun v50 h10 =>
  kq (rAtArr 3 1 v47 (.int .i64 2)) <| fun v51 =>
  kChk (!false || kSame (rLoad v43 h10) v44) <|
  ke ((rStore 1 v51 (.int .i64 0) h10).map fun h' => (.tuple [], h')) <| fun v52 h11 =>
  kChk (!false || kSame (rLoad v43 h11) v44) <|
  j40 [] h11) (
  j40 [] h7)) <| fun j32 =>
  kgq v31 true (fun k => kq (some a1) k) <| fun v33 =>
  kgh v31 true h4 (fun k => ke (call N_fb_state_is [v33, (.str [73, 78])] h4) <| fun v34 h5 =>
  k v34 h5) <| fun v35 h6 =>
  kgq v31 true (fun k => kq (aUn .not v35) k) <| fun v36 =>
  kq (rPick v31 v36 (.bool false)) <| fun v37 =>
  j32 v37 h6) <| fun j24 =>
  kIf v22 (
  kq (some a1) <| fun v53 =>
  kq (aNilCheck v53) <| fun v54 =>
  kq (rFieldP 0 v54) <| fun v55 =>
  kq (rLoad v55 h3) <| fun v56 =>
  kq (some a1) <| fun v57 =>
  ke (call N_fb_state_elapsed [v57] h3) <| fun v58 h12 =>
  kChk (!true || kSame (rLoad v55 h12) v56) <|
  ke ((rMapSet .string v56 (.str [69, 84]) v58 h12).map fun h' => (.tuple [], h')) <| fun v59 h13 =>
  kChk (!false || kSame (rLoad v55 h13) v56) <|
  kq (some a1) <| fun v60 =>
  kq (some a1) <| fun v61 =>
  kq (aNilCheck v61) <| fun v62 =>
  kq (rFieldP 0 v62) <| fun v63 =>
  kq (rLoad v63 h13) <| fun v64 =>
  kq (rLook .string (.int .i64 0) false v64 (.str [69, 84]) h13) <| fun v65 =>
  kq (some a1) <| fun v66 =>
  ke (call N_fb_state_pt [v66] h13) <| fun v67 h14 =>
  kq (rBin .lss .no false v65 v67) <| fun v68 =>
  kChk (!true || kSame (rLook .string (.int .i64 0) false v64 (.str [69, 84]) h14) v65) <|
  kChk (!true || kSame (rLoad v63 h14) v64) <|
  ke (call N_fb_state_set [v60, (.str [81]), v68] h14) <| fun v69 h15 =>
  kChk (!false || kSame (rLook .string (.int .i64 0) false v64 (.str [69, 84]) h15) v65) <|
  kChk (!false || kSame (rLoad v63 h15) v64) <|
  kq (some a1) <| fun v70 =>
  ke (call N_fb_state_is [v70, (.str [81])] h15) <| fun v71 h16 =>
  kq (aUn .not v71) <| fun v72 =>
  kj (fun l73 h17 =>
  j24 [] h17) <| fun j74 =>
  kIf v72 (
  kq (some a1) <| fun v75 =>
  kq (aNilCheck v75) <| fun v76 =>
  kq (rFieldP 1 v76) <| fun v77 =>
  kq (rAtArr 3 1 v77 (.int .i64 2)) <| fun v78 =>
  ke ((rStore 1 v78 (.int .i64 2) h16).map fun h' => (.tuple [], h')) <| fun v79 h18 =>
  j74 [] h18) (
  j74 [] h16)) (
  kq (some a1) <| fun v80 =>
  kq (aNilCheck v80) <| fun v81 =>
  kq (rFieldP 0 v81) <| fun v82 =>
  kq (rLoad v82 h3) <| fun v83 =>
  ke ((rMapSet .string v83 (.str [81]) (.int .i64 0) h3).map fun h' => (.tuple [], h')) <| fun v84 h19 =>
  j24 [] h19)) <| fun j16 =>
  kIf v14 (
  kq (some a1) <| fun v85 =>
  kq (some a1) <| fun v86 =>
  kq (some a1) <| fun v87 =>
  kq (aNilCheck v87) <| fun v88 =>
  kq (rFieldP 4 v88) <| fun v89 =>
  kq (rLoad v89 h1) <| fun v90 =>
  kq (aNilCheck v85) <| fun v91 =>
  kq (rFieldP 1 v91) <| fun v92 =>
  kq (rAtArr 3 1 v92 (.int .i64 1)) <| fun v93 =>
  kq (aNilCheck v86) <| fun v94 =>
  kq (rFieldP 1 v94) <| fun v95 =>
  ke ((rStore 1 v93 v90 h1).map fun h' => (.tuple [], h')) <| fun v96 h20 =>
  kq (rAtArr 3 1 v95 (.int .i64 2)) <| fun v97 =>
  kChk (!false || kSame (rLoad v89 h20) v90) <|
  ke ((rStore 1 v97 (.int .i64 1) h20).map fun h' => (.tuple [], h')) <| fun v98 h21 =>
  kChk (!false || kSame (rLoad v89 h21) v90) <|
  j16 [] h21) (
  j16 [] h1)) <| fun j11 =>
  kgq v10 true (fun k => kq (some v3) k) <| fun v12 =>
  kq (rPick v10 v12 (.bool false)) <| fun v13 =>
  j11 v13
theorem F__fb_tp_step_eq (call callD : ACall) (a0 a1 : AVal) (h : AH) : kFunc Tryd.prog [0] call callD N__fb_tp_step [a0, a1] h = F__fb_tp_step call callD a0 a1 h := by kernel_rfl
theorem C__fb_tp_step {ov : AOver} (H : Plain ov) (n : Nat) (a0 a1 : AVal) (h : AH) : kc ov (n + 1) N__fb_tp_step [a0, a1] h = F__fb_tp_step (kc ov n) (kd ov n) a0 a1 h := by
  have hov : ov N__fb_tp_step = none := H _ (by decide)
  unfold kc kd; rw [← F__fb_tp_step_eq]; simp only [kcall, hov]


end Go.Proofs.YtindiedfioiejaaDoor.AI
