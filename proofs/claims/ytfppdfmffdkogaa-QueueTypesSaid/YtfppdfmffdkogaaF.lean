/- PRINTED by Pr2: the functions of the program as the machine sees them. -/
import Derived.Test.YtfppdfmffdkogaaAiLib5
import Derived.Test.YtfppdfmffdkogaaProg
import Derived.KernelRfl
namespace Go.Proofs.Ytfppdfmffdkogaa.AI
open Go
set_option linter.unusedVariables false
set_option maxRecDepth 100000
abbrev T_int : Nat := 3
abbrev T_uint8 : Nat := 5
abbrev T_string : Nat := 9
abbrev T_func___int : Nat := 38
abbrev T_runglaw24_thing : Nat := 46
abbrev T_queue_Queue_int_ : Nat := 77
abbrev T_queue_Queue_runglaw24_thing_ : Nat := 82
abbrev T_queue_Queue_func___int_ : Nat := 85
abbrev T_queue_Queue_string_ : Nat := 89
abbrev N_runglaw24_QueuePlays : Nat := 3
abbrev N_runglaw24_QueueTypes : Nat := 4
abbrev N_runglaw24_known : Nat := 5
abbrev N_queue_New_int_ : Nat := 6
abbrev N_queue_Queue_int__Put : Nat := 7
abbrev N_queue_Queue_int__Take : Nat := 8
abbrev N_queue_Queue_int__Drain : Nat := 9
abbrev N_runghelp_Ints : Nat := 10
abbrev N_queue_Queue_int__Counts : Nat := 11
abbrev N_queue_Queue_int__Len : Nat := 12
abbrev N_queue_New_runglaw24_thing_ : Nat := 13
abbrev N_queue_New_func___int_ : Nat := 14
abbrev N_queue_Queue_runglaw24_thing__Put : Nat := 15
abbrev N_queue_Queue_func___int__Put : Nat := 16
abbrev N_runglaw24_QueueTypes_1 : Nat := 17
abbrev N_queue_Queue_runglaw24_thing__Drain : Nat := 18
abbrev N_queue_Queue_func___int__Take : Nat := 19
abbrev N_queue_Queue_func___int__Len : Nat := 20
abbrev N_queue_Queue_runglaw24_thing__Len : Nat := 21
abbrev N_queue_New_string_ : Nat := 22
abbrev N_queue_Queue_string__Put : Nat := 23
abbrev N_queue_Queue_string__Take : Nat := 24
abbrev N_queue_Queue_string__Counts : Nat := 25
abbrev N_queue_Queue_string__Len : Nat := 26
abbrev N_sync_Once_Do : Nat := 27
abbrev N_queue_Queue_int__room : Nat := 28
abbrev N_sync_Mutex_Lock : Nat := 29
abbrev N_sync_Mutex_Unlock : Nat := 30
abbrev N_sync_atomic_Uint64_Add : Nat := 31
abbrev N_queue_Queue_int__first : Nat := 32
abbrev N_sync_atomic_Uint64_Load : Nat := 33
abbrev N_queue_Queue_runglaw24_thing__room : Nat := 34
abbrev N_queue_Queue_func___int__room : Nat := 35
abbrev N_queue_Queue_runglaw24_thing__first : Nat := 36
abbrev N_queue_Queue_func___int__first : Nat := 37
abbrev N_queue_Queue_string__room : Nat := 38
abbrev N_queue_Queue_string__first : Nat := 39
abbrev N_sync_atomic_Bool_Load : Nat := 40
abbrev N_sync_Once_doSlow : Nat := 41
abbrev N_internal_sync_Mutex_Lock : Nat := 42
abbrev N_internal_sync_Mutex_Unlock : Nat := 43
abbrev N_sync_atomic_AddUint64 : Nat := 44
abbrev N_sync_atomic_LoadUint64 : Nat := 45
abbrev N_sync_atomic_LoadUint32 : Nat := 46
abbrev N_sync_atomic_Bool_Store : Nat := 47
abbrev N_internal_race_Disable : Nat := 48
abbrev N_sync_atomic_CompareAndSwapInt32 : Nat := 49
abbrev N_internal_race_Enable : Nat := 50
abbrev N_internal_race_Acquire : Nat := 51
abbrev N_internal_sync_Mutex_lockSlow : Nat := 52
abbrev N_internal_race_ReleaseMerge : Nat := 53
abbrev N_sync_atomic_AddInt32 : Nat := 54
abbrev N_internal_sync_Mutex_unlockSlow : Nat := 55
abbrev N_sync_atomic_StoreUint32 : Nat := 56
abbrev N_sync_atomic_b32 : Nat := 57
abbrev N_internal_sync_runtime_canSpin : Nat := 58
abbrev N_internal_sync_runtime_doSpin : Nat := 59
abbrev N_internal_sync_throw : Nat := 60
abbrev N_internal_sync_runtime_nanotime : Nat := 61
abbrev N_internal_sync_runtime_SemacquireMutex : Nat := 62
abbrev N_internal_sync_fatal : Nat := 63
abbrev N_internal_sync_runtime_Semrelease : Nat := 64
/-- Functions that another thing stands in for. -/
def OVS : List Nat := [5, 44, 45, 46, 48, 49, 50, 51, 53, 54, 56, 58, 59, 60, 61, 62, 63, 64, 81, 82, 83, 84, 85]
def Plain (ov : AOver) : Prop := ∀ f, f ∉ OVS → ov f = none
noncomputable def kc (ov : AOver) (n : Nat) : ACall := kcall Try.prog [] ov n
noncomputable def kd (ov : AOver) (n : Nat) : ACall := kFuncD Try.prog [] (kcall Try.prog [] ov n)
/-- rung/runglaw24.QueuePlays -/
noncomputable def L_runglaw24_QueuePlays_0 (call callD : ACall) (a1 : AVal) (v10 : AVal) (v14 : AVal) : (List AVal → AH → Ans) → List AVal → AH → Ans := fun j21 l20 h2 =>
  kq (some (gd l20 4)) <| fun v22 =>
  kq (some a1) <| fun v23 =>
  kq (rLen v23) <| fun v24 =>
  kq (rBin .lss .no false v22 v24) <| fun v25 =>
  kIf v25 (
  kq (some a1) <| fun v26 =>
  kq (some (gd l20 4)) <| fun v27 =>
  kq (rAt 2 v26 v27) <| fun v28 =>
  kq (rFieldP 0 v28) <| fun v29 =>
  kq (rLoad v29 h2) <| fun v30 =>
  kq (rBin .eql .no true v30 (.int .i64 0)) <| fun v31 =>
  kq (some v31) <| fun v32 =>
  kj (fun l33 h3 =>
  kj (fun l35 h4 =>
  kq (some v10) <| fun v37 =>
  ke (call N_queue_Queue_int__Counts [v37] h4) <| fun v38 h5 =>
  kq (some v38) <| fun v39 =>
  kq (aExtract v39 0) <| fun v40 =>
  kq (aExtract v39 1) <| fun v41 =>
  kq (aExtract v39 2) <| fun v42 =>
  kq (some v40) <| fun v43 =>
  kq (some v41) <| fun v44 =>
  kq (some v42) <| fun v45 =>
  kq (some v10) <| fun v46 =>
  ke (call N_queue_Queue_int__Len [v46] h5) <| fun v47 h6 =>
  kq (some (gd l35 0)) <| fun v48 =>
  kq (rLen v48) <| fun v49 =>
  kq (rBin .neq .no false v47 v49) <| fun v50 =>
  kq (some v50) <| fun v51 =>
  kt (fun v67 =>
  kIf v67 (
  kq (some (.bool false)) <| fun v68 =>
  some (v68, h6)) (
  kq (some (gd l20 4)) <| fun v69 =>
  kq (rBin .add .no true v69 (.int .i64 1)) <| fun v70 =>
  kq (some v70) <| fun v71 =>
  j21 [(gd l35 0), (gd l35 1), (gd l35 2), (gd l35 3), v71] h6)) <| fun j52 =>
  kgq v51 false (fun k => kq (some v43) k) <| fun v53 =>
  kgq v51 false (fun k => kq (some (gd l35 1)) k) <| fun v54 =>
  kgq v51 false (fun k => kq (rBin .neq .no false v53 v54) k) <| fun v55 =>
  kq (rPick v51 (.bool true) v55) <| fun v56 =>
  kq (some v56) <| fun v57 =>
  kgq v57 false (fun k => kq (some v44) k) <| fun v58 =>
  kgq v57 false (fun k => kq (some (gd l35 2)) k) <| fun v59 =>
  kgq v57 false (fun k => kq (rBin .neq .no false v58 v59) k) <| fun v60 =>
  kq (rPick v57 (.bool true) v60) <| fun v61 =>
  kq (some v61) <| fun v62 =>
  kgq v62 false (fun k => kq (some v45) k) <| fun v63 =>
  kgq v62 false (fun k => kq (some (gd l35 3)) k) <| fun v64 =>
  kgq v62 false (fun k => kq (rBin .neq .no false v63 v64) k) <| fun v65 =>
  kq (rPick v62 (.bool true) v65) <| fun v66 =>
  j52 v66) <| fun j36 =>
  kIf (gd l33 0) (
  kq (some v10) <| fun v72 =>
  kq (some a1) <| fun v73 =>
  kq (some (gd l20 4)) <| fun v74 =>
  kq (rAt 2 v73 v74) <| fun v75 =>
  kq (rFieldP 1 v75) <| fun v76 =>
  kq (rLoad v76 h3) <| fun v77 =>
  ke (call N_queue_Queue_int__Put [v72, v77] h3) <| fun v78 h8 =>
  kq (some v78) <| fun v79 =>
  kq (some v79) <| fun v80 =>
  kq (rBin .eql .no true v80 (.int .i64 0)) <| fun v81 =>
  kq (some (gd l20 0)) <| fun v82 =>
  kq (rLen v82) <| fun v83 =>
  kq (some v14) <| fun v84 =>
  kq (rBin .lss .no false v83 v84) <| fun v85 =>
  kq (rBin .neq .bool false v81 v85) <| fun v86 =>
  kq (some v86) <| fun v87 =>
  kt (fun v96 =>
  kIf v96 (
  kq (some (.bool false)) <| fun v97 =>
  some (v97, h8)) (
  kq (some v79) <| fun v98 =>
  kq (rBin .eql .no true v98 (.int .i64 0)) <| fun v99 =>
  kj (fun l100 h10 =>
  j36 [(gd l100 0), (gd l100 1), (gd l100 2), (gd l20 3)] h10) <| fun j101 =>
  kIf v99 (
  kq (some (gd l20 0)) <| fun v102 =>
  kq (some a1) <| fun v103 =>
  kq (some (gd l20 4)) <| fun v104 =>
  kq (rAt 2 v103 v104) <| fun v105 =>
  kq (rFieldP 1 v105) <| fun v106 =>
  kq (rLoad v106 h8) <| fun v107 =>
  km (mBuildSl T_int 1 [(.int .i64 0)] 1 [(0, v107)]) h8 <| fun v108 h11 =>
  ke (rAppend T_int 1 8 v102 v108 h11) <| fun v109 h12 =>
  kq (some v109) <| fun v110 =>
  kq (some (gd l20 1)) <| fun v111 =>
  kq (rBin .add .no true v111 (.int .u64 1)) <| fun v112 =>
  kq (some v112) <| fun v113 =>
  j101 [v110, v113, (gd l20 2)] h12) (
  kq (some (gd l20 2)) <| fun v114 =>
  kq (rBin .add .no true v114 (.int .u64 1)) <| fun v115 =>
  kq (some v115) <| fun v116 =>
  j101 [(gd l20 0), (gd l20 1), v116] h8))) <| fun j88 =>
  kgq v87 false (fun k => kq (some v79) k) <| fun v89 =>
  kgq v87 false (fun k => kq (rBin .neq .no true v89 (.int .i64 0)) k) <| fun v90 =>
  kgq v87 false (fun k => kq (some v90) k) <| fun v91 =>
  kgq v91 true (fun k => kq (some v79) k) <| fun v92 =>
  kgq v91 true (fun k => kq (rBin .neq .no true v92 (.int .i64 240)) k) <| fun v93 =>
  kgq v87 false (fun k => kq (rPick v91 v93 (.bool false)) k) <| fun v94 =>
  kq (rPick v87 (.bool true) v94) <| fun v95 =>
  j88 v95) (
  kq (rBin .eql .no true v30 (.int .i64 3)) <| fun v117 =>
  kq (some v117) <| fun v118 =>
  kj (fun l119 h13 =>
  kj (fun l121 h14 =>
  j36 [(gd l121 0), (gd l20 1), (gd l20 2), (gd l121 1)] h14) <| fun j122 =>
  kIf (gd l119 0) (
  kq (some v10) <| fun v123 =>
  ke (call N_queue_Queue_int__Take [v123] h13) <| fun v124 h15 =>
  kq (some v124) <| fun v125 =>
  kq (aExtract v125 0) <| fun v126 =>
  kq (aExtract v125 1) <| fun v127 =>
  kq (some v126) <| fun v128 =>
  kq (some v127) <| fun v129 =>
  kq (some v129) <| fun v130 =>
  kq (some (gd l20 0)) <| fun v131 =>
  kq (rLen v131) <| fun v132 =>
  kq (rBin .gtr .no true v132 (.int .i64 0)) <| fun v133 =>
  kq (rBin .neq .bool false v130 v133) <| fun v134 =>
  kq (some v134) <| fun v135 =>
  kt (fun v154 =>
  kIf v154 (
  kq (some (.bool false)) <| fun v155 =>
  some (v155, h15)) (
  kq (some v129) <| fun v156 =>
  kj (fun l157 h17 =>
  j122 [(gd l157 0), (gd l157 1)] h17) <| fun j158 =>
  kIf v156 (
  kq (some (gd l20 0)) <| fun v159 =>
  kq (rCut 1 v159 (some (.int .i64 1)) none none) <| fun v160 =>
  kq (some v160) <| fun v161 =>
  kq (some (gd l20 3)) <| fun v162 =>
  kq (rBin .add .no true v162 (.int .u64 1)) <| fun v163 =>
  kq (some v163) <| fun v164 =>
  j158 [v161, v164] h15) (
  j158 [(gd l20 0), (gd l20 3)] h15))) <| fun j136 =>
  kgq v135 false (fun k => kq (some v129) k) <| fun v137 =>
  kgq v135 false (fun k => kq (some v137) k) <| fun v138 =>
  kgq v138 true (fun k => kq (some v128) k) <| fun v139 =>
  kgq v138 true (fun k => kq (some (gd l20 0)) k) <| fun v140 =>
  kgq v138 true (fun k => kq (rAt 1 v140 (.int .i64 0)) k) <| fun v141 =>
  kgq v138 true (fun k => kq (rLoad v141 h15) k) <| fun v142 =>
  kgq v138 true (fun k => kq (rBin .neq .no false v139 v142) k) <| fun v143 =>
  kgq v135 false (fun k => kq (rPick v138 v143 (.bool false)) k) <| fun v144 =>
  kq (rPick v135 (.bool true) v144) <| fun v145 =>
  kq (some v145) <| fun v146 =>
  kgq v146 false (fun k => kq (some v129) k) <| fun v147 =>
  kgq v146 false (fun k => kq (aUn .not v147) k) <| fun v148 =>
  kgq v146 false (fun k => kq (some v148) k) <| fun v149 =>
  kgq v149 true (fun k => kq (some v128) k) <| fun v150 =>
  kgq v149 true (fun k => kq (rBin .neq .no true v150 (.int .i64 0)) k) <| fun v151 =>
  kgq v146 false (fun k => kq (rPick v149 v151 (.bool false)) k) <| fun v152 =>
  kq (rPick v146 (.bool true) v152) <| fun v153 =>
  j136 v153) (
  kq (rBin .eql .no true v30 (.int .i64 5)) <| fun v165 =>
  kq (some v165) <| fun v166 =>
  kj (fun l167 h18 =>
  j122 [(gd l167 0), (gd l167 1)] h18) <| fun j168 =>
  kIf v166 (
  kq (some v10) <| fun v169 =>
  ke (call N_queue_Queue_int__Drain [v169] h13) <| fun v170 h19 =>
  kq (some v170) <| fun v171 =>
  kq (some v171) <| fun v172 =>
  kq (some (gd l20 0)) <| fun v173 =>
  ke (call N_runghelp_Ints [v172, v173] h19) <| fun v174 h20 =>
  kq (aUn .not v174) <| fun v175 =>
  kIf v175 (
  kq (some (.bool false)) <| fun v176 =>
  some (v176, h20)) (
  kq (some (gd l20 3)) <| fun v177 =>
  kq (some (gd l20 0)) <| fun v178 =>
  kq (rLen v178) <| fun v179 =>
  kq (rConvI .u64 v179) <| fun v180 =>
  kq (rBin .add .no false v177 v180) <| fun v181 =>
  kq (some v181) <| fun v182 =>
  kq (some (.slice none 0 0)) <| fun v183 =>
  j168 [v183, v182] h20)) (
  j168 [(gd l20 0), (gd l20 3)] h13))) <| fun j120 =>
  kIf v118 (
  j120 [v118] h3) (
  kq (rBin .eql .no true v30 (.int .i64 4)) <| fun v184 =>
  kq (some v184) <| fun v185 =>
  j120 [v185] h3))) <| fun j34 =>
  kIf v32 (
  j34 [v32] h2) (
  kq (rBin .eql .no true v30 (.int .i64 1)) <| fun v186 =>
  kq (some v186) <| fun v187 =>
  kj (fun l188 h21 =>
  j34 [(gd l188 0)] h21) <| fun j189 =>
  kIf v187 (
  j189 [v187] h2) (
  kq (rBin .eql .no true v30 (.int .i64 2)) <| fun v190 =>
  kq (some v190) <| fun v191 =>
  j189 [v191] h2))) (
  kq (some v10) <| fun v192 =>
  ke (call N_queue_Queue_int__Drain [v192] h2) <| fun v193 h22 =>
  kq (some (gd l20 0)) <| fun v194 =>
  ke (call N_runghelp_Ints [v193, v194] h22) <| fun v195 h23 =>
  kq (some v195) <| fun v196 =>
  some (v196, h23))
noncomputable def F_runglaw24_QueuePlays (call callD : ACall) (a0 a1 : AVal) (h : AH) : Ans :=
  kq (some (.bool false)) <| fun v0 =>
  ke (call N_runglaw24_known [] h) <| fun v1 h0 =>
  kq (aUn .not v1) <| fun v2 =>
  kIf v2 (
  kq (some (.bool false)) <| fun v3 =>
  some (v3, h0)) (
  kq (some a1) <| fun v4 =>
  kq (rLen v4) <| fun v5 =>
  kq (rBin .gtr .no true v5 (.int .i64 500)) <| fun v6 =>
  kIf v6 (
  kq (some (.bool true)) <| fun v7 =>
  some (v7, h0)) (
  kq (some a0) <| fun v8 =>
  ke (call N_queue_New_int_ [v8] h0) <| fun v9 h1 =>
  kq (some v9) <| fun v10 =>
  kq (some a0) <| fun v11 =>
  kq (aMM aMax2 [v11, (.int .i64 1)]) <| fun v12 =>
  kq (aMM aMin2 [v12, (.int .i64 64)]) <| fun v13 =>
  kq (some v13) <| fun v14 =>
  kq (some (.slice none 0 0)) <| fun v15 =>
  kq (some (.int .u64 0)) <| fun v16 =>
  kq (some (.int .u64 0)) <| fun v17 =>
  kq (some (.int .u64 0)) <| fun v18 =>
  kq (some (.int .i64 0)) <| fun v19 =>
  kLoop (L_runglaw24_QueuePlays_0 call callD a1 v10 v14) rounds [v15, v16, v17, v18, v19] h1))
theorem F_runglaw24_QueuePlays_eq (call callD : ACall) (a0 a1 : AVal) (h : AH) : kFunc Try.prog [] call callD N_runglaw24_QueuePlays [a0, a1] h = F_runglaw24_QueuePlays call callD a0 a1 h := by kernel_rfl
theorem C_runglaw24_QueuePlays {ov : AOver} (H : Plain ov) (n : Nat) (a0 a1 : AVal) (h : AH) : kc ov (n + 1) N_runglaw24_QueuePlays [a0, a1] h = F_runglaw24_QueuePlays (kc ov n) (kd ov n) a0 a1 h := by
  have hov : ov N_runglaw24_QueuePlays = none := H _ (by decide)
  unfold kc kd; rw [← F_runglaw24_QueuePlays_eq]; simp only [kcall, hov]

/-- rung/runglaw24.QueueTypes -/
noncomputable def L_runglaw24_QueueTypes_0 (call callD : ACall) (a0 : AVal) (v18 : AVal) (a1 : AVal) (v67 : AVal) (v17 : AVal) : (List AVal → AH → Ans) → List AVal → AH → Ans := fun j70 l69 h17 =>
  kq (some (gd l69 0)) <| fun v71 =>
  kq (some a0) <| fun v72 =>
  kq (rLen v72) <| fun v73 =>
  kq (rBin .lss .no false v71 v73) <| fun v74 =>
  kq (some v74) <| fun v75 =>
  kt (fun v82 =>
  kIf v82 (
  kq (some v18) <| fun v83 =>
  ke (call N_queue_Queue_func___int__Take [v83] h17) <| fun v84 h19 =>
  kq (some v84) <| fun v85 =>
  kq (aExtract v85 0) <| fun v86 =>
  kq (aExtract v85 1) <| fun v87 =>
  kq (some v86) <| fun v88 =>
  kq (some v87) <| fun v89 =>
  kq (some v89) <| fun v90 =>
  kq (aUn .not v90) <| fun v91 =>
  kq (some v91) <| fun v92 =>
  kgq v92 false (fun k => kq (some v88) k) <| fun v93 =>
  kgq v92 false (fun k => kq (rBin .eql .func true v93 .nilFunc) k) <| fun v94 =>
  kq (rPick v92 (.bool true) v94) <| fun v95 =>
  kq (some v95) <| fun v96 =>
  kgq v96 false (fun k => kq (some v88) k) <| fun v97 =>
  kgq v96 false (fun k => kq (some a1) k) <| fun v98 =>
  kgq v96 false (fun k => kq (some (gd l69 0)) k) <| fun v99 =>
  kgq v96 false (fun k => kq (rAt 1 v98 v99) k) <| fun v100 =>
  kgq v96 false (fun k => kq (rLoad v100 h19) k) <| fun v101 =>
  kgq v96 false (fun k => kq (some (gd l69 0)) k) <| fun v102 =>
  kgq v96 false (fun k => kq (rBin .add .no false v101 v102) k) <| fun v103 =>
  kgh v96 false h19 (fun k => ke (rCallV call v97 [] h19) k) <| fun v104 h20 =>
  kgq v96 false (fun k => kq (rBin .neq .no false v104 v103) k) <| fun v105 =>
  kq (rPick v96 (.bool true) v105) <| fun v106 =>
  kq (some v106) <| fun v107 =>
  kgq v107 false (fun k => kq (some v67) k) <| fun v108 =>
  kgq v107 false (fun k => kq (rLen v108) k) <| fun v109 =>
  kgq v107 false (fun k => kq (some (gd l69 0)) k) <| fun v110 =>
  kgq v107 false (fun k => kq (rBin .leq .no false v109 v110) k) <| fun v111 =>
  kq (rPick v107 (.bool true) v111) <| fun v112 =>
  kq (some v112) <| fun v113 =>
  kgq v113 false (fun k => kq (some v67) k) <| fun v114 =>
  kgq v113 false (fun k => kq (some (gd l69 0)) k) <| fun v115 =>
  kgq v113 false (fun k => kq (rAt 4 v114 v115) k) <| fun v116 =>
  kgq v113 false (fun k => kq (rFieldP 0 v116) k) <| fun v117 =>
  kgq v113 false (fun k => kq (rLoad v117 h20) k) <| fun v118 =>
  kgq v113 false (fun k => kq (some a0) k) <| fun v119 =>
  kgq v113 false (fun k => kq (some (gd l69 0)) k) <| fun v120 =>
  kgq v113 false (fun k => kq (rAt 1 v119 v120) k) <| fun v121 =>
  kgq v113 false (fun k => kq (rLoad v121 h20) k) <| fun v122 =>
  kgq v113 false (fun k => kq (rBin .neq .no false v118 v122) k) <| fun v123 =>
  kq (rPick v113 (.bool true) v123) <| fun v124 =>
  kq (some v124) <| fun v125 =>
  kgq v125 false (fun k => kq (some v67) k) <| fun v126 =>
  kgq v125 false (fun k => kq (some (gd l69 0)) k) <| fun v127 =>
  kgq v125 false (fun k => kq (rAt 4 v126 v127) k) <| fun v128 =>
  kgq v125 false (fun k => kq (rFieldP 1 v128) k) <| fun v129 =>
  kgq v125 false (fun k => kq (rLoadA 2 v129 h20) k) <| fun v130 =>
  kgq v125 false (fun k => kq (some a1) k) <| fun v131 =>
  kgq v125 false (fun k => kq (some (gd l69 0)) k) <| fun v132 =>
  kgq v125 false (fun k => kq (rAt 1 v131 v132) k) <| fun v133 =>
  kgq v125 false (fun k => kq (rLoad v133 h20) k) <| fun v134 =>
  kgq v125 false (fun k => kq (some (gd l69 0)) k) <| fun v135 =>
  kgq v125 false (fun k => kq (rBuildA [(.int .i64 0), (.int .i64 0)] 1 [(0, v134), (1, v135)]) k) <| fun v136 =>
  kgq v125 false (fun k => kq (rBin .neq (.ints 2) false v130 v136) k) <| fun v137 =>
  kq (rPick v125 (.bool true) v137) <| fun v138 =>
  kq (some v138) <| fun v139 =>
  kgq v139 false (fun k => kq (some v67) k) <| fun v140 =>
  kgq v139 false (fun k => kq (some (gd l69 0)) k) <| fun v141 =>
  kgq v139 false (fun k => kq (rAt 4 v140 v141) k) <| fun v142 =>
  kgq v139 false (fun k => kq (rFieldP 3 v142) k) <| fun v143 =>
  kgq v139 false (fun k => kq (rLoad v143 h20) k) <| fun v144 =>
  kgq v139 false (fun k => kq (rText v144 h20) k) <| fun v145 =>
  kgq v139 false (fun k => kq (some a0) k) <| fun v146 =>
  kgq v139 false (fun k => kq (some (gd l69 0)) k) <| fun v147 =>
  kgq v139 false (fun k => kq (rAt 1 v146 v147) k) <| fun v148 =>
  kgq v139 false (fun k => kq (rLoad v148 h20) k) <| fun v149 =>
  kgq v139 false (fun k => kq (rBin .neq .no false v145 v149) k) <| fun v150 =>
  kq (rPick v139 (.bool true) v150) <| fun v151 =>
  kChk (!gOn v96 false || kSame (rLoad v100 h20) v101) <|
  kIf v151 (
  kq (some (.bool false)) <| fun v152 =>
  some (v152, h20)) (
  kq (some (gd l69 0)) <| fun v153 =>
  kq (rBin .add .no true v153 (.int .i64 1)) <| fun v154 =>
  kq (some v154) <| fun v155 =>
  j70 [v155] h20)) (
  kq (some v18) <| fun v156 =>
  ke (call N_queue_Queue_func___int__Len [v156] h17) <| fun v157 h21 =>
  kq (rBin .eql .no true v157 (.int .i64 0)) <| fun v158 =>
  kq (some v158) <| fun v159 =>
  kth (fun v166 h24 =>
  kq (some v166) <| fun v167 =>
  some (v167, h24)) <| fun j160 =>
  kgq v159 true (fun k => kq (some v17) k) <| fun v161 =>
  kgh v159 true h21 (fun k => ke (call N_queue_Queue_runglaw24_thing__Len [v161] h21) <| fun v162 h22 =>
  k v162 h22) <| fun v163 h23 =>
  kgq v159 true (fun k => kq (rBin .eql .no true v163 (.int .i64 0)) k) <| fun v164 =>
  kq (rPick v159 v164 (.bool false)) <| fun v165 =>
  j160 v165 h23)) <| fun j76 =>
  kgq v75 true (fun k => kq (some (gd l69 0)) k) <| fun v77 =>
  kgq v75 true (fun k => kq (some a1) k) <| fun v78 =>
  kgq v75 true (fun k => kq (rLen v78) k) <| fun v79 =>
  kgq v75 true (fun k => kq (rBin .lss .no false v77 v79) k) <| fun v80 =>
  kq (rPick v75 v80 (.bool false)) <| fun v81 =>
  j76 v81
noncomputable def L_runglaw24_QueueTypes_1 (call callD : ACall) (a0 : AVal) (a1 : AVal) (v17 : AVal) (v18 : AVal) : (List AVal → AH → Ans) → List AVal → AH → Ans := fun j22 l21 h6 =>
  kq (rLoad (gd l21 0) h6) <| fun v23 =>
  kq (some a0) <| fun v24 =>
  kq (rLen v24) <| fun v25 =>
  kq (rBin .lss .no false v23 v25) <| fun v26 =>
  kq (some v26) <| fun v27 =>
  kt (fun v34 =>
  kIf v34 (
  kq (some a1) <| fun v35 =>
  kq (rLoad (gd l21 0) h6) <| fun v36 =>
  kq (rAt 1 v35 v36) <| fun v37 =>
  kq (rLoad v37 h6) <| fun v38 =>
  km (pBox T_int (.int .i64 0)) h6 <| fun v39 h8 =>
  ke ((rStore 1 v39 v38 h8).map fun h' => (.tuple [], h')) <| fun v40 h9 =>
  kq (some v17) <| fun v41 =>
  kq (some a0) <| fun v42 =>
  kq (rLoad (gd l21 0) h9) <| fun v43 =>
  kq (rAt 1 v42 v43) <| fun v44 =>
  kq (rLoad v44 h9) <| fun v45 =>
  kq (rLoad v39 h9) <| fun v46 =>
  kq (rLoad (gd l21 0) h9) <| fun v47 =>
  kq (rBuildA [(.int .i64 0), (.int .i64 0)] 1 [(0, v46), (1, v47)]) <| fun v48 =>
  kq (some a0) <| fun v49 =>
  kq (rLoad (gd l21 0) h9) <| fun v50 =>
  kq (rAt 1 v49 v50) <| fun v51 =>
  kq (rLoad v51 h9) <| fun v52 =>
  km (mBytes T_uint8 v52) h9 <| fun v53 h10 =>
  kq (rBuild [(.str []), (.int .i64 0), (.int .i64 0), (.slice none 0 0)] [(0, 1), (1, 2), (3, 1)] [(0, v45), (1, v48), (2, v53)]) <| fun v54 =>
  kChk (!true || kSame (rLoad v51 h10) v52) <|
  kChk (!true || kSame (rLoad (gd l21 0) h10) v50) <|
  kChk (!true || kSame (rLoad (gd l21 0) h10) v47) <|
  kChk (!true || kSame (rLoad v39 h10) v46) <|
  kChk (!true || kSame (rLoad v44 h10) v45) <|
  kChk (!true || kSame (rLoad (gd l21 0) h10) v43) <|
  ke (call N_queue_Queue_runglaw24_thing__Put [v41, v54] h10) <| fun v55 h11 =>
  kChk (!false || kSame (rLoad v51 h11) v52) <|
  kChk (!false || kSame (rLoad (gd l21 0) h11) v50) <|
  kChk (!false || kSame (rLoad (gd l21 0) h11) v47) <|
  kChk (!false || kSame (rLoad v39 h11) v46) <|
  kChk (!false || kSame (rLoad v44 h11) v45) <|
  kChk (!false || kSame (rLoad (gd l21 0) h11) v43) <|
  kq (some v18) <| fun v56 =>
  kq (some (.func (.func N_runglaw24_QueueTypes_1) [] [v39, (gd l21 0)])) <| fun v57 =>
  ke (call N_queue_Queue_func___int__Put [v56, v57] h11) <| fun v58 h12 =>
  kq (rLoad (gd l21 0) h12) <| fun v59 =>
  km (pBox T_int (.int .i64 0)) h12 <| fun v60 h13 =>
  ke ((rStore 1 v60 v59 h13).map fun h' => (.tuple [], h')) <| fun v61 h14 =>
  kq (rLoad v60 h14) <| fun v62 =>
  kq (rBin .add .no true v62 (.int .i64 1)) <| fun v63 =>
  ke ((rStore 1 v60 v63 h14).map fun h' => (.tuple [], h')) <| fun v64 h15 =>
  j22 [v60] h15) (
  kq (some v17) <| fun v65 =>
  ke (call N_queue_Queue_runglaw24_thing__Drain [v65] h6) <| fun v66 h16 =>
  kq (some v66) <| fun v67 =>
  kq (some (.int .i64 0)) <| fun v68 =>
  kLoop (L_runglaw24_QueueTypes_0 call callD a0 v18 a1 v67 v17) rounds [v68] h16)) <| fun j28 =>
  kgq v27 true (fun k => kq (rLoad (gd l21 0) h6) k) <| fun v29 =>
  kgq v27 true (fun k => kq (some a1) k) <| fun v30 =>
  kgq v27 true (fun k => kq (rLen v30) k) <| fun v31 =>
  kgq v27 true (fun k => kq (rBin .lss .no false v29 v31) k) <| fun v32 =>
  kq (rPick v27 v32 (.bool false)) <| fun v33 =>
  j28 v33
noncomputable def F_runglaw24_QueueTypes (call callD : ACall) (a0 a1 : AVal) (h : AH) : Ans :=
  kq (some (.bool false)) <| fun v0 =>
  ke (call N_runglaw24_known [] h) <| fun v1 h0 =>
  kq (aUn .not v1) <| fun v2 =>
  kIf v2 (
  kq (some (.bool false)) <| fun v3 =>
  some (v3, h0)) (
  kq (some a0) <| fun v4 =>
  kq (rLen v4) <| fun v5 =>
  kq (rBin .gtr .no true v5 (.int .i64 60)) <| fun v6 =>
  kq (some v6) <| fun v7 =>
  kt (fun v13 =>
  kIf v13 (
  kq (some (.bool true)) <| fun v14 =>
  some (v14, h0)) (
  ke (call N_queue_New_runglaw24_thing_ [(.int .i64 64)] h0) <| fun v15 h2 =>
  ke (call N_queue_New_func___int_ [(.int .i64 64)] h2) <| fun v16 h3 =>
  kq (some v15) <| fun v17 =>
  kq (some v16) <| fun v18 =>
  km (pBox T_int (.int .i64 0)) h3 <| fun v19 h4 =>
  ke ((rStore 1 v19 (.int .i64 0) h4).map fun h' => (.tuple [], h')) <| fun v20 h5 =>
  kLoop (L_runglaw24_QueueTypes_1 call callD a0 a1 v17 v18) rounds [v19] h5)) <| fun j8 =>
  kgq v7 false (fun k => kq (some a1) k) <| fun v9 =>
  kgq v7 false (fun k => kq (rLen v9) k) <| fun v10 =>
  kgq v7 false (fun k => kq (rBin .gtr .no true v10 (.int .i64 60)) k) <| fun v11 =>
  kq (rPick v7 (.bool true) v11) <| fun v12 =>
  j8 v12)
theorem F_runglaw24_QueueTypes_eq (call callD : ACall) (a0 a1 : AVal) (h : AH) : kFunc Try.prog [] call callD N_runglaw24_QueueTypes [a0, a1] h = F_runglaw24_QueueTypes call callD a0 a1 h := by kernel_rfl
theorem C_runglaw24_QueueTypes {ov : AOver} (H : Plain ov) (n : Nat) (a0 a1 : AVal) (h : AH) : kc ov (n + 1) N_runglaw24_QueueTypes [a0, a1] h = F_runglaw24_QueueTypes (kc ov n) (kd ov n) a0 a1 h := by
  have hov : ov N_runglaw24_QueueTypes = none := H _ (by decide)
  unfold kc kd; rw [← F_runglaw24_QueueTypes_eq]; simp only [kcall, hov]

/-- rung/runglaw24.known -/
noncomputable def F_runglaw24_known (call callD : ACall) (h : AH) : Ans :=
  kq (some (.bool false)) <| fun v0 =>
  ke (call N_queue_New_string_ [(.int .i64 1)] h) <| fun v1 h0 =>
  kq (some v1) <| fun v2 =>
  kq (some v2) <| fun v3 =>
  kq (rBin .eql .ptr true v3 (.ptr none)) <| fun v4 =>
  kIf v4 (
  kq (some (.bool false)) <| fun v5 =>
  some (v5, h0)) (
  kq (some v2) <| fun v6 =>
  ke (call N_queue_Queue_string__Put [v6, (.str [97])] h0) <| fun v7 h1 =>
  kq (some v2) <| fun v8 =>
  ke (call N_queue_Queue_string__Put [v8, (.str [98])] h1) <| fun v9 h2 =>
  kq (some v7) <| fun v10 =>
  kq (some v9) <| fun v11 =>
  kq (some v2) <| fun v12 =>
  ke (call N_queue_Queue_string__Take [v12] h2) <| fun v13 h3 =>
  kq (some v13) <| fun v14 =>
  kq (aExtract v14 0) <| fun v15 =>
  kq (aExtract v14 1) <| fun v16 =>
  kq (some v15) <| fun v17 =>
  kq (some v16) <| fun v18 =>
  kq (some v2) <| fun v19 =>
  ke (call N_queue_Queue_string__Take [v19] h3) <| fun v20 h4 =>
  kq (some v20) <| fun v21 =>
  kq (aExtract v21 0) <| fun v22 =>
  kq (aExtract v21 1) <| fun v23 =>
  kq (some v22) <| fun v24 =>
  kq (some v23) <| fun v25 =>
  kq (some v2) <| fun v26 =>
  ke (call N_queue_Queue_string__Counts [v26] h4) <| fun v27 h5 =>
  kq (some v27) <| fun v28 =>
  kq (aExtract v28 0) <| fun v29 =>
  kq (aExtract v28 1) <| fun v30 =>
  kq (aExtract v28 2) <| fun v31 =>
  kq (some v29) <| fun v32 =>
  kq (some v30) <| fun v33 =>
  kq (some v31) <| fun v34 =>
  kq (some v10) <| fun v35 =>
  kq (rBin .eql .no true v35 (.int .i64 0)) <| fun v36 =>
  kq (some v36) <| fun v37 =>
  kth (fun v71 h8 =>
  kq (some v71) <| fun v72 =>
  some (v72, h8)) <| fun j38 =>
  kgq v37 true (fun k => kq (some v11) k) <| fun v39 =>
  kgq v37 true (fun k => kq (rBin .eql .no true v39 (.int .i64 240)) k) <| fun v40 =>
  kq (rPick v37 v40 (.bool false)) <| fun v41 =>
  kq (some v41) <| fun v42 =>
  kgq v42 true (fun k => kq (some v17) k) <| fun v43 =>
  kgq v42 true (fun k => kq (rBin .eql .no true v43 (.str [97])) k) <| fun v44 =>
  kq (rPick v42 v44 (.bool false)) <| fun v45 =>
  kq (some v45) <| fun v46 =>
  kgq v46 true (fun k => kq (some v18) k) <| fun v47 =>
  kq (rPick v46 v47 (.bool false)) <| fun v48 =>
  kq (some v48) <| fun v49 =>
  kgq v49 true (fun k => kq (some v25) k) <| fun v50 =>
  kgq v49 true (fun k => kq (aUn .not v50) k) <| fun v51 =>
  kq (rPick v49 v51 (.bool false)) <| fun v52 =>
  kq (some v52) <| fun v53 =>
  kgq v53 true (fun k => kq (some v32) k) <| fun v54 =>
  kgq v53 true (fun k => kq (rBin .eql .no true v54 (.int .u64 1)) k) <| fun v55 =>
  kq (rPick v53 v55 (.bool false)) <| fun v56 =>
  kq (some v56) <| fun v57 =>
  kgq v57 true (fun k => kq (some v33) k) <| fun v58 =>
  kgq v57 true (fun k => kq (rBin .eql .no true v58 (.int .u64 1)) k) <| fun v59 =>
  kq (rPick v57 v59 (.bool false)) <| fun v60 =>
  kq (some v60) <| fun v61 =>
  kgq v61 true (fun k => kq (some v34) k) <| fun v62 =>
  kgq v61 true (fun k => kq (rBin .eql .no true v62 (.int .u64 1)) k) <| fun v63 =>
  kq (rPick v61 v63 (.bool false)) <| fun v64 =>
  kq (some v64) <| fun v65 =>
  kgq v65 true (fun k => kq (some v2) k) <| fun v66 =>
  kgh v65 true h5 (fun k => ke (call N_queue_Queue_string__Len [v66] h5) <| fun v67 h6 =>
  k v67 h6) <| fun v68 h7 =>
  kgq v65 true (fun k => kq (rBin .eql .no true v68 (.int .i64 0)) k) <| fun v69 =>
  kq (rPick v65 v69 (.bool false)) <| fun v70 =>
  j38 v70 h7)
theorem F_runglaw24_known_eq (call callD : ACall) (h : AH) : kFunc Try.prog [] call callD N_runglaw24_known [] h = F_runglaw24_known call callD h := by kernel_rfl
theorem C_runglaw24_known {ov : AOver} (hov : ov N_runglaw24_known = none) (n : Nat) (h : AH) : kcall Try.prog [] ov (n + 1) N_runglaw24_known [] h = F_runglaw24_known (kcall Try.prog [] ov n) (kFuncD Try.prog [] (kcall Try.prog [] ov n)) h := by
  rw [← F_runglaw24_known_eq]; simp only [kcall, hov]

/-- rung/queue.New[int] -/
noncomputable def F_queue_New_int_ (call callD : ACall) (a0 : AVal) (h : AH) : Ans :=
  kq (some (.ptr none)) <| fun v0 =>
  kq (some a0) <| fun v1 =>
  kq (aMM aMax2 [v1, (.int .i64 1)]) <| fun v2 =>
  kq (aMM aMin2 [v2, (.int .i64 64)]) <| fun v3 =>
  kq (rBuild [(.int .i32 0), (.int .u32 0), (.int .u32 0), (.int .i32 0), (.int .u32 0), (.int .i64 0), (.slice none 0 0), (.int .i64 0), (.int .i64 0), (.int .u64 0), (.int .u64 0), (.int .u64 0)] [(0, 2), (2, 3), (5, 1), (6, 1), (7, 1), (8, 1), (9, 1), (10, 1), (11, 1)] [(2, v3)]) <| fun v4 =>
  km (pBox T_queue_Queue_int_ v4) h <| fun v5 h0 =>
  kq (some v5) <| fun v6 =>
  some (v6, h0)
theorem F_queue_New_int__eq (call callD : ACall) (a0 : AVal) (h : AH) : kFunc Try.prog [] call callD N_queue_New_int_ [a0] h = F_queue_New_int_ call callD a0 h := by kernel_rfl
theorem C_queue_New_int_ {ov : AOver} (H : Plain ov) (n : Nat) (a0 : AVal) (h : AH) : kc ov (n + 1) N_queue_New_int_ [a0] h = F_queue_New_int_ (kc ov n) (kd ov n) a0 h := by
  have hov : ov N_queue_New_int_ = none := H _ (by decide)
  unfold kc kd; rw [← F_queue_New_int__eq]; simp only [kcall, hov]

/-- (*rung/queue.Queue[int]).Put -/
noncomputable def F_queue_Queue_int__Put (call callD : ACall) (a0 a1 : AVal) (h : AH) : Ans :=
  kq (some (.int .i64 0)) <| fun v0 =>
  kq (some a0) <| fun v1 =>
  kq (aNilCheck v1) <| fun v2 =>
  kq (rFieldP 2 v2) <| fun v3 =>
  kq (some a0) <| fun v4 =>
  kq (some (.func (.func N_queue_Queue_int__room) [v4] [])) <| fun v5 =>
  ke (call N_sync_Once_Do [v3, v5] h) <| fun v6 h0 =>
  kq (some a0) <| fun v7 =>
  kq (aNilCheck v7) <| fun v8 =>
  kq (rFieldP 0 v8) <| fun v9 =>
  ke (call N_sync_Mutex_Lock [v9] h0) <| fun v10 h1 =>
  kq (some a0) <| fun v11 =>
  kq (aNilCheck v11) <| fun v12 =>
  kq (rFieldP 0 v12) <| fun v13 =>
  kq (some a0) <| fun v14 =>
  kq (aNilCheck v14) <| fun v15 =>
  kq (rFieldP 8 v15) <| fun v16 =>
  kq (rLoad v16 h1) <| fun v17 =>
  kq (some a0) <| fun v18 =>
  kq (aNilCheck v18) <| fun v19 =>
  kq (rFieldP 5 v19) <| fun v20 =>
  kq (rLoad v20 h1) <| fun v21 =>
  kq (rBin .eql .no false v17 v21) <| fun v22 =>
  kIf v22 (
  kq (some a0) <| fun v23 =>
  kq (aNilCheck v23) <| fun v24 =>
  kq (rFieldP 10 v24) <| fun v25 =>
  ke (call N_sync_atomic_Uint64_Add [v25, (.int .u64 1)] h1) <| fun v26 h2 =>
  kq (some (.int .i64 240)) <| fun v27 =>
  ke (callD N_sync_Mutex_Unlock [v13] h2) <| fun v28 h3 =>
  some (v27, h3)) (
  kq (some a0) <| fun v29 =>
  kq (aNilCheck v29) <| fun v30 =>
  kq (rFieldP 6 v30) <| fun v31 =>
  kq (rLoad v31 h1) <| fun v32 =>
  kq (some a0) <| fun v33 =>
  kq (aNilCheck v33) <| fun v34 =>
  kq (rFieldP 7 v34) <| fun v35 =>
  kq (rLoad v35 h1) <| fun v36 =>
  kq (some a0) <| fun v37 =>
  kq (aNilCheck v37) <| fun v38 =>
  kq (rFieldP 8 v38) <| fun v39 =>
  kq (rLoad v39 h1) <| fun v40 =>
  kq (rBin .add .no false v36 v40) <| fun v41 =>
  kq (some a0) <| fun v42 =>
  kq (aNilCheck v42) <| fun v43 =>
  kq (rFieldP 5 v43) <| fun v44 =>
  kq (rLoad v44 h1) <| fun v45 =>
  kq (rBin .rem .no false v41 v45) <| fun v46 =>
  kq (some a1) <| fun v47 =>
  kq (rAt 1 v32 v46) <| fun v48 =>
  ke ((rStore 1 v48 v47 h1).map fun h' => (.tuple [], h')) <| fun v49 h4 =>
  kChk (!false || kSame (rLoad v44 h4) v45) <|
  kChk (!false || kSame (rLoad v39 h4) v40) <|
  kChk (!false || kSame (rLoad v35 h4) v36) <|
  kChk (!false || kSame (rLoad v31 h4) v32) <|
  kq (some a0) <| fun v50 =>
  kq (aNilCheck v50) <| fun v51 =>
  kq (rFieldP 8 v51) <| fun v52 =>
  kq (rLoad v52 h4) <| fun v53 =>
  kq (rBin .add .no true v53 (.int .i64 1)) <| fun v54 =>
  kq (aNilCheck v50) <| fun v55 =>
  kq (rFieldP 8 v55) <| fun v56 =>
  ke ((rStore 1 v56 v54 h4).map fun h' => (.tuple [], h')) <| fun v57 h5 =>
  kq (some a0) <| fun v58 =>
  kq (aNilCheck v58) <| fun v59 =>
  kq (rFieldP 9 v59) <| fun v60 =>
  ke (call N_sync_atomic_Uint64_Add [v60, (.int .u64 1)] h5) <| fun v61 h6 =>
  kq (some (.int .i64 0)) <| fun v62 =>
  ke (callD N_sync_Mutex_Unlock [v13] h6) <| fun v63 h7 =>
  some (v62, h7))
theorem F_queue_Queue_int__Put_eq (call callD : ACall) (a0 a1 : AVal) (h : AH) : kFunc Try.prog [] call callD N_queue_Queue_int__Put [a0, a1] h = F_queue_Queue_int__Put call callD a0 a1 h := by kernel_rfl
theorem C_queue_Queue_int__Put {ov : AOver} (H : Plain ov) (n : Nat) (a0 a1 : AVal) (h : AH) : kc ov (n + 1) N_queue_Queue_int__Put [a0, a1] h = F_queue_Queue_int__Put (kc ov n) (kd ov n) a0 a1 h := by
  have hov : ov N_queue_Queue_int__Put = none := H _ (by decide)
  unfold kc kd; rw [← F_queue_Queue_int__Put_eq]; simp only [kcall, hov]

/-- (*rung/queue.Queue[int]).Take -/
noncomputable def F_queue_Queue_int__Take (call callD : ACall) (a0 : AVal) (h : AH) : Ans :=
  kq (some (.int .i64 0)) <| fun v0 =>
  kq (some (.bool false)) <| fun v1 =>
  kq (some a0) <| fun v2 =>
  kq (aNilCheck v2) <| fun v3 =>
  kq (rFieldP 0 v3) <| fun v4 =>
  ke (call N_sync_Mutex_Lock [v4] h) <| fun v5 h0 =>
  kq (some a0) <| fun v6 =>
  kq (aNilCheck v6) <| fun v7 =>
  kq (rFieldP 0 v7) <| fun v8 =>
  kq (some a0) <| fun v9 =>
  ke (call N_queue_Queue_int__first [v9] h0) <| fun v10 h1 =>
  kq (aExtract v10 0) <| fun v11 =>
  kq (aExtract v10 1) <| fun v12 =>
  kq (some v11) <| fun v13 =>
  kq (some v12) <| fun v14 =>
  ke (callD N_sync_Mutex_Unlock [v8] h1) <| fun v15 h2 =>
  some (.tuple [v13, v14], h2)
theorem F_queue_Queue_int__Take_eq (call callD : ACall) (a0 : AVal) (h : AH) : kFunc Try.prog [] call callD N_queue_Queue_int__Take [a0] h = F_queue_Queue_int__Take call callD a0 h := by kernel_rfl
theorem C_queue_Queue_int__Take {ov : AOver} (H : Plain ov) (n : Nat) (a0 : AVal) (h : AH) : kc ov (n + 1) N_queue_Queue_int__Take [a0] h = F_queue_Queue_int__Take (kc ov n) (kd ov n) a0 h := by
  have hov : ov N_queue_Queue_int__Take = none := H _ (by decide)
  unfold kc kd; rw [← F_queue_Queue_int__Take_eq]; simp only [kcall, hov]

/-- (*rung/queue.Queue[int]).Drain -/
noncomputable def L_queue_Queue_int__Drain_0 (call callD : ACall) (a0 : AVal) (v7 : AVal) : (List AVal → AH → Ans) → List AVal → AH → Ans := fun j17 l16 h2 =>
  kq (some (gd l16 2)) <| fun v18 =>
  kIf v18 (
  kq (some (gd l16 0)) <| fun v19 =>
  kq (some (gd l16 1)) <| fun v20 =>
  km (mBuildSl T_int 1 [(.int .i64 0)] 1 [(0, v20)]) h2 <| fun v21 h3 =>
  ke (rAppend T_int 1 8 v19 v21 h3) <| fun v22 h4 =>
  kq (some v22) <| fun v23 =>
  kq (some a0) <| fun v24 =>
  ke (call N_queue_Queue_int__first [v24] h4) <| fun v25 h5 =>
  kq (some v25) <| fun v26 =>
  kq (aExtract v26 0) <| fun v27 =>
  kq (aExtract v26 1) <| fun v28 =>
  kq (some v27) <| fun v29 =>
  kq (some v28) <| fun v30 =>
  j17 [v23, v29, v30] h5) (
  kq (some (gd l16 0)) <| fun v31 =>
  kq (some v31) <| fun v32 =>
  ke (callD N_sync_Mutex_Unlock [v7] h2) <| fun v33 h6 =>
  some (v32, h6))
noncomputable def F_queue_Queue_int__Drain (call callD : ACall) (a0 : AVal) (h : AH) : Ans :=
  kq (some (.slice none 0 0)) <| fun v0 =>
  kq (some a0) <| fun v1 =>
  kq (aNilCheck v1) <| fun v2 =>
  kq (rFieldP 0 v2) <| fun v3 =>
  ke (call N_sync_Mutex_Lock [v3] h) <| fun v4 h0 =>
  kq (some a0) <| fun v5 =>
  kq (aNilCheck v5) <| fun v6 =>
  kq (rFieldP 0 v6) <| fun v7 =>
  kq (some (.slice none 0 0)) <| fun v8 =>
  kq (some a0) <| fun v9 =>
  ke (call N_queue_Queue_int__first [v9] h0) <| fun v10 h1 =>
  kq (some v10) <| fun v11 =>
  kq (aExtract v11 0) <| fun v12 =>
  kq (aExtract v11 1) <| fun v13 =>
  kq (some v12) <| fun v14 =>
  kq (some v13) <| fun v15 =>
  kLoop (L_queue_Queue_int__Drain_0 call callD a0 v7) rounds [v8, v14, v15] h1
theorem F_queue_Queue_int__Drain_eq (call callD : ACall) (a0 : AVal) (h : AH) : kFunc Try.prog [] call callD N_queue_Queue_int__Drain [a0] h = F_queue_Queue_int__Drain call callD a0 h := by kernel_rfl
theorem C_queue_Queue_int__Drain {ov : AOver} (H : Plain ov) (n : Nat) (a0 : AVal) (h : AH) : kc ov (n + 1) N_queue_Queue_int__Drain [a0] h = F_queue_Queue_int__Drain (kc ov n) (kd ov n) a0 h := by
  have hov : ov N_queue_Queue_int__Drain = none := H _ (by decide)
  unfold kc kd; rw [← F_queue_Queue_int__Drain_eq]; simp only [kcall, hov]

/-- rung/runghelp.Ints -/
noncomputable def L_runghelp_Ints_0 (call callD : ACall) (a0 : AVal) (a1 : AVal) : (List AVal → AH → Ans) → List AVal → AH → Ans := fun j9 l8 h0 =>
  kq (some (gd l8 0)) <| fun v10 =>
  kq (some a0) <| fun v11 =>
  kq (rLen v11) <| fun v12 =>
  kq (rBin .lss .no false v10 v12) <| fun v13 =>
  kIf v13 (
  kq (some a0) <| fun v14 =>
  kq (some (gd l8 0)) <| fun v15 =>
  kq (rAt 1 v14 v15) <| fun v16 =>
  kq (rLoad v16 h0) <| fun v17 =>
  kq (some a1) <| fun v18 =>
  kq (some (gd l8 0)) <| fun v19 =>
  kq (rAt 1 v18 v19) <| fun v20 =>
  kq (rLoad v20 h0) <| fun v21 =>
  kq (rBin .neq .no false v17 v21) <| fun v22 =>
  kIf v22 (
  kq (some (.bool false)) <| fun v23 =>
  some (v23, h0)) (
  kq (some (gd l8 0)) <| fun v24 =>
  kq (rBin .add .no true v24 (.int .i64 1)) <| fun v25 =>
  kq (some v25) <| fun v26 =>
  j9 [v26] h0)) (
  kq (some (.bool true)) <| fun v27 =>
  some (v27, h0))
noncomputable def F_runghelp_Ints (call callD : ACall) (a0 a1 : AVal) (h : AH) : Ans :=
  kq (some (.bool false)) <| fun v0 =>
  kq (some a0) <| fun v1 =>
  kq (rLen v1) <| fun v2 =>
  kq (some a1) <| fun v3 =>
  kq (rLen v3) <| fun v4 =>
  kq (rBin .neq .no false v2 v4) <| fun v5 =>
  kIf v5 (
  kq (some (.bool false)) <| fun v6 =>
  some (v6, h)) (
  kq (some (.int .i64 0)) <| fun v7 =>
  kLoop (L_runghelp_Ints_0 call callD a0 a1) rounds [v7] h)
theorem F_runghelp_Ints_eq (call callD : ACall) (a0 a1 : AVal) (h : AH) : kFunc Try.prog [] call callD N_runghelp_Ints [a0, a1] h = F_runghelp_Ints call callD a0 a1 h := by kernel_rfl
theorem C_runghelp_Ints {ov : AOver} (H : Plain ov) (n : Nat) (a0 a1 : AVal) (h : AH) : kc ov (n + 1) N_runghelp_Ints [a0, a1] h = F_runghelp_Ints (kc ov n) (kd ov n) a0 a1 h := by
  have hov : ov N_runghelp_Ints = none := H _ (by decide)
  unfold kc kd; rw [← F_runghelp_Ints_eq]; simp only [kcall, hov]

/-- (*rung/queue.Queue[int]).Counts -/
noncomputable def F_queue_Queue_int__Counts (call callD : ACall) (a0 : AVal) (h : AH) : Ans :=
  kq (some (.int .u64 0)) <| fun v0 =>
  kq (some (.int .u64 0)) <| fun v1 =>
  kq (some (.int .u64 0)) <| fun v2 =>
  kq (some a0) <| fun v3 =>
  kq (aNilCheck v3) <| fun v4 =>
  kq (rFieldP 9 v4) <| fun v5 =>
  kq (some a0) <| fun v6 =>
  kq (aNilCheck v6) <| fun v7 =>
  kq (rFieldP 10 v7) <| fun v8 =>
  kq (some a0) <| fun v9 =>
  kq (aNilCheck v9) <| fun v10 =>
  kq (rFieldP 11 v10) <| fun v11 =>
  ke (call N_sync_atomic_Uint64_Load [v5] h) <| fun v12 h0 =>
  ke (call N_sync_atomic_Uint64_Load [v8] h0) <| fun v13 h1 =>
  ke (call N_sync_atomic_Uint64_Load [v11] h1) <| fun v14 h2 =>
  kq (some v12) <| fun v15 =>
  kq (some v13) <| fun v16 =>
  kq (some v14) <| fun v17 =>
  some (.tuple [v15, v16, v17], h2)
theorem F_queue_Queue_int__Counts_eq (call callD : ACall) (a0 : AVal) (h : AH) : kFunc Try.prog [] call callD N_queue_Queue_int__Counts [a0] h = F_queue_Queue_int__Counts call callD a0 h := by kernel_rfl
theorem C_queue_Queue_int__Counts {ov : AOver} (H : Plain ov) (n : Nat) (a0 : AVal) (h : AH) : kc ov (n + 1) N_queue_Queue_int__Counts [a0] h = F_queue_Queue_int__Counts (kc ov n) (kd ov n) a0 h := by
  have hov : ov N_queue_Queue_int__Counts = none := H _ (by decide)
  unfold kc kd; rw [← F_queue_Queue_int__Counts_eq]; simp only [kcall, hov]

/-- (*rung/queue.Queue[int]).Len -/
noncomputable def F_queue_Queue_int__Len (call callD : ACall) (a0 : AVal) (h : AH) : Ans :=
  kq (some (.int .i64 0)) <| fun v0 =>
  kq (some a0) <| fun v1 =>
  kq (aNilCheck v1) <| fun v2 =>
  kq (rFieldP 0 v2) <| fun v3 =>
  ke (call N_sync_Mutex_Lock [v3] h) <| fun v4 h0 =>
  kq (some a0) <| fun v5 =>
  kq (aNilCheck v5) <| fun v6 =>
  kq (rFieldP 0 v6) <| fun v7 =>
  kq (some a0) <| fun v8 =>
  kq (aNilCheck v8) <| fun v9 =>
  kq (rFieldP 8 v9) <| fun v10 =>
  kq (rLoad v10 h0) <| fun v11 =>
  kq (some v11) <| fun v12 =>
  ke (callD N_sync_Mutex_Unlock [v7] h0) <| fun v13 h1 =>
  some (v12, h1)
theorem F_queue_Queue_int__Len_eq (call callD : ACall) (a0 : AVal) (h : AH) : kFunc Try.prog [] call callD N_queue_Queue_int__Len [a0] h = F_queue_Queue_int__Len call callD a0 h := by kernel_rfl
theorem C_queue_Queue_int__Len {ov : AOver} (H : Plain ov) (n : Nat) (a0 : AVal) (h : AH) : kc ov (n + 1) N_queue_Queue_int__Len [a0] h = F_queue_Queue_int__Len (kc ov n) (kd ov n) a0 h := by
  have hov : ov N_queue_Queue_int__Len = none := H _ (by decide)
  unfold kc kd; rw [← F_queue_Queue_int__Len_eq]; simp only [kcall, hov]

/-- rung/queue.New[rung/runglaw24.thing] -/
noncomputable def F_queue_New_runglaw24_thing_ (call callD : ACall) (a0 : AVal) (h : AH) : Ans :=
  kq (some (.ptr none)) <| fun v0 =>
  kq (some a0) <| fun v1 =>
  kq (aMM aMax2 [v1, (.int .i64 1)]) <| fun v2 =>
  kq (aMM aMin2 [v2, (.int .i64 64)]) <| fun v3 =>
  kq (rBuild [(.int .i32 0), (.int .u32 0), (.int .u32 0), (.int .i32 0), (.int .u32 0), (.int .i64 0), (.slice none 0 0), (.int .i64 0), (.int .i64 0), (.int .u64 0), (.int .u64 0), (.int .u64 0)] [(0, 2), (2, 3), (5, 1), (6, 1), (7, 1), (8, 1), (9, 1), (10, 1), (11, 1)] [(2, v3)]) <| fun v4 =>
  km (pBox T_queue_Queue_runglaw24_thing_ v4) h <| fun v5 h0 =>
  kq (some v5) <| fun v6 =>
  some (v6, h0)
theorem F_queue_New_runglaw24_thing__eq (call callD : ACall) (a0 : AVal) (h : AH) : kFunc Try.prog [] call callD N_queue_New_runglaw24_thing_ [a0] h = F_queue_New_runglaw24_thing_ call callD a0 h := by kernel_rfl
theorem C_queue_New_runglaw24_thing_ {ov : AOver} (H : Plain ov) (n : Nat) (a0 : AVal) (h : AH) : kc ov (n + 1) N_queue_New_runglaw24_thing_ [a0] h = F_queue_New_runglaw24_thing_ (kc ov n) (kd ov n) a0 h := by
  have hov : ov N_queue_New_runglaw24_thing_ = none := H _ (by decide)
  unfold kc kd; rw [← F_queue_New_runglaw24_thing__eq]; simp only [kcall, hov]

/-- rung/queue.New[func() int] -/
noncomputable def F_queue_New_func___int_ (call callD : ACall) (a0 : AVal) (h : AH) : Ans :=
  kq (some (.ptr none)) <| fun v0 =>
  kq (some a0) <| fun v1 =>
  kq (aMM aMax2 [v1, (.int .i64 1)]) <| fun v2 =>
  kq (aMM aMin2 [v2, (.int .i64 64)]) <| fun v3 =>
  kq (rBuild [(.int .i32 0), (.int .u32 0), (.int .u32 0), (.int .i32 0), (.int .u32 0), (.int .i64 0), (.slice none 0 0), (.int .i64 0), (.int .i64 0), (.int .u64 0), (.int .u64 0), (.int .u64 0)] [(0, 2), (2, 3), (5, 1), (6, 1), (7, 1), (8, 1), (9, 1), (10, 1), (11, 1)] [(2, v3)]) <| fun v4 =>
  km (pBox T_queue_Queue_func___int_ v4) h <| fun v5 h0 =>
  kq (some v5) <| fun v6 =>
  some (v6, h0)
theorem F_queue_New_func___int__eq (call callD : ACall) (a0 : AVal) (h : AH) : kFunc Try.prog [] call callD N_queue_New_func___int_ [a0] h = F_queue_New_func___int_ call callD a0 h := by kernel_rfl
theorem C_queue_New_func___int_ {ov : AOver} (H : Plain ov) (n : Nat) (a0 : AVal) (h : AH) : kc ov (n + 1) N_queue_New_func___int_ [a0] h = F_queue_New_func___int_ (kc ov n) (kd ov n) a0 h := by
  have hov : ov N_queue_New_func___int_ = none := H _ (by decide)
  unfold kc kd; rw [← F_queue_New_func___int__eq]; simp only [kcall, hov]

/-- (*rung/queue.Queue[rung/runglaw24.thing]).Put -/
noncomputable def F_queue_Queue_runglaw24_thing__Put (call callD : ACall) (a0 a1 : AVal) (h : AH) : Ans :=
  km (pBox T_runglaw24_thing a1) h <| fun v0 h0 =>
  kq (some (.int .i64 0)) <| fun v1 =>
  kq (some a0) <| fun v2 =>
  kq (aNilCheck v2) <| fun v3 =>
  kq (rFieldP 2 v3) <| fun v4 =>
  kq (some a0) <| fun v5 =>
  kq (some (.func (.func N_queue_Queue_runglaw24_thing__room) [v5] [])) <| fun v6 =>
  ke (call N_sync_Once_Do [v4, v6] h0) <| fun v7 h1 =>
  kq (some a0) <| fun v8 =>
  kq (aNilCheck v8) <| fun v9 =>
  kq (rFieldP 0 v9) <| fun v10 =>
  ke (call N_sync_Mutex_Lock [v10] h1) <| fun v11 h2 =>
  kq (some a0) <| fun v12 =>
  kq (aNilCheck v12) <| fun v13 =>
  kq (rFieldP 0 v13) <| fun v14 =>
  kq (some a0) <| fun v15 =>
  kq (aNilCheck v15) <| fun v16 =>
  kq (rFieldP 8 v16) <| fun v17 =>
  kq (rLoad v17 h2) <| fun v18 =>
  kq (some a0) <| fun v19 =>
  kq (aNilCheck v19) <| fun v20 =>
  kq (rFieldP 5 v20) <| fun v21 =>
  kq (rLoad v21 h2) <| fun v22 =>
  kq (rBin .eql .no false v18 v22) <| fun v23 =>
  kIf v23 (
  kq (some a0) <| fun v24 =>
  kq (aNilCheck v24) <| fun v25 =>
  kq (rFieldP 10 v25) <| fun v26 =>
  ke (call N_sync_atomic_Uint64_Add [v26, (.int .u64 1)] h2) <| fun v27 h3 =>
  kq (some (.int .i64 240)) <| fun v28 =>
  ke (callD N_sync_Mutex_Unlock [v14] h3) <| fun v29 h4 =>
  some (v28, h4)) (
  kq (some a0) <| fun v30 =>
  kq (aNilCheck v30) <| fun v31 =>
  kq (rFieldP 6 v31) <| fun v32 =>
  kq (rLoad v32 h2) <| fun v33 =>
  kq (some a0) <| fun v34 =>
  kq (aNilCheck v34) <| fun v35 =>
  kq (rFieldP 7 v35) <| fun v36 =>
  kq (rLoad v36 h2) <| fun v37 =>
  kq (some a0) <| fun v38 =>
  kq (aNilCheck v38) <| fun v39 =>
  kq (rFieldP 8 v39) <| fun v40 =>
  kq (rLoad v40 h2) <| fun v41 =>
  kq (rBin .add .no false v37 v41) <| fun v42 =>
  kq (some a0) <| fun v43 =>
  kq (aNilCheck v43) <| fun v44 =>
  kq (rFieldP 5 v44) <| fun v45 =>
  kq (rLoad v45 h2) <| fun v46 =>
  kq (rBin .rem .no false v42 v46) <| fun v47 =>
  kq (rLoadA 4 v0 h2) <| fun v48 =>
  kq (rAt 4 v33 v47) <| fun v49 =>
  ke ((rStore 4 v49 v48 h2).map fun h' => (.tuple [], h')) <| fun v50 h5 =>
  kChk (!false || kSame (rLoadA 4 v0 h5) v48) <|
  kChk (!false || kSame (rLoad v45 h5) v46) <|
  kChk (!false || kSame (rLoad v40 h5) v41) <|
  kChk (!false || kSame (rLoad v36 h5) v37) <|
  kChk (!false || kSame (rLoad v32 h5) v33) <|
  kq (some a0) <| fun v51 =>
  kq (aNilCheck v51) <| fun v52 =>
  kq (rFieldP 8 v52) <| fun v53 =>
  kq (rLoad v53 h5) <| fun v54 =>
  kq (rBin .add .no true v54 (.int .i64 1)) <| fun v55 =>
  kq (aNilCheck v51) <| fun v56 =>
  kq (rFieldP 8 v56) <| fun v57 =>
  ke ((rStore 1 v57 v55 h5).map fun h' => (.tuple [], h')) <| fun v58 h6 =>
  kq (some a0) <| fun v59 =>
  kq (aNilCheck v59) <| fun v60 =>
  kq (rFieldP 9 v60) <| fun v61 =>
  ke (call N_sync_atomic_Uint64_Add [v61, (.int .u64 1)] h6) <| fun v62 h7 =>
  kq (some (.int .i64 0)) <| fun v63 =>
  ke (callD N_sync_Mutex_Unlock [v14] h7) <| fun v64 h8 =>
  some (v63, h8))
theorem F_queue_Queue_runglaw24_thing__Put_eq (call callD : ACall) (a0 a1 : AVal) (h : AH) : kFunc Try.prog [] call callD N_queue_Queue_runglaw24_thing__Put [a0, a1] h = F_queue_Queue_runglaw24_thing__Put call callD a0 a1 h := by kernel_rfl
theorem C_queue_Queue_runglaw24_thing__Put {ov : AOver} (H : Plain ov) (n : Nat) (a0 a1 : AVal) (h : AH) : kc ov (n + 1) N_queue_Queue_runglaw24_thing__Put [a0, a1] h = F_queue_Queue_runglaw24_thing__Put (kc ov n) (kd ov n) a0 a1 h := by
  have hov : ov N_queue_Queue_runglaw24_thing__Put = none := H _ (by decide)
  unfold kc kd; rw [← F_queue_Queue_runglaw24_thing__Put_eq]; simp only [kcall, hov]

/-- (*rung/queue.Queue[func() int]).Put -/
noncomputable def F_queue_Queue_func___int__Put (call callD : ACall) (a0 a1 : AVal) (h : AH) : Ans :=
  kq (some (.int .i64 0)) <| fun v0 =>
  kq (some a0) <| fun v1 =>
  kq (aNilCheck v1) <| fun v2 =>
  kq (rFieldP 2 v2) <| fun v3 =>
  kq (some a0) <| fun v4 =>
  kq (some (.func (.func N_queue_Queue_func___int__room) [v4] [])) <| fun v5 =>
  ke (call N_sync_Once_Do [v3, v5] h) <| fun v6 h0 =>
  kq (some a0) <| fun v7 =>
  kq (aNilCheck v7) <| fun v8 =>
  kq (rFieldP 0 v8) <| fun v9 =>
  ke (call N_sync_Mutex_Lock [v9] h0) <| fun v10 h1 =>
  kq (some a0) <| fun v11 =>
  kq (aNilCheck v11) <| fun v12 =>
  kq (rFieldP 0 v12) <| fun v13 =>
  kq (some a0) <| fun v14 =>
  kq (aNilCheck v14) <| fun v15 =>
  kq (rFieldP 8 v15) <| fun v16 =>
  kq (rLoad v16 h1) <| fun v17 =>
  kq (some a0) <| fun v18 =>
  kq (aNilCheck v18) <| fun v19 =>
  kq (rFieldP 5 v19) <| fun v20 =>
  kq (rLoad v20 h1) <| fun v21 =>
  kq (rBin .eql .no false v17 v21) <| fun v22 =>
  kIf v22 (
  kq (some a0) <| fun v23 =>
  kq (aNilCheck v23) <| fun v24 =>
  kq (rFieldP 10 v24) <| fun v25 =>
  ke (call N_sync_atomic_Uint64_Add [v25, (.int .u64 1)] h1) <| fun v26 h2 =>
  kq (some (.int .i64 240)) <| fun v27 =>
  ke (callD N_sync_Mutex_Unlock [v13] h2) <| fun v28 h3 =>
  some (v27, h3)) (
  kq (some a0) <| fun v29 =>
  kq (aNilCheck v29) <| fun v30 =>
  kq (rFieldP 6 v30) <| fun v31 =>
  kq (rLoad v31 h1) <| fun v32 =>
  kq (some a0) <| fun v33 =>
  kq (aNilCheck v33) <| fun v34 =>
  kq (rFieldP 7 v34) <| fun v35 =>
  kq (rLoad v35 h1) <| fun v36 =>
  kq (some a0) <| fun v37 =>
  kq (aNilCheck v37) <| fun v38 =>
  kq (rFieldP 8 v38) <| fun v39 =>
  kq (rLoad v39 h1) <| fun v40 =>
  kq (rBin .add .no false v36 v40) <| fun v41 =>
  kq (some a0) <| fun v42 =>
  kq (aNilCheck v42) <| fun v43 =>
  kq (rFieldP 5 v43) <| fun v44 =>
  kq (rLoad v44 h1) <| fun v45 =>
  kq (rBin .rem .no false v41 v45) <| fun v46 =>
  kq (some a1) <| fun v47 =>
  kq (rAt 1 v32 v46) <| fun v48 =>
  ke ((rStore 1 v48 v47 h1).map fun h' => (.tuple [], h')) <| fun v49 h4 =>
  kChk (!false || kSame (rLoad v44 h4) v45) <|
  kChk (!false || kSame (rLoad v39 h4) v40) <|
  kChk (!false || kSame (rLoad v35 h4) v36) <|
  kChk (!false || kSame (rLoad v31 h4) v32) <|
  kq (some a0) <| fun v50 =>
  kq (aNilCheck v50) <| fun v51 =>
  kq (rFieldP 8 v51) <| fun v52 =>
  kq (rLoad v52 h4) <| fun v53 =>
  kq (rBin .add .no true v53 (.int .i64 1)) <| fun v54 =>
  kq (aNilCheck v50) <| fun v55 =>
  kq (rFieldP 8 v55) <| fun v56 =>
  ke ((rStore 1 v56 v54 h4).map fun h' => (.tuple [], h')) <| fun v57 h5 =>
  kq (some a0) <| fun v58 =>
  kq (aNilCheck v58) <| fun v59 =>
  kq (rFieldP 9 v59) <| fun v60 =>
  ke (call N_sync_atomic_Uint64_Add [v60, (.int .u64 1)] h5) <| fun v61 h6 =>
  kq (some (.int .i64 0)) <| fun v62 =>
  ke (callD N_sync_Mutex_Unlock [v13] h6) <| fun v63 h7 =>
  some (v62, h7))
theorem F_queue_Queue_func___int__Put_eq (call callD : ACall) (a0 a1 : AVal) (h : AH) : kFunc Try.prog [] call callD N_queue_Queue_func___int__Put [a0, a1] h = F_queue_Queue_func___int__Put call callD a0 a1 h := by kernel_rfl
theorem C_queue_Queue_func___int__Put {ov : AOver} (H : Plain ov) (n : Nat) (a0 a1 : AVal) (h : AH) : kc ov (n + 1) N_queue_Queue_func___int__Put [a0, a1] h = F_queue_Queue_func___int__Put (kc ov n) (kd ov n) a0 a1 h := by
  have hov : ov N_queue_Queue_func___int__Put = none := H _ (by decide)
  unfold kc kd; rw [← F_queue_Queue_func___int__Put_eq]; simp only [kcall, hov]

/-- rung/runglaw24.QueueTypes$1 -/
noncomputable def F_runglaw24_QueueTypes_1 (call callD : ACall) (a0 a1 : AVal) (h : AH) : Ans :=
  kq (some (.int .i64 0)) <| fun v0 =>
  kq (rLoad a0 h) <| fun v1 =>
  kq (rLoad a1 h) <| fun v2 =>
  kq (rBin .add .no false v1 v2) <| fun v3 =>
  kq (some v3) <| fun v4 =>
  some (v4, h)
theorem F_runglaw24_QueueTypes_1_eq (call callD : ACall) (a0 a1 : AVal) (h : AH) : kFunc Try.prog [] call callD N_runglaw24_QueueTypes_1 [a0, a1] h = F_runglaw24_QueueTypes_1 call callD a0 a1 h := by kernel_rfl
theorem C_runglaw24_QueueTypes_1 {ov : AOver} (H : Plain ov) (n : Nat) (a0 a1 : AVal) (h : AH) : kc ov (n + 1) N_runglaw24_QueueTypes_1 [a0, a1] h = F_runglaw24_QueueTypes_1 (kc ov n) (kd ov n) a0 a1 h := by
  have hov : ov N_runglaw24_QueueTypes_1 = none := H _ (by decide)
  unfold kc kd; rw [← F_runglaw24_QueueTypes_1_eq]; simp only [kcall, hov]

/-- (*rung/queue.Queue[rung/runglaw24.thing]).Drain -/
noncomputable def L_queue_Queue_runglaw24_thing__Drain_0 (call callD : ACall) (a0 : AVal) (v7 : AVal) : (List AVal → AH → Ans) → List AVal → AH → Ans := fun j18 l17 h4 =>
  kq (some (gd l17 2)) <| fun v19 =>
  kIf v19 (
  kq (some (gd l17 0)) <| fun v20 =>
  kq (rLoadA 4 (gd l17 1) h4) <| fun v21 =>
  km (mBuildSl T_runglaw24_thing 4 [(.str []), (.int .i64 0), (.int .i64 0), (.slice none 0 0)] 1 [(0, v21)]) h4 <| fun v22 h5 =>
  ke (rAppend T_runglaw24_thing 4 56 v20 v22 h5) <| fun v23 h6 =>
  kq (some v23) <| fun v24 =>
  kq (rLoadA 4 (gd l17 1) h6) <| fun v25 =>
  km (pBox T_runglaw24_thing (.agg [(.str []), (.int .i64 0), (.int .i64 0), (.slice none 0 0)])) h6 <| fun v26 h7 =>
  ke ((rStore 4 v26 v25 h7).map fun h' => (.tuple [], h')) <| fun v27 h8 =>
  kq (some a0) <| fun v28 =>
  ke (call N_queue_Queue_runglaw24_thing__first [v28] h8) <| fun v29 h9 =>
  kq (some v29) <| fun v30 =>
  kq (aExtract v30 0) <| fun v31 =>
  kq (aExtract v30 1) <| fun v32 =>
  ke ((rStore 4 v26 v31 h9).map fun h' => (.tuple [], h')) <| fun v33 h10 =>
  kq (some v32) <| fun v34 =>
  j18 [v24, v26, v34] h10) (
  kq (some (gd l17 0)) <| fun v35 =>
  kq (some v35) <| fun v36 =>
  ke (callD N_sync_Mutex_Unlock [v7] h4) <| fun v37 h11 =>
  some (v36, h11))
noncomputable def F_queue_Queue_runglaw24_thing__Drain (call callD : ACall) (a0 : AVal) (h : AH) : Ans :=
  kq (some (.slice none 0 0)) <| fun v0 =>
  kq (some a0) <| fun v1 =>
  kq (aNilCheck v1) <| fun v2 =>
  kq (rFieldP 0 v2) <| fun v3 =>
  ke (call N_sync_Mutex_Lock [v3] h) <| fun v4 h0 =>
  kq (some a0) <| fun v5 =>
  kq (aNilCheck v5) <| fun v6 =>
  kq (rFieldP 0 v6) <| fun v7 =>
  kq (some (.slice none 0 0)) <| fun v8 =>
  kq (some a0) <| fun v9 =>
  ke (call N_queue_Queue_runglaw24_thing__first [v9] h0) <| fun v10 h1 =>
  kq (some v10) <| fun v11 =>
  kq (aExtract v11 0) <| fun v12 =>
  kq (aExtract v11 1) <| fun v13 =>
  km (pBox T_runglaw24_thing (.agg [(.str []), (.int .i64 0), (.int .i64 0), (.slice none 0 0)])) h1 <| fun v14 h2 =>
  ke ((rStore 4 v14 v12 h2).map fun h' => (.tuple [], h')) <| fun v15 h3 =>
  kq (some v13) <| fun v16 =>
  kLoop (L_queue_Queue_runglaw24_thing__Drain_0 call callD a0 v7) rounds [v8, v14, v16] h3
theorem F_queue_Queue_runglaw24_thing__Drain_eq (call callD : ACall) (a0 : AVal) (h : AH) : kFunc Try.prog [] call callD N_queue_Queue_runglaw24_thing__Drain [a0] h = F_queue_Queue_runglaw24_thing__Drain call callD a0 h := by kernel_rfl
theorem C_queue_Queue_runglaw24_thing__Drain {ov : AOver} (H : Plain ov) (n : Nat) (a0 : AVal) (h : AH) : kc ov (n + 1) N_queue_Queue_runglaw24_thing__Drain [a0] h = F_queue_Queue_runglaw24_thing__Drain (kc ov n) (kd ov n) a0 h := by
  have hov : ov N_queue_Queue_runglaw24_thing__Drain = none := H _ (by decide)
  unfold kc kd; rw [← F_queue_Queue_runglaw24_thing__Drain_eq]; simp only [kcall, hov]

/-- (*rung/queue.Queue[func() int]).Take -/
noncomputable def F_queue_Queue_func___int__Take (call callD : ACall) (a0 : AVal) (h : AH) : Ans :=
  kq (some .nilFunc) <| fun v0 =>
  kq (some (.bool false)) <| fun v1 =>
  kq (some a0) <| fun v2 =>
  kq (aNilCheck v2) <| fun v3 =>
  kq (rFieldP 0 v3) <| fun v4 =>
  ke (call N_sync_Mutex_Lock [v4] h) <| fun v5 h0 =>
  kq (some a0) <| fun v6 =>
  kq (aNilCheck v6) <| fun v7 =>
  kq (rFieldP 0 v7) <| fun v8 =>
  kq (some a0) <| fun v9 =>
  ke (call N_queue_Queue_func___int__first [v9] h0) <| fun v10 h1 =>
  kq (aExtract v10 0) <| fun v11 =>
  kq (aExtract v10 1) <| fun v12 =>
  kq (some v11) <| fun v13 =>
  kq (some v12) <| fun v14 =>
  ke (callD N_sync_Mutex_Unlock [v8] h1) <| fun v15 h2 =>
  some (.tuple [v13, v14], h2)
theorem F_queue_Queue_func___int__Take_eq (call callD : ACall) (a0 : AVal) (h : AH) : kFunc Try.prog [] call callD N_queue_Queue_func___int__Take [a0] h = F_queue_Queue_func___int__Take call callD a0 h := by kernel_rfl
theorem C_queue_Queue_func___int__Take {ov : AOver} (H : Plain ov) (n : Nat) (a0 : AVal) (h : AH) : kc ov (n + 1) N_queue_Queue_func___int__Take [a0] h = F_queue_Queue_func___int__Take (kc ov n) (kd ov n) a0 h := by
  have hov : ov N_queue_Queue_func___int__Take = none := H _ (by decide)
  unfold kc kd; rw [← F_queue_Queue_func___int__Take_eq]; simp only [kcall, hov]

/-- (*rung/queue.Queue[func() int]).Len -/
noncomputable def F_queue_Queue_func___int__Len (call callD : ACall) (a0 : AVal) (h : AH) : Ans :=
  kq (some (.int .i64 0)) <| fun v0 =>
  kq (some a0) <| fun v1 =>
  kq (aNilCheck v1) <| fun v2 =>
  kq (rFieldP 0 v2) <| fun v3 =>
  ke (call N_sync_Mutex_Lock [v3] h) <| fun v4 h0 =>
  kq (some a0) <| fun v5 =>
  kq (aNilCheck v5) <| fun v6 =>
  kq (rFieldP 0 v6) <| fun v7 =>
  kq (some a0) <| fun v8 =>
  kq (aNilCheck v8) <| fun v9 =>
  kq (rFieldP 8 v9) <| fun v10 =>
  kq (rLoad v10 h0) <| fun v11 =>
  kq (some v11) <| fun v12 =>
  ke (callD N_sync_Mutex_Unlock [v7] h0) <| fun v13 h1 =>
  some (v12, h1)
theorem F_queue_Queue_func___int__Len_eq (call callD : ACall) (a0 : AVal) (h : AH) : kFunc Try.prog [] call callD N_queue_Queue_func___int__Len [a0] h = F_queue_Queue_func___int__Len call callD a0 h := by kernel_rfl
theorem C_queue_Queue_func___int__Len {ov : AOver} (H : Plain ov) (n : Nat) (a0 : AVal) (h : AH) : kc ov (n + 1) N_queue_Queue_func___int__Len [a0] h = F_queue_Queue_func___int__Len (kc ov n) (kd ov n) a0 h := by
  have hov : ov N_queue_Queue_func___int__Len = none := H _ (by decide)
  unfold kc kd; rw [← F_queue_Queue_func___int__Len_eq]; simp only [kcall, hov]

/-- (*rung/queue.Queue[rung/runglaw24.thing]).Len -/
noncomputable def F_queue_Queue_runglaw24_thing__Len (call callD : ACall) (a0 : AVal) (h : AH) : Ans :=
  kq (some (.int .i64 0)) <| fun v0 =>
  kq (some a0) <| fun v1 =>
  kq (aNilCheck v1) <| fun v2 =>
  kq (rFieldP 0 v2) <| fun v3 =>
  ke (call N_sync_Mutex_Lock [v3] h) <| fun v4 h0 =>
  kq (some a0) <| fun v5 =>
  kq (aNilCheck v5) <| fun v6 =>
  kq (rFieldP 0 v6) <| fun v7 =>
  kq (some a0) <| fun v8 =>
  kq (aNilCheck v8) <| fun v9 =>
  kq (rFieldP 8 v9) <| fun v10 =>
  kq (rLoad v10 h0) <| fun v11 =>
  kq (some v11) <| fun v12 =>
  ke (callD N_sync_Mutex_Unlock [v7] h0) <| fun v13 h1 =>
  some (v12, h1)
theorem F_queue_Queue_runglaw24_thing__Len_eq (call callD : ACall) (a0 : AVal) (h : AH) : kFunc Try.prog [] call callD N_queue_Queue_runglaw24_thing__Len [a0] h = F_queue_Queue_runglaw24_thing__Len call callD a0 h := by kernel_rfl
theorem C_queue_Queue_runglaw24_thing__Len {ov : AOver} (H : Plain ov) (n : Nat) (a0 : AVal) (h : AH) : kc ov (n + 1) N_queue_Queue_runglaw24_thing__Len [a0] h = F_queue_Queue_runglaw24_thing__Len (kc ov n) (kd ov n) a0 h := by
  have hov : ov N_queue_Queue_runglaw24_thing__Len = none := H _ (by decide)
  unfold kc kd; rw [← F_queue_Queue_runglaw24_thing__Len_eq]; simp only [kcall, hov]

/-- rung/queue.New[string] -/
noncomputable def F_queue_New_string_ (call callD : ACall) (a0 : AVal) (h : AH) : Ans :=
  kq (some (.ptr none)) <| fun v0 =>
  kq (some a0) <| fun v1 =>
  kq (aMM aMax2 [v1, (.int .i64 1)]) <| fun v2 =>
  kq (aMM aMin2 [v2, (.int .i64 64)]) <| fun v3 =>
  kq (rBuild [(.int .i32 0), (.int .u32 0), (.int .u32 0), (.int .i32 0), (.int .u32 0), (.int .i64 0), (.slice none 0 0), (.int .i64 0), (.int .i64 0), (.int .u64 0), (.int .u64 0), (.int .u64 0)] [(0, 2), (2, 3), (5, 1), (6, 1), (7, 1), (8, 1), (9, 1), (10, 1), (11, 1)] [(2, v3)]) <| fun v4 =>
  km (pBox T_queue_Queue_string_ v4) h <| fun v5 h0 =>
  kq (some v5) <| fun v6 =>
  some (v6, h0)
theorem F_queue_New_string__eq (call callD : ACall) (a0 : AVal) (h : AH) : kFunc Try.prog [] call callD N_queue_New_string_ [a0] h = F_queue_New_string_ call callD a0 h := by kernel_rfl
theorem C_queue_New_string_ {ov : AOver} (H : Plain ov) (n : Nat) (a0 : AVal) (h : AH) : kc ov (n + 1) N_queue_New_string_ [a0] h = F_queue_New_string_ (kc ov n) (kd ov n) a0 h := by
  have hov : ov N_queue_New_string_ = none := H _ (by decide)
  unfold kc kd; rw [← F_queue_New_string__eq]; simp only [kcall, hov]

/-- (*rung/queue.Queue[string]).Put -/
noncomputable def F_queue_Queue_string__Put (call callD : ACall) (a0 a1 : AVal) (h : AH) : Ans :=
  kq (some (.int .i64 0)) <| fun v0 =>
  kq (some a0) <| fun v1 =>
  kq (aNilCheck v1) <| fun v2 =>
  kq (rFieldP 2 v2) <| fun v3 =>
  kq (some a0) <| fun v4 =>
  kq (some (.func (.func N_queue_Queue_string__room) [v4] [])) <| fun v5 =>
  ke (call N_sync_Once_Do [v3, v5] h) <| fun v6 h0 =>
  kq (some a0) <| fun v7 =>
  kq (aNilCheck v7) <| fun v8 =>
  kq (rFieldP 0 v8) <| fun v9 =>
  ke (call N_sync_Mutex_Lock [v9] h0) <| fun v10 h1 =>
  kq (some a0) <| fun v11 =>
  kq (aNilCheck v11) <| fun v12 =>
  kq (rFieldP 0 v12) <| fun v13 =>
  kq (some a0) <| fun v14 =>
  kq (aNilCheck v14) <| fun v15 =>
  kq (rFieldP 8 v15) <| fun v16 =>
  kq (rLoad v16 h1) <| fun v17 =>
  kq (some a0) <| fun v18 =>
  kq (aNilCheck v18) <| fun v19 =>
  kq (rFieldP 5 v19) <| fun v20 =>
  kq (rLoad v20 h1) <| fun v21 =>
  kq (rBin .eql .no false v17 v21) <| fun v22 =>
  kIf v22 (
  kq (some a0) <| fun v23 =>
  kq (aNilCheck v23) <| fun v24 =>
  kq (rFieldP 10 v24) <| fun v25 =>
  ke (call N_sync_atomic_Uint64_Add [v25, (.int .u64 1)] h1) <| fun v26 h2 =>
  kq (some (.int .i64 240)) <| fun v27 =>
  ke (callD N_sync_Mutex_Unlock [v13] h2) <| fun v28 h3 =>
  some (v27, h3)) (
  kq (some a0) <| fun v29 =>
  kq (aNilCheck v29) <| fun v30 =>
  kq (rFieldP 6 v30) <| fun v31 =>
  kq (rLoad v31 h1) <| fun v32 =>
  kq (some a0) <| fun v33 =>
  kq (aNilCheck v33) <| fun v34 =>
  kq (rFieldP 7 v34) <| fun v35 =>
  kq (rLoad v35 h1) <| fun v36 =>
  kq (some a0) <| fun v37 =>
  kq (aNilCheck v37) <| fun v38 =>
  kq (rFieldP 8 v38) <| fun v39 =>
  kq (rLoad v39 h1) <| fun v40 =>
  kq (rBin .add .no false v36 v40) <| fun v41 =>
  kq (some a0) <| fun v42 =>
  kq (aNilCheck v42) <| fun v43 =>
  kq (rFieldP 5 v43) <| fun v44 =>
  kq (rLoad v44 h1) <| fun v45 =>
  kq (rBin .rem .no false v41 v45) <| fun v46 =>
  kq (some a1) <| fun v47 =>
  kq (rAt 1 v32 v46) <| fun v48 =>
  ke ((rStore 1 v48 v47 h1).map fun h' => (.tuple [], h')) <| fun v49 h4 =>
  kChk (!false || kSame (rLoad v44 h4) v45) <|
  kChk (!false || kSame (rLoad v39 h4) v40) <|
  kChk (!false || kSame (rLoad v35 h4) v36) <|
  kChk (!false || kSame (rLoad v31 h4) v32) <|
  kq (some a0) <| fun v50 =>
  kq (aNilCheck v50) <| fun v51 =>
  kq (rFieldP 8 v51) <| fun v52 =>
  kq (rLoad v52 h4) <| fun v53 =>
  kq (rBin .add .no true v53 (.int .i64 1)) <| fun v54 =>
  kq (aNilCheck v50) <| fun v55 =>
  kq (rFieldP 8 v55) <| fun v56 =>
  ke ((rStore 1 v56 v54 h4).map fun h' => (.tuple [], h')) <| fun v57 h5 =>
  kq (some a0) <| fun v58 =>
  kq (aNilCheck v58) <| fun v59 =>
  kq (rFieldP 9 v59) <| fun v60 =>
  ke (call N_sync_atomic_Uint64_Add [v60, (.int .u64 1)] h5) <| fun v61 h6 =>
  kq (some (.int .i64 0)) <| fun v62 =>
  ke (callD N_sync_Mutex_Unlock [v13] h6) <| fun v63 h7 =>
  some (v62, h7))
theorem F_queue_Queue_string__Put_eq (call callD : ACall) (a0 a1 : AVal) (h : AH) : kFunc Try.prog [] call callD N_queue_Queue_string__Put [a0, a1] h = F_queue_Queue_string__Put call callD a0 a1 h := by kernel_rfl
theorem C_queue_Queue_string__Put {ov : AOver} (H : Plain ov) (n : Nat) (a0 a1 : AVal) (h : AH) : kc ov (n + 1) N_queue_Queue_string__Put [a0, a1] h = F_queue_Queue_string__Put (kc ov n) (kd ov n) a0 a1 h := by
  have hov : ov N_queue_Queue_string__Put = none := H _ (by decide)
  unfold kc kd; rw [← F_queue_Queue_string__Put_eq]; simp only [kcall, hov]

/-- (*rung/queue.Queue[string]).Take -/
noncomputable def F_queue_Queue_string__Take (call callD : ACall) (a0 : AVal) (h : AH) : Ans :=
  kq (some (.str [])) <| fun v0 =>
  kq (some (.bool false)) <| fun v1 =>
  kq (some a0) <| fun v2 =>
  kq (aNilCheck v2) <| fun v3 =>
  kq (rFieldP 0 v3) <| fun v4 =>
  ke (call N_sync_Mutex_Lock [v4] h) <| fun v5 h0 =>
  kq (some a0) <| fun v6 =>
  kq (aNilCheck v6) <| fun v7 =>
  kq (rFieldP 0 v7) <| fun v8 =>
  kq (some a0) <| fun v9 =>
  ke (call N_queue_Queue_string__first [v9] h0) <| fun v10 h1 =>
  kq (aExtract v10 0) <| fun v11 =>
  kq (aExtract v10 1) <| fun v12 =>
  kq (some v11) <| fun v13 =>
  kq (some v12) <| fun v14 =>
  ke (callD N_sync_Mutex_Unlock [v8] h1) <| fun v15 h2 =>
  some (.tuple [v13, v14], h2)
theorem F_queue_Queue_string__Take_eq (call callD : ACall) (a0 : AVal) (h : AH) : kFunc Try.prog [] call callD N_queue_Queue_string__Take [a0] h = F_queue_Queue_string__Take call callD a0 h := by kernel_rfl
theorem C_queue_Queue_string__Take {ov : AOver} (H : Plain ov) (n : Nat) (a0 : AVal) (h : AH) : kc ov (n + 1) N_queue_Queue_string__Take [a0] h = F_queue_Queue_string__Take (kc ov n) (kd ov n) a0 h := by
  have hov : ov N_queue_Queue_string__Take = none := H _ (by decide)
  unfold kc kd; rw [← F_queue_Queue_string__Take_eq]; simp only [kcall, hov]

/-- (*rung/queue.Queue[string]).Counts -/
noncomputable def F_queue_Queue_string__Counts (call callD : ACall) (a0 : AVal) (h : AH) : Ans :=
  kq (some (.int .u64 0)) <| fun v0 =>
  kq (some (.int .u64 0)) <| fun v1 =>
  kq (some (.int .u64 0)) <| fun v2 =>
  kq (some a0) <| fun v3 =>
  kq (aNilCheck v3) <| fun v4 =>
  kq (rFieldP 9 v4) <| fun v5 =>
  kq (some a0) <| fun v6 =>
  kq (aNilCheck v6) <| fun v7 =>
  kq (rFieldP 10 v7) <| fun v8 =>
  kq (some a0) <| fun v9 =>
  kq (aNilCheck v9) <| fun v10 =>
  kq (rFieldP 11 v10) <| fun v11 =>
  ke (call N_sync_atomic_Uint64_Load [v5] h) <| fun v12 h0 =>
  ke (call N_sync_atomic_Uint64_Load [v8] h0) <| fun v13 h1 =>
  ke (call N_sync_atomic_Uint64_Load [v11] h1) <| fun v14 h2 =>
  kq (some v12) <| fun v15 =>
  kq (some v13) <| fun v16 =>
  kq (some v14) <| fun v17 =>
  some (.tuple [v15, v16, v17], h2)
theorem F_queue_Queue_string__Counts_eq (call callD : ACall) (a0 : AVal) (h : AH) : kFunc Try.prog [] call callD N_queue_Queue_string__Counts [a0] h = F_queue_Queue_string__Counts call callD a0 h := by kernel_rfl
theorem C_queue_Queue_string__Counts {ov : AOver} (H : Plain ov) (n : Nat) (a0 : AVal) (h : AH) : kc ov (n + 1) N_queue_Queue_string__Counts [a0] h = F_queue_Queue_string__Counts (kc ov n) (kd ov n) a0 h := by
  have hov : ov N_queue_Queue_string__Counts = none := H _ (by decide)
  unfold kc kd; rw [← F_queue_Queue_string__Counts_eq]; simp only [kcall, hov]

/-- (*rung/queue.Queue[string]).Len -/
noncomputable def F_queue_Queue_string__Len (call callD : ACall) (a0 : AVal) (h : AH) : Ans :=
  kq (some (.int .i64 0)) <| fun v0 =>
  kq (some a0) <| fun v1 =>
  kq (aNilCheck v1) <| fun v2 =>
  kq (rFieldP 0 v2) <| fun v3 =>
  ke (call N_sync_Mutex_Lock [v3] h) <| fun v4 h0 =>
  kq (some a0) <| fun v5 =>
  kq (aNilCheck v5) <| fun v6 =>
  kq (rFieldP 0 v6) <| fun v7 =>
  kq (some a0) <| fun v8 =>
  kq (aNilCheck v8) <| fun v9 =>
  kq (rFieldP 8 v9) <| fun v10 =>
  kq (rLoad v10 h0) <| fun v11 =>
  kq (some v11) <| fun v12 =>
  ke (callD N_sync_Mutex_Unlock [v7] h0) <| fun v13 h1 =>
  some (v12, h1)
theorem F_queue_Queue_string__Len_eq (call callD : ACall) (a0 : AVal) (h : AH) : kFunc Try.prog [] call callD N_queue_Queue_string__Len [a0] h = F_queue_Queue_string__Len call callD a0 h := by kernel_rfl
theorem C_queue_Queue_string__Len {ov : AOver} (H : Plain ov) (n : Nat) (a0 : AVal) (h : AH) : kc ov (n + 1) N_queue_Queue_string__Len [a0] h = F_queue_Queue_string__Len (kc ov n) (kd ov n) a0 h := by
  have hov : ov N_queue_Queue_string__Len = none := H _ (by decide)
  unfold kc kd; rw [← F_queue_Queue_string__Len_eq]; simp only [kcall, hov]

/-- (*sync.Once).Do -/
noncomputable def F_sync_Once_Do (call callD : ACall) (a0 a1 : AVal) (h : AH) : Ans :=
  kq (some a0) <| fun v0 =>
  kq (aNilCheck v0) <| fun v1 =>
  kq (rFieldP 0 v1) <| fun v2 =>
  ke (call N_sync_atomic_Bool_Load [v2] h) <| fun v3 h0 =>
  kq (aUn .not v3) <| fun v4 =>
  kj (fun l5 h1 =>
  some (.tuple [], h1)) <| fun j6 =>
  kIf v4 (
  kq (some a0) <| fun v7 =>
  kq (some a1) <| fun v8 =>
  ke (call N_sync_Once_doSlow [v7, v8] h0) <| fun v9 h2 =>
  j6 [] h2) (
  j6 [] h0)
theorem F_sync_Once_Do_eq (call callD : ACall) (a0 a1 : AVal) (h : AH) : kFunc Try.prog [] call callD N_sync_Once_Do [a0, a1] h = F_sync_Once_Do call callD a0 a1 h := by kernel_rfl
theorem C_sync_Once_Do {ov : AOver} (H : Plain ov) (n : Nat) (a0 a1 : AVal) (h : AH) : kc ov (n + 1) N_sync_Once_Do [a0, a1] h = F_sync_Once_Do (kc ov n) (kd ov n) a0 a1 h := by
  have hov : ov N_sync_Once_Do = none := H _ (by decide)
  unfold kc kd; rw [← F_sync_Once_Do_eq]; simp only [kcall, hov]

/-- (*rung/queue.Queue[int]).room -/
noncomputable def F_queue_Queue_int__room (call callD : ACall) (a0 : AVal) (h : AH) : Ans :=
  kq (some a0) <| fun v0 =>
  kq (some a0) <| fun v1 =>
  kq (aNilCheck v1) <| fun v2 =>
  kq (rFieldP 5 v2) <| fun v3 =>
  kq (rLoad v3 h) <| fun v4 =>
  km (mMakeSl T_int 1 8 [(.int .i64 0)] v4 v4) h <| fun v5 h0 =>
  kq (aNilCheck v0) <| fun v6 =>
  kq (rFieldP 6 v6) <| fun v7 =>
  ke ((rStore 1 v7 v5 h0).map fun h' => (.tuple [], h')) <| fun v8 h1 =>
  some (.tuple [], h1)
theorem F_queue_Queue_int__room_eq (call callD : ACall) (a0 : AVal) (h : AH) : kFunc Try.prog [] call callD N_queue_Queue_int__room [a0] h = F_queue_Queue_int__room call callD a0 h := by kernel_rfl
theorem C_queue_Queue_int__room {ov : AOver} (H : Plain ov) (n : Nat) (a0 : AVal) (h : AH) : kc ov (n + 1) N_queue_Queue_int__room [a0] h = F_queue_Queue_int__room (kc ov n) (kd ov n) a0 h := by
  have hov : ov N_queue_Queue_int__room = none := H _ (by decide)
  unfold kc kd; rw [← F_queue_Queue_int__room_eq]; simp only [kcall, hov]

/-- (*sync.Mutex).Lock -/
noncomputable def F_sync_Mutex_Lock (call callD : ACall) (a0 : AVal) (h : AH) : Ans :=
  kq (some a0) <| fun v0 =>
  kq (aNilCheck v0) <| fun v1 =>
  kq (rFieldP 0 v1) <| fun v2 =>
  ke (call N_internal_sync_Mutex_Lock [v2] h) <| fun v3 h0 =>
  some (.tuple [], h0)
theorem F_sync_Mutex_Lock_eq (call callD : ACall) (a0 : AVal) (h : AH) : kFunc Try.prog [] call callD N_sync_Mutex_Lock [a0] h = F_sync_Mutex_Lock call callD a0 h := by kernel_rfl
theorem C_sync_Mutex_Lock {ov : AOver} (H : Plain ov) (n : Nat) (a0 : AVal) (h : AH) : kc ov (n + 1) N_sync_Mutex_Lock [a0] h = F_sync_Mutex_Lock (kc ov n) (kd ov n) a0 h := by
  have hov : ov N_sync_Mutex_Lock = none := H _ (by decide)
  unfold kc kd; rw [← F_sync_Mutex_Lock_eq]; simp only [kcall, hov]

/-- (*sync.Mutex).Unlock -/
noncomputable def F_sync_Mutex_Unlock (call callD : ACall) (a0 : AVal) (h : AH) : Ans :=
  kq (some a0) <| fun v0 =>
  kq (aNilCheck v0) <| fun v1 =>
  kq (rFieldP 0 v1) <| fun v2 =>
  ke (call N_internal_sync_Mutex_Unlock [v2] h) <| fun v3 h0 =>
  some (.tuple [], h0)
theorem F_sync_Mutex_Unlock_eq (call callD : ACall) (a0 : AVal) (h : AH) : kFunc Try.prog [] call callD N_sync_Mutex_Unlock [a0] h = F_sync_Mutex_Unlock call callD a0 h := by kernel_rfl
theorem C_sync_Mutex_Unlock {ov : AOver} (H : Plain ov) (n : Nat) (a0 : AVal) (h : AH) : kc ov (n + 1) N_sync_Mutex_Unlock [a0] h = F_sync_Mutex_Unlock (kc ov n) (kd ov n) a0 h := by
  have hov : ov N_sync_Mutex_Unlock = none := H _ (by decide)
  unfold kc kd; rw [← F_sync_Mutex_Unlock_eq]; simp only [kcall, hov]

/-- (*sync/atomic.Uint64).Add -/
noncomputable def F_sync_atomic_Uint64_Add (call callD : ACall) (a0 a1 : AVal) (h : AH) : Ans :=
  kq (some (.int .u64 0)) <| fun v0 =>
  kq (some a0) <| fun v1 =>
  kq (aNilCheck v1) <| fun v2 =>
  kq (rFieldP 0 v2) <| fun v3 =>
  kq (some a1) <| fun v4 =>
  ke (call N_sync_atomic_AddUint64 [v3, v4] h) <| fun v5 h0 =>
  kq (some v5) <| fun v6 =>
  some (v6, h0)
theorem F_sync_atomic_Uint64_Add_eq (call callD : ACall) (a0 a1 : AVal) (h : AH) : kFunc Try.prog [] call callD N_sync_atomic_Uint64_Add [a0, a1] h = F_sync_atomic_Uint64_Add call callD a0 a1 h := by kernel_rfl
theorem C_sync_atomic_Uint64_Add {ov : AOver} (H : Plain ov) (n : Nat) (a0 a1 : AVal) (h : AH) : kc ov (n + 1) N_sync_atomic_Uint64_Add [a0, a1] h = F_sync_atomic_Uint64_Add (kc ov n) (kd ov n) a0 a1 h := by
  have hov : ov N_sync_atomic_Uint64_Add = none := H _ (by decide)
  unfold kc kd; rw [← F_sync_atomic_Uint64_Add_eq]; simp only [kcall, hov]

/-- (*rung/queue.Queue[int]).first -/
noncomputable def F_queue_Queue_int__first (call callD : ACall) (a0 : AVal) (h : AH) : Ans :=
  kq (some (.int .i64 0)) <| fun v0 =>
  kq (some (.bool false)) <| fun v1 =>
  kq (some (.int .i64 0)) <| fun v2 =>
  kq (some a0) <| fun v3 =>
  kq (aNilCheck v3) <| fun v4 =>
  kq (rFieldP 8 v4) <| fun v5 =>
  kq (rLoad v5 h) <| fun v6 =>
  kq (rBin .eql .no true v6 (.int .i64 0)) <| fun v7 =>
  kIf v7 (
  kq (some v2) <| fun v8 =>
  kq (some v8) <| fun v9 =>
  kq (some (.bool false)) <| fun v10 =>
  some (.tuple [v9, v10], h)) (
  kq (some a0) <| fun v11 =>
  kq (aNilCheck v11) <| fun v12 =>
  kq (rFieldP 6 v12) <| fun v13 =>
  kq (rLoad v13 h) <| fun v14 =>
  kq (some a0) <| fun v15 =>
  kq (aNilCheck v15) <| fun v16 =>
  kq (rFieldP 7 v16) <| fun v17 =>
  kq (rLoad v17 h) <| fun v18 =>
  kq (rAt 1 v14 v18) <| fun v19 =>
  kq (rLoad v19 h) <| fun v20 =>
  kq (some v20) <| fun v21 =>
  kq (some a0) <| fun v22 =>
  kq (aNilCheck v22) <| fun v23 =>
  kq (rFieldP 6 v23) <| fun v24 =>
  kq (rLoad v24 h) <| fun v25 =>
  kq (some a0) <| fun v26 =>
  kq (aNilCheck v26) <| fun v27 =>
  kq (rFieldP 7 v27) <| fun v28 =>
  kq (rLoad v28 h) <| fun v29 =>
  kq (some v2) <| fun v30 =>
  kq (rAt 1 v25 v29) <| fun v31 =>
  ke ((rStore 1 v31 v30 h).map fun h' => (.tuple [], h')) <| fun v32 h0 =>
  kChk (!false || kSame (rLoad v28 h0) v29) <|
  kChk (!false || kSame (rLoad v24 h0) v25) <|
  kq (some a0) <| fun v33 =>
  kq (some a0) <| fun v34 =>
  kq (some a0) <| fun v35 =>
  kq (aNilCheck v35) <| fun v36 =>
  kq (rFieldP 7 v36) <| fun v37 =>
  kq (rLoad v37 h0) <| fun v38 =>
  kq (rBin .add .no true v38 (.int .i64 1)) <| fun v39 =>
  kq (some a0) <| fun v40 =>
  kq (aNilCheck v40) <| fun v41 =>
  kq (rFieldP 5 v41) <| fun v42 =>
  kq (rLoad v42 h0) <| fun v43 =>
  kq (rBin .rem .no false v39 v43) <| fun v44 =>
  kq (some a0) <| fun v45 =>
  kq (aNilCheck v45) <| fun v46 =>
  kq (rFieldP 8 v46) <| fun v47 =>
  kq (rLoad v47 h0) <| fun v48 =>
  kq (rBin .sub .no true v48 (.int .i64 1)) <| fun v49 =>
  kq (aNilCheck v33) <| fun v50 =>
  kq (rFieldP 7 v50) <| fun v51 =>
  ke ((rStore 1 v51 v44 h0).map fun h' => (.tuple [], h')) <| fun v52 h1 =>
  kq (aNilCheck v34) <| fun v53 =>
  kq (rFieldP 8 v53) <| fun v54 =>
  kChk (!false || kSame (rLoad v47 h1) v48) <|
  kChk (!false || kSame (rLoad v42 h1) v43) <|
  kChk (!false || kSame (rLoad v37 h1) v38) <|
  ke ((rStore 1 v54 v49 h1).map fun h' => (.tuple [], h')) <| fun v55 h2 =>
  kChk (!false || kSame (rLoad v47 h2) v48) <|
  kChk (!false || kSame (rLoad v42 h2) v43) <|
  kChk (!false || kSame (rLoad v37 h2) v38) <|
  kq (some a0) <| fun v56 =>
  kq (aNilCheck v56) <| fun v57 =>
  kq (rFieldP 11 v57) <| fun v58 =>
  ke (call N_sync_atomic_Uint64_Add [v58, (.int .u64 1)] h2) <| fun v59 h3 =>
  kq (some v21) <| fun v60 =>
  kq (some v60) <| fun v61 =>
  kq (some (.bool true)) <| fun v62 =>
  some (.tuple [v61, v62], h3))
theorem F_queue_Queue_int__first_eq (call callD : ACall) (a0 : AVal) (h : AH) : kFunc Try.prog [] call callD N_queue_Queue_int__first [a0] h = F_queue_Queue_int__first call callD a0 h := by kernel_rfl
theorem C_queue_Queue_int__first {ov : AOver} (H : Plain ov) (n : Nat) (a0 : AVal) (h : AH) : kc ov (n + 1) N_queue_Queue_int__first [a0] h = F_queue_Queue_int__first (kc ov n) (kd ov n) a0 h := by
  have hov : ov N_queue_Queue_int__first = none := H _ (by decide)
  unfold kc kd; rw [← F_queue_Queue_int__first_eq]; simp only [kcall, hov]

/-- (*sync/atomic.Uint64).Load -/
noncomputable def F_sync_atomic_Uint64_Load (call callD : ACall) (a0 : AVal) (h : AH) : Ans :=
  kq (some (.int .u64 0)) <| fun v0 =>
  kq (some a0) <| fun v1 =>
  kq (aNilCheck v1) <| fun v2 =>
  kq (rFieldP 0 v2) <| fun v3 =>
  ke (call N_sync_atomic_LoadUint64 [v3] h) <| fun v4 h0 =>
  kq (some v4) <| fun v5 =>
  some (v5, h0)
theorem F_sync_atomic_Uint64_Load_eq (call callD : ACall) (a0 : AVal) (h : AH) : kFunc Try.prog [] call callD N_sync_atomic_Uint64_Load [a0] h = F_sync_atomic_Uint64_Load call callD a0 h := by kernel_rfl
theorem C_sync_atomic_Uint64_Load {ov : AOver} (H : Plain ov) (n : Nat) (a0 : AVal) (h : AH) : kc ov (n + 1) N_sync_atomic_Uint64_Load [a0] h = F_sync_atomic_Uint64_Load (kc ov n) (kd ov n) a0 h := by
  have hov : ov N_sync_atomic_Uint64_Load = none := H _ (by decide)
  unfold kc kd; rw [← F_sync_atomic_Uint64_Load_eq]; simp only [kcall, hov]

/-- (*rung/queue.Queue[rung/runglaw24.thing]).room -/
noncomputable def F_queue_Queue_runglaw24_thing__room (call callD : ACall) (a0 : AVal) (h : AH) : Ans :=
  kq (some a0) <| fun v0 =>
  kq (some a0) <| fun v1 =>
  kq (aNilCheck v1) <| fun v2 =>
  kq (rFieldP 5 v2) <| fun v3 =>
  kq (rLoad v3 h) <| fun v4 =>
  km (mMakeSl T_runglaw24_thing 4 56 [(.str []), (.int .i64 0), (.int .i64 0), (.slice none 0 0)] v4 v4) h <| fun v5 h0 =>
  kq (aNilCheck v0) <| fun v6 =>
  kq (rFieldP 6 v6) <| fun v7 =>
  ke ((rStore 1 v7 v5 h0).map fun h' => (.tuple [], h')) <| fun v8 h1 =>
  some (.tuple [], h1)
theorem F_queue_Queue_runglaw24_thing__room_eq (call callD : ACall) (a0 : AVal) (h : AH) : kFunc Try.prog [] call callD N_queue_Queue_runglaw24_thing__room [a0] h = F_queue_Queue_runglaw24_thing__room call callD a0 h := by kernel_rfl
theorem C_queue_Queue_runglaw24_thing__room {ov : AOver} (H : Plain ov) (n : Nat) (a0 : AVal) (h : AH) : kc ov (n + 1) N_queue_Queue_runglaw24_thing__room [a0] h = F_queue_Queue_runglaw24_thing__room (kc ov n) (kd ov n) a0 h := by
  have hov : ov N_queue_Queue_runglaw24_thing__room = none := H _ (by decide)
  unfold kc kd; rw [← F_queue_Queue_runglaw24_thing__room_eq]; simp only [kcall, hov]

/-- (*rung/queue.Queue[func() int]).room -/
noncomputable def F_queue_Queue_func___int__room (call callD : ACall) (a0 : AVal) (h : AH) : Ans :=
  kq (some a0) <| fun v0 =>
  kq (some a0) <| fun v1 =>
  kq (aNilCheck v1) <| fun v2 =>
  kq (rFieldP 5 v2) <| fun v3 =>
  kq (rLoad v3 h) <| fun v4 =>
  km (mMakeSl T_func___int 1 8 [.nilFunc] v4 v4) h <| fun v5 h0 =>
  kq (aNilCheck v0) <| fun v6 =>
  kq (rFieldP 6 v6) <| fun v7 =>
  ke ((rStore 1 v7 v5 h0).map fun h' => (.tuple [], h')) <| fun v8 h1 =>
  some (.tuple [], h1)
theorem F_queue_Queue_func___int__room_eq (call callD : ACall) (a0 : AVal) (h : AH) : kFunc Try.prog [] call callD N_queue_Queue_func___int__room [a0] h = F_queue_Queue_func___int__room call callD a0 h := by kernel_rfl
theorem C_queue_Queue_func___int__room {ov : AOver} (H : Plain ov) (n : Nat) (a0 : AVal) (h : AH) : kc ov (n + 1) N_queue_Queue_func___int__room [a0] h = F_queue_Queue_func___int__room (kc ov n) (kd ov n) a0 h := by
  have hov : ov N_queue_Queue_func___int__room = none := H _ (by decide)
  unfold kc kd; rw [← F_queue_Queue_func___int__room_eq]; simp only [kcall, hov]

/-- (*rung/queue.Queue[rung/runglaw24.thing]).first -/
noncomputable def F_queue_Queue_runglaw24_thing__first (call callD : ACall) (a0 : AVal) (h : AH) : Ans :=
  km (pBox T_runglaw24_thing (.agg [(.str []), (.int .i64 0), (.int .i64 0), (.slice none 0 0)])) h <| fun v0 h0 =>
  kq (some (.bool false)) <| fun v1 =>
  km (pBox T_runglaw24_thing (.agg [(.str []), (.int .i64 0), (.int .i64 0), (.slice none 0 0)])) h0 <| fun v2 h1 =>
  kq (some a0) <| fun v3 =>
  kq (aNilCheck v3) <| fun v4 =>
  kq (rFieldP 8 v4) <| fun v5 =>
  kq (rLoad v5 h1) <| fun v6 =>
  kq (rBin .eql .no true v6 (.int .i64 0)) <| fun v7 =>
  kIf v7 (
  kq (rLoadA 4 v2 h1) <| fun v8 =>
  ke ((rStore 4 v0 v8 h1).map fun h' => (.tuple [], h')) <| fun v9 h2 =>
  kq (some (.bool false)) <| fun v10 =>
  kq (rLoadA 4 v0 h2) <| fun v11 =>
  some (.tuple [v11, v10], h2)) (
  kq (some a0) <| fun v12 =>
  kq (aNilCheck v12) <| fun v13 =>
  kq (rFieldP 6 v13) <| fun v14 =>
  kq (rLoad v14 h1) <| fun v15 =>
  kq (some a0) <| fun v16 =>
  kq (aNilCheck v16) <| fun v17 =>
  kq (rFieldP 7 v17) <| fun v18 =>
  kq (rLoad v18 h1) <| fun v19 =>
  kq (rAt 4 v15 v19) <| fun v20 =>
  kq (rLoadA 4 v20 h1) <| fun v21 =>
  km (pBox T_runglaw24_thing (.agg [(.str []), (.int .i64 0), (.int .i64 0), (.slice none 0 0)])) h1 <| fun v22 h3 =>
  kChk (!true || kSame (rLoadA 4 v20 h3) v21) <|
  kChk (!true || kSame (rLoad v18 h3) v19) <|
  kChk (!true || kSame (rLoad v14 h3) v15) <|
  ke ((rStore 4 v22 v21 h3).map fun h' => (.tuple [], h')) <| fun v23 h4 =>
  kChk (!false || kSame (rLoadA 4 v20 h4) v21) <|
  kChk (!false || kSame (rLoad v18 h4) v19) <|
  kChk (!false || kSame (rLoad v14 h4) v15) <|
  kq (some a0) <| fun v24 =>
  kq (aNilCheck v24) <| fun v25 =>
  kq (rFieldP 6 v25) <| fun v26 =>
  kq (rLoad v26 h4) <| fun v27 =>
  kq (some a0) <| fun v28 =>
  kq (aNilCheck v28) <| fun v29 =>
  kq (rFieldP 7 v29) <| fun v30 =>
  kq (rLoad v30 h4) <| fun v31 =>
  kq (rLoadA 4 v2 h4) <| fun v32 =>
  kq (rAt 4 v27 v31) <| fun v33 =>
  ke ((rStore 4 v33 v32 h4).map fun h' => (.tuple [], h')) <| fun v34 h5 =>
  kChk (!false || kSame (rLoadA 4 v2 h5) v32) <|
  kChk (!false || kSame (rLoad v30 h5) v31) <|
  kChk (!false || kSame (rLoad v26 h5) v27) <|
  kq (some a0) <| fun v35 =>
  kq (some a0) <| fun v36 =>
  kq (some a0) <| fun v37 =>
  kq (aNilCheck v37) <| fun v38 =>
  kq (rFieldP 7 v38) <| fun v39 =>
  kq (rLoad v39 h5) <| fun v40 =>
  kq (rBin .add .no true v40 (.int .i64 1)) <| fun v41 =>
  kq (some a0) <| fun v42 =>
  kq (aNilCheck v42) <| fun v43 =>
  kq (rFieldP 5 v43) <| fun v44 =>
  kq (rLoad v44 h5) <| fun v45 =>
  kq (rBin .rem .no false v41 v45) <| fun v46 =>
  kq (some a0) <| fun v47 =>
  kq (aNilCheck v47) <| fun v48 =>
  kq (rFieldP 8 v48) <| fun v49 =>
  kq (rLoad v49 h5) <| fun v50 =>
  kq (rBin .sub .no true v50 (.int .i64 1)) <| fun v51 =>
  kq (aNilCheck v35) <| fun v52 =>
  kq (rFieldP 7 v52) <| fun v53 =>
  ke ((rStore 1 v53 v46 h5).map fun h' => (.tuple [], h')) <| fun v54 h6 =>
  kq (aNilCheck v36) <| fun v55 =>
  kq (rFieldP 8 v55) <| fun v56 =>
  kChk (!false || kSame (rLoad v49 h6) v50) <|
  kChk (!false || kSame (rLoad v44 h6) v45) <|
  kChk (!false || kSame (rLoad v39 h6) v40) <|
  ke ((rStore 1 v56 v51 h6).map fun h' => (.tuple [], h')) <| fun v57 h7 =>
  kChk (!false || kSame (rLoad v49 h7) v50) <|
  kChk (!false || kSame (rLoad v44 h7) v45) <|
  kChk (!false || kSame (rLoad v39 h7) v40) <|
  kq (some a0) <| fun v58 =>
  kq (aNilCheck v58) <| fun v59 =>
  kq (rFieldP 11 v59) <| fun v60 =>
  ke (call N_sync_atomic_Uint64_Add [v60, (.int .u64 1)] h7) <| fun v61 h8 =>
  kq (rLoadA 4 v22 h8) <| fun v62 =>
  ke ((rStore 4 v0 v62 h8).map fun h' => (.tuple [], h')) <| fun v63 h9 =>
  kq (some (.bool true)) <| fun v64 =>
  kq (rLoadA 4 v0 h9) <| fun v65 =>
  some (.tuple [v65, v64], h9))
theorem F_queue_Queue_runglaw24_thing__first_eq (call callD : ACall) (a0 : AVal) (h : AH) : kFunc Try.prog [] call callD N_queue_Queue_runglaw24_thing__first [a0] h = F_queue_Queue_runglaw24_thing__first call callD a0 h := by kernel_rfl
theorem C_queue_Queue_runglaw24_thing__first {ov : AOver} (H : Plain ov) (n : Nat) (a0 : AVal) (h : AH) : kc ov (n + 1) N_queue_Queue_runglaw24_thing__first [a0] h = F_queue_Queue_runglaw24_thing__first (kc ov n) (kd ov n) a0 h := by
  have hov : ov N_queue_Queue_runglaw24_thing__first = none := H _ (by decide)
  unfold kc kd; rw [← F_queue_Queue_runglaw24_thing__first_eq]; simp only [kcall, hov]

/-- (*rung/queue.Queue[func() int]).first -/
noncomputable def F_queue_Queue_func___int__first (call callD : ACall) (a0 : AVal) (h : AH) : Ans :=
  kq (some .nilFunc) <| fun v0 =>
  kq (some (.bool false)) <| fun v1 =>
  kq (some .nilFunc) <| fun v2 =>
  kq (some a0) <| fun v3 =>
  kq (aNilCheck v3) <| fun v4 =>
  kq (rFieldP 8 v4) <| fun v5 =>
  kq (rLoad v5 h) <| fun v6 =>
  kq (rBin .eql .no true v6 (.int .i64 0)) <| fun v7 =>
  kIf v7 (
  kq (some v2) <| fun v8 =>
  kq (some v8) <| fun v9 =>
  kq (some (.bool false)) <| fun v10 =>
  some (.tuple [v9, v10], h)) (
  kq (some a0) <| fun v11 =>
  kq (aNilCheck v11) <| fun v12 =>
  kq (rFieldP 6 v12) <| fun v13 =>
  kq (rLoad v13 h) <| fun v14 =>
  kq (some a0) <| fun v15 =>
  kq (aNilCheck v15) <| fun v16 =>
  kq (rFieldP 7 v16) <| fun v17 =>
  kq (rLoad v17 h) <| fun v18 =>
  kq (rAt 1 v14 v18) <| fun v19 =>
  kq (rLoad v19 h) <| fun v20 =>
  kq (some v20) <| fun v21 =>
  kq (some a0) <| fun v22 =>
  kq (aNilCheck v22) <| fun v23 =>
  kq (rFieldP 6 v23) <| fun v24 =>
  kq (rLoad v24 h) <| fun v25 =>
  kq (some a0) <| fun v26 =>
  kq (aNilCheck v26) <| fun v27 =>
  kq (rFieldP 7 v27) <| fun v28 =>
  kq (rLoad v28 h) <| fun v29 =>
  kq (some v2) <| fun v30 =>
  kq (rAt 1 v25 v29) <| fun v31 =>
  ke ((rStore 1 v31 v30 h).map fun h' => (.tuple [], h')) <| fun v32 h0 =>
  kChk (!false || kSame (rLoad v28 h0) v29) <|
  kChk (!false || kSame (rLoad v24 h0) v25) <|
  kq (some a0) <| fun v33 =>
  kq (some a0) <| fun v34 =>
  kq (some a0) <| fun v35 =>
  kq (aNilCheck v35) <| fun v36 =>
  kq (rFieldP 7 v36) <| fun v37 =>
  kq (rLoad v37 h0) <| fun v38 =>
  kq (rBin .add .no true v38 (.int .i64 1)) <| fun v39 =>
  kq (some a0) <| fun v40 =>
  kq (aNilCheck v40) <| fun v41 =>
  kq (rFieldP 5 v41) <| fun v42 =>
  kq (rLoad v42 h0) <| fun v43 =>
  kq (rBin .rem .no false v39 v43) <| fun v44 =>
  kq (some a0) <| fun v45 =>
  kq (aNilCheck v45) <| fun v46 =>
  kq (rFieldP 8 v46) <| fun v47 =>
  kq (rLoad v47 h0) <| fun v48 =>
  kq (rBin .sub .no true v48 (.int .i64 1)) <| fun v49 =>
  kq (aNilCheck v33) <| fun v50 =>
  kq (rFieldP 7 v50) <| fun v51 =>
  ke ((rStore 1 v51 v44 h0).map fun h' => (.tuple [], h')) <| fun v52 h1 =>
  kq (aNilCheck v34) <| fun v53 =>
  kq (rFieldP 8 v53) <| fun v54 =>
  kChk (!false || kSame (rLoad v47 h1) v48) <|
  kChk (!false || kSame (rLoad v42 h1) v43) <|
  kChk (!false || kSame (rLoad v37 h1) v38) <|
  ke ((rStore 1 v54 v49 h1).map fun h' => (.tuple [], h')) <| fun v55 h2 =>
  kChk (!false || kSame (rLoad v47 h2) v48) <|
  kChk (!false || kSame (rLoad v42 h2) v43) <|
  kChk (!false || kSame (rLoad v37 h2) v38) <|
  kq (some a0) <| fun v56 =>
  kq (aNilCheck v56) <| fun v57 =>
  kq (rFieldP 11 v57) <| fun v58 =>
  ke (call N_sync_atomic_Uint64_Add [v58, (.int .u64 1)] h2) <| fun v59 h3 =>
  kq (some v21) <| fun v60 =>
  kq (some v60) <| fun v61 =>
  kq (some (.bool true)) <| fun v62 =>
  some (.tuple [v61, v62], h3))
theorem F_queue_Queue_func___int__first_eq (call callD : ACall) (a0 : AVal) (h : AH) : kFunc Try.prog [] call callD N_queue_Queue_func___int__first [a0] h = F_queue_Queue_func___int__first call callD a0 h := by kernel_rfl
theorem C_queue_Queue_func___int__first {ov : AOver} (H : Plain ov) (n : Nat) (a0 : AVal) (h : AH) : kc ov (n + 1) N_queue_Queue_func___int__first [a0] h = F_queue_Queue_func___int__first (kc ov n) (kd ov n) a0 h := by
  have hov : ov N_queue_Queue_func___int__first = none := H _ (by decide)
  unfold kc kd; rw [← F_queue_Queue_func___int__first_eq]; simp only [kcall, hov]

/-- (*rung/queue.Queue[string]).room -/
noncomputable def F_queue_Queue_string__room (call callD : ACall) (a0 : AVal) (h : AH) : Ans :=
  kq (some a0) <| fun v0 =>
  kq (some a0) <| fun v1 =>
  kq (aNilCheck v1) <| fun v2 =>
  kq (rFieldP 5 v2) <| fun v3 =>
  kq (rLoad v3 h) <| fun v4 =>
  km (mMakeSl T_string 1 16 [(.str [])] v4 v4) h <| fun v5 h0 =>
  kq (aNilCheck v0) <| fun v6 =>
  kq (rFieldP 6 v6) <| fun v7 =>
  ke ((rStore 1 v7 v5 h0).map fun h' => (.tuple [], h')) <| fun v8 h1 =>
  some (.tuple [], h1)
theorem F_queue_Queue_string__room_eq (call callD : ACall) (a0 : AVal) (h : AH) : kFunc Try.prog [] call callD N_queue_Queue_string__room [a0] h = F_queue_Queue_string__room call callD a0 h := by kernel_rfl
theorem C_queue_Queue_string__room {ov : AOver} (H : Plain ov) (n : Nat) (a0 : AVal) (h : AH) : kc ov (n + 1) N_queue_Queue_string__room [a0] h = F_queue_Queue_string__room (kc ov n) (kd ov n) a0 h := by
  have hov : ov N_queue_Queue_string__room = none := H _ (by decide)
  unfold kc kd; rw [← F_queue_Queue_string__room_eq]; simp only [kcall, hov]

/-- (*rung/queue.Queue[string]).first -/
noncomputable def F_queue_Queue_string__first (call callD : ACall) (a0 : AVal) (h : AH) : Ans :=
  kq (some (.str [])) <| fun v0 =>
  kq (some (.bool false)) <| fun v1 =>
  kq (some (.str [])) <| fun v2 =>
  kq (some a0) <| fun v3 =>
  kq (aNilCheck v3) <| fun v4 =>
  kq (rFieldP 8 v4) <| fun v5 =>
  kq (rLoad v5 h) <| fun v6 =>
  kq (rBin .eql .no true v6 (.int .i64 0)) <| fun v7 =>
  kIf v7 (
  kq (some v2) <| fun v8 =>
  kq (some v8) <| fun v9 =>
  kq (some (.bool false)) <| fun v10 =>
  some (.tuple [v9, v10], h)) (
  kq (some a0) <| fun v11 =>
  kq (aNilCheck v11) <| fun v12 =>
  kq (rFieldP 6 v12) <| fun v13 =>
  kq (rLoad v13 h) <| fun v14 =>
  kq (some a0) <| fun v15 =>
  kq (aNilCheck v15) <| fun v16 =>
  kq (rFieldP 7 v16) <| fun v17 =>
  kq (rLoad v17 h) <| fun v18 =>
  kq (rAt 1 v14 v18) <| fun v19 =>
  kq (rLoad v19 h) <| fun v20 =>
  kq (some v20) <| fun v21 =>
  kq (some a0) <| fun v22 =>
  kq (aNilCheck v22) <| fun v23 =>
  kq (rFieldP 6 v23) <| fun v24 =>
  kq (rLoad v24 h) <| fun v25 =>
  kq (some a0) <| fun v26 =>
  kq (aNilCheck v26) <| fun v27 =>
  kq (rFieldP 7 v27) <| fun v28 =>
  kq (rLoad v28 h) <| fun v29 =>
  kq (some v2) <| fun v30 =>
  kq (rAt 1 v25 v29) <| fun v31 =>
  ke ((rStore 1 v31 v30 h).map fun h' => (.tuple [], h')) <| fun v32 h0 =>
  kChk (!false || kSame (rLoad v28 h0) v29) <|
  kChk (!false || kSame (rLoad v24 h0) v25) <|
  kq (some a0) <| fun v33 =>
  kq (some a0) <| fun v34 =>
  kq (some a0) <| fun v35 =>
  kq (aNilCheck v35) <| fun v36 =>
  kq (rFieldP 7 v36) <| fun v37 =>
  kq (rLoad v37 h0) <| fun v38 =>
  kq (rBin .add .no true v38 (.int .i64 1)) <| fun v39 =>
  kq (some a0) <| fun v40 =>
  kq (aNilCheck v40) <| fun v41 =>
  kq (rFieldP 5 v41) <| fun v42 =>
  kq (rLoad v42 h0) <| fun v43 =>
  kq (rBin .rem .no false v39 v43) <| fun v44 =>
  kq (some a0) <| fun v45 =>
  kq (aNilCheck v45) <| fun v46 =>
  kq (rFieldP 8 v46) <| fun v47 =>
  kq (rLoad v47 h0) <| fun v48 =>
  kq (rBin .sub .no true v48 (.int .i64 1)) <| fun v49 =>
  kq (aNilCheck v33) <| fun v50 =>
  kq (rFieldP 7 v50) <| fun v51 =>
  ke ((rStore 1 v51 v44 h0).map fun h' => (.tuple [], h')) <| fun v52 h1 =>
  kq (aNilCheck v34) <| fun v53 =>
  kq (rFieldP 8 v53) <| fun v54 =>
  kChk (!false || kSame (rLoad v47 h1) v48) <|
  kChk (!false || kSame (rLoad v42 h1) v43) <|
  kChk (!false || kSame (rLoad v37 h1) v38) <|
  ke ((rStore 1 v54 v49 h1).map fun h' => (.tuple [], h')) <| fun v55 h2 =>
  kChk (!false || kSame (rLoad v47 h2) v48) <|
  kChk (!false || kSame (rLoad v42 h2) v43) <|
  kChk (!false || kSame (rLoad v37 h2) v38) <|
  kq (some a0) <| fun v56 =>
  kq (aNilCheck v56) <| fun v57 =>
  kq (rFieldP 11 v57) <| fun v58 =>
  ke (call N_sync_atomic_Uint64_Add [v58, (.int .u64 1)] h2) <| fun v59 h3 =>
  kq (some v21) <| fun v60 =>
  kq (some v60) <| fun v61 =>
  kq (some (.bool true)) <| fun v62 =>
  some (.tuple [v61, v62], h3))
theorem F_queue_Queue_string__first_eq (call callD : ACall) (a0 : AVal) (h : AH) : kFunc Try.prog [] call callD N_queue_Queue_string__first [a0] h = F_queue_Queue_string__first call callD a0 h := by kernel_rfl
theorem C_queue_Queue_string__first {ov : AOver} (H : Plain ov) (n : Nat) (a0 : AVal) (h : AH) : kc ov (n + 1) N_queue_Queue_string__first [a0] h = F_queue_Queue_string__first (kc ov n) (kd ov n) a0 h := by
  have hov : ov N_queue_Queue_string__first = none := H _ (by decide)
  unfold kc kd; rw [← F_queue_Queue_string__first_eq]; simp only [kcall, hov]

/-- (*sync/atomic.Bool).Load -/
noncomputable def F_sync_atomic_Bool_Load (call callD : ACall) (a0 : AVal) (h : AH) : Ans :=
  kq (some (.bool false)) <| fun v0 =>
  kq (some a0) <| fun v1 =>
  kq (aNilCheck v1) <| fun v2 =>
  kq (rFieldP 0 v2) <| fun v3 =>
  ke (call N_sync_atomic_LoadUint32 [v3] h) <| fun v4 h0 =>
  kq (rBin .neq .no true v4 (.int .u32 0)) <| fun v5 =>
  kq (some v5) <| fun v6 =>
  some (v6, h0)
theorem F_sync_atomic_Bool_Load_eq (call callD : ACall) (a0 : AVal) (h : AH) : kFunc Try.prog [] call callD N_sync_atomic_Bool_Load [a0] h = F_sync_atomic_Bool_Load call callD a0 h := by kernel_rfl
theorem C_sync_atomic_Bool_Load {ov : AOver} (H : Plain ov) (n : Nat) (a0 : AVal) (h : AH) : kc ov (n + 1) N_sync_atomic_Bool_Load [a0] h = F_sync_atomic_Bool_Load (kc ov n) (kd ov n) a0 h := by
  have hov : ov N_sync_atomic_Bool_Load = none := H _ (by decide)
  unfold kc kd; rw [← F_sync_atomic_Bool_Load_eq]; simp only [kcall, hov]

/-- (*sync.Once).doSlow -/
noncomputable def F_sync_Once_doSlow (call callD : ACall) (a0 a1 : AVal) (h : AH) : Ans :=
  kq (some a0) <| fun v0 =>
  kq (aNilCheck v0) <| fun v1 =>
  kq (rFieldP 1 v1) <| fun v2 =>
  ke (call N_sync_Mutex_Lock [v2] h) <| fun v3 h0 =>
  kq (some a0) <| fun v4 =>
  kq (aNilCheck v4) <| fun v5 =>
  kq (rFieldP 1 v5) <| fun v6 =>
  kq (some a0) <| fun v7 =>
  kq (aNilCheck v7) <| fun v8 =>
  kq (rFieldP 0 v8) <| fun v9 =>
  ke (call N_sync_atomic_Bool_Load [v9] h0) <| fun v10 h1 =>
  kq (aUn .not v10) <| fun v11 =>
  kIf v11 (
  kq (some a0) <| fun v12 =>
  kq (aNilCheck v12) <| fun v13 =>
  kq (rFieldP 0 v13) <| fun v14 =>
  kq (some a1) <| fun v15 =>
  ke (rCallV call v15 [] h1) <| fun v16 h2 =>
  ke (callD N_sync_atomic_Bool_Store [v14, (.bool true)] h2) <| fun v17 h3 =>
  ke (callD N_sync_Mutex_Unlock [v6] h3) <| fun v18 h4 =>
  some (.tuple [], h4)) (
  ke (callD N_sync_Mutex_Unlock [v6] h1) <| fun v19 h5 =>
  some (.tuple [], h5))
theorem F_sync_Once_doSlow_eq (call callD : ACall) (a0 a1 : AVal) (h : AH) : kFunc Try.prog [] call callD N_sync_Once_doSlow [a0, a1] h = F_sync_Once_doSlow call callD a0 a1 h := by kernel_rfl
theorem C_sync_Once_doSlow {ov : AOver} (H : Plain ov) (n : Nat) (a0 a1 : AVal) (h : AH) : kc ov (n + 1) N_sync_Once_doSlow [a0, a1] h = F_sync_Once_doSlow (kc ov n) (kd ov n) a0 a1 h := by
  have hov : ov N_sync_Once_doSlow = none := H _ (by decide)
  unfold kc kd; rw [← F_sync_Once_doSlow_eq]; simp only [kcall, hov]

/-- (*internal/sync.Mutex).Lock -/
noncomputable def F_internal_sync_Mutex_Lock (call callD : ACall) (a0 : AVal) (h : AH) : Ans :=
  ke (call N_internal_race_Disable [] h) <| fun v0 h0 =>
  kq (some a0) <| fun v1 =>
  kq (aNilCheck v1) <| fun v2 =>
  kq (rFieldP 0 v2) <| fun v3 =>
  ke (call N_sync_atomic_CompareAndSwapInt32 [v3, (.int .i32 0), (.int .i32 1)] h0) <| fun v4 h1 =>
  kIf v4 (
  kj (fun l5 h2 =>
  some (.tuple [], h2)) <| fun j6 =>
  kIf (.bool true) (
  ke (call N_internal_race_Enable [] h1) <| fun v7 h3 =>
  kq (some a0) <| fun v8 =>
  kq (rUnsafe v8 h3) <| fun v9 =>
  ke (call N_internal_race_Acquire [v9] h3) <| fun v10 h4 =>
  j6 [] h4) (
  j6 [] h1)) (
  kq (some a0) <| fun v11 =>
  ke (call N_internal_sync_Mutex_lockSlow [v11] h1) <| fun v12 h5 =>
  some (.tuple [], h5))
theorem F_internal_sync_Mutex_Lock_eq (call callD : ACall) (a0 : AVal) (h : AH) : kFunc Try.prog [] call callD N_internal_sync_Mutex_Lock [a0] h = F_internal_sync_Mutex_Lock call callD a0 h := by kernel_rfl
theorem C_internal_sync_Mutex_Lock {ov : AOver} (H : Plain ov) (n : Nat) (a0 : AVal) (h : AH) : kc ov (n + 1) N_internal_sync_Mutex_Lock [a0] h = F_internal_sync_Mutex_Lock (kc ov n) (kd ov n) a0 h := by
  have hov : ov N_internal_sync_Mutex_Lock = none := H _ (by decide)
  unfold kc kd; rw [← F_internal_sync_Mutex_Lock_eq]; simp only [kcall, hov]

/-- (*internal/sync.Mutex).Unlock -/
noncomputable def F_internal_sync_Mutex_Unlock (call callD : ACall) (a0 : AVal) (h : AH) : Ans :=
  kj (fun l0 h0 =>
  kq (some a0) <| fun v2 =>
  kq (aNilCheck v2) <| fun v3 =>
  kq (rFieldP 0 v3) <| fun v4 =>
  ke (call N_sync_atomic_AddInt32 [v4, (.int .i32 (-1))] h0) <| fun v5 h1 =>
  kq (some v5) <| fun v6 =>
  kq (some v6) <| fun v7 =>
  kq (rBin .neq .no true v7 (.int .i32 0)) <| fun v8 =>
  kj (fun l9 h2 =>
  ke (call N_internal_race_Enable [] h2) <| fun v11 h3 =>
  some (.tuple [], h3)) <| fun j10 =>
  kIf v8 (
  kq (some a0) <| fun v12 =>
  kq (some v6) <| fun v13 =>
  ke (call N_internal_sync_Mutex_unlockSlow [v12, v13] h1) <| fun v14 h4 =>
  j10 [] h4) (
  j10 [] h1)) <| fun j1 =>
  kIf (.bool true) (
  kq (some a0) <| fun v15 =>
  kq (aNilCheck v15) <| fun v16 =>
  kq (rFieldP 0 v16) <| fun v17 =>
  kq (rLoad v17 h) <| fun v18 =>
  kq (some a0) <| fun v19 =>
  kq (rUnsafe v19 h) <| fun v20 =>
  ke (call N_internal_race_ReleaseMerge [v20] h) <| fun v21 h5 =>
  ke (call N_internal_race_Disable [] h5) <| fun v22 h6 =>
  j1 [] h6) (
  j1 [] h)
theorem F_internal_sync_Mutex_Unlock_eq (call callD : ACall) (a0 : AVal) (h : AH) : kFunc Try.prog [] call callD N_internal_sync_Mutex_Unlock [a0] h = F_internal_sync_Mutex_Unlock call callD a0 h := by kernel_rfl
theorem C_internal_sync_Mutex_Unlock {ov : AOver} (H : Plain ov) (n : Nat) (a0 : AVal) (h : AH) : kc ov (n + 1) N_internal_sync_Mutex_Unlock [a0] h = F_internal_sync_Mutex_Unlock (kc ov n) (kd ov n) a0 h := by
  have hov : ov N_internal_sync_Mutex_Unlock = none := H _ (by decide)
  unfold kc kd; rw [← F_internal_sync_Mutex_Unlock_eq]; simp only [kcall, hov]

/-- (*sync/atomic.Bool).Store -/
noncomputable def F_sync_atomic_Bool_Store (call callD : ACall) (a0 a1 : AVal) (h : AH) : Ans :=
  kq (some a0) <| fun v0 =>
  kq (aNilCheck v0) <| fun v1 =>
  kq (rFieldP 0 v1) <| fun v2 =>
  kq (some a1) <| fun v3 =>
  ke (call N_sync_atomic_b32 [v3] h) <| fun v4 h0 =>
  ke (call N_sync_atomic_StoreUint32 [v2, v4] h0) <| fun v5 h1 =>
  some (.tuple [], h1)
theorem F_sync_atomic_Bool_Store_eq (call callD : ACall) (a0 a1 : AVal) (h : AH) : kFunc Try.prog [] call callD N_sync_atomic_Bool_Store [a0, a1] h = F_sync_atomic_Bool_Store call callD a0 a1 h := by kernel_rfl
theorem C_sync_atomic_Bool_Store {ov : AOver} (H : Plain ov) (n : Nat) (a0 a1 : AVal) (h : AH) : kc ov (n + 1) N_sync_atomic_Bool_Store [a0, a1] h = F_sync_atomic_Bool_Store (kc ov n) (kd ov n) a0 a1 h := by
  have hov : ov N_sync_atomic_Bool_Store = none := H _ (by decide)
  unfold kc kd; rw [← F_sync_atomic_Bool_Store_eq]; simp only [kcall, hov]

/-- (*internal/sync.Mutex).lockSlow -/
noncomputable def L_internal_sync_Mutex_lockSlow_0 (call callD : ACall) (a0 : AVal) (j10 : List AVal → AH → Ans) : (List AVal → AH → Ans) → List AVal → AH → Ans := fun j18 l17 h4 =>
  kj (fun l19 h5 =>
  j18 [(gd l19 0), (gd l19 1), (gd l19 2), (gd l19 3), (gd l19 4)] h5) <| fun j20 =>
  kq (some (gd l17 4)) <| fun v21 =>
  kq (rBin .and .no true v21 (.int .i32 5)) <| fun v22 =>
  kq (rBin .eql .no true v22 (.int .i32 1)) <| fun v23 =>
  kq (some v23) <| fun v24 =>
  kth (fun v30 h8 =>
  kIf v30 (
  kq (some (gd l17 2)) <| fun v31 =>
  kq (aUn .not v31) <| fun v32 =>
  kq (some v32) <| fun v33 =>
  kth (fun v54 h11 =>
  kj (fun l55 h12 =>
  ke (call N_internal_sync_runtime_doSpin [] h12) <| fun v57 h13 =>
  kq (some (gd l17 3)) <| fun v58 =>
  kq (rBin .add .no true v58 (.int .i64 1)) <| fun v59 =>
  kq (some v59) <| fun v60 =>
  kq (some a0) <| fun v61 =>
  kq (aNilCheck v61) <| fun v62 =>
  kq (rFieldP 0 v62) <| fun v63 =>
  kq (rLoad v63 h13) <| fun v64 =>
  kq (some v64) <| fun v65 =>
  j20 [(gd l17 0), (gd l17 1), (gd l55 0), v60, v65] h13) <| fun j56 =>
  kIf v54 (
  kq (some (.bool true)) <| fun v66 =>
  j56 [v66] h11) (
  j56 [(gd l17 2)] h11)) <| fun j34 =>
  kgq v33 true (fun k => kq (some (gd l17 4)) k) <| fun v35 =>
  kgq v33 true (fun k => kq (rBin .and .no true v35 (.int .i32 2)) k) <| fun v36 =>
  kgq v33 true (fun k => kq (rBin .eql .no true v36 (.int .i32 0)) k) <| fun v37 =>
  kq (rPick v33 v37 (.bool false)) <| fun v38 =>
  kq (some v38) <| fun v39 =>
  kgq v39 true (fun k => kq (some (gd l17 4)) k) <| fun v40 =>
  kgq v39 true (fun k => kq (rBin .shr .no true v40 (.int .u64 3)) k) <| fun v41 =>
  kgq v39 true (fun k => kq (rBin .neq .no true v41 (.int .i32 0)) k) <| fun v42 =>
  kq (rPick v39 v42 (.bool false)) <| fun v43 =>
  kq (some v43) <| fun v44 =>
  kgq v44 true (fun k => kq (some a0) k) <| fun v45 =>
  kgq v44 true (fun k => kq (aNilCheck v45) k) <| fun v46 =>
  kgq v44 true (fun k => kq (rFieldP 0 v46) k) <| fun v47 =>
  kgq v44 true (fun k => kq (some (gd l17 4)) k) <| fun v48 =>
  kgq v44 true (fun k => kq (some (gd l17 4)) k) <| fun v49 =>
  kgq v44 true (fun k => kq (rBin .or .no true v49 (.int .i32 2)) k) <| fun v50 =>
  kgh v44 true h8 (fun k => ke (call N_sync_atomic_CompareAndSwapInt32 [v47, v48, v50] h8) <| fun v51 h9 =>
  k v51 h9) <| fun v52 h10 =>
  kq (rPick v44 v52 (.bool false)) <| fun v53 =>
  j34 v53 h10) (
  kq (some (gd l17 4)) <| fun v67 =>
  kq (some v67) <| fun v68 =>
  kq (some (gd l17 4)) <| fun v69 =>
  kq (rBin .and .no true v69 (.int .i32 4)) <| fun v70 =>
  kq (rBin .eql .no true v70 (.int .i32 0)) <| fun v71 =>
  kj (fun l72 h14 =>
  kq (some (gd l17 4)) <| fun v74 =>
  kq (rBin .and .no true v74 (.int .i32 5)) <| fun v75 =>
  kq (rBin .neq .no true v75 (.int .i32 0)) <| fun v76 =>
  kj (fun l77 h15 =>
  kq (some (gd l17 1)) <| fun v79 =>
  kq (some v79) <| fun v80 =>
  kt (fun v86 =>
  kj (fun l87 h17 =>
  kq (some (gd l17 2)) <| fun v89 =>
  kj (fun l90 h18 =>
  kq (some a0) <| fun v92 =>
  kq (aNilCheck v92) <| fun v93 =>
  kq (rFieldP 0 v93) <| fun v94 =>
  kq (some (gd l17 4)) <| fun v95 =>
  kq (some (gd l90 0)) <| fun v96 =>
  ke (call N_sync_atomic_CompareAndSwapInt32 [v94, v95, v96] h18) <| fun v97 h19 =>
  kj (fun l98 h20 =>
  j20 [(gd l98 0), (gd l98 1), (gd l98 2), (gd l98 3), (gd l98 4)] h20) <| fun j99 =>
  kIf v97 (
  kq (some (gd l17 4)) <| fun v100 =>
  kq (rBin .and .no true v100 (.int .i32 5)) <| fun v101 =>
  kq (rBin .eql .no true v101 (.int .i32 0)) <| fun v102 =>
  kIf v102 (
  j10 [] h19) (
  kq (some (gd l17 0)) <| fun v103 =>
  kq (rBin .neq .no true v103 (.int .i64 0)) <| fun v104 =>
  kq (some v104) <| fun v105 =>
  kq (some (gd l17 0)) <| fun v106 =>
  kq (rBin .eql .no true v106 (.int .i64 0)) <| fun v107 =>
  kj (fun l108 h21 =>
  kq (some a0) <| fun v110 =>
  kq (aNilCheck v110) <| fun v111 =>
  kq (rFieldP 1 v111) <| fun v112 =>
  kq (some v105) <| fun v113 =>
  ke (call N_internal_sync_runtime_SemacquireMutex [v112, v113, (.int .i64 2)] h21) <| fun v114 h22 =>
  kq (some (gd l17 1)) <| fun v115 =>
  kq (some v115) <| fun v116 =>
  kth (fun v124 h25 =>
  kq (some v124) <| fun v125 =>
  kq (some a0) <| fun v126 =>
  kq (aNilCheck v126) <| fun v127 =>
  kq (rFieldP 0 v127) <| fun v128 =>
  kq (rLoad v128 h25) <| fun v129 =>
  kq (some v129) <| fun v130 =>
  kq (some v130) <| fun v131 =>
  kq (rBin .and .no true v131 (.int .i32 4)) <| fun v132 =>
  kq (rBin .neq .no true v132 (.int .i32 0)) <| fun v133 =>
  kIf v133 (
  kq (some v130) <| fun v134 =>
  kq (rBin .and .no true v134 (.int .i32 3)) <| fun v135 =>
  kq (rBin .neq .no true v135 (.int .i32 0)) <| fun v136 =>
  kq (some v136) <| fun v137 =>
  kt (fun v143 =>
  kj (fun l144 h27 =>
  kq (some (.int .i32 (-7))) <| fun v146 =>
  kq (some v125) <| fun v147 =>
  kq (aUn .not v147) <| fun v148 =>
  kq (some v148) <| fun v149 =>
  kt (fun v155 =>
  kj (fun l156 h29 =>
  kq (some a0) <| fun v158 =>
  kq (aNilCheck v158) <| fun v159 =>
  kq (rFieldP 0 v159) <| fun v160 =>
  kq (some (gd l156 0)) <| fun v161 =>
  ke (call N_sync_atomic_AddInt32 [v160, v161] h29) <| fun v162 h30 =>
  j10 [] h30) <| fun j157 =>
  kIf v155 (
  kq (some v146) <| fun v163 =>
  kq (rBin .sub .no true v163 (.int .i32 4)) <| fun v164 =>
  kq (some v164) <| fun v165 =>
  j157 [v165] h27) (
  j157 [v146] h27)) <| fun j150 =>
  kgq v149 false (fun k => kq (some v130) k) <| fun v151 =>
  kgq v149 false (fun k => kq (rBin .shr .no true v151 (.int .u64 3)) k) <| fun v152 =>
  kgq v149 false (fun k => kq (rBin .eql .no true v152 (.int .i32 1)) k) <| fun v153 =>
  kq (rPick v149 (.bool true) v153) <| fun v154 =>
  j150 v154) <| fun j145 =>
  kIf v143 (
  ke (call N_internal_sync_throw [(.str [115, 121, 110, 99, 58, 32, 105, 110, 99, 111, 110, 115, 105, 115, 116, 101, 110, 116, 32, 109, 117, 116, 101, 120, 32, 115, 116, 97, 116, 101])] h25) <| fun v166 h31 =>
  j145 [] h31) (
  j145 [] h25)) <| fun j138 =>
  kgq v137 false (fun k => kq (some v130) k) <| fun v139 =>
  kgq v137 false (fun k => kq (rBin .shr .no true v139 (.int .u64 3)) k) <| fun v140 =>
  kgq v137 false (fun k => kq (rBin .eql .no true v140 (.int .i32 0)) k) <| fun v141 =>
  kq (rPick v137 (.bool true) v141) <| fun v142 =>
  j138 v142) (
  kq (some (.bool true)) <| fun v167 =>
  kq (some (.int .i64 0)) <| fun v168 =>
  j99 [(gd l108 0), v125, v167, v168, v130] h25)) <| fun j117 =>
  kgh v116 false h22 (fun k => ke (call N_internal_sync_runtime_nanotime [] h22) <| fun v118 h23 =>
  k v118 h23) <| fun v119 h24 =>
  kgq v116 false (fun k => kq (some (gd l108 0)) k) <| fun v120 =>
  kgq v116 false (fun k => kq (rBin .sub .no false v119 v120) k) <| fun v121 =>
  kgq v116 false (fun k => kq (rBin .gtr .no true v121 (.int .i64 1000000)) k) <| fun v122 =>
  kq (rPick v116 (.bool true) v122) <| fun v123 =>
  j117 v123 h24) <| fun j109 =>
  kIf v107 (
  ke (call N_internal_sync_runtime_nanotime [] h19) <| fun v169 h32 =>
  kq (some v169) <| fun v170 =>
  j109 [v170] h32) (
  j109 [(gd l17 0)] h19))) (
  kq (some a0) <| fun v171 =>
  kq (aNilCheck v171) <| fun v172 =>
  kq (rFieldP 0 v172) <| fun v173 =>
  kq (rLoad v173 h19) <| fun v174 =>
  kq (some v174) <| fun v175 =>
  j99 [(gd l17 0), (gd l17 1), (gd l17 2), (gd l17 3), v175] h19)) <| fun j91 =>
  kIf v89 (
  kq (some (gd l87 0)) <| fun v176 =>
  kq (rBin .and .no true v176 (.int .i32 2)) <| fun v177 =>
  kq (rBin .eql .no true v177 (.int .i32 0)) <| fun v178 =>
  kj (fun l179 h33 =>
  kq (some (gd l87 0)) <| fun v181 =>
  kq (rBin .andNot .no true v181 (.int .i32 2)) <| fun v182 =>
  kq (some v182) <| fun v183 =>
  j91 [v183] h33) <| fun j180 =>
  kIf v178 (
  ke (call N_internal_sync_throw [(.str [115, 121, 110, 99, 58, 32, 105, 110, 99, 111, 110, 115, 105, 115, 116, 101, 110, 116, 32, 109, 117, 116, 101, 120, 32, 115, 116, 97, 116, 101])] h17) <| fun v184 h34 =>
  j180 [] h34) (
  j180 [] h17)) (
  j91 [(gd l87 0)] h17)) <| fun j88 =>
  kIf v86 (
  kq (some (gd l77 0)) <| fun v185 =>
  kq (rBin .or .no true v185 (.int .i32 4)) <| fun v186 =>
  kq (some v186) <| fun v187 =>
  j88 [v187] h15) (
  j88 [(gd l77 0)] h15)) <| fun j81 =>
  kgq v80 true (fun k => kq (some (gd l17 4)) k) <| fun v82 =>
  kgq v80 true (fun k => kq (rBin .and .no true v82 (.int .i32 1)) k) <| fun v83 =>
  kgq v80 true (fun k => kq (rBin .neq .no true v83 (.int .i32 0)) k) <| fun v84 =>
  kq (rPick v80 v84 (.bool false)) <| fun v85 =>
  j81 v85) <| fun j78 =>
  kIf v76 (
  kq (some (gd l72 0)) <| fun v188 =>
  kq (rBin .add .no true v188 (.int .i32 8)) <| fun v189 =>
  kq (some v189) <| fun v190 =>
  j78 [v190] h14) (
  j78 [(gd l72 0)] h14)) <| fun j73 =>
  kIf v71 (
  kq (some v68) <| fun v191 =>
  kq (rBin .or .no true v191 (.int .i32 1)) <| fun v192 =>
  kq (some v192) <| fun v193 =>
  j73 [v193] h8) (
  j73 [v68] h8))) <| fun j25 =>
  kgq v24 true (fun k => kq (some (gd l17 3)) k) <| fun v26 =>
  kgh v24 true h4 (fun k => ke (call N_internal_sync_runtime_canSpin [v26] h4) <| fun v27 h6 =>
  k v27 h6) <| fun v28 h7 =>
  kq (rPick v24 v28 (.bool false)) <| fun v29 =>
  j25 v29 h7
noncomputable def F_internal_sync_Mutex_lockSlow (call callD : ACall) (a0 : AVal) (h : AH) : Ans :=
  kq (some (.int .i64 0)) <| fun v0 =>
  kq (some (.bool false)) <| fun v1 =>
  kq (some (.bool false)) <| fun v2 =>
  kq (some (.int .i64 0)) <| fun v3 =>
  kq (some a0) <| fun v4 =>
  kq (aNilCheck v4) <| fun v5 =>
  kq (rFieldP 0 v5) <| fun v6 =>
  kq (rLoad v6 h) <| fun v7 =>
  kq (some v7) <| fun v8 =>
  kj (fun l9 h0 =>
  kj (fun l11 h1 =>
  some (.tuple [], h1)) <| fun j12 =>
  kIf (.bool true) (
  ke (call N_internal_race_Enable [] h0) <| fun v13 h2 =>
  kq (some a0) <| fun v14 =>
  kq (rUnsafe v14 h2) <| fun v15 =>
  ke (call N_internal_race_Acquire [v15] h2) <| fun v16 h3 =>
  j12 [] h3) (
  j12 [] h0)) <| fun j10 =>
  kLoop (L_internal_sync_Mutex_lockSlow_0 call callD a0 j10) rounds [v0, v1, v2, v3, v8] h
theorem F_internal_sync_Mutex_lockSlow_eq (call callD : ACall) (a0 : AVal) (h : AH) : kFunc Try.prog [] call callD N_internal_sync_Mutex_lockSlow [a0] h = F_internal_sync_Mutex_lockSlow call callD a0 h := by kernel_rfl
theorem C_internal_sync_Mutex_lockSlow {ov : AOver} (H : Plain ov) (n : Nat) (a0 : AVal) (h : AH) : kc ov (n + 1) N_internal_sync_Mutex_lockSlow [a0] h = F_internal_sync_Mutex_lockSlow (kc ov n) (kd ov n) a0 h := by
  have hov : ov N_internal_sync_Mutex_lockSlow = none := H _ (by decide)
  unfold kc kd; rw [← F_internal_sync_Mutex_lockSlow_eq]; simp only [kcall, hov]

/-- (*internal/sync.Mutex).unlockSlow -/
noncomputable def L_internal_sync_Mutex_unlockSlow_0 (call callD : ACall) (a0 : AVal) : (List AVal → AH → Ans) → List AVal → AH → Ans := fun j12 l11 h1 =>
  kq (some (gd l11 0)) <| fun v13 =>
  kq (rBin .shr .no true v13 (.int .u64 3)) <| fun v14 =>
  kq (rBin .eql .no true v14 (.int .i32 0)) <| fun v15 =>
  kq (some v15) <| fun v16 =>
  kt (fun v22 =>
  kIf v22 (
  some (.tuple [], h1)) (
  kq (some (gd l11 0)) <| fun v23 =>
  kq (rBin .sub .no true v23 (.int .i32 8)) <| fun v24 =>
  kq (rBin .or .no true v24 (.int .i32 2)) <| fun v25 =>
  kq (some v25) <| fun v26 =>
  kq (some a0) <| fun v27 =>
  kq (aNilCheck v27) <| fun v28 =>
  kq (rFieldP 0 v28) <| fun v29 =>
  kq (some (gd l11 0)) <| fun v30 =>
  kq (some v26) <| fun v31 =>
  ke (call N_sync_atomic_CompareAndSwapInt32 [v29, v30, v31] h1) <| fun v32 h3 =>
  kIf v32 (
  kq (some a0) <| fun v33 =>
  kq (aNilCheck v33) <| fun v34 =>
  kq (rFieldP 1 v34) <| fun v35 =>
  ke (call N_internal_sync_runtime_Semrelease [v35, (.bool false), (.int .i64 2)] h3) <| fun v36 h4 =>
  some (.tuple [], h4)) (
  kq (some a0) <| fun v37 =>
  kq (aNilCheck v37) <| fun v38 =>
  kq (rFieldP 0 v38) <| fun v39 =>
  kq (rLoad v39 h3) <| fun v40 =>
  kq (some v40) <| fun v41 =>
  j12 [v41] h3))) <| fun j17 =>
  kgq v16 false (fun k => kq (some (gd l11 0)) k) <| fun v18 =>
  kgq v16 false (fun k => kq (rBin .and .no true v18 (.int .i32 7)) k) <| fun v19 =>
  kgq v16 false (fun k => kq (rBin .neq .no true v19 (.int .i32 0)) k) <| fun v20 =>
  kq (rPick v16 (.bool true) v20) <| fun v21 =>
  j17 v21
noncomputable def F_internal_sync_Mutex_unlockSlow (call callD : ACall) (a0 a1 : AVal) (h : AH) : Ans :=
  kq (some a1) <| fun v0 =>
  kq (rBin .add .no true v0 (.int .i32 1)) <| fun v1 =>
  kq (rBin .and .no true v1 (.int .i32 1)) <| fun v2 =>
  kq (rBin .eql .no true v2 (.int .i32 0)) <| fun v3 =>
  kj (fun l4 h0 =>
  kq (some a1) <| fun v6 =>
  kq (rBin .and .no true v6 (.int .i32 4)) <| fun v7 =>
  kq (rBin .eql .no true v7 (.int .i32 0)) <| fun v8 =>
  kIf v8 (
  kq (some a1) <| fun v9 =>
  kq (some v9) <| fun v10 =>
  kLoop (L_internal_sync_Mutex_unlockSlow_0 call callD a0) rounds [v10] h0) (
  kq (some a0) <| fun v42 =>
  kq (aNilCheck v42) <| fun v43 =>
  kq (rFieldP 1 v43) <| fun v44 =>
  ke (call N_internal_sync_runtime_Semrelease [v44, (.bool true), (.int .i64 2)] h0) <| fun v45 h5 =>
  some (.tuple [], h5))) <| fun j5 =>
  kIf v3 (
  ke (call N_internal_sync_fatal [(.str [115, 121, 110, 99, 58, 32, 117, 110, 108, 111, 99, 107, 32, 111, 102, 32, 117, 110, 108, 111, 99, 107, 101, 100, 32, 109, 117, 116, 101, 120])] h) <| fun v46 h6 =>
  j5 [] h6) (
  j5 [] h)
theorem F_internal_sync_Mutex_unlockSlow_eq (call callD : ACall) (a0 a1 : AVal) (h : AH) : kFunc Try.prog [] call callD N_internal_sync_Mutex_unlockSlow [a0, a1] h = F_internal_sync_Mutex_unlockSlow call callD a0 a1 h := by kernel_rfl
theorem C_internal_sync_Mutex_unlockSlow {ov : AOver} (H : Plain ov) (n : Nat) (a0 a1 : AVal) (h : AH) : kc ov (n + 1) N_internal_sync_Mutex_unlockSlow [a0, a1] h = F_internal_sync_Mutex_unlockSlow (kc ov n) (kd ov n) a0 a1 h := by
  have hov : ov N_internal_sync_Mutex_unlockSlow = none := H _ (by decide)
  unfold kc kd; rw [← F_internal_sync_Mutex_unlockSlow_eq]; simp only [kcall, hov]

/-- sync/atomic.b32 -/
noncomputable def F_sync_atomic_b32 (call callD : ACall) (a0 : AVal) (h : AH) : Ans :=
  kq (some (.int .u32 0)) <| fun v0 =>
  kq (some a0) <| fun v1 =>
  kIf v1 (
  kq (some (.int .u32 1)) <| fun v2 =>
  some (v2, h)) (
  kq (some (.int .u32 0)) <| fun v3 =>
  some (v3, h))
theorem F_sync_atomic_b32_eq (call callD : ACall) (a0 : AVal) (h : AH) : kFunc Try.prog [] call callD N_sync_atomic_b32 [a0] h = F_sync_atomic_b32 call callD a0 h := by kernel_rfl
theorem C_sync_atomic_b32 {ov : AOver} (H : Plain ov) (n : Nat) (a0 : AVal) (h : AH) : kc ov (n + 1) N_sync_atomic_b32 [a0] h = F_sync_atomic_b32 (kc ov n) (kd ov n) a0 h := by
  have hov : ov N_sync_atomic_b32 = none := H _ (by decide)
  unfold kc kd; rw [← F_sync_atomic_b32_eq]; simp only [kcall, hov]


end Go.Proofs.Ytfppdfmffdkogaa.AI
