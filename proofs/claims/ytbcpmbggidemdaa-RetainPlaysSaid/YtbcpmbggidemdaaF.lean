/- PRINTED by Pr2: the functions of the program as the machine sees them. -/
import Derived.Test.YtbcpmbggidemdaaAiLib3
import Derived.Test.YtbcpmbggidemdaaProg
import Derived.KernelRfl
namespace Go.Proofs.Ytbcpmbggidemdaa.AI
open Go
set_option linter.unusedVariables false
set_option maxRecDepth 100000
abbrev T_int64 : Nat := 2
abbrev T_uint8 : Nat := 5
abbrev T_runglaw9_Step : Nat := 43
abbrev T_block_Store : Nat := 54
abbrev T___uint8 : Nat := 55
abbrev T_retain_Journal : Nat := 64
abbrev T_retain_slot : Nat := 66
abbrev N_runglaw9_RetainRooms : Nat := 3
abbrev N_runglaw9_RetainLong : Nat := 4
abbrev N_runglaw9_RetainOther : Nat := 5
abbrev N_runglaw9_RetainPlays : Nat := 6
abbrev N_runglaw9_RetainFirst : Nat := 7
abbrev N_runglaw9_RetainSpoilt : Nat := 8
abbrev N_runglaw9_RetainEvery : Nat := 9
abbrev N_runglaw9_known : Nat := 10
abbrev N_block_New : Nat := 11
abbrev N_retain_Room : Nat := 12
abbrev N_block_Store_Blocks : Nat := 13
abbrev N_block_Store_Size : Nat := 14
abbrev N_retain_Open : Nat := 15
abbrev N_retain_Journal_Lay : Nat := 16
abbrev N_runglaw9_numbers : Nat := 17
abbrev N_runghelp_Nums : Nat := 18
abbrev N_runglaw9_store : Nat := 19
abbrev N_runghelp_Place : Nat := 20
abbrev N_retain_Journal_Scan : Nat := 21
abbrev N_retain_Journal_Laid : Nat := 22
abbrev N_block_Store_Cut : Nat := 23
abbrev N_block_Store_Power : Nat := 24
abbrev N_block_Store_Spoil : Nat := 25
abbrev N_block_Store_Copy : Nat := 26
abbrev N_block_Store_Read : Nat := 27
abbrev N_retain_slotOf : Nat := 28
abbrev N_retain_numberOf : Nat := 29
abbrev N_retain_was : Nat := 30
abbrev N_retain_put : Nat := 31
abbrev N_retain_numbered : Nat := 32
abbrev N_crc_Sum32 : Nat := 33
abbrev N_block_Store_Write : Nat := 34
abbrev N_retain_Journal_block : Nat := 35
abbrev N_sync_atomic_Uint64_Add : Nat := 36
abbrev N_sync_atomic_Uint64_Load : Nat := 37
abbrev N_block_Store_is : Nat := 38
abbrev N_slices_Clone___byte_byte_ : Nat := 39
abbrev N_retain_get : Nat := 40
abbrev N_slices_Equal___byte_byte_ : Nat := 41
abbrev N_sync_atomic_AddUint64 : Nat := 42
abbrev N_sync_atomic_LoadUint64 : Nat := 43
/-- Functions that another thing stands in for. -/
def OVS : List Nat := [10, 42, 43]
def Plain (ov : AOver) : Prop := ∀ f, f ∉ OVS → ov f = none
noncomputable def kc (ov : AOver) (n : Nat) : ACall := kcall Try.prog [] ov n
noncomputable def kd (ov : AOver) (n : Nat) : ACall := kFuncD Try.prog [] (kcall Try.prog [] ov n)
/-- rung/runglaw9.RetainRooms -/
def F_runglaw9_RetainRooms (call callD : ACall) (a0 a1 a2 : AVal) (h : AH) : Ans :=
  kq (some (.bool false)) <| fun v0 =>
  ke (call N_runglaw9_known [] h) <| fun v1 h0 =>
  kq (aUn .not v1) <| fun v2 =>
  kIf v2 (
  kq (some (.bool false)) <| fun v3 =>
  some (v3, h0)) (
  kq (some a0) <| fun v4 =>
  kq (some a1) <| fun v5 =>
  ke (call N_block_New [v4, v5] h0) <| fun v6 h1 =>
  kq (some v6) <| fun v7 =>
  kq (some v7) <| fun v8 =>
  ke (call N_retain_Room [v8] h1) <| fun v9 h2 =>
  kq (some v9) <| fun v10 =>
  kq (some v7) <| fun v11 =>
  ke (call N_block_Store_Blocks [v11] h2) <| fun v12 h3 =>
  kq (rBin .lss .no true v12 (.int .i64 4)) <| fun v13 =>
  kq (some v13) <| fun v14 =>
  kth (fun v21 h6 =>
  kq (some v21) <| fun v22 =>
  kq (some v22) <| fun v23 =>
  kq (some v23) <| fun v24 =>
  kth (fun v42 h9 =>
  kIf v42 (
  kq (some (.bool false)) <| fun v43 =>
  some (v43, h9)) (
  kq (some v7) <| fun v44 =>
  kq (some a2) <| fun v45 =>
  ke (call N_retain_Open [v44, v45] h9) <| fun v46 h10 =>
  kq (some v46) <| fun v47 =>
  kq (aExtract v47 0) <| fun v48 =>
  kq (aExtract v47 1) <| fun v49 =>
  kq (aExtract v47 2) <| fun v50 =>
  kq (aExtract v47 3) <| fun v51 =>
  kq (some v48) <| fun v52 =>
  kq (some v49) <| fun v53 =>
  kq (some v50) <| fun v54 =>
  kq (some v51) <| fun v55 =>
  kq (some v55) <| fun v56 =>
  kq (rBin .eql .no true v56 (.int .i64 90)) <| fun v57 =>
  kq (some a2) <| fun v58 =>
  kq (rBin .lss .no true v58 (.int .i64 0)) <| fun v59 =>
  kq (some v59) <| fun v60 =>
  kt (fun v69 =>
  kq (rBin .neq .bool false v57 v69) <| fun v70 =>
  kq (some v70) <| fun v71 =>
  kt (fun v80 =>
  kIf v80 (
  kq (some (.bool false)) <| fun v81 =>
  some (v81, h10)) (
  kq (some v22) <| fun v82 =>
  kq (some v82) <| fun v83 =>
  kt (fun v88 =>
  kIf v88 (
  kq (some (.bool true)) <| fun v89 =>
  some (v89, h10)) (
  kq (some v7) <| fun v90 =>
  kq (some v10) <| fun v91 =>
  ke (call N_retain_Open [v90, v91] h10) <| fun v92 h14 =>
  kq (some v92) <| fun v93 =>
  kq (aExtract v93 0) <| fun v94 =>
  kq (aExtract v93 1) <| fun v95 =>
  kq (aExtract v93 2) <| fun v96 =>
  kq (aExtract v93 3) <| fun v97 =>
  kq (some v94) <| fun v98 =>
  kq (some v95) <| fun v99 =>
  kq (some v96) <| fun v100 =>
  kq (some v97) <| fun v101 =>
  kq (some v101) <| fun v102 =>
  kq (rBin .neq .no true v102 (.int .i64 0)) <| fun v103 =>
  kq (some v103) <| fun v104 =>
  kth (fun v126 h23 =>
  kIf v126 (
  kq (some (.bool false)) <| fun v127 =>
  some (v127, h23)) (
  kq (some v7) <| fun v128 =>
  kq (some v10) <| fun v129 =>
  ke (call N_retain_Open [v128, v129] h23) <| fun v130 h24 =>
  kq (some v130) <| fun v131 =>
  kq (aExtract v131 0) <| fun v132 =>
  kq (aExtract v131 1) <| fun v133 =>
  kq (aExtract v131 2) <| fun v134 =>
  kq (aExtract v131 3) <| fun v135 =>
  kq (some v132) <| fun v136 =>
  kq (some v133) <| fun v137 =>
  kq (some v134) <| fun v138 =>
  kq (some v135) <| fun v139 =>
  kq (some v139) <| fun v140 =>
  kq (rBin .eql .no true v140 (.int .i64 0)) <| fun v141 =>
  kq (some v141) <| fun v142 =>
  kth (fun v156 h29 =>
  kq (some v156) <| fun v157 =>
  some (v157, h29)) <| fun j143 =>
  kgq v142 true (fun k => kq (some v138) k) <| fun v144 =>
  kgq v142 true (fun k => kq (rBin .eql .no true v144 (.int .i64 1)) k) <| fun v145 =>
  kq (rPick v142 v145 (.bool false)) <| fun v146 =>
  kq (some v146) <| fun v147 =>
  kgq v147 true (fun k => kq (some v137) k) <| fun v148 =>
  kgq v147 true (fun k => kq (some a2) k) <| fun v149 =>
  kgq v147 true (fun k => kq (some v10) k) <| fun v150 =>
  kgh v147 true h24 (fun k => ke (call N_runglaw9_numbers [v149, v150] h24) <| fun v151 h25 =>
  k v151 h25) <| fun v152 h26 =>
  kgh v147 true h26 (fun k => ke (call N_runghelp_Nums [v148, v152] h26) <| fun v153 h27 =>
  k v153 h27) <| fun v154 h28 =>
  kq (rPick v147 v154 (.bool false)) <| fun v155 =>
  j143 v155 h28)) <| fun j105 =>
  kgq v104 false (fun k => kq (some v98) k) <| fun v106 =>
  kgq v104 false (fun k => kq (some a2) k) <| fun v107 =>
  kgq v104 false (fun k => kq (some v10) k) <| fun v108 =>
  kgh v104 false h14 (fun k => ke (call N_runglaw9_numbers [v107, v108] h14) <| fun v109 h15 =>
  k v109 h15) <| fun v110 h16 =>
  kgh v104 false h16 (fun k => ke (call N_retain_Journal_Lay [v106, (.int .u64 1), v110] h16) <| fun v111 h17 =>
  k v111 h17) <| fun v112 h18 =>
  kgq v104 false (fun k => kq (rBin .neq .no true v112 (.int .i64 0)) k) <| fun v113 =>
  kq (rPick v104 (.bool true) v113) <| fun v114 =>
  kq (some v114) <| fun v115 =>
  kgq v115 false (fun k => kq (some v98) k) <| fun v116 =>
  kgq v115 false (fun k => kq (some a2) k) <| fun v117 =>
  kgq v115 false (fun k => kq (some v10) k) <| fun v118 =>
  kgq v115 false (fun k => kq (rBin .add .no true v118 (.int .i64 1)) k) <| fun v119 =>
  kgh v115 false h18 (fun k => ke (call N_runglaw9_numbers [v117, v119] h18) <| fun v120 h19 =>
  k v120 h19) <| fun v121 h20 =>
  kgh v115 false h20 (fun k => ke (call N_retain_Journal_Lay [v116, (.int .u64 2), v121] h20) <| fun v122 h21 =>
  k v122 h21) <| fun v123 h22 =>
  kgq v115 false (fun k => kq (rBin .neq .no true v123 (.int .i64 90)) k) <| fun v124 =>
  kq (rPick v115 (.bool true) v124) <| fun v125 =>
  j105 v125 h22)) <| fun j84 =>
  kgq v83 false (fun k => kq (some v10) k) <| fun v85 =>
  kgq v83 false (fun k => kq (rBin .gtr .no true v85 (.int .i64 600)) k) <| fun v86 =>
  kq (rPick v83 (.bool true) v86) <| fun v87 =>
  j84 v87)) <| fun j72 =>
  kgq v71 false (fun k => kq (some v55) k) <| fun v73 =>
  kgq v71 false (fun k => kq (rBin .neq .no true v73 (.int .i64 0)) k) <| fun v74 =>
  kgq v71 false (fun k => kq (some v74) k) <| fun v75 =>
  kgq v75 true (fun k => kq (some v55) k) <| fun v76 =>
  kgq v75 true (fun k => kq (rBin .neq .no true v76 (.int .i64 90)) k) <| fun v77 =>
  kgq v71 false (fun k => kq (rPick v75 v77 (.bool false)) k) <| fun v78 =>
  kq (rPick v71 (.bool true) v78) <| fun v79 =>
  j72 v79) <| fun j61 =>
  kgq v60 false (fun k => kq (some a2) k) <| fun v62 =>
  kgq v60 false (fun k => kq (some v10) k) <| fun v63 =>
  kgq v60 false (fun k => kq (rBin .gtr .no false v62 v63) k) <| fun v64 =>
  kq (rPick v60 (.bool true) v64) <| fun v65 =>
  kq (some v65) <| fun v66 =>
  kgq v66 false (fun k => kq (some v22) k) <| fun v67 =>
  kq (rPick v66 (.bool true) v67) <| fun v68 =>
  j61 v68)) <| fun j25 =>
  kgq v24 true (fun k => kq (some v10) k) <| fun v26 =>
  kgq v24 true (fun k => kq (rBin .neq .no true v26 (.int .i64 0)) k) <| fun v27 =>
  kq (rPick v24 v27 (.bool false)) <| fun v28 =>
  kq (some v28) <| fun v29 =>
  kgq v29 false (fun k => kq (some v22) k) <| fun v30 =>
  kgq v29 false (fun k => kq (aUn .not v30) k) <| fun v31 =>
  kgq v29 false (fun k => kq (some v31) k) <| fun v32 =>
  kgq v32 true (fun k => kq (some v10) k) <| fun v33 =>
  kgq v32 true (fun k => kq (some v7) k) <| fun v34 =>
  kgh v32 true h6 (fun k => ke (call N_block_Store_Size [v34] h6) <| fun v35 h7 =>
  k v35 h7) <| fun v36 h8 =>
  kgq v32 true (fun k => kq (rBin .sub .no true v36 (.int .i64 64)) k) <| fun v37 =>
  kgq v32 true (fun k => kq (rBin .quo .no true v37 (.int .i64 8)) k) <| fun v38 =>
  kgq v32 true (fun k => kq (rBin .lss .no false v33 v38) k) <| fun v39 =>
  kgq v29 false (fun k => kq (rPick v32 v39 (.bool false)) k) <| fun v40 =>
  kq (rPick v29 (.bool true) v40) <| fun v41 =>
  j25 v41 h8) <| fun j15 =>
  kgq v14 false (fun k => kq (some v7) k) <| fun v16 =>
  kgh v14 false h3 (fun k => ke (call N_block_Store_Size [v16] h3) <| fun v17 h4 =>
  k v17 h4) <| fun v18 h5 =>
  kgq v14 false (fun k => kq (rBin .lss .no true v18 (.int .i64 64)) k) <| fun v19 =>
  kq (rPick v14 (.bool true) v19) <| fun v20 =>
  j15 v20 h5)
theorem F_runglaw9_RetainRooms_eq (call callD : ACall) (a0 a1 a2 : AVal) (h : AH) : kFunc Try.prog [] call callD N_runglaw9_RetainRooms [a0, a1, a2] h = F_runglaw9_RetainRooms call callD a0 a1 a2 h := by kernel_rfl
theorem C_runglaw9_RetainRooms {ov : AOver} (H : Plain ov) (n : Nat) (a0 a1 a2 : AVal) (h : AH) : kc ov (n + 1) N_runglaw9_RetainRooms [a0, a1, a2] h = F_runglaw9_RetainRooms (kc ov n) (kd ov n) a0 a1 a2 h := by
  have hov : ov N_runglaw9_RetainRooms = none := H _ (by decide)
  unfold kc kd; rw [← F_runglaw9_RetainRooms_eq]; simp only [kcall, hov]

/-- rung/runglaw9.RetainLong -/
def L_runglaw9_RetainLong_0 (call callD : ACall) (v19 : AVal) (v18 : AVal) (v20 : AVal) (v6 : AVal) : (List AVal → AH → Ans) → List AVal → AH → Ans := fun j44 l43 h8 =>
  kq (some (gd l43 1)) <| fun v45 =>
  kq (some v19) <| fun v46 =>
  kq (rBin .leq .no false v45 v46) <| fun v47 =>
  kIf v47 (
  kq (some (gd l43 0)) <| fun v48 =>
  kq (some (gd l43 1)) <| fun v49 =>
  kq (rConvI .u64 v49) <| fun v50 =>
  kq (some (gd l43 1)) <| fun v51 =>
  kq (some v18) <| fun v52 =>
  ke (call N_runglaw9_numbers [v51, v52] h8) <| fun v53 h9 =>
  ke (call N_retain_Journal_Lay [v48, v50, v53] h9) <| fun v54 h10 =>
  kq (rBin .neq .no true v54 (.int .i64 0)) <| fun v55 =>
  kIf v55 (
  kq (some (.bool false)) <| fun v56 =>
  some (v56, h10)) (
  kq (some (gd l43 1)) <| fun v57 =>
  kq (some v20) <| fun v58 =>
  kq (rBin .rem .no false v57 v58) <| fun v59 =>
  kq (rBin .eql .no true v59 (.int .i64 0)) <| fun v60 =>
  kj (fun l61 h11 =>
  kq (some (gd l43 1)) <| fun v63 =>
  kq (rBin .add .no true v63 (.int .i64 1)) <| fun v64 =>
  kq (some v64) <| fun v65 =>
  j44 [(gd l61 0), v65] h11) <| fun j62 =>
  kIf v60 (
  kq (some v6) <| fun v66 =>
  kq (some v18) <| fun v67 =>
  ke (call N_retain_Open [v66, v67] h10) <| fun v68 h12 =>
  kq (some v68) <| fun v69 =>
  kq (aExtract v69 0) <| fun v70 =>
  kq (aExtract v69 1) <| fun v71 =>
  kq (aExtract v69 2) <| fun v72 =>
  kq (aExtract v69 3) <| fun v73 =>
  kq (some v70) <| fun v74 =>
  kq (some v71) <| fun v75 =>
  kq (some v72) <| fun v76 =>
  kq (some v73) <| fun v77 =>
  kq (some v77) <| fun v78 =>
  kq (rBin .neq .no true v78 (.int .i64 0)) <| fun v79 =>
  kq (some v79) <| fun v80 =>
  kth (fun v103 h19 =>
  kIf v103 (
  kq (some (.bool false)) <| fun v104 =>
  some (v104, h19)) (
  kq (some v74) <| fun v105 =>
  kq (some v105) <| fun v106 =>
  j62 [v106] h19)) <| fun j81 =>
  kgq v80 false (fun k => kq (some v76) k) <| fun v82 =>
  kgq v80 false (fun k => kq (rBin .neq .no true v82 (.int .i64 1)) k) <| fun v83 =>
  kq (rPick v80 (.bool true) v83) <| fun v84 =>
  kq (some v84) <| fun v85 =>
  kgq v85 false (fun k => kq (some v75) k) <| fun v86 =>
  kgq v85 false (fun k => kq (some (gd l43 1)) k) <| fun v87 =>
  kgq v85 false (fun k => kq (some v18) k) <| fun v88 =>
  kgh v85 false h12 (fun k => ke (call N_runglaw9_numbers [v87, v88] h12) <| fun v89 h13 =>
  k v89 h13) <| fun v90 h14 =>
  kgh v85 false h14 (fun k => ke (call N_runghelp_Nums [v86, v90] h14) <| fun v91 h15 =>
  k v91 h15) <| fun v92 h16 =>
  kgq v85 false (fun k => kq (aUn .not v92) k) <| fun v93 =>
  kq (rPick v85 (.bool true) v93) <| fun v94 =>
  kq (some v94) <| fun v95 =>
  kgq v95 false (fun k => kq (some v74) k) <| fun v96 =>
  kgh v95 false h16 (fun k => ke (call N_retain_Journal_Scan [v96] h16) <| fun v97 h17 =>
  k v97 h17) <| fun v98 h18 =>
  kgq v95 false (fun k => kq (some (gd l43 1)) k) <| fun v99 =>
  kgq v95 false (fun k => kq (rConvI .u64 v99) k) <| fun v100 =>
  kgq v95 false (fun k => kq (rBin .neq .no false v98 v100) k) <| fun v101 =>
  kq (rPick v95 (.bool true) v101) <| fun v102 =>
  j81 v102 h18) (
  j62 [(gd l43 0)] h10))) (
  kq (some v19) <| fun v107 =>
  kq (rBin .eql .no true v107 (.int .i64 0)) <| fun v108 =>
  kq (some v108) <| fun v109 =>
  kth (fun v118 h22 =>
  kq (some v118) <| fun v119 =>
  some (v119, h22)) <| fun j110 =>
  kgq v109 false (fun k => kq (some (gd l43 0)) k) <| fun v111 =>
  kgh v109 false h8 (fun k => ke (call N_retain_Journal_Scan [v111] h8) <| fun v112 h20 =>
  k v112 h20) <| fun v113 h21 =>
  kgq v109 false (fun k => kq (some v19) k) <| fun v114 =>
  kgq v109 false (fun k => kq (rConvI .u64 v114) k) <| fun v115 =>
  kgq v109 false (fun k => kq (rBin .eql .no false v113 v115) k) <| fun v116 =>
  kq (rPick v109 (.bool true) v116) <| fun v117 =>
  j110 v117 h21)
def F_runglaw9_RetainLong (call callD : ACall) (a0 a1 a2 a3 : AVal) (h : AH) : Ans :=
  kq (some (.bool false)) <| fun v0 =>
  ke (call N_runglaw9_known [] h) <| fun v1 h0 =>
  kq (aUn .not v1) <| fun v2 =>
  kIf v2 (
  kq (some (.bool false)) <| fun v3 =>
  some (v3, h0)) (
  kq (some a0) <| fun v4 =>
  ke (call N_runglaw9_store [v4] h0) <| fun v5 h1 =>
  kq (some v5) <| fun v6 =>
  kq (some a1) <| fun v7 =>
  kq (some v6) <| fun v8 =>
  ke (call N_retain_Room [v8] h1) <| fun v9 h2 =>
  kq (aMM aMin2 [v9, (.int .i64 10)]) <| fun v10 =>
  kq (rBin .add .no true (.int .i64 1) v10) <| fun v11 =>
  ke (call N_runghelp_Place [v7, v11] h2) <| fun v12 h3 =>
  kq (some a2) <| fun v13 =>
  ke (call N_runghelp_Place [v13, (.int .i64 400)] h3) <| fun v14 h4 =>
  kq (some a3) <| fun v15 =>
  ke (call N_runghelp_Place [v15, (.int .i64 50)] h4) <| fun v16 h5 =>
  kq (rBin .add .no true (.int .i64 1) v16) <| fun v17 =>
  kq (some v12) <| fun v18 =>
  kq (some v14) <| fun v19 =>
  kq (some v17) <| fun v20 =>
  kq (some v6) <| fun v21 =>
  kq (some v18) <| fun v22 =>
  ke (call N_retain_Open [v21, v22] h5) <| fun v23 h6 =>
  kq (some v23) <| fun v24 =>
  kq (aExtract v24 0) <| fun v25 =>
  kq (aExtract v24 1) <| fun v26 =>
  kq (aExtract v24 2) <| fun v27 =>
  kq (aExtract v24 3) <| fun v28 =>
  kq (some v25) <| fun v29 =>
  kq (some v26) <| fun v30 =>
  kq (some v27) <| fun v31 =>
  kq (some v28) <| fun v32 =>
  kq (some v32) <| fun v33 =>
  kq (rBin .neq .no true v33 (.int .i64 0)) <| fun v34 =>
  kq (some v34) <| fun v35 =>
  kt (fun v40 =>
  kIf v40 (
  kq (some (.bool false)) <| fun v41 =>
  some (v41, h6)) (
  kq (some (.int .i64 1)) <| fun v42 =>
  kLoop (L_runglaw9_RetainLong_0 call callD v19 v18 v20 v6) rounds [v29, v42] h6)) <| fun j36 =>
  kgq v35 false (fun k => kq (some v29) k) <| fun v37 =>
  kgq v35 false (fun k => kq (rBin .eql .ptr true v37 (.ptr none)) k) <| fun v38 =>
  kq (rPick v35 (.bool true) v38) <| fun v39 =>
  j36 v39)
theorem F_runglaw9_RetainLong_eq (call callD : ACall) (a0 a1 a2 a3 : AVal) (h : AH) : kFunc Try.prog [] call callD N_runglaw9_RetainLong [a0, a1, a2, a3] h = F_runglaw9_RetainLong call callD a0 a1 a2 a3 h := by kernel_rfl
theorem C_runglaw9_RetainLong {ov : AOver} (H : Plain ov) (n : Nat) (a0 a1 a2 a3 : AVal) (h : AH) : kc ov (n + 1) N_runglaw9_RetainLong [a0, a1, a2, a3] h = F_runglaw9_RetainLong (kc ov n) (kd ov n) a0 a1 a2 a3 h := by
  have hov : ov N_runglaw9_RetainLong = none := H _ (by decide)
  unfold kc kd; rw [← F_runglaw9_RetainLong_eq]; simp only [kcall, hov]

/-- rung/runglaw9.RetainOther -/
def F_runglaw9_RetainOther (call callD : ACall) (a0 a1 a2 a3 : AVal) (h : AH) : Ans :=
  kq (some (.bool false)) <| fun v0 =>
  ke (call N_runglaw9_known [] h) <| fun v1 h0 =>
  kq (aUn .not v1) <| fun v2 =>
  kIf v2 (
  kq (some (.bool false)) <| fun v3 =>
  some (v3, h0)) (
  kq (some a0) <| fun v4 =>
  ke (call N_runglaw9_store [v4] h0) <| fun v5 h1 =>
  kq (some v5) <| fun v6 =>
  kq (some v6) <| fun v7 =>
  ke (call N_retain_Room [v7] h1) <| fun v8 h2 =>
  kq (aMM aMin2 [v8, (.int .i64 20)]) <| fun v9 =>
  kq (rBin .add .no true (.int .i64 1) v9) <| fun v10 =>
  kq (some v10) <| fun v11 =>
  kq (some a1) <| fun v12 =>
  kq (some v11) <| fun v13 =>
  ke (call N_runghelp_Place [v12, v13] h2) <| fun v14 h3 =>
  kq (some a2) <| fun v15 =>
  kq (some v11) <| fun v16 =>
  ke (call N_runghelp_Place [v15, v16] h3) <| fun v17 h4 =>
  kq (some v14) <| fun v18 =>
  kq (some v17) <| fun v19 =>
  kq (some v6) <| fun v20 =>
  kq (some v18) <| fun v21 =>
  ke (call N_retain_Open [v20, v21] h4) <| fun v22 h5 =>
  kq (some v22) <| fun v23 =>
  kq (aExtract v23 0) <| fun v24 =>
  kq (aExtract v23 1) <| fun v25 =>
  kq (aExtract v23 2) <| fun v26 =>
  kq (aExtract v23 3) <| fun v27 =>
  kq (some v24) <| fun v28 =>
  kq (some v25) <| fun v29 =>
  kq (some v26) <| fun v30 =>
  kq (some v27) <| fun v31 =>
  kq (some v31) <| fun v32 =>
  kq (rBin .neq .no true v32 (.int .i64 0)) <| fun v33 =>
  kq (some v33) <| fun v34 =>
  kth (fun v49 h10 =>
  kIf v49 (
  kq (some (.bool false)) <| fun v50 =>
  some (v50, h10)) (
  kq (some v6) <| fun v51 =>
  kq (some v19) <| fun v52 =>
  ke (call N_retain_Open [v51, v52] h10) <| fun v53 h11 =>
  kq (some v53) <| fun v54 =>
  kq (aExtract v54 0) <| fun v55 =>
  kq (aExtract v54 1) <| fun v56 =>
  kq (aExtract v54 2) <| fun v57 =>
  kq (aExtract v54 3) <| fun v58 =>
  kq (some v55) <| fun v59 =>
  kq (some v56) <| fun v60 =>
  kq (some v57) <| fun v61 =>
  kq (some v58) <| fun v62 =>
  kq (some v62) <| fun v63 =>
  kq (rBin .neq .no true v63 (.int .i64 0)) <| fun v64 =>
  kq (some v64) <| fun v65 =>
  kth (fun v99 h16 =>
  kIf v99 (
  kq (some (.bool false)) <| fun v100 =>
  some (v100, h16)) (
  kq (some v6) <| fun v101 =>
  kq (some v18) <| fun v102 =>
  ke (call N_retain_Open [v101, v102] h16) <| fun v103 h17 =>
  kq (some v103) <| fun v104 =>
  kq (aExtract v104 0) <| fun v105 =>
  kq (aExtract v104 1) <| fun v106 =>
  kq (aExtract v104 2) <| fun v107 =>
  kq (aExtract v104 3) <| fun v108 =>
  kq (some v105) <| fun v109 =>
  kq (some v106) <| fun v110 =>
  kq (some v107) <| fun v111 =>
  kq (some v108) <| fun v112 =>
  kq (some v112) <| fun v113 =>
  kq (rBin .eql .no true v113 (.int .i64 0)) <| fun v114 =>
  kq (some v114) <| fun v115 =>
  kth (fun v129 h22 =>
  kq (some v129) <| fun v130 =>
  some (v130, h22)) <| fun j116 =>
  kgq v115 true (fun k => kq (some v111) k) <| fun v117 =>
  kgq v115 true (fun k => kq (rBin .eql .no true v117 (.int .i64 1)) k) <| fun v118 =>
  kq (rPick v115 v118 (.bool false)) <| fun v119 =>
  kq (some v119) <| fun v120 =>
  kgq v120 true (fun k => kq (some v110) k) <| fun v121 =>
  kgq v120 true (fun k => kq (some a3) k) <| fun v122 =>
  kgq v120 true (fun k => kq (some v18) k) <| fun v123 =>
  kgh v120 true h17 (fun k => ke (call N_runglaw9_numbers [v122, v123] h17) <| fun v124 h18 =>
  k v124 h18) <| fun v125 h19 =>
  kgh v120 true h19 (fun k => ke (call N_runghelp_Nums [v121, v125] h19) <| fun v126 h20 =>
  k v126 h20) <| fun v127 h21 =>
  kq (rPick v120 v127 (.bool false)) <| fun v128 =>
  j116 v128 h21)) <| fun j66 =>
  kgq v65 false (fun k => kq (some v18) k) <| fun v67 =>
  kgq v65 false (fun k => kq (some v19) k) <| fun v68 =>
  kgq v65 false (fun k => kq (rBin .eql .no false v67 v68) k) <| fun v69 =>
  kgq v65 false (fun k => kq (some v69) k) <| fun v70 =>
  kgq v70 true (fun k => kq (some v61) k) <| fun v71 =>
  kgq v70 true (fun k => kq (rBin .neq .no true v71 (.int .i64 1)) k) <| fun v72 =>
  kgq v70 true (fun k => kq (some v72) k) <| fun v73 =>
  kgq v73 false (fun k => kq (some v60) k) <| fun v74 =>
  kgq v73 false (fun k => kq (some a3) k) <| fun v75 =>
  kgq v73 false (fun k => kq (some v18) k) <| fun v76 =>
  kgh v73 false h11 (fun k => ke (call N_runglaw9_numbers [v75, v76] h11) <| fun v77 h12 =>
  k v77 h12) <| fun v78 h13 =>
  kgh v73 false h13 (fun k => ke (call N_runghelp_Nums [v74, v78] h13) <| fun v79 h14 =>
  k v79 h14) <| fun v80 h15 =>
  kgq v73 false (fun k => kq (aUn .not v80) k) <| fun v81 =>
  kgq v70 true (fun k => kq (rPick v73 (.bool true) v81) k) <| fun v82 =>
  kgq v65 false (fun k => kq (rPick v70 v82 (.bool false)) k) <| fun v83 =>
  kq (rPick v65 (.bool true) v83) <| fun v84 =>
  kq (some v84) <| fun v85 =>
  kgq v85 false (fun k => kq (some v18) k) <| fun v86 =>
  kgq v85 false (fun k => kq (some v19) k) <| fun v87 =>
  kgq v85 false (fun k => kq (rBin .neq .no false v86 v87) k) <| fun v88 =>
  kgq v85 false (fun k => kq (some v88) k) <| fun v89 =>
  kgq v89 true (fun k => kq (some v61) k) <| fun v90 =>
  kgq v89 true (fun k => kq (rBin .neq .no true v90 (.int .i64 2)) k) <| fun v91 =>
  kgq v89 true (fun k => kq (some v91) k) <| fun v92 =>
  kgq v92 false (fun k => kq (some v60) k) <| fun v93 =>
  kgq v92 false (fun k => kq (rLen v93) k) <| fun v94 =>
  kgq v92 false (fun k => kq (rBin .neq .no true v94 (.int .i64 0)) k) <| fun v95 =>
  kgq v89 true (fun k => kq (rPick v92 (.bool true) v95) k) <| fun v96 =>
  kgq v85 false (fun k => kq (rPick v89 v96 (.bool false)) k) <| fun v97 =>
  kq (rPick v85 (.bool true) v97) <| fun v98 =>
  j66 v98 h15)) <| fun j35 =>
  kgq v34 false (fun k => kq (some v28) k) <| fun v36 =>
  kgq v34 false (fun k => kq (rBin .eql .ptr true v36 (.ptr none)) k) <| fun v37 =>
  kq (rPick v34 (.bool true) v37) <| fun v38 =>
  kq (some v38) <| fun v39 =>
  kgq v39 false (fun k => kq (some v28) k) <| fun v40 =>
  kgq v39 false (fun k => kq (some a3) k) <| fun v41 =>
  kgq v39 false (fun k => kq (some v18) k) <| fun v42 =>
  kgh v39 false h5 (fun k => ke (call N_runglaw9_numbers [v41, v42] h5) <| fun v43 h6 =>
  k v43 h6) <| fun v44 h7 =>
  kgh v39 false h7 (fun k => ke (call N_retain_Journal_Lay [v40, (.int .u64 3), v44] h7) <| fun v45 h8 =>
  k v45 h8) <| fun v46 h9 =>
  kgq v39 false (fun k => kq (rBin .neq .no true v46 (.int .i64 0)) k) <| fun v47 =>
  kq (rPick v39 (.bool true) v47) <| fun v48 =>
  j35 v48 h9)
theorem F_runglaw9_RetainOther_eq (call callD : ACall) (a0 a1 a2 a3 : AVal) (h : AH) : kFunc Try.prog [] call callD N_runglaw9_RetainOther [a0, a1, a2, a3] h = F_runglaw9_RetainOther call callD a0 a1 a2 a3 h := by kernel_rfl
theorem C_runglaw9_RetainOther {ov : AOver} (H : Plain ov) (n : Nat) (a0 a1 a2 a3 : AVal) (h : AH) : kc ov (n + 1) N_runglaw9_RetainOther [a0, a1, a2, a3] h = F_runglaw9_RetainOther (kc ov n) (kd ov n) a0 a1 a2 a3 h := by
  have hov : ov N_runglaw9_RetainOther = none := H _ (by decide)
  unfold kc kd; rw [← F_runglaw9_RetainOther_eq]; simp only [kcall, hov]

/-- rung/runglaw9.RetainPlays -/
def L_runglaw9_RetainPlays_0 (call callD : ACall) (v84 : AVal) (v67 : AVal) (l44 : List AVal) (v81 : AVal) (j51 : List AVal → AH → Ans) : (List AVal → AH → Ans) → List AVal → AH → Ans := fun j93 l92 h14 =>
  kq (some (gd l92 0)) <| fun v94 =>
  kq (some v84) <| fun v95 =>
  kq (rLen v95) <| fun v96 =>
  kq (rBin .lss .no false v94 v96) <| fun v97 =>
  kIf v97 (
  kq (some v84) <| fun v98 =>
  kq (some (gd l92 0)) <| fun v99 =>
  kq (rAt 1 v98 v99) <| fun v100 =>
  ke ((rStore 1 v100 (.int .i64 99) h14).map fun h' => (.tuple [], h')) <| fun v101 h15 =>
  kq (some (gd l92 0)) <| fun v102 =>
  kq (rBin .add .no true v102 (.int .i64 1)) <| fun v103 =>
  kq (some v103) <| fun v104 =>
  j93 [v104] h15) (
  kq (some v67) <| fun v105 =>
  kq (some v105) <| fun v106 =>
  kq (some (.bool true)) <| fun v107 =>
  kq (some (gd l44 4)) <| fun v108 =>
  kq (rBin .add .no true v108 (.int .u64 1)) <| fun v109 =>
  kq (some v109) <| fun v110 =>
  kq (some (gd l44 0)) <| fun v111 =>
  ke (call N_retain_Journal_Scan [v111] h14) <| fun v112 h16 =>
  kq (some v81) <| fun v113 =>
  kq (rBin .neq .no false v112 v113) <| fun v114 =>
  kq (some v114) <| fun v115 =>
  kth (fun v123 h19 =>
  kIf v123 (
  kq (some (.bool false)) <| fun v124 =>
  some (v124, h19)) (
  j51 [(gd l44 0), v106, v107, v81, v110] h19)) <| fun j116 =>
  kgq v115 false (fun k => kq (some (gd l44 0)) k) <| fun v117 =>
  kgh v115 false h16 (fun k => ke (call N_retain_Journal_Laid [v117] h16) <| fun v118 h17 =>
  k v118 h17) <| fun v119 h18 =>
  kgq v115 false (fun k => kq (some v110) k) <| fun v120 =>
  kgq v115 false (fun k => kq (rBin .neq .no false v119 v120) k) <| fun v121 =>
  kq (rPick v115 (.bool true) v121) <| fun v122 =>
  j116 v122 h18)
def L_runglaw9_RetainPlays_1 (call callD : ACall) (a2 : AVal) (v17 : AVal) (v10 : AVal) : (List AVal → AH → Ans) → List AVal → AH → Ans := fun j45 l44 h6 =>
  kq (some (gd l44 5)) <| fun v46 =>
  kq (some a2) <| fun v47 =>
  kq (rLen v47) <| fun v48 =>
  kq (rBin .lss .no false v46 v48) <| fun v49 =>
  kIf v49 (
  kj (fun l50 h7 =>
  kq (some (gd l44 5)) <| fun v52 =>
  kq (rBin .add .no true v52 (.int .i64 1)) <| fun v53 =>
  kq (some v53) <| fun v54 =>
  j45 [(gd l50 0), (gd l50 1), (gd l50 2), (gd l50 3), (gd l50 4), v54] h7) <| fun j51 =>
  kq (some a2) <| fun v55 =>
  kq (some (gd l44 5)) <| fun v56 =>
  kq (rAt 3 v55 v56) <| fun v57 =>
  kq (rLoadA 3 v57 h6) <| fun v58 =>
  km (pBox T_runglaw9_Step (.agg [(.int .i64 0), (.int .i64 0), (.int .i64 0)])) h6 <| fun v59 h8 =>
  ke ((rStore 3 v59 v58 h8).map fun h' => (.tuple [], h')) <| fun v60 h9 =>
  kq (rFieldP 1 v59) <| fun v61 =>
  kq (rLoad v61 h9) <| fun v62 =>
  kq (some (gd l44 5)) <| fun v63 =>
  kq (rBin .add .no false v62 v63) <| fun v64 =>
  kq (some v17) <| fun v65 =>
  ke (call N_runglaw9_numbers [v64, v65] h9) <| fun v66 h10 =>
  kq (some v66) <| fun v67 =>
  kq (rFieldP 0 v59) <| fun v68 =>
  kq (rLoad v68 h10) <| fun v69 =>
  kq (rBin .geq .no true v69 (.int .i64 0)) <| fun v70 =>
  kq (some v70) <| fun v71 =>
  kt (fun v77 =>
  kq (some v77) <| fun v78 =>
  kIf v78 (
  kq (some (gd l44 3)) <| fun v79 =>
  kq (rBin .add .no true v79 (.int .u64 1)) <| fun v80 =>
  kq (some v80) <| fun v81 =>
  kq (some v67) <| fun v82 =>
  ke (rAppend T_int64 1 8 (.slice none 0 0) v82 h10) <| fun v83 h12 =>
  kq (some v83) <| fun v84 =>
  kq (some (gd l44 0)) <| fun v85 =>
  kq (some v81) <| fun v86 =>
  kq (some v84) <| fun v87 =>
  ke (call N_retain_Journal_Lay [v85, v86, v87] h12) <| fun v88 h13 =>
  kq (rBin .neq .no true v88 (.int .i64 0)) <| fun v89 =>
  kIf v89 (
  kq (some (.bool false)) <| fun v90 =>
  some (v90, h13)) (
  kq (some (.int .i64 0)) <| fun v91 =>
  kLoop (L_runglaw9_RetainPlays_0 call callD v84 v67 l44 v81 j51) rounds [v91] h13)) (
  kq (rFieldP 0 v59) <| fun v125 =>
  kq (rLoad v125 h10) <| fun v126 =>
  kq (rBin .eql .no true v126 (.int .i64 6)) <| fun v127 =>
  kq (some v127) <| fun v128 =>
  kIf v128 (
  kq (some v10) <| fun v129 =>
  kq (rFieldP 1 v59) <| fun v130 =>
  kq (rLoad v130 h10) <| fun v131 =>
  kq (rFieldP 2 v59) <| fun v132 =>
  kq (rLoad v132 h10) <| fun v133 =>
  ke (call N_runghelp_Place [v131, (.int .i64 5)] h10) <| fun v134 h20 =>
  kChk (!true || kSame (rLoad v132 h20) v133) <|
  kChk (!false || kSame (rLoad v130 h20) v131) <|
  ke (call N_block_Store_Cut [v129, v134, v133] h20) <| fun v135 h21 =>
  kChk (!false || kSame (rLoad v132 h21) v133) <|
  kChk (!false || kSame (rLoad v130 h21) v131) <|
  kq (some (gd l44 3)) <| fun v136 =>
  kq (rBin .add .no true v136 (.int .u64 1)) <| fun v137 =>
  kq (some v137) <| fun v138 =>
  kq (some (gd l44 0)) <| fun v139 =>
  kq (some v138) <| fun v140 =>
  kq (some v67) <| fun v141 =>
  ke (call N_retain_Journal_Lay [v139, v140, v141] h21) <| fun v142 h22 =>
  kq (some v142) <| fun v143 =>
  kq (some v143) <| fun v144 =>
  kq (rBin .neq .no true v144 (.int .i64 0)) <| fun v145 =>
  kq (some v145) <| fun v146 =>
  kt (fun v151 =>
  kIf v151 (
  kq (some (.bool false)) <| fun v152 =>
  some (v152, h22)) (
  kq (some v10) <| fun v153 =>
  ke (call N_block_Store_Power [v153] h22) <| fun v154 h24 =>
  kq (some v10) <| fun v155 =>
  kq (some v17) <| fun v156 =>
  ke (call N_retain_Open [v155, v156] h24) <| fun v157 h25 =>
  kq (some v157) <| fun v158 =>
  kq (aExtract v158 0) <| fun v159 =>
  kq (aExtract v158 1) <| fun v160 =>
  kq (aExtract v158 2) <| fun v161 =>
  kq (aExtract v158 3) <| fun v162 =>
  kq (some v159) <| fun v163 =>
  kq (some v160) <| fun v164 =>
  kq (some v161) <| fun v165 =>
  kq (some v162) <| fun v166 =>
  kq (some v166) <| fun v167 =>
  kq (rBin .neq .no true v167 (.int .i64 0)) <| fun v168 =>
  kq (some v168) <| fun v169 =>
  kt (fun v174 =>
  kIf v174 (
  kq (some (.bool false)) <| fun v175 =>
  some (v175, h25)) (
  kq (some v165) <| fun v176 =>
  kq (rBin .eql .no true v176 (.int .i64 1)) <| fun v177 =>
  kq (some v177) <| fun v178 =>
  kth (fun v192 h31 =>
  kq (some v192) <| fun v193 =>
  kq (some (gd l44 2)) <| fun v194 =>
  kq (some v194) <| fun v195 =>
  kth (fun v219 h34 =>
  kq (some v219) <| fun v220 =>
  kq (some v143) <| fun v221 =>
  kq (rBin .eql .no true v221 (.int .i64 0)) <| fun v222 =>
  kq (some v222) <| fun v223 =>
  kt (fun v236 =>
  kIf v236 (
  kq (some (.bool false)) <| fun v237 =>
  some (v237, h34)) (
  kq (some v193) <| fun v238 =>
  kj (fun l239 h36 =>
  kq (some v163) <| fun v241 =>
  kq (some v241) <| fun v242 =>
  kq (some (.int .u64 0)) <| fun v243 =>
  j51 [v242, (gd l239 0), (gd l239 1), (gd l239 2), v243] h36) <| fun j240 =>
  kIf v238 (
  kq (some v67) <| fun v244 =>
  kq (some v244) <| fun v245 =>
  kq (some (.bool true)) <| fun v246 =>
  j240 [v245, v246, v138] h34) (
  kq (some (gd l44 2)) <| fun v247 =>
  kj (fun l248 h37 =>
  j240 [(gd l44 1), (gd l44 2), (gd l248 0)] h37) <| fun j249 =>
  kIf v247 (
  kq (some v163) <| fun v250 =>
  ke (call N_retain_Journal_Scan [v250] h34) <| fun v251 h38 =>
  kq (some v251) <| fun v252 =>
  j249 [v252] h38) (
  kq (some (.int .u64 0)) <| fun v253 =>
  j249 [v253] h34)))) <| fun j224 =>
  kgq v223 true (fun k => kq (some v193) k) <| fun v225 =>
  kgq v223 true (fun k => kq (aUn .not v225) k) <| fun v226 =>
  kq (rPick v223 v226 (.bool false)) <| fun v227 =>
  kq (some v227) <| fun v228 =>
  kgq v228 false (fun k => kq (some v193) k) <| fun v229 =>
  kgq v228 false (fun k => kq (aUn .not v229) k) <| fun v230 =>
  kgq v228 false (fun k => kq (some v230) k) <| fun v231 =>
  kgq v231 true (fun k => kq (some v220) k) <| fun v232 =>
  kgq v231 true (fun k => kq (aUn .not v232) k) <| fun v233 =>
  kgq v228 false (fun k => kq (rPick v231 v233 (.bool false)) k) <| fun v234 =>
  kq (rPick v228 (.bool true) v234) <| fun v235 =>
  j224 v235) <| fun j196 =>
  kgq v195 true (fun k => kq (some v165) k) <| fun v197 =>
  kgq v195 true (fun k => kq (rBin .eql .no true v197 (.int .i64 1)) k) <| fun v198 =>
  kq (rPick v195 v198 (.bool false)) <| fun v199 =>
  kq (some v199) <| fun v200 =>
  kgq v200 true (fun k => kq (some v164) k) <| fun v201 =>
  kgq v200 true (fun k => kq (some (gd l44 1)) k) <| fun v202 =>
  kgh v200 true h31 (fun k => ke (call N_runghelp_Nums [v201, v202] h31) <| fun v203 h32 =>
  k v203 h32) <| fun v204 h33 =>
  kq (rPick v200 v204 (.bool false)) <| fun v205 =>
  kq (some v205) <| fun v206 =>
  kgq v206 false (fun k => kq (some (gd l44 2)) k) <| fun v207 =>
  kgq v206 false (fun k => kq (aUn .not v207) k) <| fun v208 =>
  kgq v206 false (fun k => kq (some v208) k) <| fun v209 =>
  kgq v209 true (fun k => kq (some v165) k) <| fun v210 =>
  kgq v209 true (fun k => kq (rBin .eql .no true v210 (.int .i64 0)) k) <| fun v211 =>
  kgq v206 false (fun k => kq (rPick v209 v211 (.bool false)) k) <| fun v212 =>
  kgq v206 false (fun k => kq (some v212) k) <| fun v213 =>
  kgq v213 true (fun k => kq (some v164) k) <| fun v214 =>
  kgq v213 true (fun k => kq (rLen v214) k) <| fun v215 =>
  kgq v213 true (fun k => kq (rBin .eql .no true v215 (.int .i64 0)) k) <| fun v216 =>
  kgq v206 false (fun k => kq (rPick v213 v216 (.bool false)) k) <| fun v217 =>
  kq (rPick v206 (.bool true) v217) <| fun v218 =>
  j196 v218 h33) <| fun j179 =>
  kgq v178 true (fun k => kq (some v164) k) <| fun v180 =>
  kgq v178 true (fun k => kq (some v67) k) <| fun v181 =>
  kgh v178 true h25 (fun k => ke (call N_runghelp_Nums [v180, v181] h25) <| fun v182 h27 =>
  k v182 h27) <| fun v183 h28 =>
  kq (rPick v178 v183 (.bool false)) <| fun v184 =>
  kq (some v184) <| fun v185 =>
  kgq v185 true (fun k => kq (some v163) k) <| fun v186 =>
  kgh v185 true h28 (fun k => ke (call N_retain_Journal_Scan [v186] h28) <| fun v187 h29 =>
  k v187 h29) <| fun v188 h30 =>
  kgq v185 true (fun k => kq (some v138) k) <| fun v189 =>
  kgq v185 true (fun k => kq (rBin .eql .no false v188 v189) k) <| fun v190 =>
  kq (rPick v185 v190 (.bool false)) <| fun v191 =>
  j179 v191 h30)) <| fun j170 =>
  kgq v169 false (fun k => kq (some v163) k) <| fun v171 =>
  kgq v169 false (fun k => kq (rBin .eql .ptr true v171 (.ptr none)) k) <| fun v172 =>
  kq (rPick v169 (.bool true) v172) <| fun v173 =>
  j170 v173)) <| fun j147 =>
  kgq v146 true (fun k => kq (some v143) k) <| fun v148 =>
  kgq v146 true (fun k => kq (rBin .neq .no true v148 (.int .i64 82)) k) <| fun v149 =>
  kq (rPick v146 v149 (.bool false)) <| fun v150 =>
  j147 v150) (
  kq (rFieldP 0 v59) <| fun v254 =>
  kq (rLoad v254 h10) <| fun v255 =>
  kq (rBin .eql .no true v255 (.int .i64 7)) <| fun v256 =>
  kq (some v256) <| fun v257 =>
  kIf v257 (
  kq (some v10) <| fun v258 =>
  kq (some v17) <| fun v259 =>
  ke (call N_retain_Open [v258, v259] h10) <| fun v260 h39 =>
  kq (some v260) <| fun v261 =>
  kq (aExtract v261 0) <| fun v262 =>
  kq (aExtract v261 1) <| fun v263 =>
  kq (aExtract v261 2) <| fun v264 =>
  kq (aExtract v261 3) <| fun v265 =>
  kq (some v262) <| fun v266 =>
  kq (some v263) <| fun v267 =>
  kq (some v264) <| fun v268 =>
  kq (some v265) <| fun v269 =>
  kq (some v269) <| fun v270 =>
  kq (rBin .neq .no true v270 (.int .i64 0)) <| fun v271 =>
  kq (some v271) <| fun v272 =>
  kth (fun v302 h42 =>
  kIf v302 (
  kq (some (.bool false)) <| fun v303 =>
  some (v303, h42)) (
  kq (some (gd l44 2)) <| fun v304 =>
  kq (some v304) <| fun v305 =>
  kth (fun v313 h45 =>
  kIf v313 (
  kq (some (.bool false)) <| fun v314 =>
  some (v314, h45)) (
  kq (some v266) <| fun v315 =>
  kq (some v315) <| fun v316 =>
  kq (some (.int .u64 0)) <| fun v317 =>
  j51 [v316, (gd l44 1), (gd l44 2), (gd l44 3), v317] h45)) <| fun j306 =>
  kgq v305 true (fun k => kq (some v266) k) <| fun v307 =>
  kgh v305 true h42 (fun k => ke (call N_retain_Journal_Scan [v307] h42) <| fun v308 h43 =>
  k v308 h43) <| fun v309 h44 =>
  kgq v305 true (fun k => kq (some (gd l44 3)) k) <| fun v310 =>
  kgq v305 true (fun k => kq (rBin .neq .no false v309 v310) k) <| fun v311 =>
  kq (rPick v305 v311 (.bool false)) <| fun v312 =>
  j306 v312 h44)) <| fun j273 =>
  kgq v272 false (fun k => kq (some v266) k) <| fun v274 =>
  kgq v272 false (fun k => kq (rBin .eql .ptr true v274 (.ptr none)) k) <| fun v275 =>
  kq (rPick v272 (.bool true) v275) <| fun v276 =>
  kq (some v276) <| fun v277 =>
  kgq v277 false (fun k => kq (some (gd l44 2)) k) <| fun v278 =>
  kgq v277 false (fun k => kq (some v268) k) <| fun v279 =>
  kgq v277 false (fun k => kq (rBin .eql .no true v279 (.int .i64 1)) k) <| fun v280 =>
  kgq v277 false (fun k => kq (rBin .neq .bool false v278 v280) k) <| fun v281 =>
  kq (rPick v277 (.bool true) v281) <| fun v282 =>
  kq (some v282) <| fun v283 =>
  kgq v283 false (fun k => kq (some (gd l44 2)) k) <| fun v284 =>
  kgq v283 false (fun k => kq (some v284) k) <| fun v285 =>
  kgq v285 true (fun k => kq (some v267) k) <| fun v286 =>
  kgq v285 true (fun k => kq (some (gd l44 1)) k) <| fun v287 =>
  kgh v285 true h39 (fun k => ke (call N_runghelp_Nums [v286, v287] h39) <| fun v288 h40 =>
  k v288 h40) <| fun v289 h41 =>
  kgq v285 true (fun k => kq (aUn .not v289) k) <| fun v290 =>
  kgq v283 false (fun k => kq (rPick v285 v290 (.bool false)) k) <| fun v291 =>
  kq (rPick v283 (.bool true) v291) <| fun v292 =>
  kq (some v292) <| fun v293 =>
  kgq v293 false (fun k => kq (some (gd l44 2)) k) <| fun v294 =>
  kgq v293 false (fun k => kq (aUn .not v294) k) <| fun v295 =>
  kgq v293 false (fun k => kq (some v295) k) <| fun v296 =>
  kgq v296 true (fun k => kq (some v267) k) <| fun v297 =>
  kgq v296 true (fun k => kq (rLen v297) k) <| fun v298 =>
  kgq v296 true (fun k => kq (rBin .neq .no true v298 (.int .i64 0)) k) <| fun v299 =>
  kgq v293 false (fun k => kq (rPick v296 v299 (.bool false)) k) <| fun v300 =>
  kq (rPick v293 (.bool true) v300) <| fun v301 =>
  j273 v301 h41) (
  j51 [(gd l44 0), (gd l44 1), (gd l44 2), (gd l44 3), (gd l44 4)] h10)))) <| fun j72 =>
  kgq v71 true (fun k => kq (rFieldP 0 v59) k) <| fun v73 =>
  kgq v71 true (fun k => kq (rLoad v73 h10) k) <| fun v74 =>
  kgq v71 true (fun k => kq (rBin .leq .no true v74 (.int .i64 5)) k) <| fun v75 =>
  kq (rPick v71 v75 (.bool false)) <| fun v76 =>
  j72 v76) (
  kq (some (.bool true)) <| fun v318 =>
  some (v318, h6))
def F_runglaw9_RetainPlays (call callD : ACall) (a0 a1 a2 : AVal) (h : AH) : Ans :=
  kq (some (.bool false)) <| fun v0 =>
  ke (call N_runglaw9_known [] h) <| fun v1 h0 =>
  kq (aUn .not v1) <| fun v2 =>
  kIf v2 (
  kq (some (.bool false)) <| fun v3 =>
  some (v3, h0)) (
  kq (some a2) <| fun v4 =>
  kq (rLen v4) <| fun v5 =>
  kq (rBin .gtr .no true v5 (.int .i64 80)) <| fun v6 =>
  kIf v6 (
  kq (some (.bool true)) <| fun v7 =>
  some (v7, h0)) (
  kq (some a0) <| fun v8 =>
  ke (call N_runglaw9_store [v8] h0) <| fun v9 h1 =>
  kq (some v9) <| fun v10 =>
  kq (some a1) <| fun v11 =>
  kq (some v10) <| fun v12 =>
  ke (call N_retain_Room [v12] h1) <| fun v13 h2 =>
  kq (aMM aMin2 [v13, (.int .i64 40)]) <| fun v14 =>
  kq (rBin .add .no true (.int .i64 1) v14) <| fun v15 =>
  ke (call N_runghelp_Place [v11, v15] h2) <| fun v16 h3 =>
  kq (some v16) <| fun v17 =>
  kq (some v10) <| fun v18 =>
  kq (some v17) <| fun v19 =>
  ke (call N_retain_Open [v18, v19] h3) <| fun v20 h4 =>
  kq (some v20) <| fun v21 =>
  kq (aExtract v21 0) <| fun v22 =>
  kq (aExtract v21 1) <| fun v23 =>
  kq (aExtract v21 2) <| fun v24 =>
  kq (aExtract v21 3) <| fun v25 =>
  kq (some v22) <| fun v26 =>
  kq (some v23) <| fun v27 =>
  kq (some v24) <| fun v28 =>
  kq (some v25) <| fun v29 =>
  kq (some v29) <| fun v30 =>
  kq (rBin .neq .no true v30 (.int .i64 0)) <| fun v31 =>
  kq (some v31) <| fun v32 =>
  kt (fun v37 =>
  kIf v37 (
  kq (some (.bool false)) <| fun v38 =>
  some (v38, h4)) (
  kq (some (.slice none 0 0)) <| fun v39 =>
  kq (some (.bool false)) <| fun v40 =>
  kq (some (.int .u64 0)) <| fun v41 =>
  kq (some (.int .u64 0)) <| fun v42 =>
  kq (some (.int .i64 0)) <| fun v43 =>
  kLoop (L_runglaw9_RetainPlays_1 call callD a2 v17 v10) rounds [v26, v39, v40, v41, v42, v43] h4)) <| fun j33 =>
  kgq v32 false (fun k => kq (some v26) k) <| fun v34 =>
  kgq v32 false (fun k => kq (rBin .eql .ptr true v34 (.ptr none)) k) <| fun v35 =>
  kq (rPick v32 (.bool true) v35) <| fun v36 =>
  j33 v36))
theorem F_runglaw9_RetainPlays_eq (call callD : ACall) (a0 a1 a2 : AVal) (h : AH) : kFunc Try.prog [] call callD N_runglaw9_RetainPlays [a0, a1, a2] h = F_runglaw9_RetainPlays call callD a0 a1 a2 h := by kernel_rfl
theorem C_runglaw9_RetainPlays {ov : AOver} (H : Plain ov) (n : Nat) (a0 a1 a2 : AVal) (h : AH) : kc ov (n + 1) N_runglaw9_RetainPlays [a0, a1, a2] h = F_runglaw9_RetainPlays (kc ov n) (kd ov n) a0 a1 a2 h := by
  have hov : ov N_runglaw9_RetainPlays = none := H _ (by decide)
  unfold kc kd; rw [← F_runglaw9_RetainPlays_eq]; simp only [kcall, hov]

/-- rung/runglaw9.RetainFirst -/
def F_runglaw9_RetainFirst (call callD : ACall) (a0 a1 a2 a3 a4 : AVal) (h : AH) : Ans :=
  kq (some (.bool false)) <| fun v0 =>
  ke (call N_runglaw9_known [] h) <| fun v1 h0 =>
  kq (aUn .not v1) <| fun v2 =>
  kIf v2 (
  kq (some (.bool false)) <| fun v3 =>
  some (v3, h0)) (
  kq (some a0) <| fun v4 =>
  ke (call N_runglaw9_store [v4] h0) <| fun v5 h1 =>
  kq (some v5) <| fun v6 =>
  kq (some a1) <| fun v7 =>
  kq (some v6) <| fun v8 =>
  ke (call N_retain_Room [v8] h1) <| fun v9 h2 =>
  kq (aMM aMin2 [v9, (.int .i64 20)]) <| fun v10 =>
  kq (rBin .add .no true (.int .i64 1) v10) <| fun v11 =>
  ke (call N_runghelp_Place [v7, v11] h2) <| fun v12 h3 =>
  kq (some v12) <| fun v13 =>
  kq (some v6) <| fun v14 =>
  kq (some v13) <| fun v15 =>
  ke (call N_retain_Open [v14, v15] h3) <| fun v16 h4 =>
  kq (some v16) <| fun v17 =>
  kq (aExtract v17 0) <| fun v18 =>
  kq (aExtract v17 1) <| fun v19 =>
  kq (aExtract v17 2) <| fun v20 =>
  kq (aExtract v17 3) <| fun v21 =>
  kq (some v18) <| fun v22 =>
  kq (some v19) <| fun v23 =>
  kq (some v20) <| fun v24 =>
  kq (some v21) <| fun v25 =>
  kq (some v25) <| fun v26 =>
  kq (rBin .neq .no true v26 (.int .i64 0)) <| fun v27 =>
  kq (some v27) <| fun v28 =>
  kt (fun v33 =>
  kIf v33 (
  kq (some (.bool false)) <| fun v34 =>
  some (v34, h4)) (
  kq (some v6) <| fun v35 =>
  kq (some a2) <| fun v36 =>
  ke (call N_runghelp_Place [v36, (.int .i64 6)] h4) <| fun v37 h6 =>
  kq (some a3) <| fun v38 =>
  ke (call N_block_Store_Cut [v35, v37, v38] h6) <| fun v39 h7 =>
  kq (some v22) <| fun v40 =>
  kq (some a4) <| fun v41 =>
  kq (some v13) <| fun v42 =>
  ke (call N_runglaw9_numbers [v41, v42] h7) <| fun v43 h8 =>
  ke (call N_retain_Journal_Lay [v40, (.int .u64 1), v43] h8) <| fun v44 h9 =>
  kq (some v44) <| fun v45 =>
  kq (some v6) <| fun v46 =>
  ke (call N_block_Store_Power [v46] h9) <| fun v47 h10 =>
  kq (some v6) <| fun v48 =>
  kq (some v13) <| fun v49 =>
  ke (call N_retain_Open [v48, v49] h10) <| fun v50 h11 =>
  kq (some v50) <| fun v51 =>
  kq (aExtract v51 0) <| fun v52 =>
  kq (aExtract v51 1) <| fun v53 =>
  kq (aExtract v51 2) <| fun v54 =>
  kq (aExtract v51 3) <| fun v55 =>
  kq (some v52) <| fun v56 =>
  kq (some v53) <| fun v57 =>
  kq (some v54) <| fun v58 =>
  kq (some v55) <| fun v59 =>
  kq (some v58) <| fun v60 =>
  kq (rBin .eql .no true v60 (.int .i64 1)) <| fun v61 =>
  kq (some v61) <| fun v62 =>
  kth (fun v72 h16 =>
  kq (some v72) <| fun v73 =>
  kq (some v59) <| fun v74 =>
  kq (rBin .eql .no true v74 (.int .i64 0)) <| fun v75 =>
  kq (some v75) <| fun v76 =>
  kt (fun v93 =>
  kq (some v93) <| fun v94 =>
  some (v94, h16)) <| fun j77 =>
  kgq v76 true (fun k => kq (some v73) k) <| fun v78 =>
  kgq v76 true (fun k => kq (some v78) k) <| fun v79 =>
  kgq v79 false (fun k => kq (some v45) k) <| fun v80 =>
  kgq v79 false (fun k => kq (rBin .eql .no true v80 (.int .i64 82)) k) <| fun v81 =>
  kgq v79 false (fun k => kq (some v81) k) <| fun v82 =>
  kgq v82 true (fun k => kq (some v58) k) <| fun v83 =>
  kgq v82 true (fun k => kq (rBin .eql .no true v83 (.int .i64 0)) k) <| fun v84 =>
  kgq v79 false (fun k => kq (rPick v82 v84 (.bool false)) k) <| fun v85 =>
  kgq v79 false (fun k => kq (some v85) k) <| fun v86 =>
  kgq v86 true (fun k => kq (some v57) k) <| fun v87 =>
  kgq v86 true (fun k => kq (rLen v87) k) <| fun v88 =>
  kgq v86 true (fun k => kq (rBin .eql .no true v88 (.int .i64 0)) k) <| fun v89 =>
  kgq v79 false (fun k => kq (rPick v86 v89 (.bool false)) k) <| fun v90 =>
  kgq v76 true (fun k => kq (rPick v79 (.bool true) v90) k) <| fun v91 =>
  kq (rPick v76 v91 (.bool false)) <| fun v92 =>
  j77 v92) <| fun j63 =>
  kgq v62 true (fun k => kq (some v57) k) <| fun v64 =>
  kgq v62 true (fun k => kq (some a4) k) <| fun v65 =>
  kgq v62 true (fun k => kq (some v13) k) <| fun v66 =>
  kgh v62 true h11 (fun k => ke (call N_runglaw9_numbers [v65, v66] h11) <| fun v67 h12 =>
  k v67 h12) <| fun v68 h13 =>
  kgh v62 true h13 (fun k => ke (call N_runghelp_Nums [v64, v68] h13) <| fun v69 h14 =>
  k v69 h14) <| fun v70 h15 =>
  kq (rPick v62 v70 (.bool false)) <| fun v71 =>
  j63 v71 h15)) <| fun j29 =>
  kgq v28 false (fun k => kq (some v22) k) <| fun v30 =>
  kgq v28 false (fun k => kq (rBin .eql .ptr true v30 (.ptr none)) k) <| fun v31 =>
  kq (rPick v28 (.bool true) v31) <| fun v32 =>
  j29 v32)
theorem F_runglaw9_RetainFirst_eq (call callD : ACall) (a0 a1 a2 a3 a4 : AVal) (h : AH) : kFunc Try.prog [] call callD N_runglaw9_RetainFirst [a0, a1, a2, a3, a4] h = F_runglaw9_RetainFirst call callD a0 a1 a2 a3 a4 h := by kernel_rfl
theorem C_runglaw9_RetainFirst {ov : AOver} (H : Plain ov) (n : Nat) (a0 a1 a2 a3 a4 : AVal) (h : AH) : kc ov (n + 1) N_runglaw9_RetainFirst [a0, a1, a2, a3, a4] h = F_runglaw9_RetainFirst (kc ov n) (kd ov n) a0 a1 a2 a3 a4 h := by
  have hov : ov N_runglaw9_RetainFirst = none := H _ (by decide)
  unfold kc kd; rw [← F_runglaw9_RetainFirst_eq]; simp only [kcall, hov]

/-- rung/runglaw9.RetainSpoilt -/
def L_runglaw9_RetainSpoilt_0 (call callD : ACall) (v21 : AVal) (a6 : AVal) (v81 : AVal) (a5 : AVal) (v82 : AVal) (v28 : AVal) (a2 : AVal) : (List AVal → AH → Ans) → List AVal → AH → Ans := fun j85 l84 h14 =>
  kq (some (gd l84 0)) <| fun v86 =>
  kq (some v21) <| fun v87 =>
  ke (call N_block_Store_Blocks [v87] h14) <| fun v88 h15 =>
  kq (rBin .lss .no false v86 v88) <| fun v89 =>
  kIf v89 (
  kq (some a6) <| fun v90 =>
  kq (some v90) <| fun v91 =>
  kt (fun v97 =>
  kj (fun l98 h17 =>
  kq (some (gd l84 0)) <| fun v100 =>
  kq (rBin .add .no true v100 (.int .i64 1)) <| fun v101 =>
  kq (some v101) <| fun v102 =>
  j85 [v102] h17) <| fun j99 =>
  kIf v97 (
  kq (some v21) <| fun v103 =>
  kq (some (gd l84 0)) <| fun v104 =>
  kq (some v81) <| fun v105 =>
  kq (some a5) <| fun v106 =>
  ke (call N_block_Store_Spoil [v103, v104, v105, v106] h15) <| fun v107 h18 =>
  j99 [] h18) (
  j99 [] h15)) <| fun j92 =>
  kgq v91 false (fun k => kq (some (gd l84 0)) k) <| fun v93 =>
  kgq v91 false (fun k => kq (some v82) k) <| fun v94 =>
  kgq v91 false (fun k => kq (rBin .eql .no false v93 v94) k) <| fun v95 =>
  kq (rPick v91 (.bool true) v95) <| fun v96 =>
  j92 v96) (
  kq (some v21) <| fun v108 =>
  kq (some v28) <| fun v109 =>
  ke (call N_retain_Open [v108, v109] h15) <| fun v110 h19 =>
  kq (some v110) <| fun v111 =>
  kq (aExtract v111 0) <| fun v112 =>
  kq (aExtract v111 1) <| fun v113 =>
  kq (aExtract v111 2) <| fun v114 =>
  kq (aExtract v111 3) <| fun v115 =>
  kq (some v112) <| fun v116 =>
  kq (some v113) <| fun v117 =>
  kq (some v114) <| fun v118 =>
  kq (some v115) <| fun v119 =>
  kq (some a2) <| fun v120 =>
  kq (rLen v120) <| fun v121 =>
  kq (rBin .sub .no true v121 (.int .i64 1)) <| fun v122 =>
  kq (some v122) <| fun v123 =>
  kq (some v118) <| fun v124 =>
  kq (rBin .eql .no true v124 (.int .i64 1)) <| fun v125 =>
  kq (some v125) <| fun v126 =>
  kth (fun v160 h28 =>
  kq (some v160) <| fun v161 =>
  kq (some v119) <| fun v162 =>
  kq (rBin .neq .no true v162 (.int .i64 0)) <| fun v163 =>
  kIf v163 (
  kq (some (.bool false)) <| fun v164 =>
  some (v164, h28)) (
  kq (some a6) <| fun v165 =>
  kIf v165 (
  kq (some v161) <| fun v166 =>
  kq (some v166) <| fun v167 =>
  kt (fun v177 =>
  kq (some v177) <| fun v178 =>
  some (v178, h28)) <| fun j168 =>
  kgq v167 false (fun k => kq (some v118) k) <| fun v169 =>
  kgq v167 false (fun k => kq (rBin .eql .no true v169 (.int .i64 2)) k) <| fun v170 =>
  kgq v167 false (fun k => kq (some v170) k) <| fun v171 =>
  kgq v171 true (fun k => kq (some v117) k) <| fun v172 =>
  kgq v171 true (fun k => kq (rLen v172) k) <| fun v173 =>
  kgq v171 true (fun k => kq (rBin .eql .no true v173 (.int .i64 0)) k) <| fun v174 =>
  kgq v167 false (fun k => kq (rPick v171 v174 (.bool false)) k) <| fun v175 =>
  kq (rPick v167 (.bool true) v175) <| fun v176 =>
  j168 v176) (
  kq (some v161) <| fun v179 =>
  kq (some v179) <| fun v180 =>
  kt (fun v194 =>
  kq (some v194) <| fun v195 =>
  some (v195, h28)) <| fun j181 =>
  kgq v180 false (fun k => kq (some v123) k) <| fun v182 =>
  kgq v180 false (fun k => kq (rBin .eql .no true v182 (.int .i64 0)) k) <| fun v183 =>
  kgq v180 false (fun k => kq (some v183) k) <| fun v184 =>
  kgq v184 true (fun k => kq (some v118) k) <| fun v185 =>
  kgq v184 true (fun k => kq (rBin .eql .no true v185 (.int .i64 2)) k) <| fun v186 =>
  kgq v180 false (fun k => kq (rPick v184 v186 (.bool false)) k) <| fun v187 =>
  kgq v180 false (fun k => kq (some v187) k) <| fun v188 =>
  kgq v188 true (fun k => kq (some v117) k) <| fun v189 =>
  kgq v188 true (fun k => kq (rLen v189) k) <| fun v190 =>
  kgq v188 true (fun k => kq (rBin .eql .no true v190 (.int .i64 0)) k) <| fun v191 =>
  kgq v180 false (fun k => kq (rPick v188 v191 (.bool false)) k) <| fun v192 =>
  kq (rPick v180 (.bool true) v192) <| fun v193 =>
  j181 v193))) <| fun j127 =>
  kgq v126 true (fun k => kq (some v117) k) <| fun v128 =>
  kgq v126 true (fun k => kq (some a2) k) <| fun v129 =>
  kgq v126 true (fun k => kq (some v123) k) <| fun v130 =>
  kgq v126 true (fun k => kq (rAt 1 v129 v130) k) <| fun v131 =>
  kgq v126 true (fun k => kq (rLoad v131 h19) k) <| fun v132 =>
  kgq v126 true (fun k => kq (some v28) k) <| fun v133 =>
  kgh v126 true h19 (fun k => ke (call N_runglaw9_numbers [v132, v133] h19) <| fun v134 h20 =>
  k v134 h20) <| fun v135 h21 =>
  kgh v126 true h21 (fun k => ke (call N_runghelp_Nums [v128, v135] h21) <| fun v136 h22 =>
  k v136 h22) <| fun v137 h23 =>
  kq (rPick v126 v137 (.bool false)) <| fun v138 =>
  kq (some v138) <| fun v139 =>
  kgq v139 false (fun k => kq (some v123) k) <| fun v140 =>
  kgq v139 false (fun k => kq (rBin .gtr .no true v140 (.int .i64 0)) k) <| fun v141 =>
  kgq v139 false (fun k => kq (some v141) k) <| fun v142 =>
  kgq v142 true (fun k => kq (some v118) k) <| fun v143 =>
  kgq v142 true (fun k => kq (rBin .eql .no true v143 (.int .i64 1)) k) <| fun v144 =>
  kgq v139 false (fun k => kq (rPick v142 v144 (.bool false)) k) <| fun v145 =>
  kgq v139 false (fun k => kq (some v145) k) <| fun v146 =>
  kgq v146 true (fun k => kq (some v117) k) <| fun v147 =>
  kgq v146 true (fun k => kq (some a2) k) <| fun v148 =>
  kgq v146 true (fun k => kq (some v123) k) <| fun v149 =>
  kgq v146 true (fun k => kq (rBin .sub .no true v149 (.int .i64 1)) k) <| fun v150 =>
  kgq v146 true (fun k => kq (rAt 1 v148 v150) k) <| fun v151 =>
  kgq v146 true (fun k => kq (rLoad v151 h23) k) <| fun v152 =>
  kgq v146 true (fun k => kq (some v28) k) <| fun v153 =>
  kgh v146 true h23 (fun k => ke (call N_runglaw9_numbers [v152, v153] h23) <| fun v154 h24 =>
  k v154 h24) <| fun v155 h25 =>
  kgh v146 true h25 (fun k => ke (call N_runghelp_Nums [v147, v155] h25) <| fun v156 h26 =>
  k v156 h26) <| fun v157 h27 =>
  kgq v139 false (fun k => kq (rPick v146 v157 (.bool false)) k) <| fun v158 =>
  kq (rPick v139 (.bool true) v158) <| fun v159 =>
  j127 v159 h27)
def L_runglaw9_RetainSpoilt_1 (call callD : ACall) (a2 : AVal) (v37 : AVal) (v28 : AVal) (a3 : AVal) (v21 : AVal) (a4 : AVal) (a6 : AVal) (a5 : AVal) : (List AVal → AH → Ans) → List AVal → AH → Ans := fun j52 l51 h7 =>
  kq (some (gd l51 0)) <| fun v53 =>
  kq (some a2) <| fun v54 =>
  kq (rLen v54) <| fun v55 =>
  kq (rBin .lss .no false v53 v55) <| fun v56 =>
  kIf v56 (
  kq (some v37) <| fun v57 =>
  kq (some (gd l51 0)) <| fun v58 =>
  kq (rBin .add .no true v58 (.int .i64 1)) <| fun v59 =>
  kq (rConvI .u64 v59) <| fun v60 =>
  kq (some a2) <| fun v61 =>
  kq (some (gd l51 0)) <| fun v62 =>
  kq (rAt 1 v61 v62) <| fun v63 =>
  kq (rLoad v63 h7) <| fun v64 =>
  kq (some v28) <| fun v65 =>
  ke (call N_runglaw9_numbers [v64, v65] h7) <| fun v66 h8 =>
  ke (call N_retain_Journal_Lay [v57, v60, v66] h8) <| fun v67 h9 =>
  kq (rBin .neq .no true v67 (.int .i64 0)) <| fun v68 =>
  kIf v68 (
  kq (some (.bool false)) <| fun v69 =>
  some (v69, h9)) (
  kq (some (gd l51 0)) <| fun v70 =>
  kq (rBin .add .no true v70 (.int .i64 1)) <| fun v71 =>
  kq (some v71) <| fun v72 =>
  j52 [v72] h9)) (
  kq (some a3) <| fun v73 =>
  kq (some v21) <| fun v74 =>
  ke (call N_block_Store_Size [v74] h7) <| fun v75 h10 =>
  ke (call N_runghelp_Place [v73, v75] h10) <| fun v76 h11 =>
  kq (some a4) <| fun v77 =>
  kq (some v21) <| fun v78 =>
  ke (call N_block_Store_Blocks [v78] h11) <| fun v79 h12 =>
  ke (call N_runghelp_Place [v77, v79] h12) <| fun v80 h13 =>
  kq (some v76) <| fun v81 =>
  kq (some v80) <| fun v82 =>
  kq (some (.int .i64 0)) <| fun v83 =>
  kLoop (L_runglaw9_RetainSpoilt_0 call callD v21 a6 v81 a5 v82 v28 a2) rounds [v83] h13)
def F_runglaw9_RetainSpoilt (call callD : ACall) (a0 a1 a2 a3 a4 a5 a6 : AVal) (h : AH) : Ans :=
  kq (some (.bool false)) <| fun v0 =>
  ke (call N_runglaw9_known [] h) <| fun v1 h0 =>
  kq (aUn .not v1) <| fun v2 =>
  kIf v2 (
  kq (some (.bool false)) <| fun v3 =>
  some (v3, h0)) (
  kq (some a2) <| fun v4 =>
  kq (rLen v4) <| fun v5 =>
  kq (rBin .gtr .no true v5 (.int .i64 12)) <| fun v6 =>
  kq (some v6) <| fun v7 =>
  kt (fun v17 =>
  kIf v17 (
  kq (some (.bool true)) <| fun v18 =>
  some (v18, h0)) (
  kq (some a0) <| fun v19 =>
  ke (call N_runglaw9_store [v19] h0) <| fun v20 h2 =>
  kq (some v20) <| fun v21 =>
  kq (some a1) <| fun v22 =>
  kq (some v21) <| fun v23 =>
  ke (call N_retain_Room [v23] h2) <| fun v24 h3 =>
  kq (aMM aMin2 [v24, (.int .i64 30)]) <| fun v25 =>
  kq (rBin .add .no true (.int .i64 1) v25) <| fun v26 =>
  ke (call N_runghelp_Place [v22, v26] h3) <| fun v27 h4 =>
  kq (some v27) <| fun v28 =>
  kq (some v21) <| fun v29 =>
  kq (some v28) <| fun v30 =>
  ke (call N_retain_Open [v29, v30] h4) <| fun v31 h5 =>
  kq (some v31) <| fun v32 =>
  kq (aExtract v32 0) <| fun v33 =>
  kq (aExtract v32 1) <| fun v34 =>
  kq (aExtract v32 2) <| fun v35 =>
  kq (aExtract v32 3) <| fun v36 =>
  kq (some v33) <| fun v37 =>
  kq (some v34) <| fun v38 =>
  kq (some v35) <| fun v39 =>
  kq (some v36) <| fun v40 =>
  kq (some v40) <| fun v41 =>
  kq (rBin .neq .no true v41 (.int .i64 0)) <| fun v42 =>
  kq (some v42) <| fun v43 =>
  kt (fun v48 =>
  kIf v48 (
  kq (some (.bool false)) <| fun v49 =>
  some (v49, h5)) (
  kq (some (.int .i64 0)) <| fun v50 =>
  kLoop (L_runglaw9_RetainSpoilt_1 call callD a2 v37 v28 a3 v21 a4 a6 a5) rounds [v50] h5)) <| fun j44 =>
  kgq v43 false (fun k => kq (some v37) k) <| fun v45 =>
  kgq v43 false (fun k => kq (rBin .eql .ptr true v45 (.ptr none)) k) <| fun v46 =>
  kq (rPick v43 (.bool true) v46) <| fun v47 =>
  j44 v47)) <| fun j8 =>
  kgq v7 false (fun k => kq (some a2) k) <| fun v9 =>
  kgq v7 false (fun k => kq (rLen v9) k) <| fun v10 =>
  kgq v7 false (fun k => kq (rBin .eql .no true v10 (.int .i64 0)) k) <| fun v11 =>
  kq (rPick v7 (.bool true) v11) <| fun v12 =>
  kq (some v12) <| fun v13 =>
  kgq v13 false (fun k => kq (some a5) k) <| fun v14 =>
  kgq v13 false (fun k => kq (rBin .eql .no true v14 (.int .u8 0)) k) <| fun v15 =>
  kq (rPick v13 (.bool true) v15) <| fun v16 =>
  j8 v16)
theorem F_runglaw9_RetainSpoilt_eq (call callD : ACall) (a0 a1 a2 a3 a4 a5 a6 : AVal) (h : AH) : kFunc Try.prog [] call callD N_runglaw9_RetainSpoilt [a0, a1, a2, a3, a4, a5, a6] h = F_runglaw9_RetainSpoilt call callD a0 a1 a2 a3 a4 a5 a6 h := by kernel_rfl
theorem C_runglaw9_RetainSpoilt {ov : AOver} (H : Plain ov) (n : Nat) (a0 a1 a2 a3 a4 a5 a6 : AVal) (h : AH) : kc ov (n + 1) N_runglaw9_RetainSpoilt [a0, a1, a2, a3, a4, a5, a6] h = F_runglaw9_RetainSpoilt (kc ov n) (kd ov n) a0 a1 a2 a3 a4 a5 a6 h := by
  have hov : ov N_runglaw9_RetainSpoilt = none := H _ (by decide)
  unfold kc kd; rw [← F_runglaw9_RetainSpoilt_eq]; simp only [kcall, hov]

/-- rung/runglaw9.RetainEvery -/
def L_runglaw9_RetainEvery_0 (call callD : ACall) (v6 : AVal) (v13 : AVal) (l59 : List AVal) (v46 : AVal) (a5 : AVal) (v17 : AVal) (v45 : AVal) (j60 : List AVal → AH → Ans) : (List AVal → AH → Ans) → List AVal → AH → Ans := fun j65 l64 h13 =>
  kq (some (gd l64 0)) <| fun v66 =>
  kq (some v6) <| fun v67 =>
  ke (call N_block_Store_Size [v67] h13) <| fun v68 h14 =>
  kq (rBin .leq .no false v66 v68) <| fun v69 =>
  kIf v69 (
  kq (some v6) <| fun v70 =>
  ke (call N_block_Store_Copy [v70] h14) <| fun v71 h15 =>
  kq (some v71) <| fun v72 =>
  kq (some v72) <| fun v73 =>
  kq (some v13) <| fun v74 =>
  ke (call N_retain_Open [v73, v74] h15) <| fun v75 h16 =>
  kq (some v75) <| fun v76 =>
  kq (aExtract v76 0) <| fun v77 =>
  kq (aExtract v76 1) <| fun v78 =>
  kq (aExtract v76 2) <| fun v79 =>
  kq (aExtract v76 3) <| fun v80 =>
  kq (some v77) <| fun v81 =>
  kq (some v78) <| fun v82 =>
  kq (some v79) <| fun v83 =>
  kq (some v80) <| fun v84 =>
  kq (some v84) <| fun v85 =>
  kq (rBin .neq .no true v85 (.int .i64 0)) <| fun v86 =>
  kIf v86 (
  kq (some (.bool false)) <| fun v87 =>
  some (v87, h16)) (
  kq (some v72) <| fun v88 =>
  kq (some (gd l59 0)) <| fun v89 =>
  kq (some (gd l64 0)) <| fun v90 =>
  ke (call N_block_Store_Cut [v88, v89, v90] h16) <| fun v91 h17 =>
  kq (some v81) <| fun v92 =>
  kq (some v46) <| fun v93 =>
  ke (call N_retain_Journal_Lay [v92, (.int .u64 8), v93] h17) <| fun v94 h18 =>
  kq (some v94) <| fun v95 =>
  kq (some v72) <| fun v96 =>
  ke (call N_block_Store_Power [v96] h18) <| fun v97 h19 =>
  kq (some v72) <| fun v98 =>
  kq (some v13) <| fun v99 =>
  ke (call N_retain_Open [v98, v99] h19) <| fun v100 h20 =>
  kq (some v100) <| fun v101 =>
  kq (aExtract v101 0) <| fun v102 =>
  kq (aExtract v101 1) <| fun v103 =>
  kq (aExtract v101 2) <| fun v104 =>
  kq (aExtract v101 3) <| fun v105 =>
  kq (some v102) <| fun v106 =>
  kq (some v103) <| fun v107 =>
  kq (some v104) <| fun v108 =>
  kq (some v105) <| fun v109 =>
  kq (some v109) <| fun v110 =>
  kq (rBin .neq .no true v110 (.int .i64 0)) <| fun v111 =>
  kIf v111 (
  kq (some (.bool false)) <| fun v112 =>
  some (v112, h20)) (
  kq (some v108) <| fun v113 =>
  kq (rBin .eql .no true v113 (.int .i64 1)) <| fun v114 =>
  kq (some v114) <| fun v115 =>
  kth (fun v122 h23 =>
  kq (some v122) <| fun v123 =>
  kq (some a5) <| fun v124 =>
  kq (some v124) <| fun v125 =>
  kth (fun v144 h26 =>
  kq (some v144) <| fun v145 =>
  kq (some v95) <| fun v146 =>
  kq (rBin .eql .no true v146 (.int .i64 0)) <| fun v147 =>
  kq (some v147) <| fun v148 =>
  kt (fun v169 =>
  kIf v169 (
  kq (some (.bool false)) <| fun v170 =>
  some (v170, h26)) (
  kq (some v95) <| fun v171 =>
  kq (rBin .eql .no true v171 (.int .i64 0)) <| fun v172 =>
  kj (fun l173 h28 =>
  kq (some (gd l173 0)) <| fun v175 =>
  kq (some v17) <| fun v176 =>
  kq (rBin .add .no false v175 v176) <| fun v177 =>
  kq (some v177) <| fun v178 =>
  j65 [v178] h28) <| fun j174 =>
  kIf v172 (
  kq (some v6) <| fun v179 =>
  ke (call N_block_Store_Size [v179] h26) <| fun v180 h29 =>
  kq (some v180) <| fun v181 =>
  j174 [v181] h29) (
  j174 [(gd l64 0)] h26))) <| fun j149 =>
  kgq v148 true (fun k => kq (some v123) k) <| fun v150 =>
  kgq v148 true (fun k => kq (aUn .not v150) k) <| fun v151 =>
  kq (rPick v148 v151 (.bool false)) <| fun v152 =>
  kq (some v152) <| fun v153 =>
  kgq v153 false (fun k => kq (some v95) k) <| fun v154 =>
  kgq v153 false (fun k => kq (rBin .neq .no true v154 (.int .i64 0)) k) <| fun v155 =>
  kgq v153 false (fun k => kq (some v155) k) <| fun v156 =>
  kgq v156 true (fun k => kq (some v95) k) <| fun v157 =>
  kgq v156 true (fun k => kq (rBin .neq .no true v157 (.int .i64 82)) k) <| fun v158 =>
  kgq v153 false (fun k => kq (rPick v156 v158 (.bool false)) k) <| fun v159 =>
  kq (rPick v153 (.bool true) v159) <| fun v160 =>
  kq (some v160) <| fun v161 =>
  kgq v161 false (fun k => kq (some v123) k) <| fun v162 =>
  kgq v161 false (fun k => kq (aUn .not v162) k) <| fun v163 =>
  kgq v161 false (fun k => kq (some v163) k) <| fun v164 =>
  kgq v164 true (fun k => kq (some v145) k) <| fun v165 =>
  kgq v164 true (fun k => kq (aUn .not v165) k) <| fun v166 =>
  kgq v161 false (fun k => kq (rPick v164 v166 (.bool false)) k) <| fun v167 =>
  kq (rPick v161 (.bool true) v167) <| fun v168 =>
  j149 v168) <| fun j126 =>
  kgq v125 true (fun k => kq (some v108) k) <| fun v127 =>
  kgq v125 true (fun k => kq (rBin .eql .no true v127 (.int .i64 1)) k) <| fun v128 =>
  kq (rPick v125 v128 (.bool false)) <| fun v129 =>
  kq (some v129) <| fun v130 =>
  kgq v130 true (fun k => kq (some v107) k) <| fun v131 =>
  kgq v130 true (fun k => kq (some v45) k) <| fun v132 =>
  kgh v130 true h23 (fun k => ke (call N_runghelp_Nums [v131, v132] h23) <| fun v133 h24 =>
  k v133 h24) <| fun v134 h25 =>
  kq (rPick v130 v134 (.bool false)) <| fun v135 =>
  kq (some v135) <| fun v136 =>
  kgq v136 false (fun k => kq (some a5) k) <| fun v137 =>
  kgq v136 false (fun k => kq (aUn .not v137) k) <| fun v138 =>
  kgq v136 false (fun k => kq (some v138) k) <| fun v139 =>
  kgq v139 true (fun k => kq (some v108) k) <| fun v140 =>
  kgq v139 true (fun k => kq (rBin .eql .no true v140 (.int .i64 0)) k) <| fun v141 =>
  kgq v136 false (fun k => kq (rPick v139 v141 (.bool false)) k) <| fun v142 =>
  kq (rPick v136 (.bool true) v142) <| fun v143 =>
  j126 v143 h25) <| fun j116 =>
  kgq v115 true (fun k => kq (some v107) k) <| fun v117 =>
  kgq v115 true (fun k => kq (some v46) k) <| fun v118 =>
  kgh v115 true h20 (fun k => ke (call N_runghelp_Nums [v117, v118] h20) <| fun v119 h21 =>
  k v119 h21) <| fun v120 h22 =>
  kq (rPick v115 v120 (.bool false)) <| fun v121 =>
  j116 v121 h22))) (
  kq (some (gd l59 0)) <| fun v182 =>
  kq (rBin .add .no true v182 (.int .i64 1)) <| fun v183 =>
  kq (some v183) <| fun v184 =>
  j60 [v184] h14)
def L_runglaw9_RetainEvery_1 (call callD : ACall) (v6 : AVal) (v13 : AVal) (v46 : AVal) (a5 : AVal) (v17 : AVal) (v45 : AVal) : (List AVal → AH → Ans) → List AVal → AH → Ans := fun j60 l59 h12 =>
  kq (some (gd l59 0)) <| fun v61 =>
  kq (rBin .lss .no true v61 (.int .i64 8)) <| fun v62 =>
  kIf v62 (
  kq (some (.int .i64 0)) <| fun v63 =>
  kLoop (L_runglaw9_RetainEvery_0 call callD v6 v13 l59 v46 a5 v17 v45 j60) rounds [v63] h12) (
  kq (some (.bool true)) <| fun v185 =>
  some (v185, h12))
def F_runglaw9_RetainEvery (call callD : ACall) (a0 a1 a2 a3 a4 a5 : AVal) (h : AH) : Ans :=
  kq (some (.bool false)) <| fun v0 =>
  ke (call N_runglaw9_known [] h) <| fun v1 h0 =>
  kq (aUn .not v1) <| fun v2 =>
  kIf v2 (
  kq (some (.bool false)) <| fun v3 =>
  some (v3, h0)) (
  kq (some a0) <| fun v4 =>
  ke (call N_runglaw9_store [v4] h0) <| fun v5 h1 =>
  kq (some v5) <| fun v6 =>
  kq (some a1) <| fun v7 =>
  kq (some v6) <| fun v8 =>
  ke (call N_retain_Room [v8] h1) <| fun v9 h2 =>
  kq (aMM aMin2 [v9, (.int .i64 30)]) <| fun v10 =>
  kq (rBin .add .no true (.int .i64 1) v10) <| fun v11 =>
  ke (call N_runghelp_Place [v7, v11] h2) <| fun v12 h3 =>
  kq (some v12) <| fun v13 =>
  kq (some a4) <| fun v14 =>
  ke (call N_runghelp_Place [v14, (.int .i64 40)] h3) <| fun v15 h4 =>
  kq (rBin .add .no true (.int .i64 3) v15) <| fun v16 =>
  kq (some v16) <| fun v17 =>
  kq (some v6) <| fun v18 =>
  kq (some v13) <| fun v19 =>
  ke (call N_retain_Open [v18, v19] h4) <| fun v20 h5 =>
  kq (some v20) <| fun v21 =>
  kq (aExtract v21 0) <| fun v22 =>
  kq (aExtract v21 1) <| fun v23 =>
  kq (aExtract v21 2) <| fun v24 =>
  kq (aExtract v21 3) <| fun v25 =>
  kq (some v22) <| fun v26 =>
  kq (some v23) <| fun v27 =>
  kq (some v24) <| fun v28 =>
  kq (some v25) <| fun v29 =>
  kq (some v29) <| fun v30 =>
  kq (rBin .neq .no true v30 (.int .i64 0)) <| fun v31 =>
  kq (some v31) <| fun v32 =>
  kt (fun v37 =>
  kIf v37 (
  kq (some (.bool false)) <| fun v38 =>
  some (v38, h5)) (
  kq (some a2) <| fun v39 =>
  kq (some v13) <| fun v40 =>
  ke (call N_runglaw9_numbers [v39, v40] h5) <| fun v41 h7 =>
  kq (some a3) <| fun v42 =>
  kq (some v13) <| fun v43 =>
  ke (call N_runglaw9_numbers [v42, v43] h7) <| fun v44 h8 =>
  kq (some v41) <| fun v45 =>
  kq (some v44) <| fun v46 =>
  kq (some a5) <| fun v47 =>
  kq (some v47) <| fun v48 =>
  kth (fun v56 h11 =>
  kIf v56 (
  kq (some (.bool false)) <| fun v57 =>
  some (v57, h11)) (
  kq (some (.int .i64 0)) <| fun v58 =>
  kLoop (L_runglaw9_RetainEvery_1 call callD v6 v13 v46 a5 v17 v45) rounds [v58] h11)) <| fun j49 =>
  kgq v48 true (fun k => kq (some v26) k) <| fun v50 =>
  kgq v48 true (fun k => kq (some v45) k) <| fun v51 =>
  kgh v48 true h8 (fun k => ke (call N_retain_Journal_Lay [v50, (.int .u64 7), v51] h8) <| fun v52 h9 =>
  k v52 h9) <| fun v53 h10 =>
  kgq v48 true (fun k => kq (rBin .neq .no true v53 (.int .i64 0)) k) <| fun v54 =>
  kq (rPick v48 v54 (.bool false)) <| fun v55 =>
  j49 v55 h10)) <| fun j33 =>
  kgq v32 false (fun k => kq (some v26) k) <| fun v34 =>
  kgq v32 false (fun k => kq (rBin .eql .ptr true v34 (.ptr none)) k) <| fun v35 =>
  kq (rPick v32 (.bool true) v35) <| fun v36 =>
  j33 v36)
theorem F_runglaw9_RetainEvery_eq (call callD : ACall) (a0 a1 a2 a3 a4 a5 : AVal) (h : AH) : kFunc Try.prog [] call callD N_runglaw9_RetainEvery [a0, a1, a2, a3, a4, a5] h = F_runglaw9_RetainEvery call callD a0 a1 a2 a3 a4 a5 h := by kernel_rfl
theorem C_runglaw9_RetainEvery {ov : AOver} (H : Plain ov) (n : Nat) (a0 a1 a2 a3 a4 a5 : AVal) (h : AH) : kc ov (n + 1) N_runglaw9_RetainEvery [a0, a1, a2, a3, a4, a5] h = F_runglaw9_RetainEvery (kc ov n) (kd ov n) a0 a1 a2 a3 a4 a5 h := by
  have hov : ov N_runglaw9_RetainEvery = none := H _ (by decide)
  unfold kc kd; rw [← F_runglaw9_RetainEvery_eq]; simp only [kcall, hov]

/-- rung/runglaw9.known -/
def F_runglaw9_known (call callD : ACall) (h : AH) : Ans :=
  kq (some (.bool false)) <| fun v0 =>
  ke (call N_block_New [(.int .i64 8), (.int .i64 128)] h) <| fun v1 h0 =>
  kq (some v1) <| fun v2 =>
  kq (some v2) <| fun v3 =>
  kq (rBin .eql .ptr true v3 (.ptr none)) <| fun v4 =>
  kq (some v4) <| fun v5 =>
  kth (fun v19 h7 =>
  kIf v19 (
  kq (some (.bool false)) <| fun v20 =>
  some (v20, h7)) (
  kq (some v2) <| fun v21 =>
  ke (call N_retain_Open [v21, (.int .i64 2)] h7) <| fun v22 h8 =>
  kq (some v22) <| fun v23 =>
  kq (aExtract v23 0) <| fun v24 =>
  kq (aExtract v23 1) <| fun v25 =>
  kq (aExtract v23 2) <| fun v26 =>
  kq (aExtract v23 3) <| fun v27 =>
  kq (some v24) <| fun v28 =>
  kq (some v25) <| fun v29 =>
  kq (some v26) <| fun v30 =>
  kq (some v27) <| fun v31 =>
  kq (some v31) <| fun v32 =>
  kq (rBin .neq .no true v32 (.int .i64 0)) <| fun v33 =>
  kq (some v33) <| fun v34 =>
  kt (fun v48 =>
  kIf v48 (
  kq (some (.bool false)) <| fun v49 =>
  some (v49, h8)) (
  kq (some v28) <| fun v50 =>
  km (mBuildSl T_int64 1 [(.int .i64 0)] 2 [(0, (.int .i64 5)), (1, (.int .i64 (-6)))]) h8 <| fun v51 h10 =>
  ke (call N_retain_Journal_Lay [v50, (.int .u64 4), v51] h10) <| fun v52 h11 =>
  kq (some v28) <| fun v53 =>
  km (mBuildSl T_int64 1 [(.int .i64 0)] 1 [(0, (.int .i64 1))]) h11 <| fun v54 h12 =>
  ke (call N_retain_Journal_Lay [v53, (.int .u64 5), v54] h12) <| fun v55 h13 =>
  kq (some v52) <| fun v56 =>
  kq (some v55) <| fun v57 =>
  kq (some v2) <| fun v58 =>
  ke (call N_retain_Open [v58, (.int .i64 2)] h13) <| fun v59 h14 =>
  kq (some v59) <| fun v60 =>
  kq (aExtract v60 0) <| fun v61 =>
  kq (aExtract v60 1) <| fun v62 =>
  kq (aExtract v60 2) <| fun v63 =>
  kq (aExtract v60 3) <| fun v64 =>
  kq (some v61) <| fun v65 =>
  kq (some v62) <| fun v66 =>
  kq (some v63) <| fun v67 =>
  kq (some v64) <| fun v68 =>
  kq (some v2) <| fun v69 =>
  ke (call N_retain_Open [v69, (.int .i64 1000)] h14) <| fun v70 h15 =>
  kq (some v70) <| fun v71 =>
  kq (aExtract v71 0) <| fun v72 =>
  kq (aExtract v71 1) <| fun v73 =>
  kq (aExtract v71 2) <| fun v74 =>
  kq (aExtract v71 3) <| fun v75 =>
  kq (some v72) <| fun v76 =>
  kq (some v73) <| fun v77 =>
  kq (some v74) <| fun v78 =>
  kq (some v75) <| fun v79 =>
  kq (some v56) <| fun v80 =>
  kq (rBin .eql .no true v80 (.int .i64 0)) <| fun v81 =>
  kq (some v81) <| fun v82 =>
  kth (fun v118 h24 =>
  kq (some v118) <| fun v119 =>
  some (v119, h24)) <| fun j83 =>
  kgq v82 true (fun k => kq (some v57) k) <| fun v84 =>
  kgq v82 true (fun k => kq (rBin .eql .no true v84 (.int .i64 90)) k) <| fun v85 =>
  kq (rPick v82 v85 (.bool false)) <| fun v86 =>
  kq (some v86) <| fun v87 =>
  kgq v87 true (fun k => kq (some v68) k) <| fun v88 =>
  kgq v87 true (fun k => kq (rBin .eql .no true v88 (.int .i64 0)) k) <| fun v89 =>
  kq (rPick v87 v89 (.bool false)) <| fun v90 =>
  kq (some v90) <| fun v91 =>
  kgq v91 true (fun k => kq (some v67) k) <| fun v92 =>
  kgq v91 true (fun k => kq (rBin .eql .no true v92 (.int .i64 1)) k) <| fun v93 =>
  kq (rPick v91 v93 (.bool false)) <| fun v94 =>
  kq (some v94) <| fun v95 =>
  kgq v95 true (fun k => kq (some v66) k) <| fun v96 =>
  kgh v95 true h15 (fun k => km (mBuildSl T_int64 1 [(.int .i64 0)] 2 [(0, (.int .i64 5)), (1, (.int .i64 (-6)))]) h15 <| fun v97 h16 =>
  k v97 h16) <| fun v98 h17 =>
  kgh v95 true h17 (fun k => ke (call N_runghelp_Nums [v96, v98] h17) <| fun v99 h18 =>
  k v99 h18) <| fun v100 h19 =>
  kq (rPick v95 v100 (.bool false)) <| fun v101 =>
  kq (some v101) <| fun v102 =>
  kgq v102 true (fun k => kq (some v28) k) <| fun v103 =>
  kgh v102 true h19 (fun k => ke (call N_retain_Journal_Laid [v103] h19) <| fun v104 h20 =>
  k v104 h20) <| fun v105 h21 =>
  kgq v102 true (fun k => kq (rBin .eql .no true v105 (.int .u64 1)) k) <| fun v106 =>
  kq (rPick v102 v106 (.bool false)) <| fun v107 =>
  kq (some v107) <| fun v108 =>
  kgq v108 true (fun k => kq (some v28) k) <| fun v109 =>
  kgh v108 true h21 (fun k => ke (call N_retain_Journal_Scan [v109] h21) <| fun v110 h22 =>
  k v110 h22) <| fun v111 h23 =>
  kgq v108 true (fun k => kq (rBin .eql .no true v111 (.int .u64 4)) k) <| fun v112 =>
  kq (rPick v108 v112 (.bool false)) <| fun v113 =>
  kq (some v113) <| fun v114 =>
  kgq v114 true (fun k => kq (some v79) k) <| fun v115 =>
  kgq v114 true (fun k => kq (rBin .eql .no true v115 (.int .i64 90)) k) <| fun v116 =>
  kq (rPick v114 v116 (.bool false)) <| fun v117 =>
  j83 v117 h23)) <| fun j35 =>
  kgq v34 false (fun k => kq (some v28) k) <| fun v36 =>
  kgq v34 false (fun k => kq (rBin .eql .ptr true v36 (.ptr none)) k) <| fun v37 =>
  kq (rPick v34 (.bool true) v37) <| fun v38 =>
  kq (some v38) <| fun v39 =>
  kgq v39 false (fun k => kq (some v30) k) <| fun v40 =>
  kgq v39 false (fun k => kq (rBin .neq .no true v40 (.int .i64 0)) k) <| fun v41 =>
  kq (rPick v39 (.bool true) v41) <| fun v42 =>
  kq (some v42) <| fun v43 =>
  kgq v43 false (fun k => kq (some v29) k) <| fun v44 =>
  kgq v43 false (fun k => kq (rLen v44) k) <| fun v45 =>
  kgq v43 false (fun k => kq (rBin .neq .no true v45 (.int .i64 0)) k) <| fun v46 =>
  kq (rPick v43 (.bool true) v46) <| fun v47 =>
  j35 v47)) <| fun j6 =>
  kgq v5 false (fun k => kq (some v2) k) <| fun v7 =>
  kgh v5 false h0 (fun k => ke (call N_retain_Room [v7] h0) <| fun v8 h1 =>
  k v8 h1) <| fun v9 h2 =>
  kgq v5 false (fun k => kq (rBin .lss .no true v9 (.int .i64 8)) k) <| fun v10 =>
  kq (rPick v5 (.bool true) v10) <| fun v11 =>
  kq (some v11) <| fun v12 =>
  kgh v12 false h2 (fun k => ke (call N_block_New [(.int .i64 3), (.int .i64 512)] h2) <| fun v13 h3 =>
  k v13 h3) <| fun v14 h4 =>
  kgh v12 false h4 (fun k => ke (call N_retain_Room [v14] h4) <| fun v15 h5 =>
  k v15 h5) <| fun v16 h6 =>
  kgq v12 false (fun k => kq (rBin .neq .no true v16 (.int .i64 0)) k) <| fun v17 =>
  kq (rPick v12 (.bool true) v17) <| fun v18 =>
  j6 v18 h6
theorem F_runglaw9_known_eq (call callD : ACall) (h : AH) : kFunc Try.prog [] call callD N_runglaw9_known [] h = F_runglaw9_known call callD h := by kernel_rfl
theorem C_runglaw9_known {ov : AOver} (hov : ov N_runglaw9_known = none) (n : Nat) (h : AH) : kcall Try.prog [] ov (n + 1) N_runglaw9_known [] h = F_runglaw9_known (kcall Try.prog [] ov n) (kFuncD Try.prog [] (kcall Try.prog [] ov n)) h := by
  rw [← F_runglaw9_known_eq]; simp only [kcall, hov]

/-- rung/block.New -/
def L_block_New_0 (call callD : ACall) (v9 : AVal) (v6 : AVal) : (List AVal → AH → Ans) → List AVal → AH → Ans := fun j12 l11 h1 =>
  kq (rBin .lss .no false (gd l11 0) v9) <| fun v13 =>
  kIf v13 (
  kq (some v6) <| fun v14 =>
  kq (some v6) <| fun v15 =>
  kq (aNilCheck v15) <| fun v16 =>
  kq (rFieldP 0 v16) <| fun v17 =>
  kq (rLoad v17 h1) <| fun v18 =>
  kq (some v6) <| fun v19 =>
  kq (aNilCheck v19) <| fun v20 =>
  kq (rFieldP 1 v20) <| fun v21 =>
  kq (rLoad v21 h1) <| fun v22 =>
  km (mMakeSl T_uint8 1 1 [(.int .u8 0)] v22 v22) h1 <| fun v23 h2 =>
  km (mBuildSl T___uint8 1 [(.slice none 0 0)] 1 [(0, v23)]) h2 <| fun v24 h3 =>
  kChk (!true || kSame (rLoad v21 h3) v22) <|
  kChk (!true || kSame (rLoad v17 h3) v18) <|
  ke (rAppend T___uint8 1 24 v18 v24 h3) <| fun v25 h4 =>
  kq (aNilCheck v14) <| fun v26 =>
  kq (rFieldP 0 v26) <| fun v27 =>
  kChk (!false || kSame (rLoad v21 h4) v22) <|
  kChk (!false || kSame (rLoad v17 h4) v18) <|
  ke ((rStore 1 v27 v25 h4).map fun h' => (.tuple [], h')) <| fun v28 h5 =>
  kChk (!false || kSame (rLoad v21 h5) v22) <|
  kChk (!false || kSame (rLoad v17 h5) v18) <|
  kq (rBin .add .no true (gd l11 0) (.int .i64 1)) <| fun v29 =>
  kq (some v29) <| fun v30 =>
  j12 [v30] h5) (
  kq (some v6) <| fun v31 =>
  kq (some v31) <| fun v32 =>
  some (v32, h1))
def F_block_New (call callD : ACall) (a0 a1 : AVal) (h : AH) : Ans :=
  kq (some (.ptr none)) <| fun v0 =>
  kq (some a1) <| fun v1 =>
  kq (aMM aMax2 [v1, (.int .i64 16)]) <| fun v2 =>
  kq (aMM aMin2 [v2, (.int .i64 4096)]) <| fun v3 =>
  kq (rBuild [(.slice none 0 0), (.int .i64 0), (.int .i64 0), (.int .i64 0), (.int .i64 0), (.bool false)] [(0, 1), (1, 1), (2, 1), (3, 1), (4, 1), (5, 1)] [(1, v3), (3, (.int .i64 (-1)))]) <| fun v4 =>
  km (pBox T_block_Store v4) h <| fun v5 h0 =>
  kq (some v5) <| fun v6 =>
  kq (some a0) <| fun v7 =>
  kq (aMM aMax2 [v7, (.int .i64 1)]) <| fun v8 =>
  kq (aMM aMin2 [v8, (.int .i64 64)]) <| fun v9 =>
  kq (some (.int .i64 0)) <| fun v10 =>
  kLoop (L_block_New_0 call callD v9 v6) rounds [v10] h0
theorem F_block_New_eq (call callD : ACall) (a0 a1 : AVal) (h : AH) : kFunc Try.prog [] call callD N_block_New [a0, a1] h = F_block_New call callD a0 a1 h := by kernel_rfl
theorem C_block_New {ov : AOver} (H : Plain ov) (n : Nat) (a0 a1 : AVal) (h : AH) : kc ov (n + 1) N_block_New [a0, a1] h = F_block_New (kc ov n) (kd ov n) a0 a1 h := by
  have hov : ov N_block_New = none := H _ (by decide)
  unfold kc kd; rw [← F_block_New_eq]; simp only [kcall, hov]

/-- rung/retain.Room -/
def F_retain_Room (call callD : ACall) (a0 : AVal) (h : AH) : Ans :=
  kq (some (.int .i64 0)) <| fun v0 =>
  kq (some a0) <| fun v1 =>
  ke (call N_block_Store_Blocks [v1] h) <| fun v2 h0 =>
  kq (rBin .lss .no true v2 (.int .i64 4)) <| fun v3 =>
  kq (some v3) <| fun v4 =>
  kth (fun v11 h3 =>
  kIf v11 (
  kq (some (.int .i64 0)) <| fun v12 =>
  some (v12, h3)) (
  kq (some a0) <| fun v13 =>
  ke (call N_block_Store_Size [v13] h3) <| fun v14 h4 =>
  kq (rBin .sub .no true v14 (.int .i64 24)) <| fun v15 =>
  kq (rBin .sub .no true v15 (.int .i64 4)) <| fun v16 =>
  kq (rBin .quo .no true v16 (.int .i64 8)) <| fun v17 =>
  kq (some v17) <| fun v18 =>
  some (v18, h4))) <| fun j5 =>
  kgq v4 false (fun k => kq (some a0) k) <| fun v6 =>
  kgh v4 false h0 (fun k => ke (call N_block_Store_Size [v6] h0) <| fun v7 h1 =>
  k v7 h1) <| fun v8 h2 =>
  kgq v4 false (fun k => kq (rBin .lss .no true v8 (.int .i64 64)) k) <| fun v9 =>
  kq (rPick v4 (.bool true) v9) <| fun v10 =>
  j5 v10 h2
theorem F_retain_Room_eq (call callD : ACall) (a0 : AVal) (h : AH) : kFunc Try.prog [] call callD N_retain_Room [a0] h = F_retain_Room call callD a0 h := by kernel_rfl
theorem C_retain_Room {ov : AOver} (H : Plain ov) (n : Nat) (a0 : AVal) (h : AH) : kc ov (n + 1) N_retain_Room [a0] h = F_retain_Room (kc ov n) (kd ov n) a0 h := by
  have hov : ov N_retain_Room = none := H _ (by decide)
  unfold kc kd; rw [← F_retain_Room_eq]; simp only [kcall, hov]

/-- (*rung/block.Store).Blocks -/
def F_block_Store_Blocks (call callD : ACall) (a0 : AVal) (h : AH) : Ans :=
  kq (some (.int .i64 0)) <| fun v0 =>
  kq (some a0) <| fun v1 =>
  kq (aNilCheck v1) <| fun v2 =>
  kq (rFieldP 0 v2) <| fun v3 =>
  kq (rLoad v3 h) <| fun v4 =>
  kq (rLen v4) <| fun v5 =>
  kq (some v5) <| fun v6 =>
  some (v6, h)
theorem F_block_Store_Blocks_eq (call callD : ACall) (a0 : AVal) (h : AH) : kFunc Try.prog [] call callD N_block_Store_Blocks [a0] h = F_block_Store_Blocks call callD a0 h := by kernel_rfl
theorem C_block_Store_Blocks {ov : AOver} (H : Plain ov) (n : Nat) (a0 : AVal) (h : AH) : kc ov (n + 1) N_block_Store_Blocks [a0] h = F_block_Store_Blocks (kc ov n) (kd ov n) a0 h := by
  have hov : ov N_block_Store_Blocks = none := H _ (by decide)
  unfold kc kd; rw [← F_block_Store_Blocks_eq]; simp only [kcall, hov]

/-- (*rung/block.Store).Size -/
def F_block_Store_Size (call callD : ACall) (a0 : AVal) (h : AH) : Ans :=
  kq (some (.int .i64 0)) <| fun v0 =>
  kq (some a0) <| fun v1 =>
  kq (aNilCheck v1) <| fun v2 =>
  kq (rFieldP 1 v2) <| fun v3 =>
  kq (rLoad v3 h) <| fun v4 =>
  kq (some v4) <| fun v5 =>
  some (v5, h)
theorem F_block_Store_Size_eq (call callD : ACall) (a0 : AVal) (h : AH) : kFunc Try.prog [] call callD N_block_Store_Size [a0] h = F_block_Store_Size call callD a0 h := by kernel_rfl
theorem C_block_Store_Size {ov : AOver} (H : Plain ov) (n : Nat) (a0 : AVal) (h : AH) : kc ov (n + 1) N_block_Store_Size [a0] h = F_block_Store_Size (kc ov n) (kd ov n) a0 h := by
  have hov : ov N_block_Store_Size = none := H _ (by decide)
  unfold kc kd; rw [← F_block_Store_Size_eq]; simp only [kcall, hov]

/-- rung/retain.Open -/
def L_retain_Open_0 (call callD : ACall) (a0 : AVal) (v49 : AVal) (a1 : AVal) (v51 : AVal) : (List AVal → AH → Ans) → List AVal → AH → Ans := fun j54 l53 h10 =>
  kq (rBin .lss .no true (gd l53 1) (.int .i64 2)) <| fun v55 =>
  kIf v55 (
  kq (some (gd l53 1)) <| fun v56 =>
  kq (some v56) <| fun v57 =>
  kq (some a0) <| fun v58 =>
  kq (some v57) <| fun v59 =>
  ke (call N_block_Store_Read [v58, v59] h10) <| fun v60 h11 =>
  kq (some v60) <| fun v61 =>
  kq (aExtract v61 0) <| fun v62 =>
  kq (aExtract v61 1) <| fun v63 =>
  kq (some v62) <| fun v64 =>
  kq (some v63) <| fun v65 =>
  kq (some a0) <| fun v66 =>
  kq (some v57) <| fun v67 =>
  kq (rBin .add .no true (.int .i64 2) v67) <| fun v68 =>
  ke (call N_block_Store_Read [v66, v68] h11) <| fun v69 h12 =>
  kq (some v69) <| fun v70 =>
  kq (aExtract v70 0) <| fun v71 =>
  kq (aExtract v70 1) <| fun v72 =>
  kq (some v71) <| fun v73 =>
  kq (some v72) <| fun v74 =>
  kq (some v65) <| fun v75 =>
  kq (rBin .neq .no true v75 (.int .i64 0)) <| fun v76 =>
  kq (some v76) <| fun v77 =>
  kt (fun v82 =>
  kIf v82 (
  kq (some v65) <| fun v83 =>
  kq (some v74) <| fun v84 =>
  kq (aMM aMax2 [v83, v84]) <| fun v85 =>
  kq (some (.ptr none)) <| fun v86 =>
  kq (some (.slice none 0 0)) <| fun v87 =>
  kq (some (.int .i64 0)) <| fun v88 =>
  kq (some v85) <| fun v89 =>
  some (.tuple [v86, v87, v88, v89], h12)) (
  kq (some v64) <| fun v90 =>
  ke (call N_retain_slotOf [v90] h12) <| fun v91 h14 =>
  km (pBox T_retain_slot (.agg [(.int .u64 0), (.int .u64 0), (.slice none 0 0), (.bool false)])) h14 <| fun v92 h15 =>
  ke ((rStore 4 v92 v91 h15).map fun h' => (.tuple [], h')) <| fun v93 h16 =>
  kq (some v49) <| fun v94 =>
  kq (some v49) <| fun v95 =>
  kq (aNilCheck v95) <| fun v96 =>
  kq (rFieldP 4 v96) <| fun v97 =>
  kq (rLoad v97 h16) <| fun v98 =>
  kq (rFieldP 0 v92) <| fun v99 =>
  kq (rLoad v99 h16) <| fun v100 =>
  kq (rBin .add .no true v100 (.int .u64 1)) <| fun v101 =>
  kq (some v73) <| fun v102 =>
  ke (call N_retain_numberOf [v102] h16) <| fun v103 h17 =>
  kq (rBin .add .no true v103 (.int .u64 1)) <| fun v104 =>
  kq (aMM aMax2 [v98, v101, v104]) <| fun v105 =>
  kq (aNilCheck v94) <| fun v106 =>
  kq (rFieldP 4 v106) <| fun v107 =>
  kChk (!true || kSame (rLoad v99 h17) v100) <|
  kChk (!true || kSame (rLoad v97 h17) v98) <|
  ke ((rStore 1 v107 v105 h17).map fun h' => (.tuple [], h')) <| fun v108 h18 =>
  kChk (!false || kSame (rLoad v99 h18) v100) <|
  kChk (!false || kSame (rLoad v97 h18) v98) <|
  kq (some v73) <| fun v109 =>
  ke (call N_retain_was [v109] h18) <| fun v110 h19 =>
  kj (fun l111 h20 =>
  kq (rFieldP 3 v92) <| fun v113 =>
  kq (rLoad v113 h20) <| fun v114 =>
  kq (some v114) <| fun v115 =>
  kgq v115 true (fun k => kq (some v73) k) <| fun v116 =>
  kgq v115 true (fun k => kq (rFieldP 0 v92) k) <| fun v117 =>
  kgq v115 true (fun k => kq (rLoad v117 h20) k) <| fun v118 =>
  kgh v115 true h20 (fun k => ke (call N_retain_numberOf [v116] h20) k) <| fun v119 h21 =>
  kgq v115 true (fun k => kq (rBin .eql .no false v119 v118) k) <| fun v120 =>
  kq (rPick v115 v120 (.bool false)) <| fun v121 =>
  kq (some v121) <| fun v122 =>
  kgq v122 true (fun k => kq (rFieldP 2 v92) k) <| fun v123 =>
  kgq v122 true (fun k => kq (rLoad v123 h21) k) <| fun v124 =>
  kgq v122 true (fun k => kq (rLen v124) k) <| fun v125 =>
  kgq v122 true (fun k => kq (some a1) k) <| fun v126 =>
  kgq v122 true (fun k => kq (rBin .eql .no false v125 v126) k) <| fun v127 =>
  kq (rPick v122 v127 (.bool false)) <| fun v128 =>
  kq (some v128) <| fun v129 =>
  kgq v129 true (fun k => kq (rFieldP 0 v92) k) <| fun v130 =>
  kgq v129 true (fun k => kq (rLoad v130 h21) k) <| fun v131 =>
  kgq v129 true (fun k => kq (rFieldP 0 v51) k) <| fun v132 =>
  kgq v129 true (fun k => kq (rLoad v132 h21) k) <| fun v133 =>
  kgq v129 true (fun k => kq (rBin .gtr .no false v131 v133) k) <| fun v134 =>
  kq (rPick v129 v134 (.bool false)) <| fun v135 =>
  kChk (!gOn v115 true || kSame (rLoad v117 h21) v118) <|
  kChk (!(true && !gOn v115 true) || kSame (rLoad v113 h21) v114) <|
  kj (fun l136 h22 =>
  kq (rBin .add .no true (gd l53 1) (.int .i64 1)) <| fun v138 =>
  kq (some v138) <| fun v139 =>
  j54 [(gd l111 0), v139] h22) <| fun j137 =>
  kIf v135 (
  kq (some v49) <| fun v140 =>
  kq (some v49) <| fun v141 =>
  kq (rLoadA 4 v92 h21) <| fun v142 =>
  kq (some v57) <| fun v143 =>
  kq (rFieldP 1 v92) <| fun v144 =>
  kq (rLoad v144 h21) <| fun v145 =>
  ke ((rStore 4 v51 v142 h21).map fun h' => (.tuple [], h')) <| fun v146 h23 =>
  kq (aNilCheck v140) <| fun v147 =>
  kq (rFieldP 3 v147) <| fun v148 =>
  kChk (!true || kSame (rLoad v144 h23) v145) <|
  kChk (!false || kSame (rLoadA 4 v92 h23) v142) <|
  ke ((rStore 1 v148 v143 h23).map fun h' => (.tuple [], h')) <| fun v149 h24 =>
  kq (aNilCheck v141) <| fun v150 =>
  kq (rFieldP 2 v150) <| fun v151 =>
  kChk (!true || kSame (rLoad v144 h24) v145) <|
  kChk (!false || kSame (rLoadA 4 v92 h24) v142) <|
  ke ((rStore 1 v151 v145 h24).map fun h' => (.tuple [], h')) <| fun v152 h25 =>
  kChk (!false || kSame (rLoad v144 h25) v145) <|
  kChk (!false || kSame (rLoadA 4 v92 h25) v142) <|
  j137 [] h25) (
  j137 [] h21)) <| fun j112 =>
  kIf v110 (
  kq (some (.int .i64 2)) <| fun v153 =>
  j112 [v153] h19) (
  j112 [(gd l53 0)] h19))) <| fun j78 =>
  kgq v77 false (fun k => kq (some v74) k) <| fun v79 =>
  kgq v77 false (fun k => kq (rBin .neq .no true v79 (.int .i64 0)) k) <| fun v80 =>
  kq (rPick v77 (.bool true) v80) <| fun v81 =>
  j78 v81) (
  kq (some v49) <| fun v154 =>
  kq (aNilCheck v154) <| fun v155 =>
  kq (rFieldP 3 v155) <| fun v156 =>
  kq (rLoad v156 h10) <| fun v157 =>
  kq (rBin .geq .no true v157 (.int .i64 0)) <| fun v158 =>
  kj (fun l159 h26 =>
  kq (some v49) <| fun v161 =>
  kq (rFieldP 2 v51) <| fun v162 =>
  kq (rLoad v162 h26) <| fun v163 =>
  kq (some (gd l159 0)) <| fun v164 =>
  kq (some v161) <| fun v165 =>
  kq (some v163) <| fun v166 =>
  kq (some v164) <| fun v167 =>
  kq (some (.int .i64 0)) <| fun v168 =>
  some (.tuple [v165, v166, v167, v168], h26)) <| fun j160 =>
  kIf v158 (
  kq (some (.int .i64 1)) <| fun v169 =>
  j160 [v169] h10) (
  j160 [(gd l53 0)] h10))
def F_retain_Open (call callD : ACall) (a0 a1 : AVal) (h : AH) : Ans :=
  kq (some (.ptr none)) <| fun v0 =>
  kq (some (.slice none 0 0)) <| fun v1 =>
  kq (some (.int .i64 0)) <| fun v2 =>
  kq (some (.int .i64 0)) <| fun v3 =>
  kq (some a0) <| fun v4 =>
  ke (call N_block_Store_Read [v4, (.int .i64 0)] h) <| fun v5 h0 =>
  kq (some v5) <| fun v6 =>
  kq (aExtract v6 0) <| fun v7 =>
  kq (aExtract v6 1) <| fun v8 =>
  kq (some v7) <| fun v9 =>
  kq (some v8) <| fun v10 =>
  kq (some v10) <| fun v11 =>
  kq (rBin .neq .no true v11 (.int .i64 0)) <| fun v12 =>
  kIf v12 (
  kq (some v10) <| fun v13 =>
  kq (some (.ptr none)) <| fun v14 =>
  kq (some (.slice none 0 0)) <| fun v15 =>
  kq (some (.int .i64 0)) <| fun v16 =>
  kq (some v13) <| fun v17 =>
  some (.tuple [v14, v15, v16, v17], h0)) (
  kq (some a1) <| fun v18 =>
  kq (rBin .lss .no true v18 (.int .i64 0)) <| fun v19 =>
  kq (some v19) <| fun v20 =>
  kth (fun v40 h7 =>
  kIf v40 (
  kq (some (.ptr none)) <| fun v41 =>
  kq (some (.slice none 0 0)) <| fun v42 =>
  kq (some (.int .i64 0)) <| fun v43 =>
  kq (some (.int .i64 90)) <| fun v44 =>
  some (.tuple [v41, v42, v43, v44], h7)) (
  kq (some a0) <| fun v45 =>
  kq (some a1) <| fun v46 =>
  kq (rBuild [(.ptr none), (.int .i64 0), (.int .u64 0), (.int .i64 0), (.int .u64 0), (.int .u64 0)] [(0, 1), (1, 1), (2, 1), (3, 1), (4, 1), (5, 1)] [(0, v45), (1, v46), (3, (.int .i64 (-1))), (4, (.int .u64 1))]) <| fun v47 =>
  km (pBox T_retain_Journal v47) h7 <| fun v48 h8 =>
  kq (some v48) <| fun v49 =>
  kq (some (.int .i64 0)) <| fun v50 =>
  km (pBox T_retain_slot (.agg [(.int .u64 0), (.int .u64 0), (.slice none 0 0), (.bool false)])) h8 <| fun v51 h9 =>
  kq (some (.int .i64 0)) <| fun v52 =>
  kLoop (L_retain_Open_0 call callD a0 v49 a1 v51) rounds [v50, v52] h9)) <| fun j21 =>
  kgq v20 false (fun k => kq (some a1) k) <| fun v22 =>
  kgq v20 false (fun k => kq (some a0) k) <| fun v23 =>
  kgh v20 false h0 (fun k => ke (call N_retain_Room [v23] h0) <| fun v24 h1 =>
  k v24 h1) <| fun v25 h2 =>
  kgq v20 false (fun k => kq (rBin .gtr .no false v22 v25) k) <| fun v26 =>
  kq (rPick v20 (.bool true) v26) <| fun v27 =>
  kq (some v27) <| fun v28 =>
  kgq v28 false (fun k => kq (some a0) k) <| fun v29 =>
  kgh v28 false h2 (fun k => ke (call N_block_Store_Blocks [v29] h2) <| fun v30 h3 =>
  k v30 h3) <| fun v31 h4 =>
  kgq v28 false (fun k => kq (rBin .lss .no true v31 (.int .i64 4)) k) <| fun v32 =>
  kq (rPick v28 (.bool true) v32) <| fun v33 =>
  kq (some v33) <| fun v34 =>
  kgq v34 false (fun k => kq (some a0) k) <| fun v35 =>
  kgh v34 false h4 (fun k => ke (call N_block_Store_Size [v35] h4) <| fun v36 h5 =>
  k v36 h5) <| fun v37 h6 =>
  kgq v34 false (fun k => kq (rBin .lss .no true v37 (.int .i64 64)) k) <| fun v38 =>
  kq (rPick v34 (.bool true) v38) <| fun v39 =>
  j21 v39 h6)
theorem F_retain_Open_eq (call callD : ACall) (a0 a1 : AVal) (h : AH) : kFunc Try.prog [] call callD N_retain_Open [a0, a1] h = F_retain_Open call callD a0 a1 h := by kernel_rfl
theorem C_retain_Open {ov : AOver} (H : Plain ov) (n : Nat) (a0 a1 : AVal) (h : AH) : kc ov (n + 1) N_retain_Open [a0, a1] h = F_retain_Open (kc ov n) (kd ov n) a0 a1 h := by
  have hov : ov N_retain_Open = none := H _ (by decide)
  unfold kc kd; rw [← F_retain_Open_eq]; simp only [kcall, hov]

/-- (*rung/retain.Journal).Lay -/
def L_retain_Journal_Lay_0 (call callD : ACall) (v38 : AVal) (v37 : AVal) (a0 : AVal) (l21 : List AVal) (a1 : AVal) : (List AVal → AH → Ans) → List AVal → AH → Ans := fun j41 l40 h4 =>
  kq (rBin .lss .no false (gd l40 1) v38) <| fun v42 =>
  kIf v42 (
  kq (rAt 1 v37 (gd l40 1)) <| fun v43 =>
  kq (rLoad v43 h4) <| fun v44 =>
  kq (some v44) <| fun v45 =>
  kq (some (gd l40 0)) <| fun v46 =>
  kq (some v45) <| fun v47 =>
  kq (rConvI .u64 v47) <| fun v48 =>
  ke (call N_retain_put [v46, v48, (.int .i64 8)] h4) <| fun v49 h5 =>
  kq (some v49) <| fun v50 =>
  kq (rBin .add .no true (gd l40 1) (.int .i64 1)) <| fun v51 =>
  kq (some v51) <| fun v52 =>
  j41 [v50, v52] h5) (
  kq (some (gd l40 0)) <| fun v53 =>
  kq (some (gd l40 0)) <| fun v54 =>
  ke (call N_crc_Sum32 [v54] h4) <| fun v55 h6 =>
  kq (rConvI .u64 v55) <| fun v56 =>
  ke (call N_retain_put [v53, v56, (.int .i64 4)] h6) <| fun v57 h7 =>
  kq (some v57) <| fun v58 =>
  kq (some a0) <| fun v59 =>
  kq (aNilCheck v59) <| fun v60 =>
  kq (rFieldP 0 v60) <| fun v61 =>
  kq (rLoad v61 h7) <| fun v62 =>
  kq (some (gd l21 0)) <| fun v63 =>
  kq (some a0) <| fun v64 =>
  kq (some v58) <| fun v65 =>
  ke (call N_retain_Journal_block [v64, v65] h7) <| fun v66 h8 =>
  kChk (!true || kSame (rLoad v61 h8) v62) <|
  ke (call N_block_Store_Write [v62, v63, v66] h8) <| fun v67 h9 =>
  kq (some v67) <| fun v68 =>
  kChk (!false || kSame (rLoad v61 h9) v62) <|
  kq (some v68) <| fun v69 =>
  kq (rBin .neq .no true v69 (.int .i64 0)) <| fun v70 =>
  kIf v70 (
  kq (some v68) <| fun v71 =>
  kq (some v71) <| fun v72 =>
  some (v72, h9)) (
  kq (some a0) <| fun v73 =>
  kq (some a0) <| fun v74 =>
  kq (aNilCheck v74) <| fun v75 =>
  kq (rFieldP 4 v75) <| fun v76 =>
  kq (rLoad v76 h9) <| fun v77 =>
  ke (call N_retain_numbered [v77] h9) <| fun v78 h10 =>
  ke (call N_retain_Journal_block [v73, v78] h10) <| fun v79 h11 =>
  kq (some v79) <| fun v80 =>
  kq (some v80) <| fun v81 =>
  kq (some v80) <| fun v82 =>
  kq (rLen v82) <| fun v83 =>
  kq (rBin .sub .no true v83 (.int .i64 1)) <| fun v84 =>
  kq (rAt 1 v81 v84) <| fun v85 =>
  ke ((rStore 1 v85 (.int .u8 165) h11).map fun h' => (.tuple [], h')) <| fun v86 h12 =>
  kq (some a0) <| fun v87 =>
  kq (aNilCheck v87) <| fun v88 =>
  kq (rFieldP 0 v88) <| fun v89 =>
  kq (rLoad v89 h12) <| fun v90 =>
  kq (some (gd l21 0)) <| fun v91 =>
  kq (rBin .add .no true (.int .i64 2) v91) <| fun v92 =>
  kq (some v80) <| fun v93 =>
  ke (call N_block_Store_Write [v90, v92, v93] h12) <| fun v94 h13 =>
  kq (some v94) <| fun v95 =>
  kq (some v95) <| fun v96 =>
  kq (rBin .neq .no true v96 (.int .i64 0)) <| fun v97 =>
  kIf v97 (
  kq (some v95) <| fun v98 =>
  kq (some v98) <| fun v99 =>
  some (v99, h13)) (
  kq (some a0) <| fun v100 =>
  kq (some a0) <| fun v101 =>
  kq (some (gd l21 0)) <| fun v102 =>
  kq (some a1) <| fun v103 =>
  kq (aNilCheck v100) <| fun v104 =>
  kq (rFieldP 3 v104) <| fun v105 =>
  ke ((rStore 1 v105 v102 h13).map fun h' => (.tuple [], h')) <| fun v106 h14 =>
  kq (aNilCheck v101) <| fun v107 =>
  kq (rFieldP 2 v107) <| fun v108 =>
  ke ((rStore 1 v108 v103 h14).map fun h' => (.tuple [], h')) <| fun v109 h15 =>
  kq (some a0) <| fun v110 =>
  kq (aNilCheck v110) <| fun v111 =>
  kq (rFieldP 4 v111) <| fun v112 =>
  kq (rLoad v112 h15) <| fun v113 =>
  kq (rBin .add .no true v113 (.int .u64 1)) <| fun v114 =>
  kq (aNilCheck v110) <| fun v115 =>
  kq (rFieldP 4 v115) <| fun v116 =>
  ke ((rStore 1 v116 v114 h15).map fun h' => (.tuple [], h')) <| fun v117 h16 =>
  kq (some a0) <| fun v118 =>
  kq (aNilCheck v118) <| fun v119 =>
  kq (rFieldP 5 v119) <| fun v120 =>
  ke (call N_sync_atomic_Uint64_Add [v120, (.int .u64 1)] h16) <| fun v121 h17 =>
  kq (some (.int .i64 0)) <| fun v122 =>
  some (v122, h17))))
def F_retain_Journal_Lay (call callD : ACall) (a0 a1 a2 : AVal) (h : AH) : Ans :=
  kq (some (.int .i64 0)) <| fun v0 =>
  kq (some a2) <| fun v1 =>
  kq (rLen v1) <| fun v2 =>
  kq (some a0) <| fun v3 =>
  kq (aNilCheck v3) <| fun v4 =>
  kq (rFieldP 1 v4) <| fun v5 =>
  kq (rLoad v5 h) <| fun v6 =>
  kq (rBin .neq .no false v2 v6) <| fun v7 =>
  kIf v7 (
  kq (some (.int .i64 90)) <| fun v8 =>
  some (v8, h)) (
  kq (some a0) <| fun v9 =>
  kq (aNilCheck v9) <| fun v10 =>
  kq (rFieldP 3 v10) <| fun v11 =>
  kq (rLoad v11 h) <| fun v12 =>
  kq (aMM aMax2 [v12, (.int .i64 0)]) <| fun v13 =>
  kq (rBin .sub .no true (.int .i64 1) v13) <| fun v14 =>
  kq (some v14) <| fun v15 =>
  kq (some a0) <| fun v16 =>
  kq (aNilCheck v16) <| fun v17 =>
  kq (rFieldP 3 v17) <| fun v18 =>
  kq (rLoad v18 h) <| fun v19 =>
  kq (rBin .lss .no true v19 (.int .i64 0)) <| fun v20 =>
  kj (fun l21 h0 =>
  kq (some a0) <| fun v23 =>
  kq (aNilCheck v23) <| fun v24 =>
  kq (rFieldP 4 v24) <| fun v25 =>
  kq (rLoad v25 h0) <| fun v26 =>
  ke (call N_retain_numbered [v26] h0) <| fun v27 h1 =>
  kq (some a2) <| fun v28 =>
  kq (rLen v28) <| fun v29 =>
  kq (rConvI .u64 v29) <| fun v30 =>
  ke (call N_retain_put [v27, v30, (.int .i64 4)] h1) <| fun v31 h2 =>
  kq (some v31) <| fun v32 =>
  kq (some v32) <| fun v33 =>
  kq (some a1) <| fun v34 =>
  ke (call N_retain_put [v33, v34, (.int .i64 8)] h2) <| fun v35 h3 =>
  kq (some v35) <| fun v36 =>
  kq (some a2) <| fun v37 =>
  kq (rLen v37) <| fun v38 =>
  kq (some (.int .i64 0)) <| fun v39 =>
  kLoop (L_retain_Journal_Lay_0 call callD v38 v37 a0 l21 a1) rounds [v36, v39] h3) <| fun j22 =>
  kIf v20 (
  kq (some (.int .i64 0)) <| fun v123 =>
  j22 [v123] h) (
  j22 [v15] h))
theorem F_retain_Journal_Lay_eq (call callD : ACall) (a0 a1 a2 : AVal) (h : AH) : kFunc Try.prog [] call callD N_retain_Journal_Lay [a0, a1, a2] h = F_retain_Journal_Lay call callD a0 a1 a2 h := by kernel_rfl
theorem C_retain_Journal_Lay {ov : AOver} (H : Plain ov) (n : Nat) (a0 a1 a2 : AVal) (h : AH) : kc ov (n + 1) N_retain_Journal_Lay [a0, a1, a2] h = F_retain_Journal_Lay (kc ov n) (kd ov n) a0 a1 a2 h := by
  have hov : ov N_retain_Journal_Lay = none := H _ (by decide)
  unfold kc kd; rw [← F_retain_Journal_Lay_eq]; simp only [kcall, hov]

/-- rung/runglaw9.numbers -/
def L_runglaw9_numbers_0 (call callD : ACall) (a1 : AVal) : (List AVal → AH → Ans) → List AVal → AH → Ans := fun j9 l8 h0 =>
  kq (some (gd l8 2)) <| fun v10 =>
  kq (some a1) <| fun v11 =>
  kq (rBin .lss .no false v10 v11) <| fun v12 =>
  kIf v12 (
  kq (some (gd l8 1)) <| fun v13 =>
  kq (rBin .mul .no true v13 (.int .u64 6364136223846793005)) <| fun v14 =>
  kq (rBin .add .no true v14 (.int .u64 1442695040888963407)) <| fun v15 =>
  kq (some v15) <| fun v16 =>
  kq (some (gd l8 0)) <| fun v17 =>
  kq (some v16) <| fun v18 =>
  kq (some (gd l8 2)) <| fun v19 =>
  kq (rBin .rem .no true v19 (.int .i64 50)) <| fun v20 =>
  kq (rConvI .u64 v20) <| fun v21 =>
  kq (rBin .shr .no false v18 v21) <| fun v22 =>
  kq (rConvI .i64 v22) <| fun v23 =>
  km (mBuildSl T_int64 1 [(.int .i64 0)] 1 [(0, v23)]) h0 <| fun v24 h1 =>
  ke (rAppend T_int64 1 8 v17 v24 h1) <| fun v25 h2 =>
  kq (some v25) <| fun v26 =>
  kq (some (gd l8 2)) <| fun v27 =>
  kq (rBin .add .no true v27 (.int .i64 1)) <| fun v28 =>
  kq (some v28) <| fun v29 =>
  j9 [v26, v16, v29] h2) (
  kq (some (gd l8 0)) <| fun v30 =>
  kq (some v30) <| fun v31 =>
  some (v31, h0))
def F_runglaw9_numbers (call callD : ACall) (a0 a1 : AVal) (h : AH) : Ans :=
  kq (some (.slice none 0 0)) <| fun v0 =>
  kq (some (.slice none 0 0)) <| fun v1 =>
  kq (some a0) <| fun v2 =>
  kq (rConvI .u64 v2) <| fun v3 =>
  kq (rBin .mul .no true v3 (.int .u64 11400714819323198485)) <| fun v4 =>
  kq (rBin .add .no true v4 (.int .u64 1)) <| fun v5 =>
  kq (some v5) <| fun v6 =>
  kq (some (.int .i64 0)) <| fun v7 =>
  kLoop (L_runglaw9_numbers_0 call callD a1) rounds [v1, v6, v7] h
theorem F_runglaw9_numbers_eq (call callD : ACall) (a0 a1 : AVal) (h : AH) : kFunc Try.prog [] call callD N_runglaw9_numbers [a0, a1] h = F_runglaw9_numbers call callD a0 a1 h := by kernel_rfl
theorem C_runglaw9_numbers {ov : AOver} (H : Plain ov) (n : Nat) (a0 a1 : AVal) (h : AH) : kc ov (n + 1) N_runglaw9_numbers [a0, a1] h = F_runglaw9_numbers (kc ov n) (kd ov n) a0 a1 h := by
  have hov : ov N_runglaw9_numbers = none := H _ (by decide)
  unfold kc kd; rw [← F_runglaw9_numbers_eq]; simp only [kcall, hov]

/-- rung/runghelp.Nums -/
def L_runghelp_Nums_0 (call callD : ACall) (a0 : AVal) (a1 : AVal) : (List AVal → AH → Ans) → List AVal → AH → Ans := fun j9 l8 h0 =>
  kq (some (gd l8 0)) <| fun v10 =>
  kq (some a0) <| fun v11 =>
  kq (rLen v11) <| fun v12 =>
  kq (rBin .lss .no false v10 v12) <| fun v13 =>
  kIf v13 (
  kq (some a0) <| fun v14 =>
  kq (some (gd l8 0)) <| fun v15 =>
  kq (rAt 1 v14 v15) <| fun v16 =>
  kq (rLoad v16 h0) <| fun v17 =>
  kq (some a1) <| fun v18 =>
  kq (some (gd l8 0)) <| fun v19 =>
  kq (rAt 1 v18 v19) <| fun v20 =>
  kq (rLoad v20 h0) <| fun v21 =>
  kq (rBin .neq .no false v17 v21) <| fun v22 =>
  kIf v22 (
  kq (some (.bool false)) <| fun v23 =>
  some (v23, h0)) (
  kq (some (gd l8 0)) <| fun v24 =>
  kq (rBin .add .no true v24 (.int .i64 1)) <| fun v25 =>
  kq (some v25) <| fun v26 =>
  j9 [v26] h0)) (
  kq (some (.bool true)) <| fun v27 =>
  some (v27, h0))
def F_runghelp_Nums (call callD : ACall) (a0 a1 : AVal) (h : AH) : Ans :=
  kq (some (.bool false)) <| fun v0 =>
  kq (some a0) <| fun v1 =>
  kq (rLen v1) <| fun v2 =>
  kq (some a1) <| fun v3 =>
  kq (rLen v3) <| fun v4 =>
  kq (rBin .neq .no false v2 v4) <| fun v5 =>
  kIf v5 (
  kq (some (.bool false)) <| fun v6 =>
  some (v6, h)) (
  kq (some (.int .i64 0)) <| fun v7 =>
  kLoop (L_runghelp_Nums_0 call callD a0 a1) rounds [v7] h)
theorem F_runghelp_Nums_eq (call callD : ACall) (a0 a1 : AVal) (h : AH) : kFunc Try.prog [] call callD N_runghelp_Nums [a0, a1] h = F_runghelp_Nums call callD a0 a1 h := by kernel_rfl
theorem C_runghelp_Nums {ov : AOver} (H : Plain ov) (n : Nat) (a0 a1 : AVal) (h : AH) : kc ov (n + 1) N_runghelp_Nums [a0, a1] h = F_runghelp_Nums (kc ov n) (kd ov n) a0 a1 h := by
  have hov : ov N_runghelp_Nums = none := H _ (by decide)
  unfold kc kd; rw [← F_runghelp_Nums_eq]; simp only [kcall, hov]

/-- rung/runglaw9.store -/
def F_runglaw9_store (call callD : ACall) (a0 : AVal) (h : AH) : Ans :=
  kq (some (.ptr none)) <| fun v0 =>
  kq (some a0) <| fun v1 =>
  ke (call N_runghelp_Place [v1, (.int .i64 300)] h) <| fun v2 h0 =>
  kq (rBin .add .no true (.int .i64 128) v2) <| fun v3 =>
  ke (call N_block_New [(.int .i64 8), v3] h0) <| fun v4 h1 =>
  kq (some v4) <| fun v5 =>
  some (v5, h1)
theorem F_runglaw9_store_eq (call callD : ACall) (a0 : AVal) (h : AH) : kFunc Try.prog [] call callD N_runglaw9_store [a0] h = F_runglaw9_store call callD a0 h := by kernel_rfl
theorem C_runglaw9_store {ov : AOver} (H : Plain ov) (n : Nat) (a0 : AVal) (h : AH) : kc ov (n + 1) N_runglaw9_store [a0] h = F_runglaw9_store (kc ov n) (kd ov n) a0 h := by
  have hov : ov N_runglaw9_store = none := H _ (by decide)
  unfold kc kd; rw [← F_runglaw9_store_eq]; simp only [kcall, hov]

/-- rung/runghelp.Place -/
def F_runghelp_Place (call callD : ACall) (a0 a1 : AVal) (h : AH) : Ans :=
  kq (some (.int .i64 0)) <| fun v0 =>
  kq (some a0) <| fun v1 =>
  kq (some a1) <| fun v2 =>
  kq (rBin .rem .no false v1 v2) <| fun v3 =>
  kq (some v3) <| fun v4 =>
  kq (some v4) <| fun v5 =>
  kq (rBin .lss .no true v5 (.int .i64 0)) <| fun v6 =>
  kj (fun l7 h0 =>
  kq (some (gd l7 0)) <| fun v9 =>
  kq (some v9) <| fun v10 =>
  some (v10, h0)) <| fun j8 =>
  kIf v6 (
  kq (some v4) <| fun v11 =>
  kq (some a1) <| fun v12 =>
  kq (rBin .add .no false v11 v12) <| fun v13 =>
  kq (some v13) <| fun v14 =>
  j8 [v14] h) (
  j8 [v4] h)
theorem F_runghelp_Place_eq (call callD : ACall) (a0 a1 : AVal) (h : AH) : kFunc Try.prog [] call callD N_runghelp_Place [a0, a1] h = F_runghelp_Place call callD a0 a1 h := by kernel_rfl
theorem C_runghelp_Place {ov : AOver} (H : Plain ov) (n : Nat) (a0 a1 : AVal) (h : AH) : kc ov (n + 1) N_runghelp_Place [a0, a1] h = F_runghelp_Place (kc ov n) (kd ov n) a0 a1 h := by
  have hov : ov N_runghelp_Place = none := H _ (by decide)
  unfold kc kd; rw [← F_runghelp_Place_eq]; simp only [kcall, hov]

/-- (*rung/retain.Journal).Scan -/
def F_retain_Journal_Scan (call callD : ACall) (a0 : AVal) (h : AH) : Ans :=
  kq (some (.int .u64 0)) <| fun v0 =>
  kq (some a0) <| fun v1 =>
  kq (aNilCheck v1) <| fun v2 =>
  kq (rFieldP 2 v2) <| fun v3 =>
  kq (rLoad v3 h) <| fun v4 =>
  kq (some v4) <| fun v5 =>
  some (v5, h)
theorem F_retain_Journal_Scan_eq (call callD : ACall) (a0 : AVal) (h : AH) : kFunc Try.prog [] call callD N_retain_Journal_Scan [a0] h = F_retain_Journal_Scan call callD a0 h := by kernel_rfl
theorem C_retain_Journal_Scan {ov : AOver} (H : Plain ov) (n : Nat) (a0 : AVal) (h : AH) : kc ov (n + 1) N_retain_Journal_Scan [a0] h = F_retain_Journal_Scan (kc ov n) (kd ov n) a0 h := by
  have hov : ov N_retain_Journal_Scan = none := H _ (by decide)
  unfold kc kd; rw [← F_retain_Journal_Scan_eq]; simp only [kcall, hov]

/-- (*rung/retain.Journal).Laid -/
def F_retain_Journal_Laid (call callD : ACall) (a0 : AVal) (h : AH) : Ans :=
  kq (some (.int .u64 0)) <| fun v0 =>
  kq (some a0) <| fun v1 =>
  kq (aNilCheck v1) <| fun v2 =>
  kq (rFieldP 5 v2) <| fun v3 =>
  ke (call N_sync_atomic_Uint64_Load [v3] h) <| fun v4 h0 =>
  kq (some v4) <| fun v5 =>
  some (v5, h0)
theorem F_retain_Journal_Laid_eq (call callD : ACall) (a0 : AVal) (h : AH) : kFunc Try.prog [] call callD N_retain_Journal_Laid [a0] h = F_retain_Journal_Laid call callD a0 h := by kernel_rfl
theorem C_retain_Journal_Laid {ov : AOver} (H : Plain ov) (n : Nat) (a0 : AVal) (h : AH) : kc ov (n + 1) N_retain_Journal_Laid [a0] h = F_retain_Journal_Laid (kc ov n) (kd ov n) a0 h := by
  have hov : ov N_retain_Journal_Laid = none := H _ (by decide)
  unfold kc kd; rw [← F_retain_Journal_Laid_eq]; simp only [kcall, hov]

/-- (*rung/block.Store).Cut -/
def F_block_Store_Cut (call callD : ACall) (a0 a1 a2 : AVal) (h : AH) : Ans :=
  kq (some a0) <| fun v0 =>
  kq (some a0) <| fun v1 =>
  kq (some a1) <| fun v2 =>
  kq (aMM aMax2 [v2, (.int .i64 (-1))]) <| fun v3 =>
  kq (some a2) <| fun v4 =>
  kq (aNilCheck v0) <| fun v5 =>
  kq (rFieldP 3 v5) <| fun v6 =>
  ke ((rStore 1 v6 v3 h).map fun h' => (.tuple [], h')) <| fun v7 h0 =>
  kq (aNilCheck v1) <| fun v8 =>
  kq (rFieldP 4 v8) <| fun v9 =>
  ke ((rStore 1 v9 v4 h0).map fun h' => (.tuple [], h')) <| fun v10 h1 =>
  some (.tuple [], h1)
theorem F_block_Store_Cut_eq (call callD : ACall) (a0 a1 a2 : AVal) (h : AH) : kFunc Try.prog [] call callD N_block_Store_Cut [a0, a1, a2] h = F_block_Store_Cut call callD a0 a1 a2 h := by kernel_rfl
theorem C_block_Store_Cut {ov : AOver} (H : Plain ov) (n : Nat) (a0 a1 a2 : AVal) (h : AH) : kc ov (n + 1) N_block_Store_Cut [a0, a1, a2] h = F_block_Store_Cut (kc ov n) (kd ov n) a0 a1 a2 h := by
  have hov : ov N_block_Store_Cut = none := H _ (by decide)
  unfold kc kd; rw [← F_block_Store_Cut_eq]; simp only [kcall, hov]

/-- (*rung/block.Store).Power -/
def F_block_Store_Power (call callD : ACall) (a0 : AVal) (h : AH) : Ans :=
  kq (some a0) <| fun v0 =>
  kq (some a0) <| fun v1 =>
  kq (aNilCheck v0) <| fun v2 =>
  kq (rFieldP 5 v2) <| fun v3 =>
  ke ((rStore 1 v3 (.bool false) h).map fun h' => (.tuple [], h')) <| fun v4 h0 =>
  kq (aNilCheck v1) <| fun v5 =>
  kq (rFieldP 3 v5) <| fun v6 =>
  ke ((rStore 1 v6 (.int .i64 (-1)) h0).map fun h' => (.tuple [], h')) <| fun v7 h1 =>
  some (.tuple [], h1)
theorem F_block_Store_Power_eq (call callD : ACall) (a0 : AVal) (h : AH) : kFunc Try.prog [] call callD N_block_Store_Power [a0] h = F_block_Store_Power call callD a0 h := by kernel_rfl
theorem C_block_Store_Power {ov : AOver} (H : Plain ov) (n : Nat) (a0 : AVal) (h : AH) : kc ov (n + 1) N_block_Store_Power [a0] h = F_block_Store_Power (kc ov n) (kd ov n) a0 h := by
  have hov : ov N_block_Store_Power = none := H _ (by decide)
  unfold kc kd; rw [← F_block_Store_Power_eq]; simp only [kcall, hov]

/-- (*rung/block.Store).Spoil -/
def F_block_Store_Spoil (call callD : ACall) (a0 a1 a2 a3 : AVal) (h : AH) : Ans :=
  kq (some a0) <| fun v0 =>
  kq (some a1) <| fun v1 =>
  ke (call N_block_Store_is [v0, v1] h) <| fun v2 h0 =>
  kq (rBin .eql .no true v2 (.int .i64 0)) <| fun v3 =>
  kq (some v3) <| fun v4 =>
  kt (fun v17 =>
  kj (fun l18 h2 =>
  some (.tuple [], h2)) <| fun j19 =>
  kIf v17 (
  kq (some a0) <| fun v20 =>
  kq (aNilCheck v20) <| fun v21 =>
  kq (rFieldP 0 v21) <| fun v22 =>
  kq (rLoad v22 h0) <| fun v23 =>
  kq (some a1) <| fun v24 =>
  kq (rAt 1 v23 v24) <| fun v25 =>
  kq (rLoad v25 h0) <| fun v26 =>
  kq (some a2) <| fun v27 =>
  kq (rAt 1 v26 v27) <| fun v28 =>
  kq (rLoad v28 h0) <| fun v29 =>
  kq (some a3) <| fun v30 =>
  kq (rBin .xor .no false v29 v30) <| fun v31 =>
  kq (rAt 1 v26 v27) <| fun v32 =>
  ke ((rStore 1 v32 v31 h0).map fun h' => (.tuple [], h')) <| fun v33 h3 =>
  j19 [] h3) (
  j19 [] h0)) <| fun j5 =>
  kgq v4 true (fun k => kq (some a2) k) <| fun v6 =>
  kgq v4 true (fun k => kq (rBin .geq .no true v6 (.int .i64 0)) k) <| fun v7 =>
  kq (rPick v4 v7 (.bool false)) <| fun v8 =>
  kq (some v8) <| fun v9 =>
  kgq v9 true (fun k => kq (some a2) k) <| fun v10 =>
  kgq v9 true (fun k => kq (some a0) k) <| fun v11 =>
  kgq v9 true (fun k => kq (aNilCheck v11) k) <| fun v12 =>
  kgq v9 true (fun k => kq (rFieldP 1 v12) k) <| fun v13 =>
  kgq v9 true (fun k => kq (rLoad v13 h0) k) <| fun v14 =>
  kgq v9 true (fun k => kq (rBin .lss .no false v10 v14) k) <| fun v15 =>
  kq (rPick v9 v15 (.bool false)) <| fun v16 =>
  j5 v16
theorem F_block_Store_Spoil_eq (call callD : ACall) (a0 a1 a2 a3 : AVal) (h : AH) : kFunc Try.prog [] call callD N_block_Store_Spoil [a0, a1, a2, a3] h = F_block_Store_Spoil call callD a0 a1 a2 a3 h := by kernel_rfl
theorem C_block_Store_Spoil {ov : AOver} (H : Plain ov) (n : Nat) (a0 a1 a2 a3 : AVal) (h : AH) : kc ov (n + 1) N_block_Store_Spoil [a0, a1, a2, a3] h = F_block_Store_Spoil (kc ov n) (kd ov n) a0 a1 a2 a3 h := by
  have hov : ov N_block_Store_Spoil = none := H _ (by decide)
  unfold kc kd; rw [← F_block_Store_Spoil_eq]; simp only [kcall, hov]

/-- (*rung/block.Store).Copy -/
def L_block_Store_Copy_0 (call callD : ACall) (v12 : AVal) (v11 : AVal) (v4 : AVal) : (List AVal → AH → Ans) → List AVal → AH → Ans := fun j15 l14 h3 =>
  kq (rBin .lss .no false (gd l14 0) v12) <| fun v16 =>
  kIf v16 (
  kq (rAt 1 v11 (gd l14 0)) <| fun v17 =>
  kq (rLoad v17 h3) <| fun v18 =>
  kq (some v18) <| fun v19 =>
  kq (rFieldP 0 v4) <| fun v20 =>
  kq (rLoad v20 h3) <| fun v21 =>
  kq (some v19) <| fun v22 =>
  ke (call N_slices_Clone___byte_byte_ [v22] h3) <| fun v23 h4 =>
  km (mBuildSl T___uint8 1 [(.slice none 0 0)] 1 [(0, v23)]) h4 <| fun v24 h5 =>
  kChk (!true || kSame (rLoad v20 h5) v21) <|
  ke (rAppend T___uint8 1 24 v21 v24 h5) <| fun v25 h6 =>
  kq (rFieldP 0 v4) <| fun v26 =>
  kChk (!false || kSame (rLoad v20 h6) v21) <|
  ke ((rStore 1 v26 v25 h6).map fun h' => (.tuple [], h')) <| fun v27 h7 =>
  kChk (!false || kSame (rLoad v20 h7) v21) <|
  kq (rBin .add .no true (gd l14 0) (.int .i64 1)) <| fun v28 =>
  kq (some v28) <| fun v29 =>
  j15 [v29] h7) (
  kq (some v4) <| fun v30 =>
  some (v30, h3))
def F_block_Store_Copy (call callD : ACall) (a0 : AVal) (h : AH) : Ans :=
  kq (some (.ptr none)) <| fun v0 =>
  kq (some a0) <| fun v1 =>
  kq (aNilCheck v1) <| fun v2 =>
  kq (rLoadA 6 v2 h) <| fun v3 =>
  km (pBox T_block_Store (.agg [(.slice none 0 0), (.int .i64 0), (.int .i64 0), (.int .i64 0), (.int .i64 0), (.bool false)])) h <| fun v4 h0 =>
  ke ((rStore 6 v4 v3 h0).map fun h' => (.tuple [], h')) <| fun v5 h1 =>
  kq (rFieldP 0 v4) <| fun v6 =>
  ke ((rStore 1 v6 (.slice none 0 0) h1).map fun h' => (.tuple [], h')) <| fun v7 h2 =>
  kq (some a0) <| fun v8 =>
  kq (aNilCheck v8) <| fun v9 =>
  kq (rFieldP 0 v9) <| fun v10 =>
  kq (rLoad v10 h2) <| fun v11 =>
  kq (rLen v11) <| fun v12 =>
  kq (some (.int .i64 0)) <| fun v13 =>
  kLoop (L_block_Store_Copy_0 call callD v12 v11 v4) rounds [v13] h2
theorem F_block_Store_Copy_eq (call callD : ACall) (a0 : AVal) (h : AH) : kFunc Try.prog [] call callD N_block_Store_Copy [a0] h = F_block_Store_Copy call callD a0 h := by kernel_rfl
theorem C_block_Store_Copy {ov : AOver} (H : Plain ov) (n : Nat) (a0 : AVal) (h : AH) : kc ov (n + 1) N_block_Store_Copy [a0] h = F_block_Store_Copy (kc ov n) (kd ov n) a0 h := by
  have hov : ov N_block_Store_Copy = none := H _ (by decide)
  unfold kc kd; rw [← F_block_Store_Copy_eq]; simp only [kcall, hov]

/-- (*rung/block.Store).Read -/
def F_block_Store_Read (call callD : ACall) (a0 a1 : AVal) (h : AH) : Ans :=
  kq (some (.slice none 0 0)) <| fun v0 =>
  kq (some (.int .i64 0)) <| fun v1 =>
  kq (some a0) <| fun v2 =>
  kq (some a1) <| fun v3 =>
  ke (call N_block_Store_is [v2, v3] h) <| fun v4 h0 =>
  kq (some v4) <| fun v5 =>
  kq (some v5) <| fun v6 =>
  kq (rBin .neq .no true v6 (.int .i64 0)) <| fun v7 =>
  kIf v7 (
  kq (some v5) <| fun v8 =>
  kq (some (.slice none 0 0)) <| fun v9 =>
  kq (some v8) <| fun v10 =>
  some (.tuple [v9, v10], h0)) (
  kq (some a0) <| fun v11 =>
  kq (aNilCheck v11) <| fun v12 =>
  kq (rFieldP 0 v12) <| fun v13 =>
  kq (rLoad v13 h0) <| fun v14 =>
  kq (some a1) <| fun v15 =>
  kq (rAt 1 v14 v15) <| fun v16 =>
  kq (rLoad v16 h0) <| fun v17 =>
  ke (call N_slices_Clone___byte_byte_ [v17] h0) <| fun v18 h1 =>
  kq (some v18) <| fun v19 =>
  kq (some (.int .i64 0)) <| fun v20 =>
  some (.tuple [v19, v20], h1))
theorem F_block_Store_Read_eq (call callD : ACall) (a0 a1 : AVal) (h : AH) : kFunc Try.prog [] call callD N_block_Store_Read [a0, a1] h = F_block_Store_Read call callD a0 a1 h := by kernel_rfl
theorem C_block_Store_Read {ov : AOver} (H : Plain ov) (n : Nat) (a0 a1 : AVal) (h : AH) : kc ov (n + 1) N_block_Store_Read [a0, a1] h = F_block_Store_Read (kc ov n) (kd ov n) a0 a1 h := by
  have hov : ov N_block_Store_Read = none := H _ (by decide)
  unfold kc kd; rw [← F_block_Store_Read_eq]; simp only [kcall, hov]

/-- rung/retain.slotOf -/
def L_retain_slotOf_0 (call callD : ACall) (v27 : AVal) (v4 : AVal) (a0 : AVal) (v0 : AVal) : (List AVal → AH → Ans) → List AVal → AH → Ans := fun j30 l29 h7 =>
  kq (some (gd l29 0)) <| fun v31 =>
  kq (some v27) <| fun v32 =>
  kq (rBin .lss .no false v31 v32) <| fun v33 =>
  kIf v33 (
  kq (rFieldP 2 v4) <| fun v34 =>
  kq (rLoad v34 h7) <| fun v35 =>
  kq (some a0) <| fun v36 =>
  kq (some (gd l29 0)) <| fun v37 =>
  kq (some (gd l29 0)) <| fun v38 =>
  kq (rBin .add .no true v38 (.int .i64 8)) <| fun v39 =>
  kq (rCut 1 v36 (some v37) (some v39) none) <| fun v40 =>
  ke (call N_retain_get [v40] h7) <| fun v41 h8 =>
  kq (rConvI .i64 v41) <| fun v42 =>
  km (mBuildSl T_int64 1 [(.int .i64 0)] 1 [(0, v42)]) h8 <| fun v43 h9 =>
  kChk (!true || kSame (rLoad v34 h9) v35) <|
  ke (rAppend T_int64 1 8 v35 v43 h9) <| fun v44 h10 =>
  kq (rFieldP 2 v4) <| fun v45 =>
  kChk (!false || kSame (rLoad v34 h10) v35) <|
  ke ((rStore 1 v45 v44 h10).map fun h' => (.tuple [], h')) <| fun v46 h11 =>
  kChk (!false || kSame (rLoad v34 h11) v35) <|
  kq (some (gd l29 0)) <| fun v47 =>
  kq (rBin .add .no true v47 (.int .i64 8)) <| fun v48 =>
  kq (some v48) <| fun v49 =>
  j30 [v49] h11) (
  kq (rFieldP 0 v4) <| fun v50 =>
  kq (rLoad v50 h7) <| fun v51 =>
  kq (rBin .gtr .no true v51 (.int .u64 0)) <| fun v52 =>
  kq (some v52) <| fun v53 =>
  kgq v53 true (fun k => kq (some a0) k) <| fun v54 =>
  kgq v53 true (fun k => kq (some v27) k) <| fun v55 =>
  kgq v53 true (fun k => kq (rCut 1 v54 none (some v55) none) k) <| fun v56 =>
  kgq v53 true (fun k => kq (some a0) k) <| fun v57 =>
  kgq v53 true (fun k => kq (some v27) k) <| fun v58 =>
  kgq v53 true (fun k => kq (some v27) k) <| fun v59 =>
  kgq v53 true (fun k => kq (rBin .add .no true v59 (.int .i64 4)) k) <| fun v60 =>
  kgq v53 true (fun k => kq (rCut 1 v57 (some v58) (some v60) none) k) <| fun v61 =>
  kgh v53 true h7 (fun k => ke (call N_crc_Sum32 [v56] h7) k) <| fun v62 h12 =>
  kgq v53 true (fun k => kq (rConvI .u64 v62) k) <| fun v63 =>
  kgh v53 true h12 (fun k => kChk (!(true && !gOn v53 true) || kSame (rLoad v50 h12) v51) <|
  ke (call N_retain_get [v61] h12) k) <| fun v64 h13 =>
  kgq v53 true (fun k => kq (rBin .eql .no false v63 v64) k) <| fun v65 =>
  kq (rPick v53 v65 (.bool false)) <| fun v66 =>
  kq (rFieldP 3 v4) <| fun v67 =>
  kChk (!((true && !gOn v53 true) && !gOn v53 true) || kSame (rLoad v50 h13) v51) <|
  ke ((rStore 1 v67 v66 h13).map fun h' => (.tuple [], h')) <| fun v68 h14 =>
  kChk (!(((true && !gOn v53 true) && !gOn v53 true) && !true) || kSame (rLoad v50 h14) v51) <|
  kq (rLoadA 4 v4 h14) <| fun v69 =>
  ke ((rStore 4 v0 v69 h14).map fun h' => (.tuple [], h')) <| fun v70 h15 =>
  kq (rLoadA 4 v0 h15) <| fun v71 =>
  some (v71, h15))
def F_retain_slotOf (call callD : ACall) (a0 : AVal) (h : AH) : Ans :=
  km (pBox T_retain_slot (.agg [(.int .u64 0), (.int .u64 0), (.slice none 0 0), (.bool false)])) h <| fun v0 h0 =>
  kq (some a0) <| fun v1 =>
  kq (some a0) <| fun v2 =>
  kq (rCut 1 v2 (some (.int .i64 16)) (some (.int .i64 24)) none) <| fun v3 =>
  km (pBox T_retain_slot (.agg [(.int .u64 0), (.int .u64 0), (.slice none 0 0), (.bool false)])) h0 <| fun v4 h1 =>
  ke (call N_retain_numberOf [v1] h1) <| fun v5 h2 =>
  ke (call N_retain_get [v3] h2) <| fun v6 h3 =>
  kq (rBuild [(.int .u64 0), (.int .u64 0), (.slice none 0 0), (.bool false)] [(0, 1), (1, 1), (2, 1), (3, 1)] [(0, v5), (1, v6)]) <| fun v7 =>
  ke ((rStore 4 v4 v7 h3).map fun h' => (.tuple [], h')) <| fun v8 h4 =>
  kq (some a0) <| fun v9 =>
  kq (rCut 1 v9 (some (.int .i64 12)) (some (.int .i64 16)) none) <| fun v10 =>
  ke (call N_retain_get [v10] h4) <| fun v11 h5 =>
  kq (rConvI .i64 v11) <| fun v12 =>
  kq (some v12) <| fun v13 =>
  kq (some v13) <| fun v14 =>
  kq (some a0) <| fun v15 =>
  kq (rLen v15) <| fun v16 =>
  kq (rBin .sub .no true v16 (.int .i64 24)) <| fun v17 =>
  kq (rBin .sub .no true v17 (.int .i64 4)) <| fun v18 =>
  kq (rBin .quo .no true v18 (.int .i64 8)) <| fun v19 =>
  kq (rBin .gtr .no false v14 v19) <| fun v20 =>
  kIf v20 (
  kq (rLoadA 4 v4 h5) <| fun v21 =>
  ke ((rStore 4 v0 v21 h5).map fun h' => (.tuple [], h')) <| fun v22 h6 =>
  kq (rLoadA 4 v0 h6) <| fun v23 =>
  some (v23, h6)) (
  kq (some v13) <| fun v24 =>
  kq (rBin .mul .no true (.int .i64 8) v24) <| fun v25 =>
  kq (rBin .add .no true (.int .i64 24) v25) <| fun v26 =>
  kq (some v26) <| fun v27 =>
  kq (some (.int .i64 24)) <| fun v28 =>
  kLoop (L_retain_slotOf_0 call callD v27 v4 a0 v0) rounds [v28] h5)
theorem F_retain_slotOf_eq (call callD : ACall) (a0 : AVal) (h : AH) : kFunc Try.prog [] call callD N_retain_slotOf [a0] h = F_retain_slotOf call callD a0 h := by kernel_rfl
theorem C_retain_slotOf {ov : AOver} (H : Plain ov) (n : Nat) (a0 : AVal) (h : AH) : kc ov (n + 1) N_retain_slotOf [a0] h = F_retain_slotOf (kc ov n) (kd ov n) a0 h := by
  have hov : ov N_retain_slotOf = none := H _ (by decide)
  unfold kc kd; rw [← F_retain_slotOf_eq]; simp only [kcall, hov]

/-- rung/retain.numberOf -/
def F_retain_numberOf (call callD : ACall) (a0 : AVal) (h : AH) : Ans :=
  kq (some (.int .u64 0)) <| fun v0 =>
  kq (some a0) <| fun v1 =>
  kq (rCut 1 v1 none (some (.int .i64 8)) none) <| fun v2 =>
  ke (call N_retain_get [v2] h) <| fun v3 h0 =>
  kq (some v3) <| fun v4 =>
  kq (some v4) <| fun v5 =>
  kq (some a0) <| fun v6 =>
  kq (rCut 1 v6 none (some (.int .i64 12)) none) <| fun v7 =>
  ke (call N_retain_numbered [v5] h0) <| fun v8 h1 =>
  ke (call N_slices_Equal___byte_byte_ [v8, v7] h1) <| fun v9 h2 =>
  kq (aUn .not v9) <| fun v10 =>
  kIf v10 (
  kq (some (.int .u64 0)) <| fun v11 =>
  some (v11, h2)) (
  kq (some v4) <| fun v12 =>
  kq (some v12) <| fun v13 =>
  some (v13, h2))
theorem F_retain_numberOf_eq (call callD : ACall) (a0 : AVal) (h : AH) : kFunc Try.prog [] call callD N_retain_numberOf [a0] h = F_retain_numberOf call callD a0 h := by kernel_rfl
theorem C_retain_numberOf {ov : AOver} (H : Plain ov) (n : Nat) (a0 : AVal) (h : AH) : kc ov (n + 1) N_retain_numberOf [a0] h = F_retain_numberOf (kc ov n) (kd ov n) a0 h := by
  have hov : ov N_retain_numberOf = none := H _ (by decide)
  unfold kc kd; rw [← F_retain_numberOf_eq]; simp only [kcall, hov]

/-- rung/retain.was -/
def L_retain_was_0 (call callD : ACall) (v4 : AVal) (v3 : AVal) (a0 : AVal) : (List AVal → AH → Ans) → List AVal → AH → Ans := fun j7 l6 h0 =>
  kq (rBin .lss .no false (gd l6 1) v4) <| fun v8 =>
  kIf v8 (
  kq (rAt 1 v3 (gd l6 1)) <| fun v9 =>
  kq (rLoad v9 h0) <| fun v10 =>
  kq (some v10) <| fun v11 =>
  kq (some v11) <| fun v12 =>
  kq (rBin .neq .no true v12 (.int .u8 0)) <| fun v13 =>
  kj (fun l14 h1 =>
  kq (rBin .add .no true (gd l6 1) (.int .i64 1)) <| fun v16 =>
  kq (some v16) <| fun v17 =>
  j7 [(gd l14 0), v17] h1) <| fun j15 =>
  kIf v13 (
  kq (some (gd l6 0)) <| fun v18 =>
  kq (rBin .add .no true v18 (.int .i64 1)) <| fun v19 =>
  kq (some v19) <| fun v20 =>
  j15 [v20] h0) (
  j15 [(gd l6 0)] h0)) (
  kq (some a0) <| fun v21 =>
  ke (call N_retain_numberOf [v21] h0) <| fun v22 h2 =>
  kq (rBin .gtr .no true v22 (.int .u64 0)) <| fun v23 =>
  kq (some v23) <| fun v24 =>
  kt (fun v38 =>
  kq (some v38) <| fun v39 =>
  some (v39, h2)) <| fun j25 =>
  kgq v24 false (fun k => kq (some (gd l6 0)) k) <| fun v26 =>
  kgq v24 false (fun k => kq (rBin .gtr .no true v26 (.int .i64 1)) k) <| fun v27 =>
  kgq v24 false (fun k => kq (some v27) k) <| fun v28 =>
  kgq v28 true (fun k => kq (some a0) k) <| fun v29 =>
  kgq v28 true (fun k => kq (some a0) k) <| fun v30 =>
  kgq v28 true (fun k => kq (rLen v30) k) <| fun v31 =>
  kgq v28 true (fun k => kq (rBin .sub .no true v31 (.int .i64 1)) k) <| fun v32 =>
  kgq v28 true (fun k => kq (rAt 1 v29 v32) k) <| fun v33 =>
  kgq v28 true (fun k => kq (rLoad v33 h2) k) <| fun v34 =>
  kgq v28 true (fun k => kq (rBin .neq .no true v34 (.int .u8 0)) k) <| fun v35 =>
  kgq v24 false (fun k => kq (rPick v28 v35 (.bool false)) k) <| fun v36 =>
  kq (rPick v24 (.bool true) v36) <| fun v37 =>
  j25 v37)
def F_retain_was (call callD : ACall) (a0 : AVal) (h : AH) : Ans :=
  kq (some (.bool false)) <| fun v0 =>
  kq (some (.int .i64 0)) <| fun v1 =>
  kq (some a0) <| fun v2 =>
  kq (rCut 1 v2 none (some (.int .i64 12)) none) <| fun v3 =>
  kq (rLen v3) <| fun v4 =>
  kq (some (.int .i64 0)) <| fun v5 =>
  kLoop (L_retain_was_0 call callD v4 v3 a0) rounds [v1, v5] h
theorem F_retain_was_eq (call callD : ACall) (a0 : AVal) (h : AH) : kFunc Try.prog [] call callD N_retain_was [a0] h = F_retain_was call callD a0 h := by kernel_rfl
theorem C_retain_was {ov : AOver} (H : Plain ov) (n : Nat) (a0 : AVal) (h : AH) : kc ov (n + 1) N_retain_was [a0] h = F_retain_was (kc ov n) (kd ov n) a0 h := by
  have hov : ov N_retain_was = none := H _ (by decide)
  unfold kc kd; rw [← F_retain_was_eq]; simp only [kcall, hov]

/-- rung/retain.put -/
def L_retain_put_0 (call callD : ACall) (a1 : AVal) : (List AVal → AH → Ans) → List AVal → AH → Ans := fun j5 l4 h0 =>
  kq (some (gd l4 1)) <| fun v6 =>
  kq (rBin .geq .no true v6 (.int .i64 0)) <| fun v7 =>
  kIf v7 (
  kq (some (gd l4 0)) <| fun v8 =>
  kq (some a1) <| fun v9 =>
  kq (some (gd l4 1)) <| fun v10 =>
  kq (rBin .mul .no true (.int .i64 8) v10) <| fun v11 =>
  kq (rConvI .u64 v11) <| fun v12 =>
  kq (rBin .shr .no false v9 v12) <| fun v13 =>
  kq (rConvI .u8 v13) <| fun v14 =>
  km (mBuildSl T_uint8 1 [(.int .u8 0)] 1 [(0, v14)]) h0 <| fun v15 h1 =>
  ke (rAppend T_uint8 1 1 v8 v15 h1) <| fun v16 h2 =>
  kq (some v16) <| fun v17 =>
  kq (some (gd l4 1)) <| fun v18 =>
  kq (rBin .sub .no true v18 (.int .i64 1)) <| fun v19 =>
  kq (some v19) <| fun v20 =>
  j5 [v17, v20] h2) (
  kq (some (gd l4 0)) <| fun v21 =>
  kq (some v21) <| fun v22 =>
  some (v22, h0))
def F_retain_put (call callD : ACall) (a0 a1 a2 : AVal) (h : AH) : Ans :=
  kq (some (.slice none 0 0)) <| fun v0 =>
  kq (some a2) <| fun v1 =>
  kq (rBin .sub .no true v1 (.int .i64 1)) <| fun v2 =>
  kq (some v2) <| fun v3 =>
  kLoop (L_retain_put_0 call callD a1) rounds [a0, v3] h
theorem F_retain_put_eq (call callD : ACall) (a0 a1 a2 : AVal) (h : AH) : kFunc Try.prog [] call callD N_retain_put [a0, a1, a2] h = F_retain_put call callD a0 a1 a2 h := by kernel_rfl
theorem C_retain_put {ov : AOver} (H : Plain ov) (n : Nat) (a0 a1 a2 : AVal) (h : AH) : kc ov (n + 1) N_retain_put [a0, a1, a2] h = F_retain_put (kc ov n) (kd ov n) a0 a1 a2 h := by
  have hov : ov N_retain_put = none := H _ (by decide)
  unfold kc kd; rw [← F_retain_put_eq]; simp only [kcall, hov]

/-- rung/retain.numbered -/
def F_retain_numbered (call callD : ACall) (a0 : AVal) (h : AH) : Ans :=
  kq (some (.slice none 0 0)) <| fun v0 =>
  kq (some a0) <| fun v1 =>
  ke (call N_retain_put [(.slice none 0 0), v1, (.int .i64 8)] h) <| fun v2 h0 =>
  kq (some v2) <| fun v3 =>
  kq (some v3) <| fun v4 =>
  kq (some v3) <| fun v5 =>
  ke (call N_crc_Sum32 [v5] h0) <| fun v6 h1 =>
  kq (rConvI .u64 v6) <| fun v7 =>
  ke (call N_retain_put [v4, v7, (.int .i64 4)] h1) <| fun v8 h2 =>
  kq (some v8) <| fun v9 =>
  some (v9, h2)
theorem F_retain_numbered_eq (call callD : ACall) (a0 : AVal) (h : AH) : kFunc Try.prog [] call callD N_retain_numbered [a0] h = F_retain_numbered call callD a0 h := by kernel_rfl
theorem C_retain_numbered {ov : AOver} (H : Plain ov) (n : Nat) (a0 : AVal) (h : AH) : kc ov (n + 1) N_retain_numbered [a0] h = F_retain_numbered (kc ov n) (kd ov n) a0 h := by
  have hov : ov N_retain_numbered = none := H _ (by decide)
  unfold kc kd; rw [← F_retain_numbered_eq]; simp only [kcall, hov]

/-- rung/crc.Sum32 -/
def L_crc_Sum32_0 (call callD : ACall) (l5 : List AVal) (j6 : List AVal → AH → Ans) : (List AVal → AH → Ans) → List AVal → AH → Ans := fun j18 l17 h1 =>
  kq (rBin .lss .no true (gd l17 1) (.int .i64 8)) <| fun v19 =>
  kIf v19 (
  kq (some (gd l17 0)) <| fun v20 =>
  kq (rBin .shr .no true v20 (.int .u64 1)) <| fun v21 =>
  kq (some (gd l17 0)) <| fun v22 =>
  kq (rBin .and .no true v22 (.int .u32 1)) <| fun v23 =>
  kq (rBin .mul .no true (.int .u32 3988292384) v23) <| fun v24 =>
  kq (rBin .xor .no false v21 v24) <| fun v25 =>
  kq (some v25) <| fun v26 =>
  kq (rBin .add .no true (gd l17 1) (.int .i64 1)) <| fun v27 =>
  kq (some v27) <| fun v28 =>
  j18 [v26, v28] h1) (
  kq (rBin .add .no true (gd l5 1) (.int .i64 1)) <| fun v29 =>
  kq (some v29) <| fun v30 =>
  j6 [(gd l17 0), v30] h1)
def L_crc_Sum32_1 (call callD : ACall) (v3 : AVal) (v2 : AVal) : (List AVal → AH → Ans) → List AVal → AH → Ans := fun j6 l5 h0 =>
  kq (rBin .lss .no false (gd l5 1) v3) <| fun v7 =>
  kIf v7 (
  kq (rAt 1 v2 (gd l5 1)) <| fun v8 =>
  kq (rLoad v8 h0) <| fun v9 =>
  kq (some v9) <| fun v10 =>
  kq (some (gd l5 0)) <| fun v11 =>
  kq (some v10) <| fun v12 =>
  kq (rConvI .u32 v12) <| fun v13 =>
  kq (rBin .xor .no false v11 v13) <| fun v14 =>
  kq (some v14) <| fun v15 =>
  kq (some (.int .i64 0)) <| fun v16 =>
  kLoop (L_crc_Sum32_0 call callD l5 j6) rounds [v15, v16] h0) (
  kq (some (gd l5 0)) <| fun v31 =>
  kq (aUn .xor v31) <| fun v32 =>
  kq (some v32) <| fun v33 =>
  some (v33, h0))
def F_crc_Sum32 (call callD : ACall) (a0 : AVal) (h : AH) : Ans :=
  kq (some (.int .u32 0)) <| fun v0 =>
  kq (some (.int .u32 4294967295)) <| fun v1 =>
  kq (some a0) <| fun v2 =>
  kq (rLen v2) <| fun v3 =>
  kq (some (.int .i64 0)) <| fun v4 =>
  kLoop (L_crc_Sum32_1 call callD v3 v2) rounds [v1, v4] h
theorem F_crc_Sum32_eq (call callD : ACall) (a0 : AVal) (h : AH) : kFunc Try.prog [] call callD N_crc_Sum32 [a0] h = F_crc_Sum32 call callD a0 h := by kernel_rfl
theorem C_crc_Sum32 {ov : AOver} (H : Plain ov) (n : Nat) (a0 : AVal) (h : AH) : kc ov (n + 1) N_crc_Sum32 [a0] h = F_crc_Sum32 (kc ov n) (kd ov n) a0 h := by
  have hov : ov N_crc_Sum32 = none := H _ (by decide)
  unfold kc kd; rw [← F_crc_Sum32_eq]; simp only [kcall, hov]

/-- (*rung/block.Store).Write -/
def F_block_Store_Write (call callD : ACall) (a0 a1 a2 : AVal) (h : AH) : Ans :=
  kq (some (.int .i64 0)) <| fun v0 =>
  kq (some a0) <| fun v1 =>
  kq (some a1) <| fun v2 =>
  ke (call N_block_Store_is [v1, v2] h) <| fun v3 h0 =>
  kq (some v3) <| fun v4 =>
  kq (some v4) <| fun v5 =>
  kq (rBin .neq .no true v5 (.int .i64 0)) <| fun v6 =>
  kIf v6 (
  kq (some v4) <| fun v7 =>
  kq (some v7) <| fun v8 =>
  some (v8, h0)) (
  kq (some a2) <| fun v9 =>
  kq (rLen v9) <| fun v10 =>
  kq (some a0) <| fun v11 =>
  kq (aNilCheck v11) <| fun v12 =>
  kq (rFieldP 1 v12) <| fun v13 =>
  kq (rLoad v13 h0) <| fun v14 =>
  kq (rBin .neq .no false v10 v14) <| fun v15 =>
  kIf v15 (
  kq (some (.int .i64 81)) <| fun v16 =>
  some (v16, h0)) (
  kq (some a0) <| fun v17 =>
  kq (aNilCheck v17) <| fun v18 =>
  kq (rFieldP 3 v18) <| fun v19 =>
  kq (rLoad v19 h0) <| fun v20 =>
  kq (rBin .eql .no true v20 (.int .i64 0)) <| fun v21 =>
  kIf v21 (
  kq (some a0) <| fun v22 =>
  kq (aNilCheck v22) <| fun v23 =>
  kq (rFieldP 4 v23) <| fun v24 =>
  kq (rLoad v24 h0) <| fun v25 =>
  kq (aMM aMax2 [v25, (.int .i64 0)]) <| fun v26 =>
  kq (some a0) <| fun v27 =>
  kq (aNilCheck v27) <| fun v28 =>
  kq (rFieldP 1 v28) <| fun v29 =>
  kq (rLoad v29 h0) <| fun v30 =>
  kq (aMM aMin2 [v26, v30]) <| fun v31 =>
  kq (some v31) <| fun v32 =>
  kq (some a0) <| fun v33 =>
  kq (aNilCheck v33) <| fun v34 =>
  kq (rFieldP 0 v34) <| fun v35 =>
  kq (rLoad v35 h0) <| fun v36 =>
  kq (some a1) <| fun v37 =>
  kq (rAt 1 v36 v37) <| fun v38 =>
  kq (rLoad v38 h0) <| fun v39 =>
  kq (some v32) <| fun v40 =>
  kq (rCut 1 v39 none (some v40) none) <| fun v41 =>
  kq (some a2) <| fun v42 =>
  ke (rCopy 1 v41 v42 h0) <| fun v43 h1 =>
  kq (some a0) <| fun v44 =>
  kq (aNilCheck v44) <| fun v45 =>
  kq (rFieldP 5 v45) <| fun v46 =>
  ke ((rStore 1 v46 (.bool true) h1).map fun h' => (.tuple [], h')) <| fun v47 h2 =>
  kq (some (.int .i64 82)) <| fun v48 =>
  some (v48, h2)) (
  kq (some a0) <| fun v49 =>
  kq (some a0) <| fun v50 =>
  kq (aNilCheck v50) <| fun v51 =>
  kq (rFieldP 3 v51) <| fun v52 =>
  kq (rLoad v52 h0) <| fun v53 =>
  kq (rBin .sub .no true v53 (.int .i64 1)) <| fun v54 =>
  kq (aMM aMax2 [v54, (.int .i64 (-1))]) <| fun v55 =>
  kq (aNilCheck v49) <| fun v56 =>
  kq (rFieldP 3 v56) <| fun v57 =>
  ke ((rStore 1 v57 v55 h0).map fun h' => (.tuple [], h')) <| fun v58 h3 =>
  kq (some a0) <| fun v59 =>
  kq (aNilCheck v59) <| fun v60 =>
  kq (rFieldP 0 v60) <| fun v61 =>
  kq (rLoad v61 h3) <| fun v62 =>
  kq (some a1) <| fun v63 =>
  kq (rAt 1 v62 v63) <| fun v64 =>
  kq (rLoad v64 h3) <| fun v65 =>
  kq (some a2) <| fun v66 =>
  ke (rCopy 1 v65 v66 h3) <| fun v67 h4 =>
  kq (some a0) <| fun v68 =>
  kq (aNilCheck v68) <| fun v69 =>
  kq (rFieldP 2 v69) <| fun v70 =>
  kq (rLoad v70 h4) <| fun v71 =>
  kq (rBin .add .no true v71 (.int .i64 1)) <| fun v72 =>
  kq (aNilCheck v68) <| fun v73 =>
  kq (rFieldP 2 v73) <| fun v74 =>
  ke ((rStore 1 v74 v72 h4).map fun h' => (.tuple [], h')) <| fun v75 h5 =>
  kq (some (.int .i64 0)) <| fun v76 =>
  some (v76, h5))))
theorem F_block_Store_Write_eq (call callD : ACall) (a0 a1 a2 : AVal) (h : AH) : kFunc Try.prog [] call callD N_block_Store_Write [a0, a1, a2] h = F_block_Store_Write call callD a0 a1 a2 h := by kernel_rfl
theorem C_block_Store_Write {ov : AOver} (H : Plain ov) (n : Nat) (a0 a1 a2 : AVal) (h : AH) : kc ov (n + 1) N_block_Store_Write [a0, a1, a2] h = F_block_Store_Write (kc ov n) (kd ov n) a0 a1 a2 h := by
  have hov : ov N_block_Store_Write = none := H _ (by decide)
  unfold kc kd; rw [← F_block_Store_Write_eq]; simp only [kcall, hov]

/-- (*rung/retain.Journal).block -/
def F_retain_Journal_block (call callD : ACall) (a0 a1 : AVal) (h : AH) : Ans :=
  kq (some (.slice none 0 0)) <| fun v0 =>
  kq (some a1) <| fun v1 =>
  kq (some a0) <| fun v2 =>
  kq (aNilCheck v2) <| fun v3 =>
  kq (rFieldP 0 v3) <| fun v4 =>
  kq (rLoad v4 h) <| fun v5 =>
  ke (call N_block_Store_Size [v5] h) <| fun v6 h0 =>
  kq (some a1) <| fun v7 =>
  kq (rLen v7) <| fun v8 =>
  kq (rBin .sub .no false v6 v8) <| fun v9 =>
  ke (rAppendN T_uint8 1 1 [(.int .u8 0)] v1 v9 h0) <| fun v10 h1 =>
  kq (some v10) <| fun v11 =>
  some (v11, h1)
theorem F_retain_Journal_block_eq (call callD : ACall) (a0 a1 : AVal) (h : AH) : kFunc Try.prog [] call callD N_retain_Journal_block [a0, a1] h = F_retain_Journal_block call callD a0 a1 h := by kernel_rfl
theorem C_retain_Journal_block {ov : AOver} (H : Plain ov) (n : Nat) (a0 a1 : AVal) (h : AH) : kc ov (n + 1) N_retain_Journal_block [a0, a1] h = F_retain_Journal_block (kc ov n) (kd ov n) a0 a1 h := by
  have hov : ov N_retain_Journal_block = none := H _ (by decide)
  unfold kc kd; rw [← F_retain_Journal_block_eq]; simp only [kcall, hov]

/-- (*sync/atomic.Uint64).Add -/
def F_sync_atomic_Uint64_Add (call callD : ACall) (a0 a1 : AVal) (h : AH) : Ans :=
  kq (some (.int .u64 0)) <| fun v0 =>
  kq (some a0) <| fun v1 =>
  kq (aNilCheck v1) <| fun v2 =>
  kq (rFieldP 0 v2) <| fun v3 =>
  kq (some a1) <| fun v4 =>
  ke (call N_sync_atomic_AddUint64 [v3, v4] h) <| fun v5 h0 =>
  kq (some v5) <| fun v6 =>
  some (v6, h0)
theorem F_sync_atomic_Uint64_Add_eq (call callD : ACall) (a0 a1 : AVal) (h : AH) : kFunc Try.prog [] call callD N_sync_atomic_Uint64_Add [a0, a1] h = F_sync_atomic_Uint64_Add call callD a0 a1 h := by kernel_rfl
theorem C_sync_atomic_Uint64_Add {ov : AOver} (H : Plain ov) (n : Nat) (a0 a1 : AVal) (h : AH) : kc ov (n + 1) N_sync_atomic_Uint64_Add [a0, a1] h = F_sync_atomic_Uint64_Add (kc ov n) (kd ov n) a0 a1 h := by
  have hov : ov N_sync_atomic_Uint64_Add = none := H _ (by decide)
  unfold kc kd; rw [← F_sync_atomic_Uint64_Add_eq]; simp only [kcall, hov]

/-- (*sync/atomic.Uint64).Load -/
def F_sync_atomic_Uint64_Load (call callD : ACall) (a0 : AVal) (h : AH) : Ans :=
  kq (some (.int .u64 0)) <| fun v0 =>
  kq (some a0) <| fun v1 =>
  kq (aNilCheck v1) <| fun v2 =>
  kq (rFieldP 0 v2) <| fun v3 =>
  ke (call N_sync_atomic_LoadUint64 [v3] h) <| fun v4 h0 =>
  kq (some v4) <| fun v5 =>
  some (v5, h0)
theorem F_sync_atomic_Uint64_Load_eq (call callD : ACall) (a0 : AVal) (h : AH) : kFunc Try.prog [] call callD N_sync_atomic_Uint64_Load [a0] h = F_sync_atomic_Uint64_Load call callD a0 h := by kernel_rfl
theorem C_sync_atomic_Uint64_Load {ov : AOver} (H : Plain ov) (n : Nat) (a0 : AVal) (h : AH) : kc ov (n + 1) N_sync_atomic_Uint64_Load [a0] h = F_sync_atomic_Uint64_Load (kc ov n) (kd ov n) a0 h := by
  have hov : ov N_sync_atomic_Uint64_Load = none := H _ (by decide)
  unfold kc kd; rw [← F_sync_atomic_Uint64_Load_eq]; simp only [kcall, hov]

/-- (*rung/block.Store).is -/
def F_block_Store_is (call callD : ACall) (a0 a1 : AVal) (h : AH) : Ans :=
  kq (some (.int .i64 0)) <| fun v0 =>
  kq (some a0) <| fun v1 =>
  kq (aNilCheck v1) <| fun v2 =>
  kq (rFieldP 5 v2) <| fun v3 =>
  kq (rLoad v3 h) <| fun v4 =>
  kq (some v4) <| fun v5 =>
  kIf v5 (
  kq (some (.int .i64 82)) <| fun v6 =>
  some (v6, h)) (
  kq (some a1) <| fun v7 =>
  kq (rBin .lss .no true v7 (.int .i64 0)) <| fun v8 =>
  kq (some v8) <| fun v9 =>
  kt (fun v19 =>
  kq (some v19) <| fun v20 =>
  kIf v20 (
  kq (some (.int .i64 80)) <| fun v21 =>
  some (v21, h)) (
  kq (some (.int .i64 0)) <| fun v22 =>
  some (v22, h))) <| fun j10 =>
  kgq v9 false (fun k => kq (some a1) k) <| fun v11 =>
  kgq v9 false (fun k => kq (some a0) k) <| fun v12 =>
  kgq v9 false (fun k => kq (aNilCheck v12) k) <| fun v13 =>
  kgq v9 false (fun k => kq (rFieldP 0 v13) k) <| fun v14 =>
  kgq v9 false (fun k => kq (rLoad v14 h) k) <| fun v15 =>
  kgq v9 false (fun k => kq (rLen v15) k) <| fun v16 =>
  kgq v9 false (fun k => kq (rBin .geq .no false v11 v16) k) <| fun v17 =>
  kq (rPick v9 (.bool true) v17) <| fun v18 =>
  j10 v18)
theorem F_block_Store_is_eq (call callD : ACall) (a0 a1 : AVal) (h : AH) : kFunc Try.prog [] call callD N_block_Store_is [a0, a1] h = F_block_Store_is call callD a0 a1 h := by kernel_rfl
theorem C_block_Store_is {ov : AOver} (H : Plain ov) (n : Nat) (a0 a1 : AVal) (h : AH) : kc ov (n + 1) N_block_Store_is [a0, a1] h = F_block_Store_is (kc ov n) (kd ov n) a0 a1 h := by
  have hov : ov N_block_Store_is = none := H _ (by decide)
  unfold kc kd; rw [← F_block_Store_is_eq]; simp only [kcall, hov]

/-- slices.Clone[[]byte,byte] -/
def F_slices_Clone___byte_byte_ (call callD : ACall) (a0 : AVal) (h : AH) : Ans :=
  kq (some (.slice none 0 0)) <| fun v0 =>
  kq (some a0) <| fun v1 =>
  kq (rBin .eql .slice true v1 (.slice none 0 0)) <| fun v2 =>
  kIf v2 (
  kq (some (.slice none 0 0)) <| fun v3 =>
  some (v3, h)) (
  km (mBuildSl T_uint8 1 [(.int .u8 0)] 0 []) h <| fun v4 h0 =>
  kq (some a0) <| fun v5 =>
  ke (rAppend T_uint8 1 1 v4 v5 h0) <| fun v6 h1 =>
  kq (some v6) <| fun v7 =>
  some (v7, h1))
theorem F_slices_Clone___byte_byte__eq (call callD : ACall) (a0 : AVal) (h : AH) : kFunc Try.prog [] call callD N_slices_Clone___byte_byte_ [a0] h = F_slices_Clone___byte_byte_ call callD a0 h := by kernel_rfl
theorem C_slices_Clone___byte_byte_ {ov : AOver} (H : Plain ov) (n : Nat) (a0 : AVal) (h : AH) : kc ov (n + 1) N_slices_Clone___byte_byte_ [a0] h = F_slices_Clone___byte_byte_ (kc ov n) (kd ov n) a0 h := by
  have hov : ov N_slices_Clone___byte_byte_ = none := H _ (by decide)
  unfold kc kd; rw [← F_slices_Clone___byte_byte__eq]; simp only [kcall, hov]

/-- rung/retain.get -/
def L_retain_get_0 (call callD : ACall) (v3 : AVal) (v2 : AVal) : (List AVal → AH → Ans) → List AVal → AH → Ans := fun j6 l5 h0 =>
  kq (rBin .lss .no false (gd l5 1) v3) <| fun v7 =>
  kIf v7 (
  kq (rAt 1 v2 (gd l5 1)) <| fun v8 =>
  kq (rLoad v8 h0) <| fun v9 =>
  kq (some v9) <| fun v10 =>
  kq (some (gd l5 0)) <| fun v11 =>
  kq (rBin .shl .no true v11 (.int .u64 8)) <| fun v12 =>
  kq (some v10) <| fun v13 =>
  kq (rConvI .u64 v13) <| fun v14 =>
  kq (rBin .or .no false v12 v14) <| fun v15 =>
  kq (some v15) <| fun v16 =>
  kq (rBin .add .no true (gd l5 1) (.int .i64 1)) <| fun v17 =>
  kq (some v17) <| fun v18 =>
  j6 [v16, v18] h0) (
  kq (some (gd l5 0)) <| fun v19 =>
  kq (some v19) <| fun v20 =>
  some (v20, h0))
def F_retain_get (call callD : ACall) (a0 : AVal) (h : AH) : Ans :=
  kq (some (.int .u64 0)) <| fun v0 =>
  kq (some (.int .u64 0)) <| fun v1 =>
  kq (some a0) <| fun v2 =>
  kq (rLen v2) <| fun v3 =>
  kq (some (.int .i64 0)) <| fun v4 =>
  kLoop (L_retain_get_0 call callD v3 v2) rounds [v1, v4] h
theorem F_retain_get_eq (call callD : ACall) (a0 : AVal) (h : AH) : kFunc Try.prog [] call callD N_retain_get [a0] h = F_retain_get call callD a0 h := by kernel_rfl
theorem C_retain_get {ov : AOver} (H : Plain ov) (n : Nat) (a0 : AVal) (h : AH) : kc ov (n + 1) N_retain_get [a0] h = F_retain_get (kc ov n) (kd ov n) a0 h := by
  have hov : ov N_retain_get = none := H _ (by decide)
  unfold kc kd; rw [← F_retain_get_eq]; simp only [kcall, hov]

/-- slices.Equal[[]byte,byte] -/
def L_slices_Equal___byte_byte__0 (call callD : ACall) (v8 : AVal) (a0 : AVal) (a1 : AVal) : (List AVal → AH → Ans) → List AVal → AH → Ans := fun j11 l10 h0 =>
  kq (rBin .lss .no false (gd l10 0) v8) <| fun v12 =>
  kIf v12 (
  kq (some (gd l10 0)) <| fun v13 =>
  kq (some v13) <| fun v14 =>
  kq (some a0) <| fun v15 =>
  kq (some v14) <| fun v16 =>
  kq (rAt 1 v15 v16) <| fun v17 =>
  kq (rLoad v17 h0) <| fun v18 =>
  kq (some a1) <| fun v19 =>
  kq (some v14) <| fun v20 =>
  kq (rAt 1 v19 v20) <| fun v21 =>
  kq (rLoad v21 h0) <| fun v22 =>
  kq (rBin .neq .no false v18 v22) <| fun v23 =>
  kIf v23 (
  kq (some (.bool false)) <| fun v24 =>
  some (v24, h0)) (
  kq (rBin .add .no true (gd l10 0) (.int .i64 1)) <| fun v25 =>
  kq (some v25) <| fun v26 =>
  j11 [v26] h0)) (
  kq (some (.bool true)) <| fun v27 =>
  some (v27, h0))
def F_slices_Equal___byte_byte_ (call callD : ACall) (a0 a1 : AVal) (h : AH) : Ans :=
  kq (some (.bool false)) <| fun v0 =>
  kq (some a0) <| fun v1 =>
  kq (rLen v1) <| fun v2 =>
  kq (some a1) <| fun v3 =>
  kq (rLen v3) <| fun v4 =>
  kq (rBin .neq .no false v2 v4) <| fun v5 =>
  kIf v5 (
  kq (some (.bool false)) <| fun v6 =>
  some (v6, h)) (
  kq (some a0) <| fun v7 =>
  kq (rLen v7) <| fun v8 =>
  kq (some (.int .i64 0)) <| fun v9 =>
  kLoop (L_slices_Equal___byte_byte__0 call callD v8 a0 a1) rounds [v9] h)
theorem F_slices_Equal___byte_byte__eq (call callD : ACall) (a0 a1 : AVal) (h : AH) : kFunc Try.prog [] call callD N_slices_Equal___byte_byte_ [a0, a1] h = F_slices_Equal___byte_byte_ call callD a0 a1 h := by kernel_rfl
theorem C_slices_Equal___byte_byte_ {ov : AOver} (H : Plain ov) (n : Nat) (a0 a1 : AVal) (h : AH) : kc ov (n + 1) N_slices_Equal___byte_byte_ [a0, a1] h = F_slices_Equal___byte_byte_ (kc ov n) (kd ov n) a0 a1 h := by
  have hov : ov N_slices_Equal___byte_byte_ = none := H _ (by decide)
  unfold kc kd; rw [← F_slices_Equal___byte_byte__eq]; simp only [kcall, hov]


end Go.Proofs.Ytbcpmbggidemdaa.AI
