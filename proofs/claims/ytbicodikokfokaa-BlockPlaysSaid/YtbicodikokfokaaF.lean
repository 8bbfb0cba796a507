/- PRINTED by Pr2: the functions of the program as the machine sees them. -/
import Derived.Test.YtbicodikokfokaaAiLib2
import Derived.Test.YtbicodikokfokaaProg
import Derived.KernelRfl
namespace Go.Proofs.Ytbicodikokfokaa.AI
open Go
set_option linter.unusedVariables false
set_option maxRecDepth 100000
abbrev T_uint8 : Nat := 5
abbrev T___uint8 : Nat := 22
abbrev T_rungref8_Store : Nat := 45
abbrev T_runglaw8_Step : Nat := 47
abbrev T_block_Store : Nat := 58
abbrev N_runglaw8_BlockTears : Nat := 3
abbrev N_runglaw8_BlockShape : Nat := 4
abbrev N_runglaw8_BlockPlays : Nat := 5
abbrev N_runglaw8_BlockApart : Nat := 6
abbrev N_runglaw8_known : Nat := 7
abbrev N_runghelp_Place : Nat := 8
abbrev N_block_New : Nat := 9
abbrev N_runglaw8_drawn : Nat := 10
abbrev N_block_Store_Write : Nat := 11
abbrev N_block_Store_Cut : Nat := 12
abbrev N_block_Store_Dead : Nat := 13
abbrev N_block_Store_Power : Nat := 14
abbrev N_block_Store_Read : Nat := 15
abbrev N_runghelp_Bytes : Nat := 16
abbrev N_block_Store_Writes : Nat := 17
abbrev N_block_Store_Blocks : Nat := 18
abbrev N_block_Store_Size : Nat := 19
abbrev N_runglaw8_light : Nat := 20
abbrev N_rungref8_New : Nat := 21
abbrev N_rungref8_Store_Read : Nat := 22
abbrev N_runghelp_Copy : Nat := 23
abbrev N_runghelp_Spoil : Nat := 24
abbrev N_rungref8_Store_Write : Nat := 25
abbrev N_rungref8_Store_Cut : Nat := 26
abbrev N_rungref8_Store_Power : Nat := 27
abbrev N_block_Store_Spoil : Nat := 28
abbrev N_rungref8_Store_Spoil : Nat := 29
abbrev N_block_Store_Copy : Nat := 30
abbrev N_rungref8_Store_Copy : Nat := 31
abbrev N_runglaw8_alike : Nat := 32
abbrev N_block_Store_is : Nat := 33
abbrev N_slices_Clone___byte_byte_ : Nat := 34
/-- Functions that another thing stands in for. -/
def OVS : List Nat := [7]
def Plain (ov : AOver) : Prop := ∀ f, f ∉ OVS → ov f = none
noncomputable def kc (ov : AOver) (n : Nat) : ACall := kcall Try.prog [] ov n
noncomputable def kd (ov : AOver) (n : Nat) : ACall := kFuncD Try.prog [] (kcall Try.prog [] ov n)
/-- rung/runglaw8.BlockTears -/
def L_runglaw8_BlockTears_0 (call callD : ACall) (v31 : AVal) (v21 : AVal) (v24 : AVal) (v32 : AVal) (v90 : AVal) : (List AVal → AH → Ans) → List AVal → AH → Ans := fun j93 l92 h19 =>
  kq (some (gd l92 0)) <| fun v94 =>
  kq (rBin .lss .no true v94 (.int .i64 8)) <| fun v95 =>
  kIf v95 (
  kq (some v31) <| fun v96 =>
  kq (some v96) <| fun v97 =>
  kq (some (gd l92 0)) <| fun v98 =>
  kq (some v21) <| fun v99 =>
  kq (rBin .lss .no false v98 v99) <| fun v100 =>
  kj (fun l101 h20 =>
  kq (some (gd l92 0)) <| fun v103 =>
  kq (rBin .eql .no true v103 (.int .i64 7)) <| fun v104 =>
  kj (fun l105 h21 =>
  kq (some v24) <| fun v107 =>
  kq (some (gd l92 0)) <| fun v108 =>
  ke (call N_block_Store_Read [v107, v108] h21) <| fun v109 h22 =>
  kq (some v109) <| fun v110 =>
  kq (aExtract v110 0) <| fun v111 =>
  kq (aExtract v110 1) <| fun v112 =>
  kq (some v111) <| fun v113 =>
  kq (some v112) <| fun v114 =>
  kq (some v114) <| fun v115 =>
  kq (rBin .neq .no true v115 (.int .i64 0)) <| fun v116 =>
  kq (some v116) <| fun v117 =>
  kth (fun v125 h25 =>
  kIf v125 (
  kq (some (.bool false)) <| fun v126 =>
  some (v126, h25)) (
  kq (some (gd l92 0)) <| fun v127 =>
  kq (rBin .add .no true v127 (.int .i64 1)) <| fun v128 =>
  kq (some v128) <| fun v129 =>
  j93 [v129] h25)) <| fun j118 =>
  kgq v117 false (fun k => kq (some v113) k) <| fun v119 =>
  kgq v117 false (fun k => kq (some (gd l105 0)) k) <| fun v120 =>
  kgh v117 false h22 (fun k => ke (call N_runghelp_Bytes [v119, v120] h22) <| fun v121 h23 =>
  k v121 h23) <| fun v122 h24 =>
  kgq v117 false (fun k => kq (aUn .not v122) k) <| fun v123 =>
  kq (rPick v117 (.bool true) v123) <| fun v124 =>
  j118 v124 h24) <| fun j106 =>
  kIf v104 (
  kq (some v32) <| fun v130 =>
  kq (some v90) <| fun v131 =>
  kq (rCut 1 v130 none (some v131) none) <| fun v132 =>
  kq (some v31) <| fun v133 =>
  kq (some v90) <| fun v134 =>
  kq (rCut 1 v133 (some v134) none none) <| fun v135 =>
  ke (rAppend T_uint8 1 1 (.slice none 0 0) v132 h20) <| fun v136 h26 =>
  ke (rAppend T_uint8 1 1 v136 v135 h26) <| fun v137 h27 =>
  kq (some v137) <| fun v138 =>
  j106 [v138] h27) (
  j106 [(gd l101 0)] h20)) <| fun j102 =>
  kIf v100 (
  kq (some v32) <| fun v139 =>
  kq (some v139) <| fun v140 =>
  j102 [v140] h19) (
  j102 [v97] h19)) (
  kq (some v24) <| fun v141 =>
  ke (call N_block_Store_Writes [v141] h19) <| fun v142 h28 =>
  kq (some v21) <| fun v143 =>
  kq (rBin .add .no true (.int .i64 8) v143) <| fun v144 =>
  kq (rBin .eql .no false v142 v144) <| fun v145 =>
  kq (some v145) <| fun v146 =>
  kth (fun v154 h31 =>
  kq (some v154) <| fun v155 =>
  some (v155, h31)) <| fun j147 =>
  kgq v146 true (fun k => kq (some v24) k) <| fun v148 =>
  kgq v146 true (fun k => kq (some v32) k) <| fun v149 =>
  kgh v146 true h28 (fun k => ke (call N_block_Store_Write [v148, (.int .i64 7), v149] h28) <| fun v150 h29 =>
  k v150 h29) <| fun v151 h30 =>
  kgq v146 true (fun k => kq (rBin .eql .no true v151 (.int .i64 0)) k) <| fun v152 =>
  kq (rPick v146 v152 (.bool false)) <| fun v153 =>
  j147 v153 h30)
def L_runglaw8_BlockTears_1 (call callD : ACall) (v21 : AVal) (v24 : AVal) (v32 : AVal) (a2 : AVal) (v20 : AVal) (v31 : AVal) : (List AVal → AH → Ans) → List AVal → AH → Ans := fun j51 l50 h10 =>
  kq (some (gd l50 0)) <| fun v52 =>
  kq (some v21) <| fun v53 =>
  kq (rBin .lss .no false v52 v53) <| fun v54 =>
  kIf v54 (
  kq (some v24) <| fun v55 =>
  kq (some (gd l50 0)) <| fun v56 =>
  kq (some v32) <| fun v57 =>
  ke (call N_block_Store_Write [v55, v56, v57] h10) <| fun v58 h11 =>
  kq (rBin .neq .no true v58 (.int .i64 0)) <| fun v59 =>
  kIf v59 (
  kq (some (.bool false)) <| fun v60 =>
  some (v60, h11)) (
  kq (some (gd l50 0)) <| fun v61 =>
  kq (rBin .add .no true v61 (.int .i64 1)) <| fun v62 =>
  kq (some v62) <| fun v63 =>
  j51 [v63] h11)) (
  kq (some v24) <| fun v64 =>
  kq (some v32) <| fun v65 =>
  ke (call N_block_Store_Write [v64, (.int .i64 7), v65] h10) <| fun v66 h12 =>
  kq (rBin .neq .no true v66 (.int .i64 82)) <| fun v67 =>
  kq (some v67) <| fun v68 =>
  kth (fun v82 h17 =>
  kIf v82 (
  kq (some (.bool false)) <| fun v83 =>
  some (v83, h17)) (
  kq (some v24) <| fun v84 =>
  ke (call N_block_Store_Power [v84] h17) <| fun v85 h18 =>
  kq (some a2) <| fun v86 =>
  kq (aMM aMax2 [v86, (.int .i64 0)]) <| fun v87 =>
  kq (some v20) <| fun v88 =>
  kq (aMM aMin2 [v87, v88]) <| fun v89 =>
  kq (some v89) <| fun v90 =>
  kq (some (.int .i64 0)) <| fun v91 =>
  kLoop (L_runglaw8_BlockTears_0 call callD v31 v21 v24 v32 v90) rounds [v91] h18)) <| fun j69 =>
  kgq v68 false (fun k => kq (some v24) k) <| fun v70 =>
  kgh v68 false h12 (fun k => ke (call N_block_Store_Dead [v70] h12) <| fun v71 h13 =>
  k v71 h13) <| fun v72 h14 =>
  kgq v68 false (fun k => kq (aUn .not v72) k) <| fun v73 =>
  kq (rPick v68 (.bool true) v73) <| fun v74 =>
  kq (some v74) <| fun v75 =>
  kgq v75 false (fun k => kq (some v24) k) <| fun v76 =>
  kgq v75 false (fun k => kq (some v32) k) <| fun v77 =>
  kgh v75 false h14 (fun k => ke (call N_block_Store_Write [v76, (.int .i64 0), v77] h14) <| fun v78 h15 =>
  k v78 h15) <| fun v79 h16 =>
  kgq v75 false (fun k => kq (rBin .neq .no true v79 (.int .i64 82)) k) <| fun v80 =>
  kq (rPick v75 (.bool true) v80) <| fun v81 =>
  j69 v81 h16)
def L_runglaw8_BlockTears_2 (call callD : ACall) (v24 : AVal) (v31 : AVal) (v21 : AVal) (a2 : AVal) (v32 : AVal) (v20 : AVal) : (List AVal → AH → Ans) → List AVal → AH → Ans := fun j35 l34 h7 =>
  kq (some (gd l34 0)) <| fun v36 =>
  kq (rBin .lss .no true v36 (.int .i64 8)) <| fun v37 =>
  kIf v37 (
  kq (some v24) <| fun v38 =>
  kq (some (gd l34 0)) <| fun v39 =>
  kq (some v31) <| fun v40 =>
  ke (call N_block_Store_Write [v38, v39, v40] h7) <| fun v41 h8 =>
  kq (some (gd l34 0)) <| fun v42 =>
  kq (rBin .add .no true v42 (.int .i64 1)) <| fun v43 =>
  kq (some v43) <| fun v44 =>
  j35 [v44] h8) (
  kq (some v24) <| fun v45 =>
  kq (some v21) <| fun v46 =>
  kq (some a2) <| fun v47 =>
  ke (call N_block_Store_Cut [v45, v46, v47] h7) <| fun v48 h9 =>
  kq (some (.int .i64 0)) <| fun v49 =>
  kLoop (L_runglaw8_BlockTears_1 call callD v21 v24 v32 a2 v20 v31) rounds [v49] h9)
def F_runglaw8_BlockTears (call callD : ACall) (a0 a1 a2 a3 a4 : AVal) (h : AH) : Ans :=
  kq (some (.bool false)) <| fun v0 =>
  ke (call N_runglaw8_known [] h) <| fun v1 h0 =>
  kq (aUn .not v1) <| fun v2 =>
  kIf v2 (
  kq (some (.bool false)) <| fun v3 =>
  some (v3, h0)) (
  kq (some a3) <| fun v4 =>
  kq (rLen v4) <| fun v5 =>
  kq (rBin .gtr .no true v5 (.int .i64 300)) <| fun v6 =>
  kq (some v6) <| fun v7 =>
  kt (fun v13 =>
  kIf v13 (
  kq (some (.bool true)) <| fun v14 =>
  some (v14, h0)) (
  kq (some a0) <| fun v15 =>
  ke (call N_runghelp_Place [v15, (.int .i64 100)] h0) <| fun v16 h2 =>
  kq (rBin .add .no true (.int .i64 16) v16) <| fun v17 =>
  kq (some a1) <| fun v18 =>
  ke (call N_runghelp_Place [v18, (.int .i64 6)] h2) <| fun v19 h3 =>
  kq (some v17) <| fun v20 =>
  kq (some v19) <| fun v21 =>
  kq (some v20) <| fun v22 =>
  ke (call N_block_New [(.int .i64 8), v22] h3) <| fun v23 h4 =>
  kq (some v23) <| fun v24 =>
  kq (some a3) <| fun v25 =>
  kq (some v20) <| fun v26 =>
  ke (call N_runglaw8_drawn [v25, v26] h4) <| fun v27 h5 =>
  kq (some a4) <| fun v28 =>
  kq (some v20) <| fun v29 =>
  ke (call N_runglaw8_drawn [v28, v29] h5) <| fun v30 h6 =>
  kq (some v27) <| fun v31 =>
  kq (some v30) <| fun v32 =>
  kq (some (.int .i64 0)) <| fun v33 =>
  kLoop (L_runglaw8_BlockTears_2 call callD v24 v31 v21 a2 v32 v20) rounds [v33] h6)) <| fun j8 =>
  kgq v7 false (fun k => kq (some a4) k) <| fun v9 =>
  kgq v7 false (fun k => kq (rLen v9) k) <| fun v10 =>
  kgq v7 false (fun k => kq (rBin .gtr .no true v10 (.int .i64 300)) k) <| fun v11 =>
  kq (rPick v7 (.bool true) v11) <| fun v12 =>
  j8 v12)
theorem F_runglaw8_BlockTears_eq (call callD : ACall) (a0 a1 a2 a3 a4 : AVal) (h : AH) : kFunc Try.prog [] call callD N_runglaw8_BlockTears [a0, a1, a2, a3, a4] h = F_runglaw8_BlockTears call callD a0 a1 a2 a3 a4 h := by kernel_rfl
theorem C_runglaw8_BlockTears {ov : AOver} (H : Plain ov) (n : Nat) (a0 a1 a2 a3 a4 : AVal) (h : AH) : kc ov (n + 1) N_runglaw8_BlockTears [a0, a1, a2, a3, a4] h = F_runglaw8_BlockTears (kc ov n) (kd ov n) a0 a1 a2 a3 a4 h := by
  have hov : ov N_runglaw8_BlockTears = none := H _ (by decide)
  unfold kc kd; rw [← F_runglaw8_BlockTears_eq]; simp only [kcall, hov]

/-- rung/runglaw8.BlockShape -/
def L_runglaw8_BlockShape_0 (call callD : ACall) (v7 : AVal) : (List AVal → AH → Ans) → List AVal → AH → Ans := fun j39 l38 h10 =>
  kq (some (gd l38 0)) <| fun v40 =>
  kq (some v7) <| fun v41 =>
  ke (call N_block_Store_Blocks [v41] h10) <| fun v42 h11 =>
  kq (rBin .lss .no false v40 v42) <| fun v43 =>
  kIf v43 (
  kq (some v7) <| fun v44 =>
  kq (some (gd l38 0)) <| fun v45 =>
  ke (call N_block_Store_Read [v44, v45] h11) <| fun v46 h12 =>
  kq (some v46) <| fun v47 =>
  kq (aExtract v47 0) <| fun v48 =>
  kq (aExtract v47 1) <| fun v49 =>
  kq (some v48) <| fun v50 =>
  kq (some v49) <| fun v51 =>
  kq (some v51) <| fun v52 =>
  kq (rBin .neq .no true v52 (.int .i64 0)) <| fun v53 =>
  kq (some v53) <| fun v54 =>
  kth (fun v66 h19 =>
  kIf v66 (
  kq (some (.bool false)) <| fun v67 =>
  some (v67, h19)) (
  kq (some (gd l38 0)) <| fun v68 =>
  kq (some v7) <| fun v69 =>
  ke (call N_block_Store_Blocks [v69] h19) <| fun v70 h20 =>
  kq (rBin .quo .no true v70 (.int .i64 5)) <| fun v71 =>
  kq (rBin .add .no true (.int .i64 1) v71) <| fun v72 =>
  kq (rBin .add .no false v68 v72) <| fun v73 =>
  kq (some v73) <| fun v74 =>
  j39 [v74] h20)) <| fun j55 =>
  kgq v54 false (fun k => kq (some v50) k) <| fun v56 =>
  kgq v54 false (fun k => kq (some v7) k) <| fun v57 =>
  kgh v54 false h12 (fun k => ke (call N_block_Store_Size [v57] h12) <| fun v58 h13 =>
  k v58 h13) <| fun v59 h14 =>
  kgh v54 false h14 (fun k => km (mMakeSl T_uint8 1 1 [(.int .u8 0)] v59 v59) h14 <| fun v60 h15 =>
  k v60 h15) <| fun v61 h16 =>
  kgh v54 false h16 (fun k => ke (call N_runghelp_Bytes [v56, v61] h16) <| fun v62 h17 =>
  k v62 h17) <| fun v63 h18 =>
  kgq v54 false (fun k => kq (aUn .not v63) k) <| fun v64 =>
  kq (rPick v54 (.bool true) v64) <| fun v65 =>
  j55 v65 h18) (
  kq (some (.bool true)) <| fun v75 =>
  some (v75, h11))
def F_runglaw8_BlockShape (call callD : ACall) (a0 a1 : AVal) (h : AH) : Ans :=
  kq (some (.bool false)) <| fun v0 =>
  ke (call N_runglaw8_known [] h) <| fun v1 h0 =>
  kq (aUn .not v1) <| fun v2 =>
  kIf v2 (
  kq (some (.bool false)) <| fun v3 =>
  some (v3, h0)) (
  kq (some a0) <| fun v4 =>
  kq (some a1) <| fun v5 =>
  ke (call N_block_New [v4, v5] h0) <| fun v6 h1 =>
  kq (some v6) <| fun v7 =>
  kq (some v7) <| fun v8 =>
  ke (call N_block_Store_Blocks [v8] h1) <| fun v9 h2 =>
  kq (some a0) <| fun v10 =>
  kq (aMM aMax2 [v10, (.int .i64 1)]) <| fun v11 =>
  kq (aMM aMin2 [v11, (.int .i64 64)]) <| fun v12 =>
  kq (rBin .neq .no false v9 v12) <| fun v13 =>
  kq (some v13) <| fun v14 =>
  kth (fun v35 h9 =>
  kIf v35 (
  kq (some (.bool false)) <| fun v36 =>
  some (v36, h9)) (
  kq (some (.int .i64 0)) <| fun v37 =>
  kLoop (L_runglaw8_BlockShape_0 call callD v7) rounds [v37] h9)) <| fun j15 =>
  kgq v14 false (fun k => kq (some v7) k) <| fun v16 =>
  kgh v14 false h2 (fun k => ke (call N_block_Store_Size [v16] h2) <| fun v17 h3 =>
  k v17 h3) <| fun v18 h4 =>
  kgq v14 false (fun k => kq (some a1) k) <| fun v19 =>
  kgq v14 false (fun k => kq (aMM aMax2 [v19, (.int .i64 16)]) k) <| fun v20 =>
  kgq v14 false (fun k => kq (aMM aMin2 [v20, (.int .i64 4096)]) k) <| fun v21 =>
  kgq v14 false (fun k => kq (rBin .neq .no false v18 v21) k) <| fun v22 =>
  kq (rPick v14 (.bool true) v22) <| fun v23 =>
  kq (some v23) <| fun v24 =>
  kgq v24 false (fun k => kq (some v7) k) <| fun v25 =>
  kgh v24 false h4 (fun k => ke (call N_block_Store_Dead [v25] h4) <| fun v26 h5 =>
  k v26 h5) <| fun v27 h6 =>
  kq (rPick v24 (.bool true) v27) <| fun v28 =>
  kq (some v28) <| fun v29 =>
  kgq v29 false (fun k => kq (some v7) k) <| fun v30 =>
  kgh v29 false h6 (fun k => ke (call N_block_Store_Writes [v30] h6) <| fun v31 h7 =>
  k v31 h7) <| fun v32 h8 =>
  kgq v29 false (fun k => kq (rBin .neq .no true v32 (.int .i64 0)) k) <| fun v33 =>
  kq (rPick v29 (.bool true) v33) <| fun v34 =>
  j15 v34 h8)
theorem F_runglaw8_BlockShape_eq (call callD : ACall) (a0 a1 : AVal) (h : AH) : kFunc Try.prog [] call callD N_runglaw8_BlockShape [a0, a1] h = F_runglaw8_BlockShape call callD a0 a1 h := by kernel_rfl
theorem C_runglaw8_BlockShape {ov : AOver} (H : Plain ov) (n : Nat) (a0 a1 : AVal) (h : AH) : kc ov (n + 1) N_runglaw8_BlockShape [a0, a1] h = F_runglaw8_BlockShape (kc ov n) (kd ov n) a0 a1 h := by
  have hov : ov N_runglaw8_BlockShape = none := H _ (by decide)
  unfold kc kd; rw [← F_runglaw8_BlockShape_eq]; simp only [kcall, hov]

/-- rung/runglaw8.BlockPlays -/
def L_runglaw8_BlockPlays_0 (call callD : ACall) (a2 : AVal) (v22 : AVal) : (List AVal → AH → Ans) → List AVal → AH → Ans := fun j48 l47 h8 =>
  kq (some (gd l47 2)) <| fun v49 =>
  kq (some a2) <| fun v50 =>
  kq (rLen v50) <| fun v51 =>
  kq (rBin .lss .no false v49 v51) <| fun v52 =>
  kIf v52 (
  kq (some a2) <| fun v53 =>
  kq (some (gd l47 2)) <| fun v54 =>
  kq (rAt 6 v53 v54) <| fun v55 =>
  kq (rLoadA 6 v55 h8) <| fun v56 =>
  km (pBox T_runglaw8_Step (.agg [(.int .i64 0), (.int .i64 0), (.int .i64 0), (.int .i64 0), (.int .u8 0), (.slice none 0 0)])) h8 <| fun v57 h9 =>
  ke ((rStore 6 v57 v56 h9).map fun h' => (.tuple [], h')) <| fun v58 h10 =>
  kq (rFieldP 0 v57) <| fun v59 =>
  kq (rLoad v59 h10) <| fun v60 =>
  kq (rBin .eql .no true v60 (.int .i64 0)) <| fun v61 =>
  kq (some v61) <| fun v62 =>
  kj (fun l63 h11 =>
  kj (fun l65 h12 =>
  kq (some (gd l47 2)) <| fun v67 =>
  kq (rBin .rem .no true v67 (.int .i64 4)) <| fun v68 =>
  kq (rBin .eql .no true v68 (.int .i64 3)) <| fun v69 =>
  kq (some v69) <| fun v70 =>
  kth (fun v78 h15 =>
  kIf v78 (
  kq (some (.bool false)) <| fun v79 =>
  some (v79, h15)) (
  kq (some (gd l47 2)) <| fun v80 =>
  kq (rBin .add .no true v80 (.int .i64 1)) <| fun v81 =>
  kq (some v81) <| fun v82 =>
  j48 [(gd l65 0), (gd l65 1), v82] h15)) <| fun j71 =>
  kgq v70 true (fun k => kq (some (gd l65 0)) k) <| fun v72 =>
  kgq v70 true (fun k => kq (some (gd l65 1)) k) <| fun v73 =>
  kgh v70 true h12 (fun k => ke (call N_runglaw8_alike [v72, v73] h12) <| fun v74 h13 =>
  k v74 h13) <| fun v75 h14 =>
  kgq v70 true (fun k => kq (aUn .not v75) k) <| fun v76 =>
  kq (rPick v70 v76 (.bool false)) <| fun v77 =>
  j71 v77 h14) <| fun j66 =>
  kIf (gd l63 0) (
  kq (rFieldP 5 v57) <| fun v83 =>
  kq (rLoad v83 h11) <| fun v84 =>
  kq (some v22) <| fun v85 =>
  ke (call N_runglaw8_drawn [v84, v85] h11) <| fun v86 h16 =>
  kq (some v86) <| fun v87 =>
  kq (rFieldP 2 v57) <| fun v88 =>
  kq (rLoad v88 h16) <| fun v89 =>
  kq (rBin .eql .no true v89 (.int .i64 7)) <| fun v90 =>
  kj (fun l91 h17 =>
  kq (some (gd l91 0)) <| fun v93 =>
  ke (call N_runghelp_Copy [v93] h17) <| fun v94 h18 =>
  kq (some v94) <| fun v95 =>
  kq (some (gd l47 0)) <| fun v96 =>
  kq (rFieldP 1 v57) <| fun v97 =>
  kq (rLoad v97 h18) <| fun v98 =>
  kq (some v95) <| fun v99 =>
  ke (call N_block_Store_Write [v96, v98, v99] h18) <| fun v100 h19 =>
  kq (some v100) <| fun v101 =>
  kq (some v95) <| fun v102 =>
  ke (call N_runghelp_Spoil [v102] h19) <| fun v103 h20 =>
  kq (some v101) <| fun v104 =>
  kq (some (gd l47 1)) <| fun v105 =>
  kq (rFieldP 1 v57) <| fun v106 =>
  kq (rLoad v106 h20) <| fun v107 =>
  kq (some (gd l91 0)) <| fun v108 =>
  ke (call N_rungref8_Store_Write [v105, v107, v108] h20) <| fun v109 h21 =>
  kq (rBin .neq .no false v104 v109) <| fun v110 =>
  kIf v110 (
  kq (some (.bool false)) <| fun v111 =>
  some (v111, h21)) (
  j66 [(gd l47 0), (gd l47 1)] h21)) <| fun j92 =>
  kIf v90 (
  kq (rFieldP 5 v57) <| fun v112 =>
  kq (rLoad v112 h16) <| fun v113 =>
  kq (some v113) <| fun v114 =>
  j92 [v114] h16) (
  j92 [v87] h16)) (
  kq (rBin .eql .no true v60 (.int .i64 5)) <| fun v115 =>
  kq (some v115) <| fun v116 =>
  kj (fun l117 h22 =>
  j66 [(gd l117 0), (gd l117 1)] h22) <| fun j118 =>
  kIf v116 (
  kq (some (gd l47 0)) <| fun v119 =>
  kq (rFieldP 2 v57) <| fun v120 =>
  kq (rLoad v120 h11) <| fun v121 =>
  kq (rFieldP 3 v57) <| fun v122 =>
  kq (rLoad v122 h11) <| fun v123 =>
  ke (call N_block_Store_Cut [v119, v121, v123] h11) <| fun v124 h23 =>
  kq (some (gd l47 1)) <| fun v125 =>
  kq (rFieldP 2 v57) <| fun v126 =>
  kq (rLoad v126 h23) <| fun v127 =>
  kq (rFieldP 3 v57) <| fun v128 =>
  kq (rLoad v128 h23) <| fun v129 =>
  ke (call N_rungref8_Store_Cut [v125, v127, v129] h23) <| fun v130 h24 =>
  j118 [(gd l47 0), (gd l47 1)] h24) (
  kq (rBin .eql .no true v60 (.int .i64 6)) <| fun v131 =>
  kq (some v131) <| fun v132 =>
  kj (fun l133 h25 =>
  j118 [(gd l133 0), (gd l133 1)] h25) <| fun j134 =>
  kIf v132 (
  kq (some (gd l47 0)) <| fun v135 =>
  ke (call N_block_Store_Power [v135] h11) <| fun v136 h26 =>
  kq (some (gd l47 1)) <| fun v137 =>
  ke (call N_rungref8_Store_Power [v137] h26) <| fun v138 h27 =>
  j134 [(gd l47 0), (gd l47 1)] h27) (
  kq (rBin .eql .no true v60 (.int .i64 7)) <| fun v139 =>
  kq (some v139) <| fun v140 =>
  kj (fun l141 h28 =>
  j134 [(gd l141 0), (gd l141 1)] h28) <| fun j142 =>
  kIf v140 (
  kq (some (gd l47 0)) <| fun v143 =>
  kq (rFieldP 1 v57) <| fun v144 =>
  kq (rLoad v144 h11) <| fun v145 =>
  kq (rFieldP 3 v57) <| fun v146 =>
  kq (rLoad v146 h11) <| fun v147 =>
  kq (rFieldP 4 v57) <| fun v148 =>
  kq (rLoad v148 h11) <| fun v149 =>
  ke (call N_block_Store_Spoil [v143, v145, v147, v149] h11) <| fun v150 h29 =>
  kq (some (gd l47 1)) <| fun v151 =>
  kq (rFieldP 1 v57) <| fun v152 =>
  kq (rLoad v152 h29) <| fun v153 =>
  kq (rFieldP 3 v57) <| fun v154 =>
  kq (rLoad v154 h29) <| fun v155 =>
  kq (rFieldP 4 v57) <| fun v156 =>
  kq (rLoad v156 h29) <| fun v157 =>
  ke (call N_rungref8_Store_Spoil [v151, v153, v155, v157] h29) <| fun v158 h30 =>
  j142 [(gd l47 0), (gd l47 1)] h30) (
  kq (rBin .eql .no true v60 (.int .i64 8)) <| fun v159 =>
  kq (some v159) <| fun v160 =>
  kj (fun l161 h31 =>
  j142 [(gd l161 0), (gd l161 1)] h31) <| fun j162 =>
  kIf v160 (
  kq (some (gd l47 0)) <| fun v163 =>
  ke (call N_block_Store_Copy [v163] h11) <| fun v164 h32 =>
  kq (some v164) <| fun v165 =>
  kq (some (gd l47 0)) <| fun v166 =>
  km (mBuildSl T_uint8 1 [(.int .u8 0)] 3 [(0, (.int .u8 1)), (1, (.int .u8 2)), (2, (.int .u8 3))]) h32 <| fun v167 h33 =>
  kq (some v22) <| fun v168 =>
  ke (call N_runglaw8_drawn [v167, v168] h33) <| fun v169 h34 =>
  ke (call N_block_Store_Write [v166, (.int .i64 0), v169] h34) <| fun v170 h35 =>
  kq (some v165) <| fun v171 =>
  kq (some (gd l47 1)) <| fun v172 =>
  ke (call N_rungref8_Store_Copy [v172] h35) <| fun v173 h36 =>
  kq (some v171) <| fun v174 =>
  kq (some v173) <| fun v175 =>
  j162 [v174, v175] h36) (
  j162 [(gd l47 0), (gd l47 1)] h11)))))) <| fun j64 =>
  kIf v62 (
  j64 [v62] h10) (
  kq (rBin .eql .no true v60 (.int .i64 1)) <| fun v176 =>
  kq (some v176) <| fun v177 =>
  kj (fun l178 h37 =>
  j64 [(gd l178 0)] h37) <| fun j179 =>
  kIf v177 (
  j179 [v177] h10) (
  kq (rBin .eql .no true v60 (.int .i64 2)) <| fun v180 =>
  kq (some v180) <| fun v181 =>
  kj (fun l182 h38 =>
  j179 [(gd l182 0)] h38) <| fun j183 =>
  kIf v181 (
  j183 [v181] h10) (
  kq (rBin .eql .no true v60 (.int .i64 3)) <| fun v184 =>
  kq (some v184) <| fun v185 =>
  j183 [v185] h10)))) (
  kq (some (gd l47 0)) <| fun v186 =>
  kq (some (gd l47 1)) <| fun v187 =>
  ke (call N_runglaw8_alike [v186, v187] h8) <| fun v188 h39 =>
  kq (some v188) <| fun v189 =>
  some (v189, h39))
def F_runglaw8_BlockPlays (call callD : ACall) (a0 a1 a2 : AVal) (h : AH) : Ans :=
  kq (some (.bool false)) <| fun v0 =>
  ke (call N_runglaw8_known [] h) <| fun v1 h0 =>
  kq (aUn .not v1) <| fun v2 =>
  kIf v2 (
  kq (some (.bool false)) <| fun v3 =>
  some (v3, h0)) (
  kq (some a2) <| fun v4 =>
  ke (call N_runglaw8_light [v4] h0) <| fun v5 h1 =>
  kq (aUn .not v5) <| fun v6 =>
  kIf v6 (
  kq (some (.bool true)) <| fun v7 =>
  some (v7, h1)) (
  kq (some a1) <| fun v8 =>
  kq (rBin .gtr .no true v8 (.int .i64 300)) <| fun v9 =>
  kj (fun l10 h2 =>
  kq (some a0) <| fun v12 =>
  kq (some (gd l10 0)) <| fun v13 =>
  ke (call N_block_New [v12, v13] h2) <| fun v14 h3 =>
  kq (some a0) <| fun v15 =>
  kq (some (gd l10 0)) <| fun v16 =>
  ke (call N_rungref8_New [v15, v16] h3) <| fun v17 h4 =>
  kq (some v14) <| fun v18 =>
  kq (some v17) <| fun v19 =>
  kq (some v18) <| fun v20 =>
  ke (call N_block_Store_Size [v20] h4) <| fun v21 h5 =>
  kq (some v21) <| fun v22 =>
  kq (some v19) <| fun v23 =>
  ke (call N_rungref8_Store_Read [v23, (.int .i64 0)] h5) <| fun v24 h6 =>
  kq (some v24) <| fun v25 =>
  kq (aExtract v25 0) <| fun v26 =>
  kq (aExtract v25 1) <| fun v27 =>
  kq (some v26) <| fun v28 =>
  kq (some v27) <| fun v29 =>
  kq (some v29) <| fun v30 =>
  kq (rBin .neq .no true v30 (.int .i64 0)) <| fun v31 =>
  kq (some v31) <| fun v32 =>
  kt (fun v44 =>
  kIf v44 (
  kq (some (.bool false)) <| fun v45 =>
  some (v45, h6)) (
  kq (some (.int .i64 0)) <| fun v46 =>
  kLoop (L_runglaw8_BlockPlays_0 call callD a2 v22) rounds [v18, v19, v46] h6)) <| fun j33 =>
  kgq v32 false (fun k => kq (some v22) k) <| fun v34 =>
  kgq v32 false (fun k => kq (some v19) k) <| fun v35 =>
  kgq v32 false (fun k => kq (aNilCheck v35) k) <| fun v36 =>
  kgq v32 false (fun k => kq (rFieldP 0 v36) k) <| fun v37 =>
  kgq v32 false (fun k => kq (rLoad v37 h6) k) <| fun v38 =>
  kgq v32 false (fun k => kq (rAt 1 v38 (.int .i64 0)) k) <| fun v39 =>
  kgq v32 false (fun k => kq (rLoad v39 h6) k) <| fun v40 =>
  kgq v32 false (fun k => kq (rLen v40) k) <| fun v41 =>
  kgq v32 false (fun k => kq (rBin .neq .no false v34 v41) k) <| fun v42 =>
  kq (rPick v32 (.bool true) v42) <| fun v43 =>
  j33 v43) <| fun j11 =>
  kIf v9 (
  kq (some (.int .i64 300)) <| fun v190 =>
  j11 [v190] h1) (
  j11 [a1] h1)))
theorem F_runglaw8_BlockPlays_eq (call callD : ACall) (a0 a1 a2 : AVal) (h : AH) : kFunc Try.prog [] call callD N_runglaw8_BlockPlays [a0, a1, a2] h = F_runglaw8_BlockPlays call callD a0 a1 a2 h := by kernel_rfl
theorem C_runglaw8_BlockPlays {ov : AOver} (H : Plain ov) (n : Nat) (a0 a1 a2 : AVal) (h : AH) : kc ov (n + 1) N_runglaw8_BlockPlays [a0, a1, a2] h = F_runglaw8_BlockPlays (kc ov n) (kd ov n) a0 a1 a2 h := by
  have hov : ov N_runglaw8_BlockPlays = none := H _ (by decide)
  unfold kc kd; rw [← F_runglaw8_BlockPlays_eq]; simp only [kcall, hov]

/-- rung/runglaw8.BlockApart -/
def L_runglaw8_BlockApart_0 (call callD : ACall) (v24 : AVal) (a1 : AVal) (v20 : AVal) (v21 : AVal) (a2 : AVal) : (List AVal → AH → Ans) → List AVal → AH → Ans := fun j71 l70 h16 =>
  kq (some (gd l70 0)) <| fun v72 =>
  kq (rBin .lss .no true v72 (.int .i64 4)) <| fun v73 =>
  kIf v73 (
  kq (some v24) <| fun v74 =>
  kq (some (gd l70 0)) <| fun v75 =>
  ke (call N_block_Store_Read [v74, v75] h16) <| fun v76 h17 =>
  kq (some v76) <| fun v77 =>
  kq (aExtract v77 0) <| fun v78 =>
  kq (aExtract v77 1) <| fun v79 =>
  kq (some v78) <| fun v80 =>
  kq (some v79) <| fun v81 =>
  kq (some v81) <| fun v82 =>
  kq (rBin .neq .no true v82 (.int .i64 0)) <| fun v83 =>
  kq (some v83) <| fun v84 =>
  kth (fun v95 h22 =>
  kIf v95 (
  kq (some (.bool false)) <| fun v96 =>
  some (v96, h22)) (
  kq (some (gd l70 0)) <| fun v97 =>
  kq (rBin .add .no true v97 (.int .i64 1)) <| fun v98 =>
  kq (some v98) <| fun v99 =>
  j71 [v99] h22)) <| fun j85 =>
  kgq v84 false (fun k => kq (some v80) k) <| fun v86 =>
  kgq v84 false (fun k => kq (some a1) k) <| fun v87 =>
  kgq v84 false (fun k => kq (some v20) k) <| fun v88 =>
  kgh v84 false h17 (fun k => ke (call N_runglaw8_drawn [v87, v88] h17) <| fun v89 h18 =>
  k v89 h18) <| fun v90 h19 =>
  kgh v84 false h19 (fun k => ke (call N_runghelp_Bytes [v86, v90] h19) <| fun v91 h20 =>
  k v91 h20) <| fun v92 h21 =>
  kgq v84 false (fun k => kq (aUn .not v92) k) <| fun v93 =>
  kq (rPick v84 (.bool true) v93) <| fun v94 =>
  j85 v94 h21) (
  kq (some v24) <| fun v100 =>
  ke (call N_block_Store_Writes [v100] h16) <| fun v101 h23 =>
  kq (rBin .eql .no true v101 (.int .i64 4)) <| fun v102 =>
  kq (some v102) <| fun v103 =>
  kth (fun v121 h30 =>
  kq (some v121) <| fun v122 =>
  some (v122, h30)) <| fun j104 =>
  kgq v103 true (fun k => kq (some v24) k) <| fun v105 =>
  kgh v103 true h23 (fun k => ke (call N_block_Store_Dead [v105] h23) <| fun v106 h24 =>
  k v106 h24) <| fun v107 h25 =>
  kgq v103 true (fun k => kq (aUn .not v107) k) <| fun v108 =>
  kq (rPick v103 v108 (.bool false)) <| fun v109 =>
  kq (some v109) <| fun v110 =>
  kgq v110 true (fun k => kq (some v24) k) <| fun v111 =>
  kgq v110 true (fun k => kq (some v21) k) <| fun v112 =>
  kgq v110 true (fun k => kq (some a2) k) <| fun v113 =>
  kgq v110 true (fun k => kq (some v20) k) <| fun v114 =>
  kgh v110 true h25 (fun k => ke (call N_runglaw8_drawn [v113, v114] h25) <| fun v115 h26 =>
  k v115 h26) <| fun v116 h27 =>
  kgh v110 true h27 (fun k => ke (call N_block_Store_Write [v111, v112, v116] h27) <| fun v117 h28 =>
  k v117 h28) <| fun v118 h29 =>
  kgq v110 true (fun k => kq (rBin .eql .no true v118 (.int .i64 0)) k) <| fun v119 =>
  kq (rPick v110 v119 (.bool false)) <| fun v120 =>
  j104 v120 h29)
def L_runglaw8_BlockApart_1 (call callD : ACall) (v41 : AVal) (v21 : AVal) (a2 : AVal) (v20 : AVal) (v24 : AVal) (a1 : AVal) : (List AVal → AH → Ans) → List AVal → AH → Ans := fun j49 l48 h11 =>
  kq (some (gd l48 0)) <| fun v50 =>
  kq (rBin .lss .no true v50 (.int .i64 4)) <| fun v51 =>
  kIf v51 (
  kq (some v41) <| fun v52 =>
  kq (some v21) <| fun v53 =>
  kq (some (gd l48 0)) <| fun v54 =>
  kq (rBin .add .no false v53 v54) <| fun v55 =>
  kq (rBin .rem .no true v55 (.int .i64 4)) <| fun v56 =>
  kq (some a2) <| fun v57 =>
  kq (some v20) <| fun v58 =>
  ke (call N_runglaw8_drawn [v57, v58] h11) <| fun v59 h12 =>
  ke (call N_block_Store_Write [v52, v56, v59] h12) <| fun v60 h13 =>
  kq (some (gd l48 0)) <| fun v61 =>
  kq (rBin .add .no true v61 (.int .i64 1)) <| fun v62 =>
  kq (some v62) <| fun v63 =>
  j49 [v63] h13) (
  kq (some v41) <| fun v64 =>
  ke (call N_block_Store_Power [v64] h11) <| fun v65 h14 =>
  kq (some v41) <| fun v66 =>
  kq (some v21) <| fun v67 =>
  ke (call N_block_Store_Spoil [v66, v67, (.int .i64 3), (.int .u8 9)] h14) <| fun v68 h15 =>
  kq (some (.int .i64 0)) <| fun v69 =>
  kLoop (L_runglaw8_BlockApart_0 call callD v24 a1 v20 v21 a2) rounds [v69] h15)
def L_runglaw8_BlockApart_2 (call callD : ACall) (v24 : AVal) (a1 : AVal) (v20 : AVal) (a4 : AVal) (a5 : AVal) (v21 : AVal) (a2 : AVal) : (List AVal → AH → Ans) → List AVal → AH → Ans := fun j27 l26 h5 =>
  kq (some (gd l26 0)) <| fun v28 =>
  kq (rBin .lss .no true v28 (.int .i64 4)) <| fun v29 =>
  kIf v29 (
  kq (some v24) <| fun v30 =>
  kq (some (gd l26 0)) <| fun v31 =>
  kq (some a1) <| fun v32 =>
  kq (some v20) <| fun v33 =>
  ke (call N_runglaw8_drawn [v32, v33] h5) <| fun v34 h6 =>
  ke (call N_block_Store_Write [v30, v31, v34] h6) <| fun v35 h7 =>
  kq (some (gd l26 0)) <| fun v36 =>
  kq (rBin .add .no true v36 (.int .i64 1)) <| fun v37 =>
  kq (some v37) <| fun v38 =>
  j27 [v38] h7) (
  kq (some v24) <| fun v39 =>
  ke (call N_block_Store_Copy [v39] h5) <| fun v40 h8 =>
  kq (some v40) <| fun v41 =>
  kq (some v41) <| fun v42 =>
  kq (some a4) <| fun v43 =>
  ke (call N_runghelp_Place [v43, (.int .i64 3)] h8) <| fun v44 h9 =>
  kq (some a5) <| fun v45 =>
  ke (call N_block_Store_Cut [v42, v44, v45] h9) <| fun v46 h10 =>
  kq (some (.int .i64 0)) <| fun v47 =>
  kLoop (L_runglaw8_BlockApart_1 call callD v41 v21 a2 v20 v24 a1) rounds [v47] h10)
def F_runglaw8_BlockApart (call callD : ACall) (a0 a1 a2 a3 a4 a5 : AVal) (h : AH) : Ans :=
  kq (some (.bool false)) <| fun v0 =>
  ke (call N_runglaw8_known [] h) <| fun v1 h0 =>
  kq (aUn .not v1) <| fun v2 =>
  kIf v2 (
  kq (some (.bool false)) <| fun v3 =>
  some (v3, h0)) (
  kq (some a1) <| fun v4 =>
  kq (rLen v4) <| fun v5 =>
  kq (rBin .gtr .no true v5 (.int .i64 200)) <| fun v6 =>
  kq (some v6) <| fun v7 =>
  kt (fun v13 =>
  kIf v13 (
  kq (some (.bool true)) <| fun v14 =>
  some (v14, h0)) (
  kq (some a0) <| fun v15 =>
  ke (call N_runghelp_Place [v15, (.int .i64 100)] h0) <| fun v16 h2 =>
  kq (rBin .add .no true (.int .i64 16) v16) <| fun v17 =>
  kq (some a3) <| fun v18 =>
  ke (call N_runghelp_Place [v18, (.int .i64 4)] h2) <| fun v19 h3 =>
  kq (some v17) <| fun v20 =>
  kq (some v19) <| fun v21 =>
  kq (some v20) <| fun v22 =>
  ke (call N_block_New [(.int .i64 4), v22] h3) <| fun v23 h4 =>
  kq (some v23) <| fun v24 =>
  kq (some (.int .i64 0)) <| fun v25 =>
  kLoop (L_runglaw8_BlockApart_2 call callD v24 a1 v20 a4 a5 v21 a2) rounds [v25] h4)) <| fun j8 =>
  kgq v7 false (fun k => kq (some a2) k) <| fun v9 =>
  kgq v7 false (fun k => kq (rLen v9) k) <| fun v10 =>
  kgq v7 false (fun k => kq (rBin .gtr .no true v10 (.int .i64 200)) k) <| fun v11 =>
  kq (rPick v7 (.bool true) v11) <| fun v12 =>
  j8 v12)
theorem F_runglaw8_BlockApart_eq (call callD : ACall) (a0 a1 a2 a3 a4 a5 : AVal) (h : AH) : kFunc Try.prog [] call callD N_runglaw8_BlockApart [a0, a1, a2, a3, a4, a5] h = F_runglaw8_BlockApart call callD a0 a1 a2 a3 a4 a5 h := by kernel_rfl
theorem C_runglaw8_BlockApart {ov : AOver} (H : Plain ov) (n : Nat) (a0 a1 a2 a3 a4 a5 : AVal) (h : AH) : kc ov (n + 1) N_runglaw8_BlockApart [a0, a1, a2, a3, a4, a5] h = F_runglaw8_BlockApart (kc ov n) (kd ov n) a0 a1 a2 a3 a4 a5 h := by
  have hov : ov N_runglaw8_BlockApart = none := H _ (by decide)
  unfold kc kd; rw [← F_runglaw8_BlockApart_eq]; simp only [kcall, hov]

/-- rung/runglaw8.known -/
def F_runglaw8_known (call callD : ACall) (h : AH) : Ans :=
  kq (some (.bool false)) <| fun v0 =>
  ke (call N_block_New [(.int .i64 2), (.int .i64 16)] h) <| fun v1 h0 =>
  kq (some v1) <| fun v2 =>
  kq (some v2) <| fun v3 =>
  kq (rBin .eql .ptr true v3 (.ptr none)) <| fun v4 =>
  kIf v4 (
  kq (some (.bool false)) <| fun v5 =>
  some (v5, h0)) (
  km (mBuildSl T_uint8 1 [(.int .u8 0)] 4 [(0, (.int .u8 97)), (1, (.int .u8 98)), (2, (.int .u8 99)), (3, (.int .u8 100))]) h0 <| fun v6 h1 =>
  ke (rConvB v6 h1) <| fun v7 h2 =>
  ke (call N_runglaw8_drawn [v7, (.int .i64 16)] h2) <| fun v8 h3 =>
  kq (some v8) <| fun v9 =>
  kq (some v2) <| fun v10 =>
  ke (call N_block_Store_Cut [v10, (.int .i64 0), (.int .i64 2)] h3) <| fun v11 h4 =>
  kq (some v2) <| fun v12 =>
  kq (some v9) <| fun v13 =>
  ke (call N_block_Store_Write [v12, (.int .i64 0), v13] h4) <| fun v14 h5 =>
  kq (some v14) <| fun v15 =>
  kq (some v2) <| fun v16 =>
  ke (call N_block_Store_Dead [v16] h5) <| fun v17 h6 =>
  kq (some v17) <| fun v18 =>
  kq (some v2) <| fun v19 =>
  ke (call N_block_Store_Power [v19] h6) <| fun v20 h7 =>
  kq (some v2) <| fun v21 =>
  ke (call N_block_Store_Read [v21, (.int .i64 0)] h7) <| fun v22 h8 =>
  kq (some v22) <| fun v23 =>
  kq (aExtract v23 0) <| fun v24 =>
  kq (aExtract v23 1) <| fun v25 =>
  kq (some v24) <| fun v26 =>
  kq (some v25) <| fun v27 =>
  kq (some v2) <| fun v28 =>
  kq (some v9) <| fun v29 =>
  kq (rCut 1 v29 none (some (.int .i64 5)) none) <| fun v30 =>
  ke (call N_block_Store_Write [v28, (.int .i64 0), v30] h8) <| fun v31 h9 =>
  kq (some v31) <| fun v32 =>
  kq (some v2) <| fun v33 =>
  ke (call N_block_Store_Read [v33, (.int .i64 2)] h9) <| fun v34 h10 =>
  kq (some v34) <| fun v35 =>
  kq (aExtract v35 0) <| fun v36 =>
  kq (aExtract v35 1) <| fun v37 =>
  kq (some v36) <| fun v38 =>
  kq (some v37) <| fun v39 =>
  kq (some v15) <| fun v40 =>
  kq (rBin .eql .no true v40 (.int .i64 82)) <| fun v41 =>
  kq (some v41) <| fun v42 =>
  kth (fun v87 h17 =>
  kq (some v87) <| fun v88 =>
  some (v88, h17)) <| fun j43 =>
  kgq v42 true (fun k => kq (some v18) k) <| fun v44 =>
  kq (rPick v42 v44 (.bool false)) <| fun v45 =>
  kq (some v45) <| fun v46 =>
  kgq v46 true (fun k => kq (some v27) k) <| fun v47 =>
  kgq v46 true (fun k => kq (rBin .eql .no true v47 (.int .i64 0)) k) <| fun v48 =>
  kq (rPick v46 v48 (.bool false)) <| fun v49 =>
  kq (some v49) <| fun v50 =>
  kgq v50 true (fun k => kq (some v26) k) <| fun v51 =>
  kgq v50 true (fun k => kq (rLen v51) k) <| fun v52 =>
  kgq v50 true (fun k => kq (rBin .eql .no true v52 (.int .i64 16)) k) <| fun v53 =>
  kq (rPick v50 v53 (.bool false)) <| fun v54 =>
  kq (some v54) <| fun v55 =>
  kgq v55 true (fun k => kq (some v26) k) <| fun v56 =>
  kgq v55 true (fun k => kq (rCut 1 v56 none (some (.int .i64 3)) none) k) <| fun v57 =>
  kgq v55 true (fun k => kq (rText v57 h10) k) <| fun v58 =>
  kgq v55 true (fun k => kq (rBin .eql .no true v58 (.str [97, 98, 0])) k) <| fun v59 =>
  kq (rPick v55 v59 (.bool false)) <| fun v60 =>
  kq (some v60) <| fun v61 =>
  kgq v61 true (fun k => kq (some v32) k) <| fun v62 =>
  kgq v61 true (fun k => kq (rBin .eql .no true v62 (.int .i64 81)) k) <| fun v63 =>
  kq (rPick v61 v63 (.bool false)) <| fun v64 =>
  kq (some v64) <| fun v65 =>
  kgq v65 true (fun k => kq (some v39) k) <| fun v66 =>
  kgq v65 true (fun k => kq (rBin .eql .no true v66 (.int .i64 80)) k) <| fun v67 =>
  kq (rPick v65 v67 (.bool false)) <| fun v68 =>
  kq (some v68) <| fun v69 =>
  kgq v69 true (fun k => kq (some v2) k) <| fun v70 =>
  kgh v69 true h10 (fun k => ke (call N_block_Store_Writes [v70] h10) <| fun v71 h11 =>
  k v71 h11) <| fun v72 h12 =>
  kgq v69 true (fun k => kq (rBin .eql .no true v72 (.int .i64 0)) k) <| fun v73 =>
  kq (rPick v69 v73 (.bool false)) <| fun v74 =>
  kq (some v74) <| fun v75 =>
  kgq v75 true (fun k => kq (some v2) k) <| fun v76 =>
  kgh v75 true h12 (fun k => ke (call N_block_Store_Size [v76] h12) <| fun v77 h13 =>
  k v77 h13) <| fun v78 h14 =>
  kgq v75 true (fun k => kq (rBin .eql .no true v78 (.int .i64 16)) k) <| fun v79 =>
  kq (rPick v75 v79 (.bool false)) <| fun v80 =>
  kq (some v80) <| fun v81 =>
  kgq v81 true (fun k => kq (some v2) k) <| fun v82 =>
  kgh v81 true h14 (fun k => ke (call N_block_Store_Blocks [v82] h14) <| fun v83 h15 =>
  k v83 h15) <| fun v84 h16 =>
  kgq v81 true (fun k => kq (rBin .eql .no true v84 (.int .i64 2)) k) <| fun v85 =>
  kq (rPick v81 v85 (.bool false)) <| fun v86 =>
  j43 v86 h16)
theorem F_runglaw8_known_eq (call callD : ACall) (h : AH) : kFunc Try.prog [] call callD N_runglaw8_known [] h = F_runglaw8_known call callD h := by kernel_rfl
theorem C_runglaw8_known {ov : AOver} (hov : ov N_runglaw8_known = none) (n : Nat) (h : AH) : kcall Try.prog [] ov (n + 1) N_runglaw8_known [] h = F_runglaw8_known (kcall Try.prog [] ov n) (kFuncD Try.prog [] (kcall Try.prog [] ov n)) h := by
  rw [← F_runglaw8_known_eq]; simp only [kcall, hov]

/-- rung/runghelp.Place -/
def F_runghelp_Place (call callD : ACall) (a0 a1 : AVal) (h : AH) : Ans :=
  kq (some (.int .i64 0)) <| fun v0 =>
  kq (some a0) <| fun v1 =>
  kq (some a1) <| fun v2 =>
  kq (rBin .rem .no false v1 v2) <| fun v3 =>
  kq (some v3) <| fun v4 =>
  kq (some v4) <| fun v5 =>
  kq (rBin .lss .no true v5 (.int .i64 0)) <| fun v6 =>
  kj (fun l7 h0 =>
  kq (some (gd l7 0)) <| fun v9 =>
  kq (some v9) <| fun v10 =>
  some (v10, h0)) <| fun j8 =>
  kIf v6 (
  kq (some v4) <| fun v11 =>
  kq (some a1) <| fun v12 =>
  kq (rBin .add .no false v11 v12) <| fun v13 =>
  kq (some v13) <| fun v14 =>
  j8 [v14] h) (
  j8 [v4] h)
theorem F_runghelp_Place_eq (call callD : ACall) (a0 a1 : AVal) (h : AH) : kFunc Try.prog [] call callD N_runghelp_Place [a0, a1] h = F_runghelp_Place call callD a0 a1 h := by kernel_rfl
theorem C_runghelp_Place {ov : AOver} (H : Plain ov) (n : Nat) (a0 a1 : AVal) (h : AH) : kc ov (n + 1) N_runghelp_Place [a0, a1] h = F_runghelp_Place (kc ov n) (kd ov n) a0 a1 h := by
  have hov : ov N_runghelp_Place = none := H _ (by decide)
  unfold kc kd; rw [← F_runghelp_Place_eq]; simp only [kcall, hov]

/-- rung/block.New -/
def L_block_New_0 (call callD : ACall) (v9 : AVal) (v6 : AVal) : (List AVal → AH → Ans) → List AVal → AH → Ans := fun j12 l11 h1 =>
  kq (rBin .lss .no false (gd l11 0) v9) <| fun v13 =>
  kIf v13 (
  kq (some v6) <| fun v14 =>
  kq (some v6) <| fun v15 =>
  kq (aNilCheck v15) <| fun v16 =>
  kq (rFieldP 0 v16) <| fun v17 =>
  kq (rLoad v17 h1) <| fun v18 =>
  kq (some v6) <| fun v19 =>
  kq (aNilCheck v19) <| fun v20 =>
  kq (rFieldP 1 v20) <| fun v21 =>
  kq (rLoad v21 h1) <| fun v22 =>
  km (mMakeSl T_uint8 1 1 [(.int .u8 0)] v22 v22) h1 <| fun v23 h2 =>
  km (mBuildSl T___uint8 1 [(.slice none 0 0)] 1 [(0, v23)]) h2 <| fun v24 h3 =>
  kChk (!true || kSame (rLoad v21 h3) v22) <|
  kChk (!true || kSame (rLoad v17 h3) v18) <|
  ke (rAppend T___uint8 1 24 v18 v24 h3) <| fun v25 h4 =>
  kq (aNilCheck v14) <| fun v26 =>
  kq (rFieldP 0 v26) <| fun v27 =>
  kChk (!false || kSame (rLoad v21 h4) v22) <|
  kChk (!false || kSame (rLoad v17 h4) v18) <|
  ke ((rStore 1 v27 v25 h4).map fun h' => (.tuple [], h')) <| fun v28 h5 =>
  kChk (!false || kSame (rLoad v21 h5) v22) <|
  kChk (!false || kSame (rLoad v17 h5) v18) <|
  kq (rBin .add .no true (gd l11 0) (.int .i64 1)) <| fun v29 =>
  kq (some v29) <| fun v30 =>
  j12 [v30] h5) (
  kq (some v6) <| fun v31 =>
  kq (some v31) <| fun v32 =>
  some (v32, h1))
def F_block_New (call callD : ACall) (a0 a1 : AVal) (h : AH) : Ans :=
  kq (some (.ptr none)) <| fun v0 =>
  kq (some a1) <| fun v1 =>
  kq (aMM aMax2 [v1, (.int .i64 16)]) <| fun v2 =>
  kq (aMM aMin2 [v2, (.int .i64 4096)]) <| fun v3 =>
  kq (rBuild [(.slice none 0 0), (.int .i64 0), (.int .i64 0), (.int .i64 0), (.int .i64 0), (.bool false)] [(0, 1), (1, 1), (2, 1), (3, 1), (4, 1), (5, 1)] [(1, v3), (3, (.int .i64 (-1)))]) <| fun v4 =>
  km (pBox T_block_Store v4) h <| fun v5 h0 =>
  kq (some v5) <| fun v6 =>
  kq (some a0) <| fun v7 =>
  kq (aMM aMax2 [v7, (.int .i64 1)]) <| fun v8 =>
  kq (aMM aMin2 [v8, (.int .i64 64)]) <| fun v9 =>
  kq (some (.int .i64 0)) <| fun v10 =>
  kLoop (L_block_New_0 call callD v9 v6) rounds [v10] h0
theorem F_block_New_eq (call callD : ACall) (a0 a1 : AVal) (h : AH) : kFunc Try.prog [] call callD N_block_New [a0, a1] h = F_block_New call callD a0 a1 h := by kernel_rfl
theorem C_block_New {ov : AOver} (H : Plain ov) (n : Nat) (a0 a1 : AVal) (h : AH) : kc ov (n + 1) N_block_New [a0, a1] h = F_block_New (kc ov n) (kd ov n) a0 a1 h := by
  have hov : ov N_block_New = none := H _ (by decide)
  unfold kc kd; rw [← F_block_New_eq]; simp only [kcall, hov]

/-- rung/runglaw8.drawn -/
def L_runglaw8_drawn_0 (call callD : ACall) (a1 : AVal) (v3 : AVal) (a0 : AVal) : (List AVal → AH → Ans) → List AVal → AH → Ans := fun j6 l5 h1 =>
  kq (some (gd l5 0)) <| fun v7 =>
  kq (some a1) <| fun v8 =>
  kq (rBin .lss .no false v7 v8) <| fun v9 =>
  kq (some v9) <| fun v10 =>
  kt (fun v16 =>
  kIf v16 (
  kq (some v3) <| fun v17 =>
  kq (some (gd l5 0)) <| fun v18 =>
  kq (some a0) <| fun v19 =>
  kq (some (gd l5 0)) <| fun v20 =>
  kq (some a0) <| fun v21 =>
  kq (rLen v21) <| fun v22 =>
  kq (rBin .rem .no false v20 v22) <| fun v23 =>
  kq (rAt 1 v19 v23) <| fun v24 =>
  kq (rLoad v24 h1) <| fun v25 =>
  kq (some (gd l5 0)) <| fun v26 =>
  kq (some a0) <| fun v27 =>
  kq (rLen v27) <| fun v28 =>
  kq (rBin .quo .no false v26 v28) <| fun v29 =>
  kq (rConvI .u8 v29) <| fun v30 =>
  kq (rBin .add .no false v25 v30) <| fun v31 =>
  kq (rAt 1 v17 v18) <| fun v32 =>
  ke ((rStore 1 v32 v31 h1).map fun h' => (.tuple [], h')) <| fun v33 h3 =>
  kChk (!false || kSame (rLoad v24 h3) v25) <|
  kq (some (gd l5 0)) <| fun v34 =>
  kq (rBin .add .no true v34 (.int .i64 1)) <| fun v35 =>
  kq (some v35) <| fun v36 =>
  j6 [v36] h3) (
  kq (some v3) <| fun v37 =>
  kq (some v37) <| fun v38 =>
  some (v38, h1))) <| fun j11 =>
  kgq v10 true (fun k => kq (some a0) k) <| fun v12 =>
  kgq v10 true (fun k => kq (rLen v12) k) <| fun v13 =>
  kgq v10 true (fun k => kq (rBin .gtr .no true v13 (.int .i64 0)) k) <| fun v14 =>
  kq (rPick v10 v14 (.bool false)) <| fun v15 =>
  j11 v15
def F_runglaw8_drawn (call callD : ACall) (a0 a1 : AVal) (h : AH) : Ans :=
  kq (some (.slice none 0 0)) <| fun v0 =>
  kq (some a1) <| fun v1 =>
  km (mMakeSl T_uint8 1 1 [(.int .u8 0)] v1 v1) h <| fun v2 h0 =>
  kq (some v2) <| fun v3 =>
  kq (some (.int .i64 0)) <| fun v4 =>
  kLoop (L_runglaw8_drawn_0 call callD a1 v3 a0) rounds [v4] h0
theorem F_runglaw8_drawn_eq (call callD : ACall) (a0 a1 : AVal) (h : AH) : kFunc Try.prog [] call callD N_runglaw8_drawn [a0, a1] h = F_runglaw8_drawn call callD a0 a1 h := by kernel_rfl
theorem C_runglaw8_drawn {ov : AOver} (H : Plain ov) (n : Nat) (a0 a1 : AVal) (h : AH) : kc ov (n + 1) N_runglaw8_drawn [a0, a1] h = F_runglaw8_drawn (kc ov n) (kd ov n) a0 a1 h := by
  have hov : ov N_runglaw8_drawn = none := H _ (by decide)
  unfold kc kd; rw [← F_runglaw8_drawn_eq]; simp only [kcall, hov]

/-- (*rung/block.Store).Write -/
def F_block_Store_Write (call callD : ACall) (a0 a1 a2 : AVal) (h : AH) : Ans :=
  kq (some (.int .i64 0)) <| fun v0 =>
  kq (some a0) <| fun v1 =>
  kq (some a1) <| fun v2 =>
  ke (call N_block_Store_is [v1, v2] h) <| fun v3 h0 =>
  kq (some v3) <| fun v4 =>
  kq (some v4) <| fun v5 =>
  kq (rBin .neq .no true v5 (.int .i64 0)) <| fun v6 =>
  kIf v6 (
  kq (some v4) <| fun v7 =>
  kq (some v7) <| fun v8 =>
  some (v8, h0)) (
  kq (some a2) <| fun v9 =>
  kq (rLen v9) <| fun v10 =>
  kq (some a0) <| fun v11 =>
  kq (aNilCheck v11) <| fun v12 =>
  kq (rFieldP 1 v12) <| fun v13 =>
  kq (rLoad v13 h0) <| fun v14 =>
  kq (rBin .neq .no false v10 v14) <| fun v15 =>
  kIf v15 (
  kq (some (.int .i64 81)) <| fun v16 =>
  some (v16, h0)) (
  kq (some a0) <| fun v17 =>
  kq (aNilCheck v17) <| fun v18 =>
  kq (rFieldP 3 v18) <| fun v19 =>
  kq (rLoad v19 h0) <| fun v20 =>
  kq (rBin .eql .no true v20 (.int .i64 0)) <| fun v21 =>
  kIf v21 (
  kq (some a0) <| fun v22 =>
  kq (aNilCheck v22) <| fun v23 =>
  kq (rFieldP 4 v23) <| fun v24 =>
  kq (rLoad v24 h0) <| fun v25 =>
  kq (aMM aMax2 [v25, (.int .i64 0)]) <| fun v26 =>
  kq (some a0) <| fun v27 =>
  kq (aNilCheck v27) <| fun v28 =>
  kq (rFieldP 1 v28) <| fun v29 =>
  kq (rLoad v29 h0) <| fun v30 =>
  kq (aMM aMin2 [v26, v30]) <| fun v31 =>
  kq (some v31) <| fun v32 =>
  kq (some a0) <| fun v33 =>
  kq (aNilCheck v33) <| fun v34 =>
  kq (rFieldP 0 v34) <| fun v35 =>
  kq (rLoad v35 h0) <| fun v36 =>
  kq (some a1) <| fun v37 =>
  kq (rAt 1 v36 v37) <| fun v38 =>
  kq (rLoad v38 h0) <| fun v39 =>
  kq (some v32) <| fun v40 =>
  kq (rCut 1 v39 none (some v40) none) <| fun v41 =>
  kq (some a2) <| fun v42 =>
  ke (rCopy 1 v41 v42 h0) <| fun v43 h1 =>
  kq (some a0) <| fun v44 =>
  kq (aNilCheck v44) <| fun v45 =>
  kq (rFieldP 5 v45) <| fun v46 =>
  ke ((rStore 1 v46 (.bool true) h1).map fun h' => (.tuple [], h')) <| fun v47 h2 =>
  kq (some (.int .i64 82)) <| fun v48 =>
  some (v48, h2)) (
  kq (some a0) <| fun v49 =>
  kq (some a0) <| fun v50 =>
  kq (aNilCheck v50) <| fun v51 =>
  kq (rFieldP 3 v51) <| fun v52 =>
  kq (rLoad v52 h0) <| fun v53 =>
  kq (rBin .sub .no true v53 (.int .i64 1)) <| fun v54 =>
  kq (aMM aMax2 [v54, (.int .i64 (-1))]) <| fun v55 =>
  kq (aNilCheck v49) <| fun v56 =>
  kq (rFieldP 3 v56) <| fun v57 =>
  ke ((rStore 1 v57 v55 h0).map fun h' => (.tuple [], h')) <| fun v58 h3 =>
  kq (some a0) <| fun v59 =>
  kq (aNilCheck v59) <| fun v60 =>
  kq (rFieldP 0 v60) <| fun v61 =>
  kq (rLoad v61 h3) <| fun v62 =>
  kq (some a1) <| fun v63 =>
  kq (rAt 1 v62 v63) <| fun v64 =>
  kq (rLoad v64 h3) <| fun v65 =>
  kq (some a2) <| fun v66 =>
  ke (rCopy 1 v65 v66 h3) <| fun v67 h4 =>
  kq (some a0) <| fun v68 =>
  kq (aNilCheck v68) <| fun v69 =>
  kq (rFieldP 2 v69) <| fun v70 =>
  kq (rLoad v70 h4) <| fun v71 =>
  kq (rBin .add .no true v71 (.int .i64 1)) <| fun v72 =>
  kq (aNilCheck v68) <| fun v73 =>
  kq (rFieldP 2 v73) <| fun v74 =>
  ke ((rStore 1 v74 v72 h4).map fun h' => (.tuple [], h')) <| fun v75 h5 =>
  kq (some (.int .i64 0)) <| fun v76 =>
  some (v76, h5))))
theorem F_block_Store_Write_eq (call callD : ACall) (a0 a1 a2 : AVal) (h : AH) : kFunc Try.prog [] call callD N_block_Store_Write [a0, a1, a2] h = F_block_Store_Write call callD a0 a1 a2 h := by kernel_rfl
theorem C_block_Store_Write {ov : AOver} (H : Plain ov) (n : Nat) (a0 a1 a2 : AVal) (h : AH) : kc ov (n + 1) N_block_Store_Write [a0, a1, a2] h = F_block_Store_Write (kc ov n) (kd ov n) a0 a1 a2 h := by
  have hov : ov N_block_Store_Write = none := H _ (by decide)
  unfold kc kd; rw [← F_block_Store_Write_eq]; simp only [kcall, hov]

/-- (*rung/block.Store).Cut -/
def F_block_Store_Cut (call callD : ACall) (a0 a1 a2 : AVal) (h : AH) : Ans :=
  kq (some a0) <| fun v0 =>
  kq (some a0) <| fun v1 =>
  kq (some a1) <| fun v2 =>
  kq (aMM aMax2 [v2, (.int .i64 (-1))]) <| fun v3 =>
  kq (some a2) <| fun v4 =>
  kq (aNilCheck v0) <| fun v5 =>
  kq (rFieldP 3 v5) <| fun v6 =>
  ke ((rStore 1 v6 v3 h).map fun h' => (.tuple [], h')) <| fun v7 h0 =>
  kq (aNilCheck v1) <| fun v8 =>
  kq (rFieldP 4 v8) <| fun v9 =>
  ke ((rStore 1 v9 v4 h0).map fun h' => (.tuple [], h')) <| fun v10 h1 =>
  some (.tuple [], h1)
theorem F_block_Store_Cut_eq (call callD : ACall) (a0 a1 a2 : AVal) (h : AH) : kFunc Try.prog [] call callD N_block_Store_Cut [a0, a1, a2] h = F_block_Store_Cut call callD a0 a1 a2 h := by kernel_rfl
theorem C_block_Store_Cut {ov : AOver} (H : Plain ov) (n : Nat) (a0 a1 a2 : AVal) (h : AH) : kc ov (n + 1) N_block_Store_Cut [a0, a1, a2] h = F_block_Store_Cut (kc ov n) (kd ov n) a0 a1 a2 h := by
  have hov : ov N_block_Store_Cut = none := H _ (by decide)
  unfold kc kd; rw [← F_block_Store_Cut_eq]; simp only [kcall, hov]

/-- (*rung/block.Store).Dead -/
def F_block_Store_Dead (call callD : ACall) (a0 : AVal) (h : AH) : Ans :=
  kq (some (.bool false)) <| fun v0 =>
  kq (some a0) <| fun v1 =>
  kq (aNilCheck v1) <| fun v2 =>
  kq (rFieldP 5 v2) <| fun v3 =>
  kq (rLoad v3 h) <| fun v4 =>
  kq (some v4) <| fun v5 =>
  some (v5, h)
theorem F_block_Store_Dead_eq (call callD : ACall) (a0 : AVal) (h : AH) : kFunc Try.prog [] call callD N_block_Store_Dead [a0] h = F_block_Store_Dead call callD a0 h := by kernel_rfl
theorem C_block_Store_Dead {ov : AOver} (H : Plain ov) (n : Nat) (a0 : AVal) (h : AH) : kc ov (n + 1) N_block_Store_Dead [a0] h = F_block_Store_Dead (kc ov n) (kd ov n) a0 h := by
  have hov : ov N_block_Store_Dead = none := H _ (by decide)
  unfold kc kd; rw [← F_block_Store_Dead_eq]; simp only [kcall, hov]

/-- (*rung/block.Store).Power -/
def F_block_Store_Power (call callD : ACall) (a0 : AVal) (h : AH) : Ans :=
  kq (some a0) <| fun v0 =>
  kq (some a0) <| fun v1 =>
  kq (aNilCheck v0) <| fun v2 =>
  kq (rFieldP 5 v2) <| fun v3 =>
  ke ((rStore 1 v3 (.bool false) h).map fun h' => (.tuple [], h')) <| fun v4 h0 =>
  kq (aNilCheck v1) <| fun v5 =>
  kq (rFieldP 3 v5) <| fun v6 =>
  ke ((rStore 1 v6 (.int .i64 (-1)) h0).map fun h' => (.tuple [], h')) <| fun v7 h1 =>
  some (.tuple [], h1)
theorem F_block_Store_Power_eq (call callD : ACall) (a0 : AVal) (h : AH) : kFunc Try.prog [] call callD N_block_Store_Power [a0] h = F_block_Store_Power call callD a0 h := by kernel_rfl
theorem C_block_Store_Power {ov : AOver} (H : Plain ov) (n : Nat) (a0 : AVal) (h : AH) : kc ov (n + 1) N_block_Store_Power [a0] h = F_block_Store_Power (kc ov n) (kd ov n) a0 h := by
  have hov : ov N_block_Store_Power = none := H _ (by decide)
  unfold kc kd; rw [← F_block_Store_Power_eq]; simp only [kcall, hov]

/-- (*rung/block.Store).Read -/
def F_block_Store_Read (call callD : ACall) (a0 a1 : AVal) (h : AH) : Ans :=
  kq (some (.slice none 0 0)) <| fun v0 =>
  kq (some (.int .i64 0)) <| fun v1 =>
  kq (some a0) <| fun v2 =>
  kq (some a1) <| fun v3 =>
  ke (call N_block_Store_is [v2, v3] h) <| fun v4 h0 =>
  kq (some v4) <| fun v5 =>
  kq (some v5) <| fun v6 =>
  kq (rBin .neq .no true v6 (.int .i64 0)) <| fun v7 =>
  kIf v7 (
  kq (some v5) <| fun v8 =>
  kq (some (.slice none 0 0)) <| fun v9 =>
  kq (some v8) <| fun v10 =>
  some (.tuple [v9, v10], h0)) (
  kq (some a0) <| fun v11 =>
  kq (aNilCheck v11) <| fun v12 =>
  kq (rFieldP 0 v12) <| fun v13 =>
  kq (rLoad v13 h0) <| fun v14 =>
  kq (some a1) <| fun v15 =>
  kq (rAt 1 v14 v15) <| fun v16 =>
  kq (rLoad v16 h0) <| fun v17 =>
  ke (call N_slices_Clone___byte_byte_ [v17] h0) <| fun v18 h1 =>
  kq (some v18) <| fun v19 =>
  kq (some (.int .i64 0)) <| fun v20 =>
  some (.tuple [v19, v20], h1))
theorem F_block_Store_Read_eq (call callD : ACall) (a0 a1 : AVal) (h : AH) : kFunc Try.prog [] call callD N_block_Store_Read [a0, a1] h = F_block_Store_Read call callD a0 a1 h := by kernel_rfl
theorem C_block_Store_Read {ov : AOver} (H : Plain ov) (n : Nat) (a0 a1 : AVal) (h : AH) : kc ov (n + 1) N_block_Store_Read [a0, a1] h = F_block_Store_Read (kc ov n) (kd ov n) a0 a1 h := by
  have hov : ov N_block_Store_Read = none := H _ (by decide)
  unfold kc kd; rw [← F_block_Store_Read_eq]; simp only [kcall, hov]

/-- rung/runghelp.Bytes -/
def F_runghelp_Bytes (call callD : ACall) (a0 a1 : AVal) (h : AH) : Ans :=
  kq (some (.bool false)) <| fun v0 =>
  kq (some a0) <| fun v1 =>
  kq (rText v1 h) <| fun v2 =>
  kq (some a1) <| fun v3 =>
  kq (rText v3 h) <| fun v4 =>
  kq (rBin .eql .no false v2 v4) <| fun v5 =>
  kq (some v5) <| fun v6 =>
  some (v6, h)
theorem F_runghelp_Bytes_eq (call callD : ACall) (a0 a1 : AVal) (h : AH) : kFunc Try.prog [] call callD N_runghelp_Bytes [a0, a1] h = F_runghelp_Bytes call callD a0 a1 h := by kernel_rfl
theorem C_runghelp_Bytes {ov : AOver} (H : Plain ov) (n : Nat) (a0 a1 : AVal) (h : AH) : kc ov (n + 1) N_runghelp_Bytes [a0, a1] h = F_runghelp_Bytes (kc ov n) (kd ov n) a0 a1 h := by
  have hov : ov N_runghelp_Bytes = none := H _ (by decide)
  unfold kc kd; rw [← F_runghelp_Bytes_eq]; simp only [kcall, hov]

/-- (*rung/block.Store).Writes -/
def F_block_Store_Writes (call callD : ACall) (a0 : AVal) (h : AH) : Ans :=
  kq (some (.int .i64 0)) <| fun v0 =>
  kq (some a0) <| fun v1 =>
  kq (aNilCheck v1) <| fun v2 =>
  kq (rFieldP 2 v2) <| fun v3 =>
  kq (rLoad v3 h) <| fun v4 =>
  kq (some v4) <| fun v5 =>
  some (v5, h)
theorem F_block_Store_Writes_eq (call callD : ACall) (a0 : AVal) (h : AH) : kFunc Try.prog [] call callD N_block_Store_Writes [a0] h = F_block_Store_Writes call callD a0 h := by kernel_rfl
theorem C_block_Store_Writes {ov : AOver} (H : Plain ov) (n : Nat) (a0 : AVal) (h : AH) : kc ov (n + 1) N_block_Store_Writes [a0] h = F_block_Store_Writes (kc ov n) (kd ov n) a0 h := by
  have hov : ov N_block_Store_Writes = none := H _ (by decide)
  unfold kc kd; rw [← F_block_Store_Writes_eq]; simp only [kcall, hov]

/-- (*rung/block.Store).Blocks -/
def F_block_Store_Blocks (call callD : ACall) (a0 : AVal) (h : AH) : Ans :=
  kq (some (.int .i64 0)) <| fun v0 =>
  kq (some a0) <| fun v1 =>
  kq (aNilCheck v1) <| fun v2 =>
  kq (rFieldP 0 v2) <| fun v3 =>
  kq (rLoad v3 h) <| fun v4 =>
  kq (rLen v4) <| fun v5 =>
  kq (some v5) <| fun v6 =>
  some (v6, h)
theorem F_block_Store_Blocks_eq (call callD : ACall) (a0 : AVal) (h : AH) : kFunc Try.prog [] call callD N_block_Store_Blocks [a0] h = F_block_Store_Blocks call callD a0 h := by kernel_rfl
theorem C_block_Store_Blocks {ov : AOver} (H : Plain ov) (n : Nat) (a0 : AVal) (h : AH) : kc ov (n + 1) N_block_Store_Blocks [a0] h = F_block_Store_Blocks (kc ov n) (kd ov n) a0 h := by
  have hov : ov N_block_Store_Blocks = none := H _ (by decide)
  unfold kc kd; rw [← F_block_Store_Blocks_eq]; simp only [kcall, hov]

/-- (*rung/block.Store).Size -/
def F_block_Store_Size (call callD : ACall) (a0 : AVal) (h : AH) : Ans :=
  kq (some (.int .i64 0)) <| fun v0 =>
  kq (some a0) <| fun v1 =>
  kq (aNilCheck v1) <| fun v2 =>
  kq (rFieldP 1 v2) <| fun v3 =>
  kq (rLoad v3 h) <| fun v4 =>
  kq (some v4) <| fun v5 =>
  some (v5, h)
theorem F_block_Store_Size_eq (call callD : ACall) (a0 : AVal) (h : AH) : kFunc Try.prog [] call callD N_block_Store_Size [a0] h = F_block_Store_Size call callD a0 h := by kernel_rfl
theorem C_block_Store_Size {ov : AOver} (H : Plain ov) (n : Nat) (a0 : AVal) (h : AH) : kc ov (n + 1) N_block_Store_Size [a0] h = F_block_Store_Size (kc ov n) (kd ov n) a0 h := by
  have hov : ov N_block_Store_Size = none := H _ (by decide)
  unfold kc kd; rw [← F_block_Store_Size_eq]; simp only [kcall, hov]

/-- rung/runglaw8.light -/
def L_runglaw8_light_0 (call callD : ACall) (a0 : AVal) : (List AVal → AH → Ans) → List AVal → AH → Ans := fun j4 l3 h0 =>
  kq (some (gd l3 1)) <| fun v5 =>
  kq (some a0) <| fun v6 =>
  kq (rLen v6) <| fun v7 =>
  kq (rBin .lss .no false v5 v7) <| fun v8 =>
  kq (some v8) <| fun v9 =>
  kt (fun v14 =>
  kIf v14 (
  kq (some (gd l3 0)) <| fun v15 =>
  kq (rBin .add .no true v15 (.int .i64 1)) <| fun v16 =>
  kq (some a0) <| fun v17 =>
  kq (some (gd l3 1)) <| fun v18 =>
  kq (rAt 6 v17 v18) <| fun v19 =>
  kq (rFieldP 5 v19) <| fun v20 =>
  kq (rLoad v20 h0) <| fun v21 =>
  kq (rLen v21) <| fun v22 =>
  kq (rBin .add .no false v16 v22) <| fun v23 =>
  kq (some v23) <| fun v24 =>
  kq (some (gd l3 1)) <| fun v25 =>
  kq (rBin .add .no true v25 (.int .i64 1)) <| fun v26 =>
  kq (some v26) <| fun v27 =>
  j4 [v24, v27] h0) (
  kq (some a0) <| fun v28 =>
  kq (rLen v28) <| fun v29 =>
  kq (rBin .leq .no true v29 (.int .i64 200)) <| fun v30 =>
  kq (some v30) <| fun v31 =>
  kt (fun v36 =>
  kq (some v36) <| fun v37 =>
  some (v37, h0)) <| fun j32 =>
  kgq v31 true (fun k => kq (some (gd l3 0)) k) <| fun v33 =>
  kgq v31 true (fun k => kq (rBin .leq .no true v33 (.int .i64 20000)) k) <| fun v34 =>
  kq (rPick v31 v34 (.bool false)) <| fun v35 =>
  j32 v35)) <| fun j10 =>
  kgq v9 true (fun k => kq (some (gd l3 0)) k) <| fun v11 =>
  kgq v9 true (fun k => kq (rBin .leq .no true v11 (.int .i64 20000)) k) <| fun v12 =>
  kq (rPick v9 v12 (.bool false)) <| fun v13 =>
  j10 v13
def F_runglaw8_light (call callD : ACall) (a0 : AVal) (h : AH) : Ans :=
  kq (some (.bool false)) <| fun v0 =>
  kq (some (.int .i64 0)) <| fun v1 =>
  kq (some (.int .i64 0)) <| fun v2 =>
  kLoop (L_runglaw8_light_0 call callD a0) rounds [v1, v2] h
theorem F_runglaw8_light_eq (call callD : ACall) (a0 : AVal) (h : AH) : kFunc Try.prog [] call callD N_runglaw8_light [a0] h = F_runglaw8_light call callD a0 h := by kernel_rfl
theorem C_runglaw8_light {ov : AOver} (H : Plain ov) (n : Nat) (a0 : AVal) (h : AH) : kc ov (n + 1) N_runglaw8_light [a0] h = F_runglaw8_light (kc ov n) (kd ov n) a0 h := by
  have hov : ov N_runglaw8_light = none := H _ (by decide)
  unfold kc kd; rw [← F_runglaw8_light_eq]; simp only [kcall, hov]

/-- rung/rungref8.New -/
def L_rungref8_New_0 (call callD : ACall) (v6 : AVal) : (List AVal → AH → Ans) → List AVal → AH → Ans := fun j12 l11 h1 =>
  kq (some (gd l11 0)) <| fun v13 =>
  kq (rBin .gtr .no true v13 (.int .i64 0)) <| fun v14 =>
  kIf v14 (
  kq (some v6) <| fun v15 =>
  kq (some v6) <| fun v16 =>
  kq (aNilCheck v16) <| fun v17 =>
  kq (rFieldP 0 v17) <| fun v18 =>
  kq (rLoad v18 h1) <| fun v19 =>
  kq (some v6) <| fun v20 =>
  kq (aNilCheck v20) <| fun v21 =>
  kq (rFieldP 1 v21) <| fun v22 =>
  kq (rLoad v22 h1) <| fun v23 =>
  km (mMakeSl T_uint8 1 1 [(.int .u8 0)] v23 v23) h1 <| fun v24 h2 =>
  km (mBuildSl T___uint8 1 [(.slice none 0 0)] 1 [(0, v24)]) h2 <| fun v25 h3 =>
  kChk (!true || kSame (rLoad v22 h3) v23) <|
  kChk (!true || kSame (rLoad v18 h3) v19) <|
  ke (rAppend T___uint8 1 24 v19 v25 h3) <| fun v26 h4 =>
  kq (aNilCheck v15) <| fun v27 =>
  kq (rFieldP 0 v27) <| fun v28 =>
  kChk (!false || kSame (rLoad v22 h4) v23) <|
  kChk (!false || kSame (rLoad v18 h4) v19) <|
  ke ((rStore 1 v28 v26 h4).map fun h' => (.tuple [], h')) <| fun v29 h5 =>
  kChk (!false || kSame (rLoad v22 h5) v23) <|
  kChk (!false || kSame (rLoad v18 h5) v19) <|
  kq (some (gd l11 0)) <| fun v30 =>
  kq (rBin .sub .no true v30 (.int .i64 1)) <| fun v31 =>
  kq (some v31) <| fun v32 =>
  j12 [v32] h5) (
  kq (some v6) <| fun v33 =>
  kq (some v33) <| fun v34 =>
  some (v34, h1))
def F_rungref8_New (call callD : ACall) (a0 a1 : AVal) (h : AH) : Ans :=
  kq (some (.ptr none)) <| fun v0 =>
  kq (some a1) <| fun v1 =>
  kq (aMM aMax2 [v1, (.int .i64 16)]) <| fun v2 =>
  kq (aMM aMin2 [v2, (.int .i64 4096)]) <| fun v3 =>
  kq (rBuild [(.slice none 0 0), (.int .i64 0), (.int .i64 0), (.int .i64 0), (.int .i64 0), (.bool false)] [(0, 1), (1, 1), (2, 1), (3, 1), (4, 1), (5, 1)] [(1, v3), (3, (.int .i64 (-1)))]) <| fun v4 =>
  km (pBox T_rungref8_Store v4) h <| fun v5 h0 =>
  kq (some v5) <| fun v6 =>
  kq (some a0) <| fun v7 =>
  kq (aMM aMax2 [v7, (.int .i64 1)]) <| fun v8 =>
  kq (aMM aMin2 [v8, (.int .i64 64)]) <| fun v9 =>
  kq (some v9) <| fun v10 =>
  kLoop (L_rungref8_New_0 call callD v6) rounds [v10] h0
theorem F_rungref8_New_eq (call callD : ACall) (a0 a1 : AVal) (h : AH) : kFunc Try.prog [] call callD N_rungref8_New [a0, a1] h = F_rungref8_New call callD a0 a1 h := by kernel_rfl
theorem C_rungref8_New {ov : AOver} (H : Plain ov) (n : Nat) (a0 a1 : AVal) (h : AH) : kc ov (n + 1) N_rungref8_New [a0, a1] h = F_rungref8_New (kc ov n) (kd ov n) a0 a1 h := by
  have hov : ov N_rungref8_New = none := H _ (by decide)
  unfold kc kd; rw [← F_rungref8_New_eq]; simp only [kcall, hov]

/-- (*rung/rungref8.Store).Read -/
def F_rungref8_Store_Read (call callD : ACall) (a0 a1 : AVal) (h : AH) : Ans :=
  kq (some (.slice none 0 0)) <| fun v0 =>
  kq (some (.int .i64 0)) <| fun v1 =>
  kq (some a0) <| fun v2 =>
  kq (aNilCheck v2) <| fun v3 =>
  kq (rFieldP 5 v3) <| fun v4 =>
  kq (rLoad v4 h) <| fun v5 =>
  kIf v5 (
  kq (some (.slice none 0 0)) <| fun v6 =>
  kq (some (.int .i64 82)) <| fun v7 =>
  some (.tuple [v6, v7], h)) (
  kq (some a1) <| fun v8 =>
  kq (rBin .lss .no true v8 (.int .i64 0)) <| fun v9 =>
  kq (some v9) <| fun v10 =>
  kt (fun v20 =>
  kIf v20 (
  kq (some (.slice none 0 0)) <| fun v21 =>
  kq (some (.int .i64 80)) <| fun v22 =>
  some (.tuple [v21, v22], h)) (
  kq (some a0) <| fun v23 =>
  kq (aNilCheck v23) <| fun v24 =>
  kq (rFieldP 0 v24) <| fun v25 =>
  kq (rLoad v25 h) <| fun v26 =>
  kq (some a1) <| fun v27 =>
  kq (rAt 1 v26 v27) <| fun v28 =>
  kq (rLoad v28 h) <| fun v29 =>
  kq (some v29) <| fun v30 =>
  kq (some (.int .i64 0)) <| fun v31 =>
  some (.tuple [v30, v31], h))) <| fun j11 =>
  kgq v10 false (fun k => kq (some a1) k) <| fun v12 =>
  kgq v10 false (fun k => kq (some a0) k) <| fun v13 =>
  kgq v10 false (fun k => kq (aNilCheck v13) k) <| fun v14 =>
  kgq v10 false (fun k => kq (rFieldP 0 v14) k) <| fun v15 =>
  kgq v10 false (fun k => kq (rLoad v15 h) k) <| fun v16 =>
  kgq v10 false (fun k => kq (rLen v16) k) <| fun v17 =>
  kgq v10 false (fun k => kq (rBin .geq .no false v12 v17) k) <| fun v18 =>
  kq (rPick v10 (.bool true) v18) <| fun v19 =>
  j11 v19)
theorem F_rungref8_Store_Read_eq (call callD : ACall) (a0 a1 : AVal) (h : AH) : kFunc Try.prog [] call callD N_rungref8_Store_Read [a0, a1] h = F_rungref8_Store_Read call callD a0 a1 h := by kernel_rfl
theorem C_rungref8_Store_Read {ov : AOver} (H : Plain ov) (n : Nat) (a0 a1 : AVal) (h : AH) : kc ov (n + 1) N_rungref8_Store_Read [a0, a1] h = F_rungref8_Store_Read (kc ov n) (kd ov n) a0 a1 h := by
  have hov : ov N_rungref8_Store_Read = none := H _ (by decide)
  unfold kc kd; rw [← F_rungref8_Store_Read_eq]; simp only [kcall, hov]

/-- rung/runghelp.Copy -/
def F_runghelp_Copy (call callD : ACall) (a0 : AVal) (h : AH) : Ans :=
  kq (some (.slice none 0 0)) <| fun v0 =>
  kq (some a0) <| fun v1 =>
  ke (rAppend T_uint8 1 1 (.slice none 0 0) v1 h) <| fun v2 h0 =>
  kq (some v2) <| fun v3 =>
  some (v3, h0)
theorem F_runghelp_Copy_eq (call callD : ACall) (a0 : AVal) (h : AH) : kFunc Try.prog [] call callD N_runghelp_Copy [a0] h = F_runghelp_Copy call callD a0 h := by kernel_rfl
theorem C_runghelp_Copy {ov : AOver} (H : Plain ov) (n : Nat) (a0 : AVal) (h : AH) : kc ov (n + 1) N_runghelp_Copy [a0] h = F_runghelp_Copy (kc ov n) (kd ov n) a0 h := by
  have hov : ov N_runghelp_Copy = none := H _ (by decide)
  unfold kc kd; rw [← F_runghelp_Copy_eq]; simp only [kcall, hov]

/-- rung/runghelp.Spoil -/
def L_runghelp_Spoil_0 (call callD : ACall) (a0 : AVal) : (List AVal → AH → Ans) → List AVal → AH → Ans := fun j2 l1 h0 =>
  kq (some (gd l1 0)) <| fun v3 =>
  kq (some a0) <| fun v4 =>
  kq (rLen v4) <| fun v5 =>
  kq (rBin .lss .no false v3 v5) <| fun v6 =>
  kIf v6 (
  kq (some a0) <| fun v7 =>
  kq (some (gd l1 0)) <| fun v8 =>
  kq (some a0) <| fun v9 =>
  kq (some (gd l1 0)) <| fun v10 =>
  kq (rAt 1 v9 v10) <| fun v11 =>
  kq (rLoad v11 h0) <| fun v12 =>
  kq (rBin .xor .no true v12 (.int .u8 165)) <| fun v13 =>
  kq (rAt 1 v7 v8) <| fun v14 =>
  ke ((rStore 1 v14 v13 h0).map fun h' => (.tuple [], h')) <| fun v15 h1 =>
  kq (some (gd l1 0)) <| fun v16 =>
  kq (rBin .add .no true v16 (.int .i64 1)) <| fun v17 =>
  kq (some v17) <| fun v18 =>
  j2 [v18] h1) (
  some (.tuple [], h0))
def F_runghelp_Spoil (call callD : ACall) (a0 : AVal) (h : AH) : Ans :=
  kq (some (.int .i64 0)) <| fun v0 =>
  kLoop (L_runghelp_Spoil_0 call callD a0) rounds [v0] h
theorem F_runghelp_Spoil_eq (call callD : ACall) (a0 : AVal) (h : AH) : kFunc Try.prog [] call callD N_runghelp_Spoil [a0] h = F_runghelp_Spoil call callD a0 h := by kernel_rfl
theorem C_runghelp_Spoil {ov : AOver} (H : Plain ov) (n : Nat) (a0 : AVal) (h : AH) : kc ov (n + 1) N_runghelp_Spoil [a0] h = F_runghelp_Spoil (kc ov n) (kd ov n) a0 h := by
  have hov : ov N_runghelp_Spoil = none := H _ (by decide)
  unfold kc kd; rw [← F_runghelp_Spoil_eq]; simp only [kcall, hov]

/-- (*rung/rungref8.Store).Write -/
def F_rungref8_Store_Write (call callD : ACall) (a0 a1 a2 : AVal) (h : AH) : Ans :=
  kq (some (.int .i64 0)) <| fun v0 =>
  kq (some a0) <| fun v1 =>
  kq (aNilCheck v1) <| fun v2 =>
  kq (rFieldP 5 v2) <| fun v3 =>
  kq (rLoad v3 h) <| fun v4 =>
  kIf v4 (
  kq (some (.int .i64 82)) <| fun v5 =>
  some (v5, h)) (
  kq (some a1) <| fun v6 =>
  kq (rBin .lss .no true v6 (.int .i64 0)) <| fun v7 =>
  kq (some v7) <| fun v8 =>
  kt (fun v18 =>
  kIf v18 (
  kq (some (.int .i64 80)) <| fun v19 =>
  some (v19, h)) (
  kq (some a2) <| fun v20 =>
  kq (rLen v20) <| fun v21 =>
  kq (some a0) <| fun v22 =>
  kq (aNilCheck v22) <| fun v23 =>
  kq (rFieldP 1 v23) <| fun v24 =>
  kq (rLoad v24 h) <| fun v25 =>
  kq (rBin .neq .no false v21 v25) <| fun v26 =>
  kIf v26 (
  kq (some (.int .i64 81)) <| fun v27 =>
  some (v27, h)) (
  kq (some a0) <| fun v28 =>
  kq (aNilCheck v28) <| fun v29 =>
  kq (rFieldP 1 v29) <| fun v30 =>
  kq (rLoad v30 h) <| fun v31 =>
  kq (some v31) <| fun v32 =>
  kq (some a0) <| fun v33 =>
  kq (aNilCheck v33) <| fun v34 =>
  kq (rFieldP 3 v34) <| fun v35 =>
  kq (rLoad v35 h) <| fun v36 =>
  kq (rBin .eql .no true v36 (.int .i64 0)) <| fun v37 =>
  kj (fun l38 h1 =>
  kq (some a0) <| fun v40 =>
  kq (aNilCheck v40) <| fun v41 =>
  kq (rFieldP 0 v41) <| fun v42 =>
  kq (rLoad v42 h1) <| fun v43 =>
  kq (some a1) <| fun v44 =>
  kq (some a2) <| fun v45 =>
  kq (some (gd l38 0)) <| fun v46 =>
  kq (rCut 1 v45 none (some v46) none) <| fun v47 =>
  kq (some a0) <| fun v48 =>
  kq (aNilCheck v48) <| fun v49 =>
  kq (rFieldP 0 v49) <| fun v50 =>
  kq (rLoad v50 h1) <| fun v51 =>
  kq (some a1) <| fun v52 =>
  kq (rAt 1 v51 v52) <| fun v53 =>
  kq (rLoad v53 h1) <| fun v54 =>
  kq (some (gd l38 0)) <| fun v55 =>
  kq (rCut 1 v54 (some v55) none none) <| fun v56 =>
  ke (rAppend T_uint8 1 1 (.slice none 0 0) v47 h1) <| fun v57 h2 =>
  kChk (!true || kSame (rLoad v53 h2) v54) <|
  kChk (!true || kSame (rLoad v50 h2) v51) <|
  kChk (!true || kSame (rLoad v42 h2) v43) <|
  ke (rAppend T_uint8 1 1 v57 v56 h2) <| fun v58 h3 =>
  kq (rAt 1 v43 v44) <| fun v59 =>
  kChk (!false || kSame (rLoad v53 h3) v54) <|
  kChk (!false || kSame (rLoad v50 h3) v51) <|
  kChk (!true || kSame (rLoad v42 h3) v43) <|
  ke ((rStore 1 v59 v58 h3).map fun h' => (.tuple [], h')) <| fun v60 h4 =>
  kChk (!false || kSame (rLoad v53 h4) v54) <|
  kChk (!false || kSame (rLoad v50 h4) v51) <|
  kChk (!false || kSame (rLoad v42 h4) v43) <|
  kq (some a0) <| fun v61 =>
  kq (aNilCheck v61) <| fun v62 =>
  kq (rFieldP 5 v62) <| fun v63 =>
  kq (rLoad v63 h4) <| fun v64 =>
  kIf v64 (
  kq (some (.int .i64 82)) <| fun v65 =>
  some (v65, h4)) (
  kq (some a0) <| fun v66 =>
  kq (aNilCheck v66) <| fun v67 =>
  kq (rFieldP 3 v67) <| fun v68 =>
  kq (rLoad v68 h4) <| fun v69 =>
  kq (rBin .gtr .no true v69 (.int .i64 0)) <| fun v70 =>
  kj (fun l71 h5 =>
  kq (some a0) <| fun v73 =>
  kq (aNilCheck v73) <| fun v74 =>
  kq (rFieldP 2 v74) <| fun v75 =>
  kq (rLoad v75 h5) <| fun v76 =>
  kq (rBin .add .no true v76 (.int .i64 1)) <| fun v77 =>
  kq (aNilCheck v73) <| fun v78 =>
  kq (rFieldP 2 v78) <| fun v79 =>
  ke ((rStore 1 v79 v77 h5).map fun h' => (.tuple [], h')) <| fun v80 h6 =>
  kq (some (.int .i64 0)) <| fun v81 =>
  some (v81, h6)) <| fun j72 =>
  kIf v70 (
  kq (some a0) <| fun v82 =>
  kq (aNilCheck v82) <| fun v83 =>
  kq (rFieldP 3 v83) <| fun v84 =>
  kq (rLoad v84 h4) <| fun v85 =>
  kq (rBin .sub .no true v85 (.int .i64 1)) <| fun v86 =>
  kq (aNilCheck v82) <| fun v87 =>
  kq (rFieldP 3 v87) <| fun v88 =>
  ke ((rStore 1 v88 v86 h4).map fun h' => (.tuple [], h')) <| fun v89 h7 =>
  j72 [] h7) (
  j72 [] h4))) <| fun j39 =>
  kIf v37 (
  kq (some a0) <| fun v90 =>
  kq (aNilCheck v90) <| fun v91 =>
  kq (rFieldP 4 v91) <| fun v92 =>
  kq (rLoad v92 h) <| fun v93 =>
  kq (aMM aMax2 [v93, (.int .i64 0)]) <| fun v94 =>
  kq (some a0) <| fun v95 =>
  kq (aNilCheck v95) <| fun v96 =>
  kq (rFieldP 1 v96) <| fun v97 =>
  kq (rLoad v97 h) <| fun v98 =>
  kq (aMM aMin2 [v94, v98]) <| fun v99 =>
  kq (some v99) <| fun v100 =>
  kq (some a0) <| fun v101 =>
  kq (aNilCheck v101) <| fun v102 =>
  kq (rFieldP 5 v102) <| fun v103 =>
  ke ((rStore 1 v103 (.bool true) h).map fun h' => (.tuple [], h')) <| fun v104 h8 =>
  j39 [v100] h8) (
  j39 [v32] h)))) <| fun j9 =>
  kgq v8 false (fun k => kq (some a1) k) <| fun v10 =>
  kgq v8 false (fun k => kq (some a0) k) <| fun v11 =>
  kgq v8 false (fun k => kq (aNilCheck v11) k) <| fun v12 =>
  kgq v8 false (fun k => kq (rFieldP 0 v12) k) <| fun v13 =>
  kgq v8 false (fun k => kq (rLoad v13 h) k) <| fun v14 =>
  kgq v8 false (fun k => kq (rLen v14) k) <| fun v15 =>
  kgq v8 false (fun k => kq (rBin .geq .no false v10 v15) k) <| fun v16 =>
  kq (rPick v8 (.bool true) v16) <| fun v17 =>
  j9 v17)
theorem F_rungref8_Store_Write_eq (call callD : ACall) (a0 a1 a2 : AVal) (h : AH) : kFunc Try.prog [] call callD N_rungref8_Store_Write [a0, a1, a2] h = F_rungref8_Store_Write call callD a0 a1 a2 h := by kernel_rfl
theorem C_rungref8_Store_Write {ov : AOver} (H : Plain ov) (n : Nat) (a0 a1 a2 : AVal) (h : AH) : kc ov (n + 1) N_rungref8_Store_Write [a0, a1, a2] h = F_rungref8_Store_Write (kc ov n) (kd ov n) a0 a1 a2 h := by
  have hov : ov N_rungref8_Store_Write = none := H _ (by decide)
  unfold kc kd; rw [← F_rungref8_Store_Write_eq]; simp only [kcall, hov]

/-- (*rung/rungref8.Store).Cut -/
def F_rungref8_Store_Cut (call callD : ACall) (a0 a1 a2 : AVal) (h : AH) : Ans :=
  kq (some a0) <| fun v0 =>
  kq (aNilCheck v0) <| fun v1 =>
  kq (rFieldP 5 v1) <| fun v2 =>
  kq (rLoad v2 h) <| fun v3 =>
  kq (aUn .not v3) <| fun v4 =>
  kj (fun l5 h0 =>
  some (.tuple [], h0)) <| fun j6 =>
  kIf v4 (
  kq (some a0) <| fun v7 =>
  kq (some a0) <| fun v8 =>
  kq (some a1) <| fun v9 =>
  kq (aMM aMax2 [v9, (.int .i64 (-1))]) <| fun v10 =>
  kq (some a2) <| fun v11 =>
  kq (aNilCheck v7) <| fun v12 =>
  kq (rFieldP 3 v12) <| fun v13 =>
  ke ((rStore 1 v13 v10 h).map fun h' => (.tuple [], h')) <| fun v14 h1 =>
  kq (aNilCheck v8) <| fun v15 =>
  kq (rFieldP 4 v15) <| fun v16 =>
  ke ((rStore 1 v16 v11 h1).map fun h' => (.tuple [], h')) <| fun v17 h2 =>
  j6 [] h2) (
  j6 [] h)
theorem F_rungref8_Store_Cut_eq (call callD : ACall) (a0 a1 a2 : AVal) (h : AH) : kFunc Try.prog [] call callD N_rungref8_Store_Cut [a0, a1, a2] h = F_rungref8_Store_Cut call callD a0 a1 a2 h := by kernel_rfl
theorem C_rungref8_Store_Cut {ov : AOver} (H : Plain ov) (n : Nat) (a0 a1 a2 : AVal) (h : AH) : kc ov (n + 1) N_rungref8_Store_Cut [a0, a1, a2] h = F_rungref8_Store_Cut (kc ov n) (kd ov n) a0 a1 a2 h := by
  have hov : ov N_rungref8_Store_Cut = none := H _ (by decide)
  unfold kc kd; rw [← F_rungref8_Store_Cut_eq]; simp only [kcall, hov]

/-- (*rung/rungref8.Store).Power -/
def F_rungref8_Store_Power (call callD : ACall) (a0 : AVal) (h : AH) : Ans :=
  kq (some a0) <| fun v0 =>
  kq (some a0) <| fun v1 =>
  kq (aNilCheck v0) <| fun v2 =>
  kq (rFieldP 5 v2) <| fun v3 =>
  ke ((rStore 1 v3 (.bool false) h).map fun h' => (.tuple [], h')) <| fun v4 h0 =>
  kq (aNilCheck v1) <| fun v5 =>
  kq (rFieldP 3 v5) <| fun v6 =>
  ke ((rStore 1 v6 (.int .i64 (-1)) h0).map fun h' => (.tuple [], h')) <| fun v7 h1 =>
  some (.tuple [], h1)
theorem F_rungref8_Store_Power_eq (call callD : ACall) (a0 : AVal) (h : AH) : kFunc Try.prog [] call callD N_rungref8_Store_Power [a0] h = F_rungref8_Store_Power call callD a0 h := by kernel_rfl
theorem C_rungref8_Store_Power {ov : AOver} (H : Plain ov) (n : Nat) (a0 : AVal) (h : AH) : kc ov (n + 1) N_rungref8_Store_Power [a0] h = F_rungref8_Store_Power (kc ov n) (kd ov n) a0 h := by
  have hov : ov N_rungref8_Store_Power = none := H _ (by decide)
  unfold kc kd; rw [← F_rungref8_Store_Power_eq]; simp only [kcall, hov]

/-- (*rung/block.Store).Spoil -/
def F_block_Store_Spoil (call callD : ACall) (a0 a1 a2 a3 : AVal) (h : AH) : Ans :=
  kq (some a0) <| fun v0 =>
  kq (some a1) <| fun v1 =>
  ke (call N_block_Store_is [v0, v1] h) <| fun v2 h0 =>
  kq (rBin .eql .no true v2 (.int .i64 0)) <| fun v3 =>
  kq (some v3) <| fun v4 =>
  kt (fun v17 =>
  kj (fun l18 h2 =>
  some (.tuple [], h2)) <| fun j19 =>
  kIf v17 (
  kq (some a0) <| fun v20 =>
  kq (aNilCheck v20) <| fun v21 =>
  kq (rFieldP 0 v21) <| fun v22 =>
  kq (rLoad v22 h0) <| fun v23 =>
  kq (some a1) <| fun v24 =>
  kq (rAt 1 v23 v24) <| fun v25 =>
  kq (rLoad v25 h0) <| fun v26 =>
  kq (some a2) <| fun v27 =>
  kq (rAt 1 v26 v27) <| fun v28 =>
  kq (rLoad v28 h0) <| fun v29 =>
  kq (some a3) <| fun v30 =>
  kq (rBin .xor .no false v29 v30) <| fun v31 =>
  kq (rAt 1 v26 v27) <| fun v32 =>
  ke ((rStore 1 v32 v31 h0).map fun h' => (.tuple [], h')) <| fun v33 h3 =>
  j19 [] h3) (
  j19 [] h0)) <| fun j5 =>
  kgq v4 true (fun k => kq (some a2) k) <| fun v6 =>
  kgq v4 true (fun k => kq (rBin .geq .no true v6 (.int .i64 0)) k) <| fun v7 =>
  kq (rPick v4 v7 (.bool false)) <| fun v8 =>
  kq (some v8) <| fun v9 =>
  kgq v9 true (fun k => kq (some a2) k) <| fun v10 =>
  kgq v9 true (fun k => kq (some a0) k) <| fun v11 =>
  kgq v9 true (fun k => kq (aNilCheck v11) k) <| fun v12 =>
  kgq v9 true (fun k => kq (rFieldP 1 v12) k) <| fun v13 =>
  kgq v9 true (fun k => kq (rLoad v13 h0) k) <| fun v14 =>
  kgq v9 true (fun k => kq (rBin .lss .no false v10 v14) k) <| fun v15 =>
  kq (rPick v9 v15 (.bool false)) <| fun v16 =>
  j5 v16
theorem F_block_Store_Spoil_eq (call callD : ACall) (a0 a1 a2 a3 : AVal) (h : AH) : kFunc Try.prog [] call callD N_block_Store_Spoil [a0, a1, a2, a3] h = F_block_Store_Spoil call callD a0 a1 a2 a3 h := by kernel_rfl
theorem C_block_Store_Spoil {ov : AOver} (H : Plain ov) (n : Nat) (a0 a1 a2 a3 : AVal) (h : AH) : kc ov (n + 1) N_block_Store_Spoil [a0, a1, a2, a3] h = F_block_Store_Spoil (kc ov n) (kd ov n) a0 a1 a2 a3 h := by
  have hov : ov N_block_Store_Spoil = none := H _ (by decide)
  unfold kc kd; rw [← F_block_Store_Spoil_eq]; simp only [kcall, hov]

/-- (*rung/rungref8.Store).Spoil -/
def F_rungref8_Store_Spoil (call callD : ACall) (a0 a1 a2 a3 : AVal) (h : AH) : Ans :=
  kq (some a0) <| fun v0 =>
  kq (aNilCheck v0) <| fun v1 =>
  kq (rFieldP 5 v1) <| fun v2 =>
  kq (rLoad v2 h) <| fun v3 =>
  kq (aUn .not v3) <| fun v4 =>
  kq (some v4) <| fun v5 =>
  kt (fun v31 =>
  kj (fun l32 h1 =>
  some (.tuple [], h1)) <| fun j33 =>
  kIf v31 (
  kq (some a0) <| fun v34 =>
  kq (aNilCheck v34) <| fun v35 =>
  kq (rFieldP 0 v35) <| fun v36 =>
  kq (rLoad v36 h) <| fun v37 =>
  kq (some a1) <| fun v38 =>
  kq (some a0) <| fun v39 =>
  kq (aNilCheck v39) <| fun v40 =>
  kq (rFieldP 0 v40) <| fun v41 =>
  kq (rLoad v41 h) <| fun v42 =>
  kq (some a1) <| fun v43 =>
  kq (rAt 1 v42 v43) <| fun v44 =>
  kq (rLoad v44 h) <| fun v45 =>
  ke (rAppend T_uint8 1 1 (.slice none 0 0) v45 h) <| fun v46 h2 =>
  kq (rAt 1 v37 v38) <| fun v47 =>
  kChk (!false || kSame (rLoad v44 h2) v45) <|
  kChk (!false || kSame (rLoad v41 h2) v42) <|
  kChk (!true || kSame (rLoad v36 h2) v37) <|
  ke ((rStore 1 v47 v46 h2).map fun h' => (.tuple [], h')) <| fun v48 h3 =>
  kChk (!false || kSame (rLoad v44 h3) v45) <|
  kChk (!false || kSame (rLoad v41 h3) v42) <|
  kChk (!false || kSame (rLoad v36 h3) v37) <|
  kq (some a0) <| fun v49 =>
  kq (aNilCheck v49) <| fun v50 =>
  kq (rFieldP 0 v50) <| fun v51 =>
  kq (rLoad v51 h3) <| fun v52 =>
  kq (some a1) <| fun v53 =>
  kq (rAt 1 v52 v53) <| fun v54 =>
  kq (rLoad v54 h3) <| fun v55 =>
  kq (some a2) <| fun v56 =>
  kq (some a0) <| fun v57 =>
  kq (aNilCheck v57) <| fun v58 =>
  kq (rFieldP 0 v58) <| fun v59 =>
  kq (rLoad v59 h3) <| fun v60 =>
  kq (some a1) <| fun v61 =>
  kq (rAt 1 v60 v61) <| fun v62 =>
  kq (rLoad v62 h3) <| fun v63 =>
  kq (some a2) <| fun v64 =>
  kq (rAt 1 v63 v64) <| fun v65 =>
  kq (rLoad v65 h3) <| fun v66 =>
  kq (some a3) <| fun v67 =>
  kq (rBin .xor .no false v66 v67) <| fun v68 =>
  kq (rAt 1 v55 v56) <| fun v69 =>
  ke ((rStore 1 v69 v68 h3).map fun h' => (.tuple [], h')) <| fun v70 h4 =>
  kChk (!false || kSame (rLoad v65 h4) v66) <|
  kChk (!false || kSame (rLoad v62 h4) v63) <|
  kChk (!false || kSame (rLoad v59 h4) v60) <|
  kChk (!false || kSame (rLoad v54 h4) v55) <|
  kChk (!false || kSame (rLoad v51 h4) v52) <|
  j33 [] h4) (
  j33 [] h)) <| fun j6 =>
  kgq v5 true (fun k => kq (some a1) k) <| fun v7 =>
  kgq v5 true (fun k => kq (rBin .geq .no true v7 (.int .i64 0)) k) <| fun v8 =>
  kq (rPick v5 v8 (.bool false)) <| fun v9 =>
  kq (some v9) <| fun v10 =>
  kgq v10 true (fun k => kq (some a1) k) <| fun v11 =>
  kgq v10 true (fun k => kq (some a0) k) <| fun v12 =>
  kgq v10 true (fun k => kq (aNilCheck v12) k) <| fun v13 =>
  kgq v10 true (fun k => kq (rFieldP 0 v13) k) <| fun v14 =>
  kgq v10 true (fun k => kq (rLoad v14 h) k) <| fun v15 =>
  kgq v10 true (fun k => kq (rLen v15) k) <| fun v16 =>
  kgq v10 true (fun k => kq (rBin .lss .no false v11 v16) k) <| fun v17 =>
  kq (rPick v10 v17 (.bool false)) <| fun v18 =>
  kq (some v18) <| fun v19 =>
  kgq v19 true (fun k => kq (some a2) k) <| fun v20 =>
  kgq v19 true (fun k => kq (rBin .geq .no true v20 (.int .i64 0)) k) <| fun v21 =>
  kq (rPick v19 v21 (.bool false)) <| fun v22 =>
  kq (some v22) <| fun v23 =>
  kgq v23 true (fun k => kq (some a2) k) <| fun v24 =>
  kgq v23 true (fun k => kq (some a0) k) <| fun v25 =>
  kgq v23 true (fun k => kq (aNilCheck v25) k) <| fun v26 =>
  kgq v23 true (fun k => kq (rFieldP 1 v26) k) <| fun v27 =>
  kgq v23 true (fun k => kq (rLoad v27 h) k) <| fun v28 =>
  kgq v23 true (fun k => kq (rBin .lss .no false v24 v28) k) <| fun v29 =>
  kq (rPick v23 v29 (.bool false)) <| fun v30 =>
  j6 v30
theorem F_rungref8_Store_Spoil_eq (call callD : ACall) (a0 a1 a2 a3 : AVal) (h : AH) : kFunc Try.prog [] call callD N_rungref8_Store_Spoil [a0, a1, a2, a3] h = F_rungref8_Store_Spoil call callD a0 a1 a2 a3 h := by kernel_rfl
theorem C_rungref8_Store_Spoil {ov : AOver} (H : Plain ov) (n : Nat) (a0 a1 a2 a3 : AVal) (h : AH) : kc ov (n + 1) N_rungref8_Store_Spoil [a0, a1, a2, a3] h = F_rungref8_Store_Spoil (kc ov n) (kd ov n) a0 a1 a2 a3 h := by
  have hov : ov N_rungref8_Store_Spoil = none := H _ (by decide)
  unfold kc kd; rw [← F_rungref8_Store_Spoil_eq]; simp only [kcall, hov]

/-- (*rung/block.Store).Copy -/
def L_block_Store_Copy_0 (call callD : ACall) (v12 : AVal) (v11 : AVal) (v4 : AVal) : (List AVal → AH → Ans) → List AVal → AH → Ans := fun j15 l14 h3 =>
  kq (rBin .lss .no false (gd l14 0) v12) <| fun v16 =>
  kIf v16 (
  kq (rAt 1 v11 (gd l14 0)) <| fun v17 =>
  kq (rLoad v17 h3) <| fun v18 =>
  kq (some v18) <| fun v19 =>
  kq (rFieldP 0 v4) <| fun v20 =>
  kq (rLoad v20 h3) <| fun v21 =>
  kq (some v19) <| fun v22 =>
  ke (call N_slices_Clone___byte_byte_ [v22] h3) <| fun v23 h4 =>
  km (mBuildSl T___uint8 1 [(.slice none 0 0)] 1 [(0, v23)]) h4 <| fun v24 h5 =>
  kChk (!true || kSame (rLoad v20 h5) v21) <|
  ke (rAppend T___uint8 1 24 v21 v24 h5) <| fun v25 h6 =>
  kq (rFieldP 0 v4) <| fun v26 =>
  kChk (!false || kSame (rLoad v20 h6) v21) <|
  ke ((rStore 1 v26 v25 h6).map fun h' => (.tuple [], h')) <| fun v27 h7 =>
  kChk (!false || kSame (rLoad v20 h7) v21) <|
  kq (rBin .add .no true (gd l14 0) (.int .i64 1)) <| fun v28 =>
  kq (some v28) <| fun v29 =>
  j15 [v29] h7) (
  kq (some v4) <| fun v30 =>
  some (v30, h3))
def F_block_Store_Copy (call callD : ACall) (a0 : AVal) (h : AH) : Ans :=
  kq (some (.ptr none)) <| fun v0 =>
  kq (some a0) <| fun v1 =>
  kq (aNilCheck v1) <| fun v2 =>
  kq (rLoadA 6 v2 h) <| fun v3 =>
  km (pBox T_block_Store (.agg [(.slice none 0 0), (.int .i64 0), (.int .i64 0), (.int .i64 0), (.int .i64 0), (.bool false)])) h <| fun v4 h0 =>
  ke ((rStore 6 v4 v3 h0).map fun h' => (.tuple [], h')) <| fun v5 h1 =>
  kq (rFieldP 0 v4) <| fun v6 =>
  ke ((rStore 1 v6 (.slice none 0 0) h1).map fun h' => (.tuple [], h')) <| fun v7 h2 =>
  kq (some a0) <| fun v8 =>
  kq (aNilCheck v8) <| fun v9 =>
  kq (rFieldP 0 v9) <| fun v10 =>
  kq (rLoad v10 h2) <| fun v11 =>
  kq (rLen v11) <| fun v12 =>
  kq (some (.int .i64 0)) <| fun v13 =>
  kLoop (L_block_Store_Copy_0 call callD v12 v11 v4) rounds [v13] h2
theorem F_block_Store_Copy_eq (call callD : ACall) (a0 : AVal) (h : AH) : kFunc Try.prog [] call callD N_block_Store_Copy [a0] h = F_block_Store_Copy call callD a0 h := by kernel_rfl
theorem C_block_Store_Copy {ov : AOver} (H : Plain ov) (n : Nat) (a0 : AVal) (h : AH) : kc ov (n + 1) N_block_Store_Copy [a0] h = F_block_Store_Copy (kc ov n) (kd ov n) a0 h := by
  have hov : ov N_block_Store_Copy = none := H _ (by decide)
  unfold kc kd; rw [← F_block_Store_Copy_eq]; simp only [kcall, hov]

/-- (*rung/rungref8.Store).Copy -/
def F_rungref8_Store_Copy (call callD : ACall) (a0 : AVal) (h : AH) : Ans :=
  kq (some (.ptr none)) <| fun v0 =>
  kq (some a0) <| fun v1 =>
  kq (aNilCheck v1) <| fun v2 =>
  kq (rLoadA 6 v2 h) <| fun v3 =>
  km (pBox T_rungref8_Store (.agg [(.slice none 0 0), (.int .i64 0), (.int .i64 0), (.int .i64 0), (.int .i64 0), (.bool false)])) h <| fun v4 h0 =>
  ke ((rStore 6 v4 v3 h0).map fun h' => (.tuple [], h')) <| fun v5 h1 =>
  kq (some a0) <| fun v6 =>
  kq (aNilCheck v6) <| fun v7 =>
  kq (rFieldP 0 v7) <| fun v8 =>
  kq (rLoad v8 h1) <| fun v9 =>
  ke (rAppend T___uint8 1 24 (.slice none 0 0) v9 h1) <| fun v10 h2 =>
  kq (rFieldP 0 v4) <| fun v11 =>
  ke ((rStore 1 v11 v10 h2).map fun h' => (.tuple [], h')) <| fun v12 h3 =>
  kq (some v4) <| fun v13 =>
  some (v13, h3)
theorem F_rungref8_Store_Copy_eq (call callD : ACall) (a0 : AVal) (h : AH) : kFunc Try.prog [] call callD N_rungref8_Store_Copy [a0] h = F_rungref8_Store_Copy call callD a0 h := by kernel_rfl
theorem C_rungref8_Store_Copy {ov : AOver} (H : Plain ov) (n : Nat) (a0 : AVal) (h : AH) : kc ov (n + 1) N_rungref8_Store_Copy [a0] h = F_rungref8_Store_Copy (kc ov n) (kd ov n) a0 h := by
  have hov : ov N_rungref8_Store_Copy = none := H _ (by decide)
  unfold kc kd; rw [← F_rungref8_Store_Copy_eq]; simp only [kcall, hov]

/-- rung/runglaw8.alike -/
def L_runglaw8_alike_0 (call callD : ACall) (a1 : AVal) (a0 : AVal) : (List AVal → AH → Ans) → List AVal → AH → Ans := fun j30 l29 h3 =>
  kq (some (gd l29 0)) <| fun v31 =>
  kq (some a1) <| fun v32 =>
  kq (aNilCheck v32) <| fun v33 =>
  kq (rFieldP 0 v33) <| fun v34 =>
  kq (rLoad v34 h3) <| fun v35 =>
  kq (rLen v35) <| fun v36 =>
  kq (rBin .leq .no false v31 v36) <| fun v37 =>
  kIf v37 (
  kq (some a0) <| fun v38 =>
  kq (some (gd l29 0)) <| fun v39 =>
  ke (call N_block_Store_Read [v38, v39] h3) <| fun v40 h4 =>
  kq (some v40) <| fun v41 =>
  kq (aExtract v41 0) <| fun v42 =>
  kq (aExtract v41 1) <| fun v43 =>
  kq (some v42) <| fun v44 =>
  kq (some v43) <| fun v45 =>
  kq (some a1) <| fun v46 =>
  kq (some (gd l29 0)) <| fun v47 =>
  ke (call N_rungref8_Store_Read [v46, v47] h4) <| fun v48 h5 =>
  kq (some v48) <| fun v49 =>
  kq (aExtract v49 0) <| fun v50 =>
  kq (aExtract v49 1) <| fun v51 =>
  kq (some v50) <| fun v52 =>
  kq (some v51) <| fun v53 =>
  kq (some v45) <| fun v54 =>
  kq (some v53) <| fun v55 =>
  kq (rBin .neq .no false v54 v55) <| fun v56 =>
  kq (some v56) <| fun v57 =>
  kth (fun v65 h8 =>
  kIf v65 (
  kq (some (.bool false)) <| fun v66 =>
  some (v66, h8)) (
  kq (some v44) <| fun v67 =>
  ke (call N_runghelp_Spoil [v67] h8) <| fun v68 h9 =>
  kq (some (gd l29 0)) <| fun v69 =>
  kq (rBin .add .no true v69 (.int .i64 1)) <| fun v70 =>
  kq (some v70) <| fun v71 =>
  j30 [v71] h9)) <| fun j58 =>
  kgq v57 false (fun k => kq (some v44) k) <| fun v59 =>
  kgq v57 false (fun k => kq (some v52) k) <| fun v60 =>
  kgh v57 false h5 (fun k => ke (call N_runghelp_Bytes [v59, v60] h5) <| fun v61 h6 =>
  k v61 h6) <| fun v62 h7 =>
  kgq v57 false (fun k => kq (aUn .not v62) k) <| fun v63 =>
  kq (rPick v57 (.bool true) v63) <| fun v64 =>
  j58 v64 h7) (
  kq (some (.bool true)) <| fun v72 =>
  some (v72, h3))
def F_runglaw8_alike (call callD : ACall) (a0 a1 : AVal) (h : AH) : Ans :=
  kq (some (.bool false)) <| fun v0 =>
  kq (some a0) <| fun v1 =>
  kq (some a1) <| fun v2 =>
  kq (aNilCheck v2) <| fun v3 =>
  kq (rFieldP 5 v3) <| fun v4 =>
  kq (rLoad v4 h) <| fun v5 =>
  ke (call N_block_Store_Dead [v1] h) <| fun v6 h0 =>
  kq (rBin .neq .bool false v6 v5) <| fun v7 =>
  kq (some v7) <| fun v8 =>
  kgq v8 false (fun k => kq (some a0) k) <| fun v9 =>
  kgq v8 false (fun k => kq (some a1) k) <| fun v10 =>
  kgq v8 false (fun k => kq (aNilCheck v10) k) <| fun v11 =>
  kgq v8 false (fun k => kq (rFieldP 2 v11) k) <| fun v12 =>
  kgq v8 false (fun k => kq (rLoad v12 h0) k) <| fun v13 =>
  kgh v8 false h0 (fun k => kChk (!true || kSame (rLoad v4 h0) v5) <|
  ke (call N_block_Store_Writes [v9] h0) k) <| fun v14 h1 =>
  kgq v8 false (fun k => kq (rBin .neq .no false v14 v13) k) <| fun v15 =>
  kq (rPick v8 (.bool true) v15) <| fun v16 =>
  kq (some v16) <| fun v17 =>
  kgq v17 false (fun k => kq (some a0) k) <| fun v18 =>
  kgq v17 false (fun k => kq (some a1) k) <| fun v19 =>
  kgq v17 false (fun k => kq (aNilCheck v19) k) <| fun v20 =>
  kgq v17 false (fun k => kq (rFieldP 0 v20) k) <| fun v21 =>
  kgq v17 false (fun k => kq (rLoad v21 h1) k) <| fun v22 =>
  kgq v17 false (fun k => kq (rLen v22) k) <| fun v23 =>
  kgh v17 false h1 (fun k => kChk (!gOn v8 false || kSame (rLoad v12 h1) v13) <|
  kChk (!(true && !gOn v8 false) || kSame (rLoad v4 h1) v5) <|
  ke (call N_block_Store_Blocks [v18] h1) k) <| fun v24 h2 =>
  kgq v17 false (fun k => kq (rBin .neq .no false v24 v23) k) <| fun v25 =>
  kq (rPick v17 (.bool true) v25) <| fun v26 =>
  kChk (!gOn v17 false || kSame (rLoad v21 h2) v22) <|
  kChk (!(gOn v8 false && !gOn v17 false) || kSame (rLoad v12 h2) v13) <|
  kChk (!((true && !gOn v8 false) && !gOn v17 false) || kSame (rLoad v4 h2) v5) <|
  kIf v26 (
  kq (some (.bool false)) <| fun v27 =>
  some (v27, h2)) (
  kq (some (.int .i64 (-1))) <| fun v28 =>
  kLoop (L_runglaw8_alike_0 call callD a1 a0) rounds [v28] h2)
theorem F_runglaw8_alike_eq (call callD : ACall) (a0 a1 : AVal) (h : AH) : kFunc Try.prog [] call callD N_runglaw8_alike [a0, a1] h = F_runglaw8_alike call callD a0 a1 h := by kernel_rfl
theorem C_runglaw8_alike {ov : AOver} (H : Plain ov) (n : Nat) (a0 a1 : AVal) (h : AH) : kc ov (n + 1) N_runglaw8_alike [a0, a1] h = F_runglaw8_alike (kc ov n) (kd ov n) a0 a1 h := by
  have hov : ov N_runglaw8_alike = none := H _ (by decide)
  unfold kc kd; rw [← F_runglaw8_alike_eq]; simp only [kcall, hov]

/-- (*rung/block.Store).is -/
def F_block_Store_is (call callD : ACall) (a0 a1 : AVal) (h : AH) : Ans :=
  kq (some (.int .i64 0)) <| fun v0 =>
  kq (some a0) <| fun v1 =>
  kq (aNilCheck v1) <| fun v2 =>
  kq (rFieldP 5 v2) <| fun v3 =>
  kq (rLoad v3 h) <| fun v4 =>
  kq (some v4) <| fun v5 =>
  kIf v5 (
  kq (some (.int .i64 82)) <| fun v6 =>
  some (v6, h)) (
  kq (some a1) <| fun v7 =>
  kq (rBin .lss .no true v7 (.int .i64 0)) <| fun v8 =>
  kq (some v8) <| fun v9 =>
  kt (fun v19 =>
  kq (some v19) <| fun v20 =>
  kIf v20 (
  kq (some (.int .i64 80)) <| fun v21 =>
  some (v21, h)) (
  kq (some (.int .i64 0)) <| fun v22 =>
  some (v22, h))) <| fun j10 =>
  kgq v9 false (fun k => kq (some a1) k) <| fun v11 =>
  kgq v9 false (fun k => kq (some a0) k) <| fun v12 =>
  kgq v9 false (fun k => kq (aNilCheck v12) k) <| fun v13 =>
  kgq v9 false (fun k => kq (rFieldP 0 v13) k) <| fun v14 =>
  kgq v9 false (fun k => kq (rLoad v14 h) k) <| fun v15 =>
  kgq v9 false (fun k => kq (rLen v15) k) <| fun v16 =>
  kgq v9 false (fun k => kq (rBin .geq .no false v11 v16) k) <| fun v17 =>
  kq (rPick v9 (.bool true) v17) <| fun v18 =>
  j10 v18)
theorem F_block_Store_is_eq (call callD : ACall) (a0 a1 : AVal) (h : AH) : kFunc Try.prog [] call callD N_block_Store_is [a0, a1] h = F_block_Store_is call callD a0 a1 h := by kernel_rfl
theorem C_block_Store_is {ov : AOver} (H : Plain ov) (n : Nat) (a0 a1 : AVal) (h : AH) : kc ov (n + 1) N_block_Store_is [a0, a1] h = F_block_Store_is (kc ov n) (kd ov n) a0 a1 h := by
  have hov : ov N_block_Store_is = none := H _ (by decide)
  unfold kc kd; rw [← F_block_Store_is_eq]; simp only [kcall, hov]

/-- slices.Clone[[]byte,byte] -/
def F_slices_Clone___byte_byte_ (call callD : ACall) (a0 : AVal) (h : AH) : Ans :=
  kq (some (.slice none 0 0)) <| fun v0 =>
  kq (some a0) <| fun v1 =>
  kq (rBin .eql .slice true v1 (.slice none 0 0)) <| fun v2 =>
  kIf v2 (
  kq (some (.slice none 0 0)) <| fun v3 =>
  some (v3, h)) (
  km (mBuildSl T_uint8 1 [(.int .u8 0)] 0 []) h <| fun v4 h0 =>
  kq (some a0) <| fun v5 =>
  ke (rAppend T_uint8 1 1 v4 v5 h0) <| fun v6 h1 =>
  kq (some v6) <| fun v7 =>
  some (v7, h1))
theorem F_slices_Clone___byte_byte__eq (call callD : ACall) (a0 : AVal) (h : AH) : kFunc Try.prog [] call callD N_slices_Clone___byte_byte_ [a0] h = F_slices_Clone___byte_byte_ call callD a0 h := by kernel_rfl
theorem C_slices_Clone___byte_byte_ {ov : AOver} (H : Plain ov) (n : Nat) (a0 : AVal) (h : AH) : kc ov (n + 1) N_slices_Clone___byte_byte_ [a0] h = F_slices_Clone___byte_byte_ (kc ov n) (kd ov n) a0 h := by
  have hov : ov N_slices_Clone___byte_byte_ = none := H _ (by decide)
  unfold kc kd; rw [← F_slices_Clone___byte_byte__eq]; simp only [kcall, hov]


end Go.Proofs.Ytbicodikokfokaa.AI
