/- PRINTED by Pr2: the functions of the program as the machine sees them. -/
import Derived.Test.YtijdkjngbogegaaAiLib3
import Derived.Test.YtijdkjngbogegaaProg
import Derived.KernelRfl
namespace Go.Proofs.Ytijdkjngbogegaa.AI
open Go
set_option linter.unusedVariables false
set_option maxRecDepth 100000
abbrev T_int : Nat := 3
abbrev T_bool : Nat := 4
abbrev T_string : Nat := 9
abbrev T_func_int__int64__int64__int64 : Nat := 31
abbrev T_num_kind : Nat := 49
abbrev N_runglaw1_NumDivides : Nat := 3
abbrev N_runglaw1_NumOrders : Nat := 4
abbrev N_runglaw1_NumRing : Nat := 5
abbrev N_runglaw1_NumLogic : Nat := 6
abbrev N_runglaw1_NumWraps : Nat := 7
abbrev N_runglaw1_NumKinds : Nat := 8
abbrev N_runglaw1_NumMoves : Nat := 9
abbrev N_runglaw1_known : Nat := 10
abbrev N_runghelp_Place : Nat := 11
abbrev N_num_Wrap : Nat := 12
abbrev N_num_Apply : Nat := 13
abbrev N_runglaw1_NumDivides_1 : Nat := 14
abbrev N_runglaw1_NumOrders_1 : Nat := 15
abbrev N_runglaw1_NumRing_1 : Nat := 16
abbrev N_runglaw1_NumRing_2 : Nat := 17
abbrev N_runglaw1_NumRing_3 : Nat := 18
abbrev N_num_Neg : Nat := 19
abbrev N_runglaw1_NumLogic_1 : Nat := 20
abbrev N_runglaw1_NumLogic_2 : Nat := 21
abbrev N_runglaw1_NumLogic_3 : Nat := 22
abbrev N_runglaw1_NumLogic_4 : Nat := 23
abbrev N_num_Not : Nat := 24
abbrev N_num_Range : Nat := 25
abbrev N_rungref1_Wrap : Nat := 26
abbrev N_num_Width : Nat := 27
abbrev N_rungref1_Range : Nat := 28
abbrev N_num_Scalar : Nat := 29
abbrev N_rungref1_Scalar : Nat := 30
abbrev N_num_Signed : Nat := 31
abbrev N_rungref1_Signed : Nat := 32
abbrev N_rungref1_Width : Nat := 33
abbrev N_num_Name : Nat := 34
abbrev N_rungref1_Name : Nat := 35
abbrev N_num_Kind : Nat := 36
abbrev N_rungref1_Kind : Nat := 37
abbrev N_num_Convert : Nat := 38
abbrev N_rungref1_Convert : Nat := 39
abbrev N_num_Shift : Nat := 40
abbrev N_rungref1_Shift : Nat := 41
abbrev N_num_of : Nat := 42
abbrev N_num_truth : Nat := 43
abbrev N_num_compare : Nat := 44
abbrev N_rungref1_names : Nat := 45
abbrev N_rungref1_Bits : Nat := 46
/-- Functions that another thing stands in for. -/
def OVS : List Nat := [10]
def Plain (ov : AOver) : Prop := ∀ f, f ∉ OVS → ov f = none
noncomputable def kc (ov : AOver) (n : Nat) : ACall := kcall Try.prog [] ov n
noncomputable def kd (ov : AOver) (n : Nat) : ACall := kFuncD Try.prog [] (kcall Try.prog [] ov n)
/-- rung/runglaw1.NumDivides -/
def F_runglaw1_NumDivides (call callD : ACall) (a0 a1 a2 : AVal) (h : AH) : Ans :=
  kq (some (.bool false)) <| fun v0 =>
  ke (call N_runglaw1_known [] h) <| fun v1 h0 =>
  kq (aUn .not v1) <| fun v2 =>
  kIf v2 (
  kq (some (.bool false)) <| fun v3 =>
  some (v3, h0)) (
  kq (some a0) <| fun v4 =>
  ke (call N_runghelp_Place [v4, (.int .i64 6)] h0) <| fun v5 h1 =>
  kq (rBin .add .no true (.int .i64 2) v5) <| fun v6 =>
  kq (some v6) <| fun v7 =>
  kq (some v7) <| fun v8 =>
  kq (some a1) <| fun v9 =>
  ke (call N_num_Wrap [v8, v9] h1) <| fun v10 h2 =>
  kq (some v7) <| fun v11 =>
  kq (some a2) <| fun v12 =>
  ke (call N_num_Wrap [v11, v12] h2) <| fun v13 h3 =>
  kq (some v10) <| fun v14 =>
  kq (some v13) <| fun v15 =>
  kq (some v7) <| fun v16 =>
  kq (some v14) <| fun v17 =>
  kq (some v15) <| fun v18 =>
  ke (call N_num_Apply [(.int .i64 6), v16, v17, v18] h3) <| fun v19 h4 =>
  kq (some v19) <| fun v20 =>
  kq (aExtract v20 0) <| fun v21 =>
  kq (aExtract v20 1) <| fun v22 =>
  kq (some v21) <| fun v23 =>
  kq (some v22) <| fun v24 =>
  kq (some v7) <| fun v25 =>
  kq (some v14) <| fun v26 =>
  kq (some v15) <| fun v27 =>
  ke (call N_num_Apply [(.int .i64 7), v25, v26, v27] h4) <| fun v28 h5 =>
  kq (some v28) <| fun v29 =>
  kq (aExtract v29 0) <| fun v30 =>
  kq (aExtract v29 1) <| fun v31 =>
  kq (some v30) <| fun v32 =>
  kq (some v31) <| fun v33 =>
  kq (some v15) <| fun v34 =>
  kq (rBin .eql .no true v34 (.int .i64 0)) <| fun v35 =>
  kIf v35 (
  kq (some v24) <| fun v36 =>
  kq (rBin .eql .no true v36 (.int .i64 1)) <| fun v37 =>
  kq (some v37) <| fun v38 =>
  kt (fun v51 =>
  kq (some v51) <| fun v52 =>
  some (v52, h5)) <| fun j39 =>
  kgq v38 true (fun k => kq (some v33) k) <| fun v40 =>
  kgq v38 true (fun k => kq (rBin .eql .no true v40 (.int .i64 1)) k) <| fun v41 =>
  kq (rPick v38 v41 (.bool false)) <| fun v42 =>
  kq (some v42) <| fun v43 =>
  kgq v43 true (fun k => kq (some v23) k) <| fun v44 =>
  kgq v43 true (fun k => kq (rBin .eql .no true v44 (.int .i64 0)) k) <| fun v45 =>
  kq (rPick v43 v45 (.bool false)) <| fun v46 =>
  kq (some v46) <| fun v47 =>
  kgq v47 true (fun k => kq (some v32) k) <| fun v48 =>
  kgq v47 true (fun k => kq (rBin .eql .no true v48 (.int .i64 0)) k) <| fun v49 =>
  kq (rPick v47 v49 (.bool false)) <| fun v50 =>
  j39 v50) (
  kq (some v7) <| fun v53 =>
  kq (some v23) <| fun v54 =>
  kq (some v15) <| fun v55 =>
  ke (call N_num_Apply [(.int .i64 5), v53, v54, v55] h5) <| fun v56 h7 =>
  kq (some v56) <| fun v57 =>
  kq (aExtract v57 0) <| fun v58 =>
  kq (aExtract v57 1) <| fun v59 =>
  kq (some v58) <| fun v60 =>
  kq (some v59) <| fun v61 =>
  kq (some v7) <| fun v62 =>
  kq (some v60) <| fun v63 =>
  kq (some v32) <| fun v64 =>
  ke (call N_num_Apply [(.int .i64 8), v62, v63, v64] h7) <| fun v65 h8 =>
  kq (some v65) <| fun v66 =>
  kq (aExtract v66 0) <| fun v67 =>
  kq (aExtract v66 1) <| fun v68 =>
  kq (some v67) <| fun v69 =>
  kq (some v68) <| fun v70 =>
  kq (some (.func (.func N_runglaw1_NumDivides_1) [] [])) <| fun v71 =>
  kq (some v24) <| fun v72 =>
  kq (rBin .eql .no true v72 (.int .i64 0)) <| fun v73 =>
  kq (some v73) <| fun v74 =>
  kth (fun v106 h13 =>
  kq (some v106) <| fun v107 =>
  some (v107, h13)) <| fun j75 =>
  kgq v74 true (fun k => kq (some v33) k) <| fun v76 =>
  kgq v74 true (fun k => kq (rBin .eql .no true v76 (.int .i64 0)) k) <| fun v77 =>
  kq (rPick v74 v77 (.bool false)) <| fun v78 =>
  kq (some v78) <| fun v79 =>
  kgq v79 true (fun k => kq (some v69) k) <| fun v80 =>
  kgq v79 true (fun k => kq (some v14) k) <| fun v81 =>
  kgq v79 true (fun k => kq (rBin .eql .no false v80 v81) k) <| fun v82 =>
  kq (rPick v79 v82 (.bool false)) <| fun v83 =>
  kq (some v83) <| fun v84 =>
  kgq v84 true (fun k => kq (some v71) k) <| fun v85 =>
  kgq v84 true (fun k => kq (some v32) k) <| fun v86 =>
  kgh v84 true h8 (fun k => ke (rCallV call v85 [v86] h8) <| fun v87 h9 =>
  k v87 h9) <| fun v88 h10 =>
  kgq v84 true (fun k => kq (some v71) k) <| fun v89 =>
  kgq v84 true (fun k => kq (some v15) k) <| fun v90 =>
  kgh v84 true h10 (fun k => ke (rCallV call v89 [v90] h10) <| fun v91 h11 =>
  k v91 h11) <| fun v92 h12 =>
  kgq v84 true (fun k => kq (rBin .lss .no false v88 v92) k) <| fun v93 =>
  kq (rPick v84 v93 (.bool false)) <| fun v94 =>
  kq (some v94) <| fun v95 =>
  kgq v95 true (fun k => kq (some v32) k) <| fun v96 =>
  kgq v95 true (fun k => kq (rBin .eql .no true v96 (.int .i64 0)) k) <| fun v97 =>
  kgq v95 true (fun k => kq (some v97) k) <| fun v98 =>
  kgq v98 false (fun k => kq (some v32) k) <| fun v99 =>
  kgq v98 false (fun k => kq (rBin .lss .no true v99 (.int .i64 0)) k) <| fun v100 =>
  kgq v98 false (fun k => kq (some v14) k) <| fun v101 =>
  kgq v98 false (fun k => kq (rBin .lss .no true v101 (.int .i64 0)) k) <| fun v102 =>
  kgq v98 false (fun k => kq (rBin .eql .bool false v100 v102) k) <| fun v103 =>
  kgq v95 true (fun k => kq (rPick v98 (.bool true) v103) k) <| fun v104 =>
  kq (rPick v95 v104 (.bool false)) <| fun v105 =>
  j75 v105 h12))
theorem F_runglaw1_NumDivides_eq (call callD : ACall) (a0 a1 a2 : AVal) (h : AH) : kFunc Try.prog [] call callD N_runglaw1_NumDivides [a0, a1, a2] h = F_runglaw1_NumDivides call callD a0 a1 a2 h := by kernel_rfl
theorem C_runglaw1_NumDivides {ov : AOver} (H : Plain ov) (n : Nat) (a0 a1 a2 : AVal) (h : AH) : kc ov (n + 1) N_runglaw1_NumDivides [a0, a1, a2] h = F_runglaw1_NumDivides (kc ov n) (kd ov n) a0 a1 a2 h := by
  have hov : ov N_runglaw1_NumDivides = none := H _ (by decide)
  unfold kc kd; rw [← F_runglaw1_NumDivides_eq]; simp only [kcall, hov]

/-- rung/runglaw1.NumOrders -/
def L_runglaw1_NumOrders_0 (call callD : ACall) (v31 : AVal) (v30 : AVal) (v10 : AVal) (a1 : AVal) (a2 : AVal) (v23 : AVal) (v24 : AVal) (v25 : AVal) (v7 : AVal) (a3 : AVal) : (List AVal → AH → Ans) → List AVal → AH → Ans := fun j34 l33 h8 =>
  kq (rBin .lss .no false (gd l33 1) v31) <| fun v35 =>
  kIf v35 (
  kq (rAt 1 v30 (gd l33 1)) <| fun v36 =>
  kq (rLoad v36 h8) <| fun v37 =>
  kq (some v37) <| fun v38 =>
  kq (some v38) <| fun v39 =>
  kj (fun l40 h9 =>
  kq (rBin .add .no true (gd l33 1) (.int .i64 1)) <| fun v42 =>
  kq (some v42) <| fun v43 =>
  j34 [(gd l40 0), v43] h9) <| fun j41 =>
  kIf v39 (
  kq (some (gd l33 0)) <| fun v44 =>
  kq (rBin .add .no true v44 (.int .i64 1)) <| fun v45 =>
  kq (some v45) <| fun v46 =>
  j41 [v46] h8) (
  j41 [(gd l33 0)] h8)) (
  kq (some (gd l33 0)) <| fun v47 =>
  kq (rBin .neq .no true v47 (.int .i64 1)) <| fun v48 =>
  kq (some v48) <| fun v49 =>
  kgq v49 false (fun k => kq (some v10) k) <| fun v50 =>
  kgq v49 false (fun k => kq (some a1) k) <| fun v51 =>
  kgq v49 false (fun k => kq (some a2) k) <| fun v52 =>
  kgq v49 false (fun k => kq (some v23) k) <| fun v53 =>
  kgh v49 false h8 (fun k => ke (rCallV call v50 [(.int .i64 12), v51, v52] h8) k) <| fun v54 h10 =>
  kgq v49 false (fun k => kq (some v53) k) <| fun v55 =>
  kgq v55 false (fun k => kq (some v24) k) <| fun v56 =>
  kgq v49 false (fun k => kq (rPick v55 (.bool true) v56) k) <| fun v57 =>
  kgq v49 false (fun k => kq (rBin .neq .bool false v54 v57) k) <| fun v58 =>
  kq (rPick v49 (.bool true) v58) <| fun v59 =>
  kq (some v59) <| fun v60 =>
  kgq v60 false (fun k => kq (some v10) k) <| fun v61 =>
  kgq v60 false (fun k => kq (some a1) k) <| fun v62 =>
  kgq v60 false (fun k => kq (some a2) k) <| fun v63 =>
  kgq v60 false (fun k => kq (some v25) k) <| fun v64 =>
  kgh v60 false h10 (fun k => ke (rCallV call v61 [(.int .i64 13), v62, v63] h10) k) <| fun v65 h11 =>
  kgq v60 false (fun k => kq (some v64) k) <| fun v66 =>
  kgq v66 false (fun k => kq (some v24) k) <| fun v67 =>
  kgq v60 false (fun k => kq (rPick v66 (.bool true) v67) k) <| fun v68 =>
  kgq v60 false (fun k => kq (rBin .neq .bool false v65 v68) k) <| fun v69 =>
  kq (rPick v60 (.bool true) v69) <| fun v70 =>
  kq (some v70) <| fun v71 =>
  kgq v71 false (fun k => kq (some v10) k) <| fun v72 =>
  kgq v71 false (fun k => kq (some a1) k) <| fun v73 =>
  kgq v71 false (fun k => kq (some a2) k) <| fun v74 =>
  kgq v71 false (fun k => kq (some v24) k) <| fun v75 =>
  kgh v71 false h11 (fun k => ke (rCallV call v72 [(.int .i64 15), v73, v74] h11) k) <| fun v76 h12 =>
  kgq v71 false (fun k => kq (rBin .eql .bool false v76 v75) k) <| fun v77 =>
  kq (rPick v71 (.bool true) v77) <| fun v78 =>
  kq (some v78) <| fun v79 =>
  kgq v79 false (fun k => kq (some v23) k) <| fun v80 =>
  kgq v79 false (fun k => kq (some v10) k) <| fun v81 =>
  kgq v79 false (fun k => kq (some a2) k) <| fun v82 =>
  kgq v79 false (fun k => kq (some a1) k) <| fun v83 =>
  kgh v79 false h12 (fun k => ke (rCallV call v81 [(.int .i64 11), v82, v83] h12) k) <| fun v84 h13 =>
  kgq v79 false (fun k => kq (rBin .neq .bool false v80 v84) k) <| fun v85 =>
  kq (rPick v79 (.bool true) v85) <| fun v86 =>
  kq (some v86) <| fun v87 =>
  kgq v87 false (fun k => kq (some v24) k) <| fun v88 =>
  kgq v87 false (fun k => kq (rLoad v7 h13) k) <| fun v89 =>
  kgq v87 false (fun k => kq (some a1) k) <| fun v90 =>
  kgq v87 false (fun k => kq (rLoad v7 h13) k) <| fun v91 =>
  kgq v87 false (fun k => kq (some a2) k) <| fun v92 =>
  kgh v87 false h13 (fun k => ke (call N_num_Wrap [v89, v90] h13) k) <| fun v93 h14 =>
  kgh v87 false h14 (fun k => kChk (!gOn v87 false || kSame (rLoad v7 h14) v91) <|
  kChk (!(gOn v87 false && !gOn v87 false) || kSame (rLoad v7 h14) v89) <|
  ke (call N_num_Wrap [v91, v92] h14) k) <| fun v94 h15 =>
  kgq v87 false (fun k => kq (rBin .eql .no false v93 v94) k) <| fun v95 =>
  kgq v87 false (fun k => kq (rBin .neq .bool false v88 v95) k) <| fun v96 =>
  kq (rPick v87 (.bool true) v96) <| fun v97 =>
  kChk (!(gOn v87 false && !gOn v87 false) || kSame (rLoad v7 h15) v91) <|
  kChk (!((gOn v87 false && !gOn v87 false) && !gOn v87 false) || kSame (rLoad v7 h15) v89) <|
  kIf v97 (
  kq (some (.bool false)) <| fun v98 =>
  some (v98, h15)) (
  kq (some v23) <| fun v99 =>
  kq (aUn .not v99) <| fun v100 =>
  kq (some v100) <| fun v101 =>
  kth (fun v117 h20 =>
  kq (some v117) <| fun v118 =>
  some (v118, h20)) <| fun j102 =>
  kgq v101 false (fun k => kq (some v10) k) <| fun v103 =>
  kgq v101 false (fun k => kq (some a2) k) <| fun v104 =>
  kgq v101 false (fun k => kq (some a3) k) <| fun v105 =>
  kgh v101 false h15 (fun k => ke (rCallV call v103 [(.int .i64 10), v104, v105] h15) <| fun v106 h16 =>
  k v106 h16) <| fun v107 h17 =>
  kgq v101 false (fun k => kq (aUn .not v107) k) <| fun v108 =>
  kq (rPick v101 (.bool true) v108) <| fun v109 =>
  kq (some v109) <| fun v110 =>
  kgq v110 false (fun k => kq (some v10) k) <| fun v111 =>
  kgq v110 false (fun k => kq (some a1) k) <| fun v112 =>
  kgq v110 false (fun k => kq (some a3) k) <| fun v113 =>
  kgh v110 false h17 (fun k => ke (rCallV call v111 [(.int .i64 10), v112, v113] h17) <| fun v114 h18 =>
  k v114 h18) <| fun v115 h19 =>
  kq (rPick v110 (.bool true) v115) <| fun v116 =>
  j102 v116 h19))
def F_runglaw1_NumOrders (call callD : ACall) (a0 a1 a2 a3 : AVal) (h : AH) : Ans :=
  kq (some (.bool false)) <| fun v0 =>
  ke (call N_runglaw1_known [] h) <| fun v1 h0 =>
  kq (aUn .not v1) <| fun v2 =>
  kIf v2 (
  kq (some (.bool false)) <| fun v3 =>
  some (v3, h0)) (
  kq (some a0) <| fun v4 =>
  ke (call N_runghelp_Place [v4, (.int .i64 11)] h0) <| fun v5 h1 =>
  kq (rBin .add .no true (.int .i64 1) v5) <| fun v6 =>
  km (pBox T_int (.int .i64 0)) h1 <| fun v7 h2 =>
  ke ((rStore 1 v7 v6 h2).map fun h' => (.tuple [], h')) <| fun v8 h3 =>
  kq (some (.func (.func N_runglaw1_NumOrders_1) [] [v7])) <| fun v9 =>
  kq (some v9) <| fun v10 =>
  kq (some v10) <| fun v11 =>
  kq (some a1) <| fun v12 =>
  kq (some a2) <| fun v13 =>
  ke (rCallV call v11 [(.int .i64 10), v12, v13] h3) <| fun v14 h4 =>
  kq (some v10) <| fun v15 =>
  kq (some a1) <| fun v16 =>
  kq (some a2) <| fun v17 =>
  ke (rCallV call v15 [(.int .i64 14), v16, v17] h4) <| fun v18 h5 =>
  kq (some v10) <| fun v19 =>
  kq (some a1) <| fun v20 =>
  kq (some a2) <| fun v21 =>
  ke (rCallV call v19 [(.int .i64 11), v20, v21] h5) <| fun v22 h6 =>
  kq (some v14) <| fun v23 =>
  kq (some v18) <| fun v24 =>
  kq (some v22) <| fun v25 =>
  kq (some (.int .i64 0)) <| fun v26 =>
  kq (some v23) <| fun v27 =>
  kq (some v24) <| fun v28 =>
  kq (some v25) <| fun v29 =>
  km (mBuildSl T_bool 1 [(.bool false)] 3 [(0, v27), (1, v28), (2, v29)]) h6 <| fun v30 h7 =>
  kq (rLen v30) <| fun v31 =>
  kq (some (.int .i64 0)) <| fun v32 =>
  kLoop (L_runglaw1_NumOrders_0 call callD v31 v30 v10 a1 a2 v23 v24 v25 v7 a3) rounds [v26, v32] h7)
theorem F_runglaw1_NumOrders_eq (call callD : ACall) (a0 a1 a2 a3 : AVal) (h : AH) : kFunc Try.prog [] call callD N_runglaw1_NumOrders [a0, a1, a2, a3] h = F_runglaw1_NumOrders call callD a0 a1 a2 a3 h := by kernel_rfl
theorem C_runglaw1_NumOrders {ov : AOver} (H : Plain ov) (n : Nat) (a0 a1 a2 a3 : AVal) (h : AH) : kc ov (n + 1) N_runglaw1_NumOrders [a0, a1, a2, a3] h = F_runglaw1_NumOrders (kc ov n) (kd ov n) a0 a1 a2 a3 h := by
  have hov : ov N_runglaw1_NumOrders = none := H _ (by decide)
  unfold kc kd; rw [← F_runglaw1_NumOrders_eq]; simp only [kcall, hov]

/-- rung/runglaw1.NumRing -/
def F_runglaw1_NumRing (call callD : ACall) (a0 a1 a2 a3 : AVal) (h : AH) : Ans :=
  kq (some (.bool false)) <| fun v0 =>
  ke (call N_runglaw1_known [] h) <| fun v1 h0 =>
  kq (aUn .not v1) <| fun v2 =>
  kIf v2 (
  kq (some (.bool false)) <| fun v3 =>
  some (v3, h0)) (
  kq (some a0) <| fun v4 =>
  ke (call N_runghelp_Place [v4, (.int .i64 6)] h0) <| fun v5 h1 =>
  kq (rBin .add .no true (.int .i64 2) v5) <| fun v6 =>
  km (pBox T_int (.int .i64 0)) h1 <| fun v7 h2 =>
  ke ((rStore 1 v7 v6 h2).map fun h' => (.tuple [], h')) <| fun v8 h3 =>
  kq (some (.func (.func N_runglaw1_NumRing_1) [] [v7])) <| fun v9 =>
  km (pBox T_func_int__int64__int64__int64 .nilFunc) h3 <| fun v10 h4 =>
  ke ((rStore 1 v10 v9 h4).map fun h' => (.tuple [], h')) <| fun v11 h5 =>
  kq (some (.func (.func N_runglaw1_NumRing_2) [] [v10])) <| fun v12 =>
  kq (some v12) <| fun v13 =>
  kq (some (.func (.func N_runglaw1_NumRing_3) [] [v10])) <| fun v14 =>
  kq (some v14) <| fun v15 =>
  kq (some v13) <| fun v16 =>
  kq (some a1) <| fun v17 =>
  kq (some a2) <| fun v18 =>
  kq (some v13) <| fun v19 =>
  kq (some a2) <| fun v20 =>
  kq (some a1) <| fun v21 =>
  ke (rCallV call v16 [v17, v18] h5) <| fun v22 h6 =>
  ke (rCallV call v19 [v20, v21] h6) <| fun v23 h7 =>
  kq (rBin .eql .no false v22 v23) <| fun v24 =>
  kq (some v24) <| fun v25 =>
  kgq v25 true (fun k => kq (some v15) k) <| fun v26 =>
  kgq v25 true (fun k => kq (some a1) k) <| fun v27 =>
  kgq v25 true (fun k => kq (some a2) k) <| fun v28 =>
  kgq v25 true (fun k => kq (some v15) k) <| fun v29 =>
  kgq v25 true (fun k => kq (some a2) k) <| fun v30 =>
  kgq v25 true (fun k => kq (some a1) k) <| fun v31 =>
  kgh v25 true h7 (fun k => ke (rCallV call v26 [v27, v28] h7) k) <| fun v32 h8 =>
  kgh v25 true h8 (fun k => ke (rCallV call v29 [v30, v31] h8) k) <| fun v33 h9 =>
  kgq v25 true (fun k => kq (rBin .eql .no false v32 v33) k) <| fun v34 =>
  kq (rPick v25 v34 (.bool false)) <| fun v35 =>
  kq (some v35) <| fun v36 =>
  kgq v36 true (fun k => kq (some v13) k) <| fun v37 =>
  kgq v36 true (fun k => kq (some v13) k) <| fun v38 =>
  kgq v36 true (fun k => kq (some a1) k) <| fun v39 =>
  kgq v36 true (fun k => kq (some a2) k) <| fun v40 =>
  kgq v36 true (fun k => kq (some a3) k) <| fun v41 =>
  kgq v36 true (fun k => kq (some v13) k) <| fun v42 =>
  kgq v36 true (fun k => kq (some a1) k) <| fun v43 =>
  kgq v36 true (fun k => kq (some v13) k) <| fun v44 =>
  kgq v36 true (fun k => kq (some a2) k) <| fun v45 =>
  kgq v36 true (fun k => kq (some a3) k) <| fun v46 =>
  kgh v36 true h9 (fun k => ke (rCallV call v38 [v39, v40] h9) k) <| fun v47 h10 =>
  kgh v36 true h10 (fun k => ke (rCallV call v37 [v47, v41] h10) k) <| fun v48 h11 =>
  kgh v36 true h11 (fun k => ke (rCallV call v44 [v45, v46] h11) k) <| fun v49 h12 =>
  kgh v36 true h12 (fun k => ke (rCallV call v42 [v43, v49] h12) k) <| fun v50 h13 =>
  kgq v36 true (fun k => kq (rBin .eql .no false v48 v50) k) <| fun v51 =>
  kq (rPick v36 v51 (.bool false)) <| fun v52 =>
  kq (some v52) <| fun v53 =>
  kgq v53 true (fun k => kq (some v15) k) <| fun v54 =>
  kgq v53 true (fun k => kq (some v15) k) <| fun v55 =>
  kgq v53 true (fun k => kq (some a1) k) <| fun v56 =>
  kgq v53 true (fun k => kq (some a2) k) <| fun v57 =>
  kgq v53 true (fun k => kq (some a3) k) <| fun v58 =>
  kgq v53 true (fun k => kq (some v15) k) <| fun v59 =>
  kgq v53 true (fun k => kq (some a1) k) <| fun v60 =>
  kgq v53 true (fun k => kq (some v15) k) <| fun v61 =>
  kgq v53 true (fun k => kq (some a2) k) <| fun v62 =>
  kgq v53 true (fun k => kq (some a3) k) <| fun v63 =>
  kgh v53 true h13 (fun k => ke (rCallV call v55 [v56, v57] h13) k) <| fun v64 h14 =>
  kgh v53 true h14 (fun k => ke (rCallV call v54 [v64, v58] h14) k) <| fun v65 h15 =>
  kgh v53 true h15 (fun k => ke (rCallV call v61 [v62, v63] h15) k) <| fun v66 h16 =>
  kgh v53 true h16 (fun k => ke (rCallV call v59 [v60, v66] h16) k) <| fun v67 h17 =>
  kgq v53 true (fun k => kq (rBin .eql .no false v65 v67) k) <| fun v68 =>
  kq (rPick v53 v68 (.bool false)) <| fun v69 =>
  kq (some v69) <| fun v70 =>
  kgq v70 true (fun k => kq (some v15) k) <| fun v71 =>
  kgq v70 true (fun k => kq (some a1) k) <| fun v72 =>
  kgq v70 true (fun k => kq (some v13) k) <| fun v73 =>
  kgq v70 true (fun k => kq (some a2) k) <| fun v74 =>
  kgq v70 true (fun k => kq (some a3) k) <| fun v75 =>
  kgq v70 true (fun k => kq (some v13) k) <| fun v76 =>
  kgq v70 true (fun k => kq (some v15) k) <| fun v77 =>
  kgq v70 true (fun k => kq (some a1) k) <| fun v78 =>
  kgq v70 true (fun k => kq (some a2) k) <| fun v79 =>
  kgq v70 true (fun k => kq (some v15) k) <| fun v80 =>
  kgq v70 true (fun k => kq (some a1) k) <| fun v81 =>
  kgq v70 true (fun k => kq (some a3) k) <| fun v82 =>
  kgh v70 true h17 (fun k => ke (rCallV call v73 [v74, v75] h17) k) <| fun v83 h18 =>
  kgh v70 true h18 (fun k => ke (rCallV call v71 [v72, v83] h18) k) <| fun v84 h19 =>
  kgh v70 true h19 (fun k => ke (rCallV call v77 [v78, v79] h19) k) <| fun v85 h20 =>
  kgh v70 true h20 (fun k => ke (rCallV call v80 [v81, v82] h20) k) <| fun v86 h21 =>
  kgh v70 true h21 (fun k => ke (rCallV call v76 [v85, v86] h21) k) <| fun v87 h22 =>
  kgq v70 true (fun k => kq (rBin .eql .no false v84 v87) k) <| fun v88 =>
  kq (rPick v70 v88 (.bool false)) <| fun v89 =>
  kq (some v89) <| fun v90 =>
  kgq v90 true (fun k => kq (rLoad v10 h22) k) <| fun v91 =>
  kgq v90 true (fun k => kq (some v13) k) <| fun v92 =>
  kgq v90 true (fun k => kq (some a1) k) <| fun v93 =>
  kgq v90 true (fun k => kq (some a2) k) <| fun v94 =>
  kgq v90 true (fun k => kq (some a2) k) <| fun v95 =>
  kgq v90 true (fun k => kq (rLoad v7 h22) k) <| fun v96 =>
  kgq v90 true (fun k => kq (some a1) k) <| fun v97 =>
  kgh v90 true h22 (fun k => ke (rCallV call v92 [v93, v94] h22) k) <| fun v98 h23 =>
  kgh v90 true h23 (fun k => kChk (!gOn v90 true || kSame (rLoad v7 h23) v96) <|
  kChk (!gOn v90 true || kSame (rLoad v10 h23) v91) <|
  ke (rCallV call v91 [(.int .i64 9), v98, v95] h23) k) <| fun v99 h24 =>
  kgh v90 true h24 (fun k => kChk (!gOn v90 true || kSame (rLoad v7 h24) v96) <|
  kChk (!(gOn v90 true && !gOn v90 true) || kSame (rLoad v10 h24) v91) <|
  ke (call N_num_Wrap [v96, v97] h24) k) <| fun v100 h25 =>
  kgq v90 true (fun k => kq (rBin .eql .no false v99 v100) k) <| fun v101 =>
  kq (rPick v90 v101 (.bool false)) <| fun v102 =>
  kq (some v102) <| fun v103 =>
  kgq v103 true (fun k => kq (some v13) k) <| fun v104 =>
  kgq v103 true (fun k => kq (some a1) k) <| fun v105 =>
  kgq v103 true (fun k => kq (rLoad v7 h25) k) <| fun v106 =>
  kgq v103 true (fun k => kq (some a1) k) <| fun v107 =>
  kgh v103 true h25 (fun k => kChk (!(gOn v90 true && !gOn v90 true) || kSame (rLoad v7 h25) v96) <|
  kChk (!((gOn v90 true && !gOn v90 true) && !gOn v90 true) || kSame (rLoad v10 h25) v91) <|
  ke (call N_num_Neg [v106, v107] h25) k) <| fun v108 h26 =>
  kgh v103 true h26 (fun k => kChk (!(gOn v103 true && !gOn v103 true) || kSame (rLoad v7 h26) v106) <|
  kChk (!((gOn v90 true && !gOn v90 true) && !gOn v103 true) || kSame (rLoad v7 h26) v96) <|
  kChk (!(((gOn v90 true && !gOn v90 true) && !gOn v90 true) && !gOn v103 true) || kSame (rLoad v10 h26) v91) <|
  ke (rCallV call v104 [v105, v108] h26) k) <| fun v109 h27 =>
  kgq v103 true (fun k => kq (rBin .eql .no true v109 (.int .i64 0)) k) <| fun v110 =>
  kq (rPick v103 v110 (.bool false)) <| fun v111 =>
  kq (some v111) <| fun v112 =>
  kChk (!((gOn v103 true && !gOn v103 true) && !gOn v103 true) || kSame (rLoad v7 h27) v106) <|
  kChk (!(((gOn v90 true && !gOn v90 true) && !gOn v103 true) && !gOn v103 true) || kSame (rLoad v7 h27) v96) <|
  kChk (!((((gOn v90 true && !gOn v90 true) && !gOn v90 true) && !gOn v103 true) && !gOn v103 true) || kSame (rLoad v10 h27) v91) <|
  some (v112, h27))
theorem F_runglaw1_NumRing_eq (call callD : ACall) (a0 a1 a2 a3 : AVal) (h : AH) : kFunc Try.prog [] call callD N_runglaw1_NumRing [a0, a1, a2, a3] h = F_runglaw1_NumRing call callD a0 a1 a2 a3 h := by kernel_rfl
theorem C_runglaw1_NumRing {ov : AOver} (H : Plain ov) (n : Nat) (a0 a1 a2 a3 : AVal) (h : AH) : kc ov (n + 1) N_runglaw1_NumRing [a0, a1, a2, a3] h = F_runglaw1_NumRing (kc ov n) (kd ov n) a0 a1 a2 a3 h := by
  have hov : ov N_runglaw1_NumRing = none := H _ (by decide)
  unfold kc kd; rw [← F_runglaw1_NumRing_eq]; simp only [kcall, hov]

/-- rung/runglaw1.NumLogic -/
def F_runglaw1_NumLogic (call callD : ACall) (a0 a1 a2 a3 : AVal) (h : AH) : Ans :=
  kq (some (.bool false)) <| fun v0 =>
  ke (call N_runglaw1_known [] h) <| fun v1 h0 =>
  kq (aUn .not v1) <| fun v2 =>
  kIf v2 (
  kq (some (.bool false)) <| fun v3 =>
  some (v3, h0)) (
  km (mBuildSl T_int 1 [(.int .i64 0)] 4 [(0, (.int .i64 1)), (1, (.int .i64 8)), (2, (.int .i64 9)), (3, (.int .i64 10))]) h0 <| fun v4 h1 =>
  kq (some a0) <| fun v5 =>
  ke (call N_runghelp_Place [v5, (.int .i64 4)] h1) <| fun v6 h2 =>
  kq (rAt 1 v4 v6) <| fun v7 =>
  kq (rLoad v7 h2) <| fun v8 =>
  km (pBox T_int (.int .i64 0)) h2 <| fun v9 h3 =>
  ke ((rStore 1 v9 v8 h3).map fun h' => (.tuple [], h')) <| fun v10 h4 =>
  kq (some (.func (.func N_runglaw1_NumLogic_1) [] [v9])) <| fun v11 =>
  km (pBox T_func_int__int64__int64__int64 .nilFunc) h4 <| fun v12 h5 =>
  ke ((rStore 1 v12 v11 h5).map fun h' => (.tuple [], h')) <| fun v13 h6 =>
  kq (some (.func (.func N_runglaw1_NumLogic_2) [] [v12])) <| fun v14 =>
  kq (some v14) <| fun v15 =>
  kq (some (.func (.func N_runglaw1_NumLogic_3) [] [v12])) <| fun v16 =>
  kq (some v16) <| fun v17 =>
  kq (some (.func (.func N_runglaw1_NumLogic_4) [] [v9])) <| fun v18 =>
  kq (some v18) <| fun v19 =>
  kq (some v19) <| fun v20 =>
  kq (some v19) <| fun v21 =>
  kq (some a1) <| fun v22 =>
  kq (rLoad v9 h6) <| fun v23 =>
  kq (some a1) <| fun v24 =>
  ke (rCallV call v21 [v22] h6) <| fun v25 h7 =>
  kChk (!true || kSame (rLoad v9 h7) v23) <|
  ke (rCallV call v20 [v25] h7) <| fun v26 h8 =>
  kChk (!true || kSame (rLoad v9 h8) v23) <|
  ke (call N_num_Wrap [v23, v24] h8) <| fun v27 h9 =>
  kq (rBin .eql .no false v26 v27) <| fun v28 =>
  kq (some v28) <| fun v29 =>
  kgq v29 true (fun k => kq (some v19) k) <| fun v30 =>
  kgq v29 true (fun k => kq (some v15) k) <| fun v31 =>
  kgq v29 true (fun k => kq (some a1) k) <| fun v32 =>
  kgq v29 true (fun k => kq (some a2) k) <| fun v33 =>
  kgq v29 true (fun k => kq (some v17) k) <| fun v34 =>
  kgq v29 true (fun k => kq (some v19) k) <| fun v35 =>
  kgq v29 true (fun k => kq (some a1) k) <| fun v36 =>
  kgq v29 true (fun k => kq (some v19) k) <| fun v37 =>
  kgq v29 true (fun k => kq (some a2) k) <| fun v38 =>
  kgh v29 true h9 (fun k => kChk (!false || kSame (rLoad v9 h9) v23) <|
  ke (rCallV call v31 [v32, v33] h9) k) <| fun v39 h10 =>
  kgh v29 true h10 (fun k => kChk (!false || kSame (rLoad v9 h10) v23) <|
  ke (rCallV call v30 [v39] h10) k) <| fun v40 h11 =>
  kgh v29 true h11 (fun k => kChk (!false || kSame (rLoad v9 h11) v23) <|
  ke (rCallV call v35 [v36] h11) k) <| fun v41 h12 =>
  kgh v29 true h12 (fun k => kChk (!false || kSame (rLoad v9 h12) v23) <|
  ke (rCallV call v37 [v38] h12) k) <| fun v42 h13 =>
  kgh v29 true h13 (fun k => kChk (!false || kSame (rLoad v9 h13) v23) <|
  ke (rCallV call v34 [v41, v42] h13) k) <| fun v43 h14 =>
  kgq v29 true (fun k => kq (rBin .eql .no false v40 v43) k) <| fun v44 =>
  kq (rPick v29 v44 (.bool false)) <| fun v45 =>
  kq (some v45) <| fun v46 =>
  kgq v46 true (fun k => kq (some v15) k) <| fun v47 =>
  kgq v46 true (fun k => kq (some a1) k) <| fun v48 =>
  kgq v46 true (fun k => kq (some v17) k) <| fun v49 =>
  kgq v46 true (fun k => kq (some a2) k) <| fun v50 =>
  kgq v46 true (fun k => kq (some a3) k) <| fun v51 =>
  kgq v46 true (fun k => kq (some v17) k) <| fun v52 =>
  kgq v46 true (fun k => kq (some v15) k) <| fun v53 =>
  kgq v46 true (fun k => kq (some a1) k) <| fun v54 =>
  kgq v46 true (fun k => kq (some a2) k) <| fun v55 =>
  kgq v46 true (fun k => kq (some v15) k) <| fun v56 =>
  kgq v46 true (fun k => kq (some a1) k) <| fun v57 =>
  kgq v46 true (fun k => kq (some a3) k) <| fun v58 =>
  kgh v46 true h14 (fun k => kChk (!false || kSame (rLoad v9 h14) v23) <|
  ke (rCallV call v49 [v50, v51] h14) k) <| fun v59 h15 =>
  kgh v46 true h15 (fun k => kChk (!false || kSame (rLoad v9 h15) v23) <|
  ke (rCallV call v47 [v48, v59] h15) k) <| fun v60 h16 =>
  kgh v46 true h16 (fun k => kChk (!false || kSame (rLoad v9 h16) v23) <|
  ke (rCallV call v53 [v54, v55] h16) k) <| fun v61 h17 =>
  kgh v46 true h17 (fun k => kChk (!false || kSame (rLoad v9 h17) v23) <|
  ke (rCallV call v56 [v57, v58] h17) k) <| fun v62 h18 =>
  kgh v46 true h18 (fun k => kChk (!false || kSame (rLoad v9 h18) v23) <|
  ke (rCallV call v52 [v61, v62] h18) k) <| fun v63 h19 =>
  kgq v46 true (fun k => kq (rBin .eql .no false v60 v63) k) <| fun v64 =>
  kq (rPick v46 v64 (.bool false)) <| fun v65 =>
  kq (some v65) <| fun v66 =>
  kgq v66 true (fun k => kq (rLoad v12 h19) k) <| fun v67 =>
  kgq v66 true (fun k => kq (some a1) k) <| fun v68 =>
  kgq v66 true (fun k => kq (some a2) k) <| fun v69 =>
  kgq v66 true (fun k => kq (some v15) k) <| fun v70 =>
  kgq v66 true (fun k => kq (some v17) k) <| fun v71 =>
  kgq v66 true (fun k => kq (some a1) k) <| fun v72 =>
  kgq v66 true (fun k => kq (some a2) k) <| fun v73 =>
  kgq v66 true (fun k => kq (some v19) k) <| fun v74 =>
  kgq v66 true (fun k => kq (some v15) k) <| fun v75 =>
  kgq v66 true (fun k => kq (some a1) k) <| fun v76 =>
  kgq v66 true (fun k => kq (some a2) k) <| fun v77 =>
  kgh v66 true h19 (fun k => kChk (!false || kSame (rLoad v9 h19) v23) <|
  ke (rCallV call v67 [(.int .i64 17), v68, v69] h19) k) <| fun v78 h20 =>
  kgh v66 true h20 (fun k => kChk (!(gOn v66 true && !gOn v66 true) || kSame (rLoad v12 h20) v67) <|
  kChk (!false || kSame (rLoad v9 h20) v23) <|
  ke (rCallV call v71 [v72, v73] h20) k) <| fun v79 h21 =>
  kgh v66 true h21 (fun k => kChk (!((gOn v66 true && !gOn v66 true) && !gOn v66 true) || kSame (rLoad v12 h21) v67) <|
  kChk (!false || kSame (rLoad v9 h21) v23) <|
  ke (rCallV call v75 [v76, v77] h21) k) <| fun v80 h22 =>
  kgh v66 true h22 (fun k => kChk (!(((gOn v66 true && !gOn v66 true) && !gOn v66 true) && !gOn v66 true) || kSame (rLoad v12 h22) v67) <|
  kChk (!false || kSame (rLoad v9 h22) v23) <|
  ke (rCallV call v74 [v80] h22) k) <| fun v81 h23 =>
  kgh v66 true h23 (fun k => kChk (!((((gOn v66 true && !gOn v66 true) && !gOn v66 true) && !gOn v66 true) && !gOn v66 true) || kSame (rLoad v12 h23) v67) <|
  kChk (!false || kSame (rLoad v9 h23) v23) <|
  ke (rCallV call v70 [v79, v81] h23) k) <| fun v82 h24 =>
  kgq v66 true (fun k => kq (rBin .eql .no false v78 v82) k) <| fun v83 =>
  kq (rPick v66 v83 (.bool false)) <| fun v84 =>
  kq (some v84) <| fun v85 =>
  kgq v85 true (fun k => kq (rLoad v12 h24) k) <| fun v86 =>
  kgq v85 true (fun k => kq (rLoad v12 h24) k) <| fun v87 =>
  kgq v85 true (fun k => kq (some a1) k) <| fun v88 =>
  kgq v85 true (fun k => kq (some a2) k) <| fun v89 =>
  kgq v85 true (fun k => kq (some a2) k) <| fun v90 =>
  kgq v85 true (fun k => kq (rLoad v9 h24) k) <| fun v91 =>
  kgq v85 true (fun k => kq (some a1) k) <| fun v92 =>
  kgh v85 true h24 (fun k => kChk (!(((((gOn v66 true && !gOn v66 true) && !gOn v66 true) && !gOn v66 true) && !gOn v66 true) && !gOn v66 true) || kSame (rLoad v12 h24) v67) <|
  kChk (!false || kSame (rLoad v9 h24) v23) <|
  ke (rCallV call v87 [(.int .i64 17), v88, v89] h24) k) <| fun v93 h25 =>
  kgh v85 true h25 (fun k => kChk (!gOn v85 true || kSame (rLoad v9 h25) v91) <|
  kChk (!(gOn v85 true && !gOn v85 true) || kSame (rLoad v12 h25) v87) <|
  kChk (!gOn v85 true || kSame (rLoad v12 h25) v86) <|
  kChk (!((((((gOn v66 true && !gOn v66 true) && !gOn v66 true) && !gOn v66 true) && !gOn v66 true) && !gOn v66 true) && !gOn v85 true) || kSame (rLoad v12 h25) v67) <|
  kChk (!false || kSame (rLoad v9 h25) v23) <|
  ke (rCallV call v86 [(.int .i64 17), v93, v90] h25) k) <| fun v94 h26 =>
  kgh v85 true h26 (fun k => kChk (!gOn v85 true || kSame (rLoad v9 h26) v91) <|
  kChk (!((gOn v85 true && !gOn v85 true) && !gOn v85 true) || kSame (rLoad v12 h26) v87) <|
  kChk (!(gOn v85 true && !gOn v85 true) || kSame (rLoad v12 h26) v86) <|
  kChk (!(((((((gOn v66 true && !gOn v66 true) && !gOn v66 true) && !gOn v66 true) && !gOn v66 true) && !gOn v66 true) && !gOn v85 true) && !gOn v85 true) || kSame (rLoad v12 h26) v67) <|
  kChk (!false || kSame (rLoad v9 h26) v23) <|
  ke (call N_num_Wrap [v91, v92] h26) k) <| fun v95 h27 =>
  kgq v85 true (fun k => kq (rBin .eql .no false v94 v95) k) <| fun v96 =>
  kq (rPick v85 v96 (.bool false)) <| fun v97 =>
  kq (some v97) <| fun v98 =>
  kgq v98 true (fun k => kq (some v15) k) <| fun v99 =>
  kgq v98 true (fun k => kq (some a1) k) <| fun v100 =>
  kgq v98 true (fun k => kq (some v19) k) <| fun v101 =>
  kgq v98 true (fun k => kq (some a1) k) <| fun v102 =>
  kgh v98 true h27 (fun k => kChk (!(gOn v85 true && !gOn v85 true) || kSame (rLoad v9 h27) v91) <|
  kChk (!(((gOn v85 true && !gOn v85 true) && !gOn v85 true) && !gOn v85 true) || kSame (rLoad v12 h27) v87) <|
  kChk (!((gOn v85 true && !gOn v85 true) && !gOn v85 true) || kSame (rLoad v12 h27) v86) <|
  kChk (!((((((((gOn v66 true && !gOn v66 true) && !gOn v66 true) && !gOn v66 true) && !gOn v66 true) && !gOn v66 true) && !gOn v85 true) && !gOn v85 true) && !gOn v85 true) || kSame (rLoad v12 h27) v67) <|
  kChk (!false || kSame (rLoad v9 h27) v23) <|
  ke (rCallV call v101 [v102] h27) k) <| fun v103 h28 =>
  kgh v98 true h28 (fun k => kChk (!((gOn v85 true && !gOn v85 true) && !gOn v98 true) || kSame (rLoad v9 h28) v91) <|
  kChk (!((((gOn v85 true && !gOn v85 true) && !gOn v85 true) && !gOn v85 true) && !gOn v98 true) || kSame (rLoad v12 h28) v87) <|
  kChk (!(((gOn v85 true && !gOn v85 true) && !gOn v85 true) && !gOn v98 true) || kSame (rLoad v12 h28) v86) <|
  kChk (!(((((((((gOn v66 true && !gOn v66 true) && !gOn v66 true) && !gOn v66 true) && !gOn v66 true) && !gOn v66 true) && !gOn v85 true) && !gOn v85 true) && !gOn v85 true) && !gOn v98 true) || kSame (rLoad v12 h28) v67) <|
  kChk (!false || kSame (rLoad v9 h28) v23) <|
  ke (rCallV call v99 [v100, v103] h28) k) <| fun v104 h29 =>
  kgq v98 true (fun k => kq (rBin .eql .no true v104 (.int .i64 0)) k) <| fun v105 =>
  kq (rPick v98 v105 (.bool false)) <| fun v106 =>
  kq (some v106) <| fun v107 =>
  kChk (!(((gOn v85 true && !gOn v85 true) && !gOn v98 true) && !gOn v98 true) || kSame (rLoad v9 h29) v91) <|
  kChk (!(((((gOn v85 true && !gOn v85 true) && !gOn v85 true) && !gOn v85 true) && !gOn v98 true) && !gOn v98 true) || kSame (rLoad v12 h29) v87) <|
  kChk (!((((gOn v85 true && !gOn v85 true) && !gOn v85 true) && !gOn v98 true) && !gOn v98 true) || kSame (rLoad v12 h29) v86) <|
  kChk (!((((((((((gOn v66 true && !gOn v66 true) && !gOn v66 true) && !gOn v66 true) && !gOn v66 true) && !gOn v66 true) && !gOn v85 true) && !gOn v85 true) && !gOn v85 true) && !gOn v98 true) && !gOn v98 true) || kSame (rLoad v12 h29) v67) <|
  kChk (!false || kSame (rLoad v9 h29) v23) <|
  some (v107, h29))
theorem F_runglaw1_NumLogic_eq (call callD : ACall) (a0 a1 a2 a3 : AVal) (h : AH) : kFunc Try.prog [] call callD N_runglaw1_NumLogic [a0, a1, a2, a3] h = F_runglaw1_NumLogic call callD a0 a1 a2 a3 h := by kernel_rfl
theorem C_runglaw1_NumLogic {ov : AOver} (H : Plain ov) (n : Nat) (a0 a1 a2 a3 : AVal) (h : AH) : kc ov (n + 1) N_runglaw1_NumLogic [a0, a1, a2, a3] h = F_runglaw1_NumLogic (kc ov n) (kd ov n) a0 a1 a2 a3 h := by
  have hov : ov N_runglaw1_NumLogic = none := H _ (by decide)
  unfold kc kd; rw [← F_runglaw1_NumLogic_eq]; simp only [kcall, hov]

/-- rung/runglaw1.NumWraps -/
def F_runglaw1_NumWraps (call callD : ACall) (a0 a1 : AVal) (h : AH) : Ans :=
  kq (some (.bool false)) <| fun v0 =>
  ke (call N_runglaw1_known [] h) <| fun v1 h0 =>
  kq (aUn .not v1) <| fun v2 =>
  kIf v2 (
  kq (some (.bool false)) <| fun v3 =>
  some (v3, h0)) (
  kq (some a0) <| fun v4 =>
  ke (call N_runghelp_Place [v4, (.int .i64 11)] h0) <| fun v5 h1 =>
  kq (rBin .add .no true (.int .i64 1) v5) <| fun v6 =>
  kq (some v6) <| fun v7 =>
  kq (some v7) <| fun v8 =>
  kq (some a1) <| fun v9 =>
  ke (call N_num_Wrap [v8, v9] h1) <| fun v10 h2 =>
  kq (some v10) <| fun v11 =>
  kq (some v7) <| fun v12 =>
  ke (call N_num_Range [v12] h2) <| fun v13 h3 =>
  kq (some v13) <| fun v14 =>
  kq (aExtract v14 0) <| fun v15 =>
  kq (aExtract v14 1) <| fun v16 =>
  kq (some v15) <| fun v17 =>
  kq (some v16) <| fun v18 =>
  kq (some a0) <| fun v19 =>
  kq (some a1) <| fun v20 =>
  ke (call N_num_Wrap [v19, v20] h3) <| fun v21 h4 =>
  kq (some a0) <| fun v22 =>
  kq (some a1) <| fun v23 =>
  ke (call N_rungref1_Wrap [v22, v23] h4) <| fun v24 h5 =>
  kq (rBin .neq .no false v21 v24) <| fun v25 =>
  kq (some v25) <| fun v26 =>
  kth (fun v45 h8 =>
  kIf v45 (
  kq (some (.bool false)) <| fun v46 =>
  some (v46, h8)) (
  kq (some v7) <| fun v47 =>
  kq (rBin .eql .no true v47 (.int .i64 1)) <| fun v48 =>
  kq (some v48) <| fun v49 =>
  kth (fun v63 h11 =>
  kq (some v63) <| fun v64 =>
  some (v64, h11)) <| fun j50 =>
  kgq v49 false (fun k => kq (some v11) k) <| fun v51 =>
  kgq v49 false (fun k => kq (some a1) k) <| fun v52 =>
  kgq v49 false (fun k => kq (rBin .sub .no false v51 v52) k) <| fun v53 =>
  kgq v49 false (fun k => kq (rConvI .u64 v53) k) <| fun v54 =>
  kgq v49 false (fun k => kq (some v7) k) <| fun v55 =>
  kgh v49 false h8 (fun k => ke (call N_num_Width [v55] h8) <| fun v56 h9 =>
  k v56 h9) <| fun v57 h10 =>
  kgq v49 false (fun k => kq (rConvI .u64 v57) k) <| fun v58 =>
  kgq v49 false (fun k => kq (rBin .sub .no true (.int .u64 64) v58) k) <| fun v59 =>
  kgq v49 false (fun k => kq (rBin .shl .no false v54 v59) k) <| fun v60 =>
  kgq v49 false (fun k => kq (rBin .eql .no true v60 (.int .u64 0)) k) <| fun v61 =>
  kq (rPick v49 (.bool true) v61) <| fun v62 =>
  j50 v62 h10)) <| fun j27 =>
  kgq v26 false (fun k => kq (some v11) k) <| fun v28 =>
  kgq v26 false (fun k => kq (some v17) k) <| fun v29 =>
  kgq v26 false (fun k => kq (rBin .lss .no false v28 v29) k) <| fun v30 =>
  kq (rPick v26 (.bool true) v30) <| fun v31 =>
  kq (some v31) <| fun v32 =>
  kgq v32 false (fun k => kq (some v11) k) <| fun v33 =>
  kgq v32 false (fun k => kq (some v18) k) <| fun v34 =>
  kgq v32 false (fun k => kq (rBin .gtr .no false v33 v34) k) <| fun v35 =>
  kq (rPick v32 (.bool true) v35) <| fun v36 =>
  kq (some v36) <| fun v37 =>
  kgq v37 false (fun k => kq (some v7) k) <| fun v38 =>
  kgq v37 false (fun k => kq (some v11) k) <| fun v39 =>
  kgh v37 false h5 (fun k => ke (call N_num_Wrap [v38, v39] h5) <| fun v40 h6 =>
  k v40 h6) <| fun v41 h7 =>
  kgq v37 false (fun k => kq (some v11) k) <| fun v42 =>
  kgq v37 false (fun k => kq (rBin .neq .no false v41 v42) k) <| fun v43 =>
  kq (rPick v37 (.bool true) v43) <| fun v44 =>
  j27 v44 h7)
theorem F_runglaw1_NumWraps_eq (call callD : ACall) (a0 a1 : AVal) (h : AH) : kFunc Try.prog [] call callD N_runglaw1_NumWraps [a0, a1] h = F_runglaw1_NumWraps call callD a0 a1 h := by kernel_rfl
theorem C_runglaw1_NumWraps {ov : AOver} (H : Plain ov) (n : Nat) (a0 a1 : AVal) (h : AH) : kc ov (n + 1) N_runglaw1_NumWraps [a0, a1] h = F_runglaw1_NumWraps (kc ov n) (kd ov n) a0 a1 h := by
  have hov : ov N_runglaw1_NumWraps = none := H _ (by decide)
  unfold kc kd; rw [← F_runglaw1_NumWraps_eq]; simp only [kcall, hov]

/-- rung/runglaw1.NumKinds -/
def F_runglaw1_NumKinds (call callD : ACall) (a0 a1 : AVal) (h : AH) : Ans :=
  kq (some (.bool false)) <| fun v0 =>
  ke (call N_runglaw1_known [] h) <| fun v1 h0 =>
  kq (aUn .not v1) <| fun v2 =>
  kIf v2 (
  kq (some (.bool false)) <| fun v3 =>
  some (v3, h0)) (
  kq (some a1) <| fun v4 =>
  kq (rLenS v4) <| fun v5 =>
  kq (rBin .gtr .no true v5 (.int .i64 100)) <| fun v6 =>
  kIf v6 (
  kq (some (.bool true)) <| fun v7 =>
  some (v7, h0)) (
  kq (some a0) <| fun v8 =>
  ke (call N_num_Range [v8] h0) <| fun v9 h1 =>
  kq (some v9) <| fun v10 =>
  kq (aExtract v10 0) <| fun v11 =>
  kq (aExtract v10 1) <| fun v12 =>
  kq (some v11) <| fun v13 =>
  kq (some v12) <| fun v14 =>
  kq (some a0) <| fun v15 =>
  ke (call N_rungref1_Range [v15] h1) <| fun v16 h2 =>
  kq (some v16) <| fun v17 =>
  kq (aExtract v17 0) <| fun v18 =>
  kq (aExtract v17 1) <| fun v19 =>
  kq (some v18) <| fun v20 =>
  kq (some v19) <| fun v21 =>
  kq (some a0) <| fun v22 =>
  ke (call N_num_Scalar [v22] h2) <| fun v23 h3 =>
  kq (some a0) <| fun v24 =>
  ke (call N_rungref1_Scalar [v24] h3) <| fun v25 h4 =>
  kq (rBin .eql .bool false v23 v25) <| fun v26 =>
  kq (some v26) <| fun v27 =>
  kth (fun v87 h29 =>
  kq (some v87) <| fun v88 =>
  some (v88, h29)) <| fun j28 =>
  kgq v27 true (fun k => kq (some a0) k) <| fun v29 =>
  kgh v27 true h4 (fun k => ke (call N_num_Signed [v29] h4) <| fun v30 h5 =>
  k v30 h5) <| fun v31 h6 =>
  kgq v27 true (fun k => kq (some a0) k) <| fun v32 =>
  kgh v27 true h6 (fun k => ke (call N_rungref1_Signed [v32] h6) <| fun v33 h7 =>
  k v33 h7) <| fun v34 h8 =>
  kgq v27 true (fun k => kq (rBin .eql .bool false v31 v34) k) <| fun v35 =>
  kq (rPick v27 v35 (.bool false)) <| fun v36 =>
  kq (some v36) <| fun v37 =>
  kgq v37 true (fun k => kq (some a0) k) <| fun v38 =>
  kgh v37 true h8 (fun k => ke (call N_num_Width [v38] h8) <| fun v39 h9 =>
  k v39 h9) <| fun v40 h10 =>
  kgq v37 true (fun k => kq (some a0) k) <| fun v41 =>
  kgh v37 true h10 (fun k => ke (call N_rungref1_Width [v41] h10) <| fun v42 h11 =>
  k v42 h11) <| fun v43 h12 =>
  kgq v37 true (fun k => kq (rBin .eql .no false v40 v43) k) <| fun v44 =>
  kq (rPick v37 v44 (.bool false)) <| fun v45 =>
  kq (some v45) <| fun v46 =>
  kgq v46 true (fun k => kq (some v13) k) <| fun v47 =>
  kgq v46 true (fun k => kq (some v20) k) <| fun v48 =>
  kgq v46 true (fun k => kq (rBin .eql .no false v47 v48) k) <| fun v49 =>
  kq (rPick v46 v49 (.bool false)) <| fun v50 =>
  kq (some v50) <| fun v51 =>
  kgq v51 true (fun k => kq (some v14) k) <| fun v52 =>
  kgq v51 true (fun k => kq (some v21) k) <| fun v53 =>
  kgq v51 true (fun k => kq (rBin .eql .no false v52 v53) k) <| fun v54 =>
  kq (rPick v51 v54 (.bool false)) <| fun v55 =>
  kq (some v55) <| fun v56 =>
  kgq v56 true (fun k => kq (some a0) k) <| fun v57 =>
  kgh v56 true h12 (fun k => ke (call N_num_Name [v57] h12) <| fun v58 h13 =>
  k v58 h13) <| fun v59 h14 =>
  kgq v56 true (fun k => kq (some a0) k) <| fun v60 =>
  kgh v56 true h14 (fun k => ke (call N_rungref1_Name [v60] h14) <| fun v61 h15 =>
  k v61 h15) <| fun v62 h16 =>
  kgq v56 true (fun k => kq (rBin .eql .no false v59 v62) k) <| fun v63 =>
  kq (rPick v56 v63 (.bool false)) <| fun v64 =>
  kq (some v64) <| fun v65 =>
  kgq v65 true (fun k => kq (some a1) k) <| fun v66 =>
  kgh v65 true h16 (fun k => ke (call N_num_Kind [v66] h16) <| fun v67 h17 =>
  k v67 h17) <| fun v68 h18 =>
  kgq v65 true (fun k => kq (some a1) k) <| fun v69 =>
  kgh v65 true h18 (fun k => ke (call N_rungref1_Kind [v69] h18) <| fun v70 h19 =>
  k v70 h19) <| fun v71 h20 =>
  kgq v65 true (fun k => kq (rBin .eql .no false v68 v71) k) <| fun v72 =>
  kq (rPick v65 v72 (.bool false)) <| fun v73 =>
  kq (some v73) <| fun v74 =>
  kgq v74 true (fun k => kq (some a0) k) <| fun v75 =>
  kgh v74 true h20 (fun k => ke (call N_num_Name [v75] h20) <| fun v76 h21 =>
  k v76 h21) <| fun v77 h22 =>
  kgh v74 true h22 (fun k => ke (call N_num_Kind [v77] h22) <| fun v78 h23 =>
  k v78 h23) <| fun v79 h24 =>
  kgq v74 true (fun k => kq (some a0) k) <| fun v80 =>
  kgh v74 true h24 (fun k => ke (call N_rungref1_Name [v80] h24) <| fun v81 h25 =>
  k v81 h25) <| fun v82 h26 =>
  kgh v74 true h26 (fun k => ke (call N_rungref1_Kind [v82] h26) <| fun v83 h27 =>
  k v83 h27) <| fun v84 h28 =>
  kgq v74 true (fun k => kq (rBin .eql .no false v79 v84) k) <| fun v85 =>
  kq (rPick v74 v85 (.bool false)) <| fun v86 =>
  j28 v86 h28))
theorem F_runglaw1_NumKinds_eq (call callD : ACall) (a0 a1 : AVal) (h : AH) : kFunc Try.prog [] call callD N_runglaw1_NumKinds [a0, a1] h = F_runglaw1_NumKinds call callD a0 a1 h := by kernel_rfl
theorem C_runglaw1_NumKinds {ov : AOver} (H : Plain ov) (n : Nat) (a0 a1 : AVal) (h : AH) : kc ov (n + 1) N_runglaw1_NumKinds [a0, a1] h = F_runglaw1_NumKinds (kc ov n) (kd ov n) a0 a1 h := by
  have hov : ov N_runglaw1_NumKinds = none := H _ (by decide)
  unfold kc kd; rw [← F_runglaw1_NumKinds_eq]; simp only [kcall, hov]

/-- rung/runglaw1.NumMoves -/
def L_runglaw1_NumMoves_0 (call callD : ACall) (v38 : AVal) (a3 : AVal) : (List AVal → AH → Ans) → List AVal → AH → Ans := fun j53 l52 h12 =>
  kq (some (gd l52 0)) <| fun v54 =>
  kq (rBin .lss .no true v54 (.int .i64 2)) <| fun v55 =>
  kIf v55 (
  km (mBuildSl T_string 1 [(.str [])] 2 [(0, (.str [83, 72, 76])), (1, (.str [83, 72, 82]))]) h12 <| fun v56 h13 =>
  kq (some (gd l52 0)) <| fun v57 =>
  kq (rAt 1 v56 v57) <| fun v58 =>
  kq (rLoad v58 h13) <| fun v59 =>
  kq (some v59) <| fun v60 =>
  kq (some v60) <| fun v61 =>
  kq (some v38) <| fun v62 =>
  kq (some a3) <| fun v63 =>
  kq (some v38) <| fun v64 =>
  ke (call N_num_Width [v64] h13) <| fun v65 h14 =>
  ke (call N_num_Shift [v61, v62, v63, v65] h14) <| fun v66 h15 =>
  kq (rBin .neq .no true v66 (.int .i64 0)) <| fun v67 =>
  kq (some v67) <| fun v68 =>
  kth (fun v93 h24 =>
  kIf v93 (
  kq (some (.bool false)) <| fun v94 =>
  some (v94, h24)) (
  kq (some (gd l52 0)) <| fun v95 =>
  kq (rBin .add .no true v95 (.int .i64 1)) <| fun v96 =>
  kq (some v96) <| fun v97 =>
  j53 [v97] h24)) <| fun j69 =>
  kgq v68 false (fun k => kq (some v60) k) <| fun v70 =>
  kgq v68 false (fun k => kq (some v38) k) <| fun v71 =>
  kgq v68 false (fun k => kq (some a3) k) <| fun v72 =>
  kgh v68 false h15 (fun k => ke (call N_num_Shift [v70, v71, v72, (.int .i64 0)] h15) <| fun v73 h16 =>
  k v73 h16) <| fun v74 h17 =>
  kgq v68 false (fun k => kq (some v38) k) <| fun v75 =>
  kgq v68 false (fun k => kq (some a3) k) <| fun v76 =>
  kgh v68 false h17 (fun k => ke (call N_num_Wrap [v75, v76] h17) <| fun v77 h18 =>
  k v77 h18) <| fun v78 h19 =>
  kgq v68 false (fun k => kq (rBin .neq .no false v74 v78) k) <| fun v79 =>
  kq (rPick v68 (.bool true) v79) <| fun v80 =>
  kq (some v80) <| fun v81 =>
  kgq v81 false (fun k => kq (some v60) k) <| fun v82 =>
  kgq v81 false (fun k => kq (some v38) k) <| fun v83 =>
  kgq v81 false (fun k => kq (some a3) k) <| fun v84 =>
  kgh v81 false h19 (fun k => ke (call N_num_Shift [v82, v83, v84, (.int .i64 (-1))] h19) <| fun v85 h20 =>
  k v85 h20) <| fun v86 h21 =>
  kgq v81 false (fun k => kq (some v38) k) <| fun v87 =>
  kgq v81 false (fun k => kq (some a3) k) <| fun v88 =>
  kgh v81 false h21 (fun k => ke (call N_num_Wrap [v87, v88] h21) <| fun v89 h22 =>
  k v89 h22) <| fun v90 h23 =>
  kgq v81 false (fun k => kq (rBin .neq .no false v86 v90) k) <| fun v91 =>
  kq (rPick v81 (.bool true) v91) <| fun v92 =>
  j69 v92 h23) (
  kq (some (.bool true)) <| fun v98 =>
  some (v98, h12))
def F_runglaw1_NumMoves (call callD : ACall) (a0 a1 a2 a3 a4 : AVal) (h : AH) : Ans :=
  kq (some (.bool false)) <| fun v0 =>
  ke (call N_runglaw1_known [] h) <| fun v1 h0 =>
  kq (aUn .not v1) <| fun v2 =>
  kIf v2 (
  kq (some (.bool false)) <| fun v3 =>
  some (v3, h0)) (
  kq (some a0) <| fun v4 =>
  kq (rLenS v4) <| fun v5 =>
  kq (rBin .gtr .no true v5 (.int .i64 20)) <| fun v6 =>
  kIf v6 (
  kq (some (.bool true)) <| fun v7 =>
  some (v7, h0)) (
  kq (some a1) <| fun v8 =>
  kq (some a2) <| fun v9 =>
  kq (some a3) <| fun v10 =>
  ke (call N_num_Convert [v8, v9, v10] h0) <| fun v11 h1 =>
  kq (some a1) <| fun v12 =>
  kq (some a2) <| fun v13 =>
  kq (some a3) <| fun v14 =>
  ke (call N_rungref1_Convert [v12, v13, v14] h1) <| fun v15 h2 =>
  kq (rBin .neq .no false v11 v15) <| fun v16 =>
  kq (some v16) <| fun v17 =>
  kth (fun v33 h7 =>
  kIf v33 (
  kq (some (.bool false)) <| fun v34 =>
  some (v34, h7)) (
  kq (some a1) <| fun v35 =>
  ke (call N_runghelp_Place [v35, (.int .i64 3)] h7) <| fun v36 h8 =>
  kq (rBin .add .no true (.int .i64 8) v36) <| fun v37 =>
  kq (some v37) <| fun v38 =>
  kq (some v38) <| fun v39 =>
  kq (some v38) <| fun v40 =>
  kq (some a3) <| fun v41 =>
  kq (some a4) <| fun v42 =>
  ke (call N_num_Shift [(.str [82, 79, 76]), v40, v41, v42] h8) <| fun v43 h9 =>
  kq (some a4) <| fun v44 =>
  ke (call N_num_Shift [(.str [82, 79, 82]), v39, v43, v44] h9) <| fun v45 h10 =>
  kq (some v38) <| fun v46 =>
  kq (some a3) <| fun v47 =>
  ke (call N_num_Wrap [v46, v47] h10) <| fun v48 h11 =>
  kq (rBin .neq .no false v45 v48) <| fun v49 =>
  kIf v49 (
  kq (some (.bool false)) <| fun v50 =>
  some (v50, h11)) (
  kq (some (.int .i64 0)) <| fun v51 =>
  kLoop (L_runglaw1_NumMoves_0 call callD v38 a3) rounds [v51] h11))) <| fun j18 =>
  kgq v17 false (fun k => kq (some a0) k) <| fun v19 =>
  kgq v17 false (fun k => kq (some a1) k) <| fun v20 =>
  kgq v17 false (fun k => kq (some a3) k) <| fun v21 =>
  kgq v17 false (fun k => kq (some a4) k) <| fun v22 =>
  kgh v17 false h2 (fun k => ke (call N_num_Shift [v19, v20, v21, v22] h2) <| fun v23 h3 =>
  k v23 h3) <| fun v24 h4 =>
  kgq v17 false (fun k => kq (some a0) k) <| fun v25 =>
  kgq v17 false (fun k => kq (some a1) k) <| fun v26 =>
  kgq v17 false (fun k => kq (some a3) k) <| fun v27 =>
  kgq v17 false (fun k => kq (some a4) k) <| fun v28 =>
  kgh v17 false h4 (fun k => ke (call N_rungref1_Shift [v25, v26, v27, v28] h4) <| fun v29 h5 =>
  k v29 h5) <| fun v30 h6 =>
  kgq v17 false (fun k => kq (rBin .neq .no false v24 v30) k) <| fun v31 =>
  kq (rPick v17 (.bool true) v31) <| fun v32 =>
  j18 v32 h6))
theorem F_runglaw1_NumMoves_eq (call callD : ACall) (a0 a1 a2 a3 a4 : AVal) (h : AH) : kFunc Try.prog [] call callD N_runglaw1_NumMoves [a0, a1, a2, a3, a4] h = F_runglaw1_NumMoves call callD a0 a1 a2 a3 a4 h := by kernel_rfl
theorem C_runglaw1_NumMoves {ov : AOver} (H : Plain ov) (n : Nat) (a0 a1 a2 a3 a4 : AVal) (h : AH) : kc ov (n + 1) N_runglaw1_NumMoves [a0, a1, a2, a3, a4] h = F_runglaw1_NumMoves (kc ov n) (kd ov n) a0 a1 a2 a3 a4 h := by
  have hov : ov N_runglaw1_NumMoves = none := H _ (by decide)
  unfold kc kd; rw [← F_runglaw1_NumMoves_eq]; simp only [kcall, hov]

/-- rung/runglaw1.known -/
def F_runglaw1_known (call callD : ACall) (h : AH) : Ans :=
  kq (some (.bool false)) <| fun v0 =>
  ke (call N_num_Apply [(.int .i64 6), (.int .i64 3), (.int .i64 (-7)), (.int .i64 2)] h) <| fun v1 h0 =>
  kq (some v1) <| fun v2 =>
  kq (aExtract v2 0) <| fun v3 =>
  kq (aExtract v2 1) <| fun v4 =>
  kq (some v3) <| fun v5 =>
  kq (some v4) <| fun v6 =>
  ke (call N_num_Apply [(.int .i64 7), (.int .i64 3), (.int .i64 (-7)), (.int .i64 2)] h0) <| fun v7 h1 =>
  kq (some v7) <| fun v8 =>
  kq (aExtract v8 0) <| fun v9 =>
  kq (aExtract v8 1) <| fun v10 =>
  kq (some v9) <| fun v11 =>
  kq (some v10) <| fun v12 =>
  ke (call N_num_Apply [(.int .i64 6), (.int .i64 3), (.int .i64 (-32768)), (.int .i64 (-1))] h1) <| fun v13 h2 =>
  kq (some v13) <| fun v14 =>
  kq (aExtract v14 0) <| fun v15 =>
  kq (aExtract v14 1) <| fun v16 =>
  kq (some v15) <| fun v17 =>
  kq (some v16) <| fun v18 =>
  ke (call N_num_Apply [(.int .i64 6), (.int .i64 3), (.int .i64 5), (.int .i64 0)] h2) <| fun v19 h3 =>
  kq (some v19) <| fun v20 =>
  kq (aExtract v20 0) <| fun v21 =>
  kq (aExtract v20 1) <| fun v22 =>
  kq (some v21) <| fun v23 =>
  kq (some v22) <| fun v24 =>
  ke (call N_num_Wrap [(.int .i64 2), (.int .i64 200)] h3) <| fun v25 h4 =>
  kq (rBin .eql .no true v25 (.int .i64 (-56))) <| fun v26 =>
  kq (some v26) <| fun v27 =>
  kth (fun v63 h11 =>
  kq (some v63) <| fun v64 =>
  some (v64, h11)) <| fun j28 =>
  kgq v27 true (fun k => kq (some v5) k) <| fun v29 =>
  kgq v27 true (fun k => kq (rBin .eql .no true v29 (.int .i64 (-3))) k) <| fun v30 =>
  kq (rPick v27 v30 (.bool false)) <| fun v31 =>
  kq (some v31) <| fun v32 =>
  kgq v32 true (fun k => kq (some v6) k) <| fun v33 =>
  kgq v32 true (fun k => kq (rBin .eql .no true v33 (.int .i64 0)) k) <| fun v34 =>
  kq (rPick v32 v34 (.bool false)) <| fun v35 =>
  kq (some v35) <| fun v36 =>
  kgq v36 true (fun k => kq (some v11) k) <| fun v37 =>
  kgq v36 true (fun k => kq (rBin .eql .no true v37 (.int .i64 (-1))) k) <| fun v38 =>
  kq (rPick v36 v38 (.bool false)) <| fun v39 =>
  kq (some v39) <| fun v40 =>
  kgq v40 true (fun k => kq (some v17) k) <| fun v41 =>
  kgq v40 true (fun k => kq (rBin .eql .no true v41 (.int .i64 (-32768))) k) <| fun v42 =>
  kq (rPick v40 v42 (.bool false)) <| fun v43 =>
  kq (some v43) <| fun v44 =>
  kgq v44 true (fun k => kq (some v24) k) <| fun v45 =>
  kgq v44 true (fun k => kq (rBin .eql .no true v45 (.int .i64 1)) k) <| fun v46 =>
  kq (rPick v44 v46 (.bool false)) <| fun v47 =>
  kq (some v47) <| fun v48 =>
  kgh v48 true h4 (fun k => ke (call N_num_Name [(.int .i64 11)] h4) <| fun v49 h5 =>
  k v49 h5) <| fun v50 h6 =>
  kgq v48 true (fun k => kq (rBin .eql .no true v50 (.str [84, 73, 77, 69])) k) <| fun v51 =>
  kq (rPick v48 v51 (.bool false)) <| fun v52 =>
  kq (some v52) <| fun v53 =>
  kgh v53 true h6 (fun k => ke (call N_num_Kind [(.str [87, 79, 82, 68])] h6) <| fun v54 h7 =>
  k v54 h7) <| fun v55 h8 =>
  kgq v53 true (fun k => kq (rBin .eql .no true v55 (.int .i64 9)) k) <| fun v56 =>
  kq (rPick v53 v56 (.bool false)) <| fun v57 =>
  kq (some v57) <| fun v58 =>
  kgh v58 true h8 (fun k => ke (call N_num_Width [(.int .i64 7)] h8) <| fun v59 h9 =>
  k v59 h9) <| fun v60 h10 =>
  kgq v58 true (fun k => kq (rBin .eql .no true v60 (.int .i64 32)) k) <| fun v61 =>
  kq (rPick v58 v61 (.bool false)) <| fun v62 =>
  j28 v62 h10
theorem F_runglaw1_known_eq (call callD : ACall) (h : AH) : kFunc Try.prog [] call callD N_runglaw1_known [] h = F_runglaw1_known call callD h := by kernel_rfl
theorem C_runglaw1_known {ov : AOver} (hov : ov N_runglaw1_known = none) (n : Nat) (h : AH) : kcall Try.prog [] ov (n + 1) N_runglaw1_known [] h = F_runglaw1_known (kcall Try.prog [] ov n) (kFuncD Try.prog [] (kcall Try.prog [] ov n)) h := by
  rw [← F_runglaw1_known_eq]; simp only [kcall, hov]

/-- rung/runghelp.Place -/
def F_runghelp_Place (call callD : ACall) (a0 a1 : AVal) (h : AH) : Ans :=
  kq (some (.int .i64 0)) <| fun v0 =>
  kq (some a0) <| fun v1 =>
  kq (some a1) <| fun v2 =>
  kq (rBin .rem .no false v1 v2) <| fun v3 =>
  kq (some v3) <| fun v4 =>
  kq (some v4) <| fun v5 =>
  kq (rBin .lss .no true v5 (.int .i64 0)) <| fun v6 =>
  kj (fun l7 h0 =>
  kq (some (gd l7 0)) <| fun v9 =>
  kq (some v9) <| fun v10 =>
  some (v10, h0)) <| fun j8 =>
  kIf v6 (
  kq (some v4) <| fun v11 =>
  kq (some a1) <| fun v12 =>
  kq (rBin .add .no false v11 v12) <| fun v13 =>
  kq (some v13) <| fun v14 =>
  j8 [v14] h) (
  j8 [v4] h)
theorem F_runghelp_Place_eq (call callD : ACall) (a0 a1 : AVal) (h : AH) : kFunc Try.prog [] call callD N_runghelp_Place [a0, a1] h = F_runghelp_Place call callD a0 a1 h := by kernel_rfl
theorem C_runghelp_Place {ov : AOver} (H : Plain ov) (n : Nat) (a0 a1 : AVal) (h : AH) : kc ov (n + 1) N_runghelp_Place [a0, a1] h = F_runghelp_Place (kc ov n) (kd ov n) a0 a1 h := by
  have hov : ov N_runghelp_Place = none := H _ (by decide)
  unfold kc kd; rw [← F_runghelp_Place_eq]; simp only [kcall, hov]

/-- rung/num.Wrap -/
def F_num_Wrap (call callD : ACall) (a0 a1 : AVal) (h : AH) : Ans :=
  kq (some (.int .i64 0)) <| fun v0 =>
  kq (some a0) <| fun v1 =>
  ke (call N_num_of [v1] h) <| fun v2 h0 =>
  kq (some v2) <| fun v3 =>
  kq (aExtract v3 0) <| fun v4 =>
  kq (aExtract v3 1) <| fun v5 =>
  km (pBox T_num_kind (.agg [(.str []), (.int .i64 0), (.bool false), (.bool false)])) h0 <| fun v6 h1 =>
  ke ((rStore 4 v6 v4 h1).map fun h' => (.tuple [], h')) <| fun v7 h2 =>
  kq (some v5) <| fun v8 =>
  kq (some v8) <| fun v9 =>
  kq (aUn .not v9) <| fun v10 =>
  kIf v10 (
  kq (some (.int .i64 0)) <| fun v11 =>
  some (v11, h2)) (
  kq (some a0) <| fun v12 =>
  kq (rBin .eql .no true v12 (.int .i64 1)) <| fun v13 =>
  kIf v13 (
  kq (some a1) <| fun v14 =>
  kq (rBin .neq .no true v14 (.int .i64 0)) <| fun v15 =>
  ke (call N_num_truth [v15] h2) <| fun v16 h3 =>
  kq (some v16) <| fun v17 =>
  some (v17, h3)) (
  kq (rFieldP 1 v6) <| fun v18 =>
  kq (rLoad v18 h2) <| fun v19 =>
  kq (rBin .sub .no true (.int .i64 64) v19) <| fun v20 =>
  kq (rConvI .u64 v20) <| fun v21 =>
  kq (some v21) <| fun v22 =>
  kq (rFieldP 2 v6) <| fun v23 =>
  kq (rLoad v23 h2) <| fun v24 =>
  kIf v24 (
  kq (some a1) <| fun v25 =>
  kq (some v22) <| fun v26 =>
  kq (rBin .shl .no false v25 v26) <| fun v27 =>
  kq (some v22) <| fun v28 =>
  kq (rBin .shr .no false v27 v28) <| fun v29 =>
  kq (some v29) <| fun v30 =>
  some (v30, h2)) (
  kq (some a1) <| fun v31 =>
  kq (rConvI .u64 v31) <| fun v32 =>
  kq (some v22) <| fun v33 =>
  kq (rBin .shl .no false v32 v33) <| fun v34 =>
  kq (some v22) <| fun v35 =>
  kq (rBin .shr .no false v34 v35) <| fun v36 =>
  kq (rConvI .i64 v36) <| fun v37 =>
  kq (some v37) <| fun v38 =>
  some (v38, h2))))
theorem F_num_Wrap_eq (call callD : ACall) (a0 a1 : AVal) (h : AH) : kFunc Try.prog [] call callD N_num_Wrap [a0, a1] h = F_num_Wrap call callD a0 a1 h := by kernel_rfl
theorem C_num_Wrap {ov : AOver} (H : Plain ov) (n : Nat) (a0 a1 : AVal) (h : AH) : kc ov (n + 1) N_num_Wrap [a0, a1] h = F_num_Wrap (kc ov n) (kd ov n) a0 a1 h := by
  have hov : ov N_num_Wrap = none := H _ (by decide)
  unfold kc kd; rw [← F_num_Wrap_eq]; simp only [kcall, hov]

/-- rung/num.Apply -/
def F_num_Apply (call callD : ACall) (a0 a1 a2 a3 : AVal) (h : AH) : Ans :=
  kq (some (.int .i64 0)) <| fun v0 =>
  kq (some (.int .i64 0)) <| fun v1 =>
  kq (some a1) <| fun v2 =>
  ke (call N_num_Scalar [v2] h) <| fun v3 h0 =>
  kq (aUn .not v3) <| fun v4 =>
  kIf v4 (
  kq (some (.int .i64 0)) <| fun v5 =>
  kq (some (.int .i64 0)) <| fun v6 =>
  some (.tuple [v5, v6], h0)) (
  kq (some a1) <| fun v7 =>
  kq (some a2) <| fun v8 =>
  ke (call N_num_Wrap [v7, v8] h0) <| fun v9 h1 =>
  kq (some a1) <| fun v10 =>
  kq (some a3) <| fun v11 =>
  ke (call N_num_Wrap [v10, v11] h1) <| fun v12 h2 =>
  kq (some v9) <| fun v13 =>
  kq (some v12) <| fun v14 =>
  kq (some (.int .i64 0)) <| fun v15 =>
  kq (some a0) <| fun v16 =>
  kq (rBin .eql .no true v16 (.int .i64 6)) <| fun v17 =>
  kq (some v17) <| fun v18 =>
  kj (fun l19 h3 =>
  kj (fun l21 h4 =>
  kq (some a1) <| fun v23 =>
  kq (some (gd l21 0)) <| fun v24 =>
  ke (call N_num_Wrap [v23, v24] h4) <| fun v25 h5 =>
  kq (some v25) <| fun v26 =>
  kq (some (.int .i64 0)) <| fun v27 =>
  some (.tuple [v26, v27], h5)) <| fun j22 =>
  kIf (gd l19 0) (
  kq (some v14) <| fun v28 =>
  kq (rBin .eql .no true v28 (.int .i64 0)) <| fun v29 =>
  kIf v29 (
  kq (some (.int .i64 0)) <| fun v30 =>
  kq (some (.int .i64 1)) <| fun v31 =>
  some (.tuple [v30, v31], h3)) (
  kq (some v13) <| fun v32 =>
  kq (some v14) <| fun v33 =>
  kq (rBin .quo .no false v32 v33) <| fun v34 =>
  kq (some v34) <| fun v35 =>
  kq (some a0) <| fun v36 =>
  kq (rBin .eql .no true v36 (.int .i64 7)) <| fun v37 =>
  kj (fun l38 h6 =>
  j22 [(gd l38 0)] h6) <| fun j39 =>
  kIf v37 (
  kq (some v13) <| fun v40 =>
  kq (some v14) <| fun v41 =>
  kq (rBin .rem .no false v40 v41) <| fun v42 =>
  kq (some v42) <| fun v43 =>
  j39 [v43] h3) (
  j39 [v35] h3))) (
  kq (rBin .eql .no true v16 (.int .i64 8)) <| fun v44 =>
  kq (some v44) <| fun v45 =>
  kj (fun l46 h7 =>
  j22 [(gd l46 0)] h7) <| fun j47 =>
  kIf v45 (
  kq (some v13) <| fun v48 =>
  kq (some v14) <| fun v49 =>
  kq (rBin .add .no false v48 v49) <| fun v50 =>
  kq (some v50) <| fun v51 =>
  j47 [v51] h3) (
  kq (rBin .eql .no true v16 (.int .i64 9)) <| fun v52 =>
  kq (some v52) <| fun v53 =>
  kj (fun l54 h8 =>
  j47 [(gd l54 0)] h8) <| fun j55 =>
  kIf v53 (
  kq (some v14) <| fun v56 =>
  kq (aUn .neg v56) <| fun v57 =>
  kq (some v57) <| fun v58 =>
  kq (some v13) <| fun v59 =>
  kq (some v58) <| fun v60 =>
  kq (rBin .add .no false v59 v60) <| fun v61 =>
  kq (some v61) <| fun v62 =>
  j55 [v62] h3) (
  kq (rBin .eql .no true v16 (.int .i64 5)) <| fun v63 =>
  kq (some v63) <| fun v64 =>
  kj (fun l65 h9 =>
  j55 [(gd l65 0)] h9) <| fun j66 =>
  kIf v64 (
  kq (some v13) <| fun v67 =>
  kq (some v14) <| fun v68 =>
  kq (rBin .mul .no false v67 v68) <| fun v69 =>
  kq (some v69) <| fun v70 =>
  j66 [v70] h3) (
  kq (rBin .eql .no true v16 (.int .i64 16)) <| fun v71 =>
  kq (some v71) <| fun v72 =>
  kj (fun l73 h10 =>
  j66 [(gd l73 0)] h10) <| fun j74 =>
  kIf v72 (
  kq (some v13) <| fun v75 =>
  kq (some v14) <| fun v76 =>
  kq (rBin .and .no false v75 v76) <| fun v77 =>
  kq (some v77) <| fun v78 =>
  j74 [v78] h3) (
  kq (rBin .eql .no true v16 (.int .i64 18)) <| fun v79 =>
  kq (some v79) <| fun v80 =>
  kj (fun l81 h11 =>
  j74 [(gd l81 0)] h11) <| fun j82 =>
  kIf v80 (
  kq (some v13) <| fun v83 =>
  kq (some v14) <| fun v84 =>
  kq (rBin .or .no false v83 v84) <| fun v85 =>
  kq (some v85) <| fun v86 =>
  j82 [v86] h3) (
  kq (rBin .eql .no true v16 (.int .i64 17)) <| fun v87 =>
  kq (some v87) <| fun v88 =>
  kIf v88 (
  kq (some v13) <| fun v89 =>
  kq (some v14) <| fun v90 =>
  kq (rBin .xor .no false v89 v90) <| fun v91 =>
  kq (some v91) <| fun v92 =>
  j82 [v92] h3) (
  kq (some a0) <| fun v93 =>
  kq (some v13) <| fun v94 =>
  kq (some v14) <| fun v95 =>
  ke (call N_num_compare [v93, v94, v95] h3) <| fun v96 h12 =>
  kq (some v96) <| fun v97 =>
  kq (some (.int .i64 0)) <| fun v98 =>
  some (.tuple [v97, v98], h12))))))))) <| fun j20 =>
  kIf v18 (
  j20 [v18] h2) (
  kq (rBin .eql .no true v16 (.int .i64 7)) <| fun v99 =>
  kq (some v99) <| fun v100 =>
  j20 [v100] h2))
theorem F_num_Apply_eq (call callD : ACall) (a0 a1 a2 a3 : AVal) (h : AH) : kFunc Try.prog [] call callD N_num_Apply [a0, a1, a2, a3] h = F_num_Apply call callD a0 a1 a2 a3 h := by kernel_rfl
theorem C_num_Apply {ov : AOver} (H : Plain ov) (n : Nat) (a0 a1 a2 a3 : AVal) (h : AH) : kc ov (n + 1) N_num_Apply [a0, a1, a2, a3] h = F_num_Apply (kc ov n) (kd ov n) a0 a1 a2 a3 h := by
  have hov : ov N_num_Apply = none := H _ (by decide)
  unfold kc kd; rw [← F_num_Apply_eq]; simp only [kcall, hov]

/-- rung/runglaw1.NumDivides$1 -/
def F_runglaw1_NumDivides_1 (call callD : ACall) (a0 : AVal) (h : AH) : Ans :=
  kq (some (.int .i64 0)) <| fun v0 =>
  kq (some a0) <| fun v1 =>
  kq (some a0) <| fun v2 =>
  kq (aUn .neg v2) <| fun v3 =>
  kq (aMM aMax2 [v1, v3]) <| fun v4 =>
  kq (some v4) <| fun v5 =>
  some (v5, h)
theorem F_runglaw1_NumDivides_1_eq (call callD : ACall) (a0 : AVal) (h : AH) : kFunc Try.prog [] call callD N_runglaw1_NumDivides_1 [a0] h = F_runglaw1_NumDivides_1 call callD a0 h := by kernel_rfl
theorem C_runglaw1_NumDivides_1 {ov : AOver} (H : Plain ov) (n : Nat) (a0 : AVal) (h : AH) : kc ov (n + 1) N_runglaw1_NumDivides_1 [a0] h = F_runglaw1_NumDivides_1 (kc ov n) (kd ov n) a0 h := by
  have hov : ov N_runglaw1_NumDivides_1 = none := H _ (by decide)
  unfold kc kd; rw [← F_runglaw1_NumDivides_1_eq]; simp only [kcall, hov]

/-- rung/runglaw1.NumOrders$1 -/
def F_runglaw1_NumOrders_1 (call callD : ACall) (a0 a1 a2 a3 : AVal) (h : AH) : Ans :=
  kq (some (.bool false)) <| fun v0 =>
  kq (some a0) <| fun v1 =>
  kq (rLoad a3 h) <| fun v2 =>
  kq (some a1) <| fun v3 =>
  kq (some a2) <| fun v4 =>
  ke (call N_num_Apply [v1, v2, v3, v4] h) <| fun v5 h0 =>
  kq (some v5) <| fun v6 =>
  kq (aExtract v6 0) <| fun v7 =>
  kq (aExtract v6 1) <| fun v8 =>
  kq (some v7) <| fun v9 =>
  kq (some v8) <| fun v10 =>
  kq (some v9) <| fun v11 =>
  kq (rBin .eql .no true v11 (.int .i64 1)) <| fun v12 =>
  kq (some v12) <| fun v13 =>
  some (v13, h0)
theorem F_runglaw1_NumOrders_1_eq (call callD : ACall) (a0 a1 a2 a3 : AVal) (h : AH) : kFunc Try.prog [] call callD N_runglaw1_NumOrders_1 [a0, a1, a2, a3] h = F_runglaw1_NumOrders_1 call callD a0 a1 a2 a3 h := by kernel_rfl
theorem C_runglaw1_NumOrders_1 {ov : AOver} (H : Plain ov) (n : Nat) (a0 a1 a2 a3 : AVal) (h : AH) : kc ov (n + 1) N_runglaw1_NumOrders_1 [a0, a1, a2, a3] h = F_runglaw1_NumOrders_1 (kc ov n) (kd ov n) a0 a1 a2 a3 h := by
  have hov : ov N_runglaw1_NumOrders_1 = none := H _ (by decide)
  unfold kc kd; rw [← F_runglaw1_NumOrders_1_eq]; simp only [kcall, hov]

/-- rung/runglaw1.NumRing$1 -/
def F_runglaw1_NumRing_1 (call callD : ACall) (a0 a1 a2 a3 : AVal) (h : AH) : Ans :=
  kq (some (.int .i64 0)) <| fun v0 =>
  kq (some a0) <| fun v1 =>
  kq (rLoad a3 h) <| fun v2 =>
  kq (some a1) <| fun v3 =>
  kq (some a2) <| fun v4 =>
  ke (call N_num_Apply [v1, v2, v3, v4] h) <| fun v5 h0 =>
  kq (some v5) <| fun v6 =>
  kq (aExtract v6 0) <| fun v7 =>
  kq (aExtract v6 1) <| fun v8 =>
  kq (some v7) <| fun v9 =>
  kq (some v8) <| fun v10 =>
  kq (some v9) <| fun v11 =>
  kq (some v11) <| fun v12 =>
  some (v12, h0)
theorem F_runglaw1_NumRing_1_eq (call callD : ACall) (a0 a1 a2 a3 : AVal) (h : AH) : kFunc Try.prog [] call callD N_runglaw1_NumRing_1 [a0, a1, a2, a3] h = F_runglaw1_NumRing_1 call callD a0 a1 a2 a3 h := by kernel_rfl
theorem C_runglaw1_NumRing_1 {ov : AOver} (H : Plain ov) (n : Nat) (a0 a1 a2 a3 : AVal) (h : AH) : kc ov (n + 1) N_runglaw1_NumRing_1 [a0, a1, a2, a3] h = F_runglaw1_NumRing_1 (kc ov n) (kd ov n) a0 a1 a2 a3 h := by
  have hov : ov N_runglaw1_NumRing_1 = none := H _ (by decide)
  unfold kc kd; rw [← F_runglaw1_NumRing_1_eq]; simp only [kcall, hov]

/-- rung/runglaw1.NumRing$2 -/
def F_runglaw1_NumRing_2 (call callD : ACall) (a0 a1 a2 : AVal) (h : AH) : Ans :=
  kq (some (.int .i64 0)) <| fun v0 =>
  kq (rLoad a2 h) <| fun v1 =>
  kq (some a0) <| fun v2 =>
  kq (some a1) <| fun v3 =>
  ke (rCallV call v1 [(.int .i64 8), v2, v3] h) <| fun v4 h0 =>
  kq (some v4) <| fun v5 =>
  some (v5, h0)
theorem F_runglaw1_NumRing_2_eq (call callD : ACall) (a0 a1 a2 : AVal) (h : AH) : kFunc Try.prog [] call callD N_runglaw1_NumRing_2 [a0, a1, a2] h = F_runglaw1_NumRing_2 call callD a0 a1 a2 h := by kernel_rfl
theorem C_runglaw1_NumRing_2 {ov : AOver} (H : Plain ov) (n : Nat) (a0 a1 a2 : AVal) (h : AH) : kc ov (n + 1) N_runglaw1_NumRing_2 [a0, a1, a2] h = F_runglaw1_NumRing_2 (kc ov n) (kd ov n) a0 a1 a2 h := by
  have hov : ov N_runglaw1_NumRing_2 = none := H _ (by decide)
  unfold kc kd; rw [← F_runglaw1_NumRing_2_eq]; simp only [kcall, hov]

/-- rung/runglaw1.NumRing$3 -/
def F_runglaw1_NumRing_3 (call callD : ACall) (a0 a1 a2 : AVal) (h : AH) : Ans :=
  kq (some (.int .i64 0)) <| fun v0 =>
  kq (rLoad a2 h) <| fun v1 =>
  kq (some a0) <| fun v2 =>
  kq (some a1) <| fun v3 =>
  ke (rCallV call v1 [(.int .i64 5), v2, v3] h) <| fun v4 h0 =>
  kq (some v4) <| fun v5 =>
  some (v5, h0)
theorem F_runglaw1_NumRing_3_eq (call callD : ACall) (a0 a1 a2 : AVal) (h : AH) : kFunc Try.prog [] call callD N_runglaw1_NumRing_3 [a0, a1, a2] h = F_runglaw1_NumRing_3 call callD a0 a1 a2 h := by kernel_rfl
theorem C_runglaw1_NumRing_3 {ov : AOver} (H : Plain ov) (n : Nat) (a0 a1 a2 : AVal) (h : AH) : kc ov (n + 1) N_runglaw1_NumRing_3 [a0, a1, a2] h = F_runglaw1_NumRing_3 (kc ov n) (kd ov n) a0 a1 a2 h := by
  have hov : ov N_runglaw1_NumRing_3 = none := H _ (by decide)
  unfold kc kd; rw [← F_runglaw1_NumRing_3_eq]; simp only [kcall, hov]

/-- rung/num.Neg -/
def F_num_Neg (call callD : ACall) (a0 a1 : AVal) (h : AH) : Ans :=
  kq (some (.int .i64 0)) <| fun v0 =>
  kq (some a0) <| fun v1 =>
  kq (some a0) <| fun v2 =>
  kq (some a1) <| fun v3 =>
  ke (call N_num_Wrap [v2, v3] h) <| fun v4 h0 =>
  kq (aUn .neg v4) <| fun v5 =>
  ke (call N_num_Wrap [v1, v5] h0) <| fun v6 h1 =>
  kq (some v6) <| fun v7 =>
  some (v7, h1)
theorem F_num_Neg_eq (call callD : ACall) (a0 a1 : AVal) (h : AH) : kFunc Try.prog [] call callD N_num_Neg [a0, a1] h = F_num_Neg call callD a0 a1 h := by kernel_rfl
theorem C_num_Neg {ov : AOver} (H : Plain ov) (n : Nat) (a0 a1 : AVal) (h : AH) : kc ov (n + 1) N_num_Neg [a0, a1] h = F_num_Neg (kc ov n) (kd ov n) a0 a1 h := by
  have hov : ov N_num_Neg = none := H _ (by decide)
  unfold kc kd; rw [← F_num_Neg_eq]; simp only [kcall, hov]

/-- rung/runglaw1.NumLogic$1 -/
def F_runglaw1_NumLogic_1 (call callD : ACall) (a0 a1 a2 a3 : AVal) (h : AH) : Ans :=
  kq (some (.int .i64 0)) <| fun v0 =>
  kq (some a0) <| fun v1 =>
  kq (rLoad a3 h) <| fun v2 =>
  kq (some a1) <| fun v3 =>
  kq (some a2) <| fun v4 =>
  ke (call N_num_Apply [v1, v2, v3, v4] h) <| fun v5 h0 =>
  kq (some v5) <| fun v6 =>
  kq (aExtract v6 0) <| fun v7 =>
  kq (aExtract v6 1) <| fun v8 =>
  kq (some v7) <| fun v9 =>
  kq (some v8) <| fun v10 =>
  kq (some v9) <| fun v11 =>
  kq (some v11) <| fun v12 =>
  some (v12, h0)
theorem F_runglaw1_NumLogic_1_eq (call callD : ACall) (a0 a1 a2 a3 : AVal) (h : AH) : kFunc Try.prog [] call callD N_runglaw1_NumLogic_1 [a0, a1, a2, a3] h = F_runglaw1_NumLogic_1 call callD a0 a1 a2 a3 h := by kernel_rfl
theorem C_runglaw1_NumLogic_1 {ov : AOver} (H : Plain ov) (n : Nat) (a0 a1 a2 a3 : AVal) (h : AH) : kc ov (n + 1) N_runglaw1_NumLogic_1 [a0, a1, a2, a3] h = F_runglaw1_NumLogic_1 (kc ov n) (kd ov n) a0 a1 a2 a3 h := by
  have hov : ov N_runglaw1_NumLogic_1 = none := H _ (by decide)
  unfold kc kd; rw [← F_runglaw1_NumLogic_1_eq]; simp only [kcall, hov]

/-- rung/runglaw1.NumLogic$2 -/
def F_runglaw1_NumLogic_2 (call callD : ACall) (a0 a1 a2 : AVal) (h : AH) : Ans :=
  kq (some (.int .i64 0)) <| fun v0 =>
  kq (rLoad a2 h) <| fun v1 =>
  kq (some a0) <| fun v2 =>
  kq (some a1) <| fun v3 =>
  ke (rCallV call v1 [(.int .i64 16), v2, v3] h) <| fun v4 h0 =>
  kq (some v4) <| fun v5 =>
  some (v5, h0)
theorem F_runglaw1_NumLogic_2_eq (call callD : ACall) (a0 a1 a2 : AVal) (h : AH) : kFunc Try.prog [] call callD N_runglaw1_NumLogic_2 [a0, a1, a2] h = F_runglaw1_NumLogic_2 call callD a0 a1 a2 h := by kernel_rfl
theorem C_runglaw1_NumLogic_2 {ov : AOver} (H : Plain ov) (n : Nat) (a0 a1 a2 : AVal) (h : AH) : kc ov (n + 1) N_runglaw1_NumLogic_2 [a0, a1, a2] h = F_runglaw1_NumLogic_2 (kc ov n) (kd ov n) a0 a1 a2 h := by
  have hov : ov N_runglaw1_NumLogic_2 = none := H _ (by decide)
  unfold kc kd; rw [← F_runglaw1_NumLogic_2_eq]; simp only [kcall, hov]

/-- rung/runglaw1.NumLogic$3 -/
def F_runglaw1_NumLogic_3 (call callD : ACall) (a0 a1 a2 : AVal) (h : AH) : Ans :=
  kq (some (.int .i64 0)) <| fun v0 =>
  kq (rLoad a2 h) <| fun v1 =>
  kq (some a0) <| fun v2 =>
  kq (some a1) <| fun v3 =>
  ke (rCallV call v1 [(.int .i64 18), v2, v3] h) <| fun v4 h0 =>
  kq (some v4) <| fun v5 =>
  some (v5, h0)
theorem F_runglaw1_NumLogic_3_eq (call callD : ACall) (a0 a1 a2 : AVal) (h : AH) : kFunc Try.prog [] call callD N_runglaw1_NumLogic_3 [a0, a1, a2] h = F_runglaw1_NumLogic_3 call callD a0 a1 a2 h := by kernel_rfl
theorem C_runglaw1_NumLogic_3 {ov : AOver} (H : Plain ov) (n : Nat) (a0 a1 a2 : AVal) (h : AH) : kc ov (n + 1) N_runglaw1_NumLogic_3 [a0, a1, a2] h = F_runglaw1_NumLogic_3 (kc ov n) (kd ov n) a0 a1 a2 h := by
  have hov : ov N_runglaw1_NumLogic_3 = none := H _ (by decide)
  unfold kc kd; rw [← F_runglaw1_NumLogic_3_eq]; simp only [kcall, hov]

/-- rung/runglaw1.NumLogic$4 -/
def F_runglaw1_NumLogic_4 (call callD : ACall) (a0 a1 : AVal) (h : AH) : Ans :=
  kq (some (.int .i64 0)) <| fun v0 =>
  kq (rLoad a1 h) <| fun v1 =>
  kq (some a0) <| fun v2 =>
  ke (call N_num_Not [v1, v2] h) <| fun v3 h0 =>
  kq (some v3) <| fun v4 =>
  some (v4, h0)
theorem F_runglaw1_NumLogic_4_eq (call callD : ACall) (a0 a1 : AVal) (h : AH) : kFunc Try.prog [] call callD N_runglaw1_NumLogic_4 [a0, a1] h = F_runglaw1_NumLogic_4 call callD a0 a1 h := by kernel_rfl
theorem C_runglaw1_NumLogic_4 {ov : AOver} (H : Plain ov) (n : Nat) (a0 a1 : AVal) (h : AH) : kc ov (n + 1) N_runglaw1_NumLogic_4 [a0, a1] h = F_runglaw1_NumLogic_4 (kc ov n) (kd ov n) a0 a1 h := by
  have hov : ov N_runglaw1_NumLogic_4 = none := H _ (by decide)
  unfold kc kd; rw [← F_runglaw1_NumLogic_4_eq]; simp only [kcall, hov]

/-- rung/num.Not -/
def F_num_Not (call callD : ACall) (a0 a1 : AVal) (h : AH) : Ans :=
  kq (some (.int .i64 0)) <| fun v0 =>
  kq (some a0) <| fun v1 =>
  kq (rBin .eql .no true v1 (.int .i64 1)) <| fun v2 =>
  kIf v2 (
  kq (some a1) <| fun v3 =>
  kq (rBin .eql .no true v3 (.int .i64 0)) <| fun v4 =>
  ke (call N_num_truth [v4] h) <| fun v5 h0 =>
  kq (some v5) <| fun v6 =>
  some (v6, h0)) (
  kq (some a0) <| fun v7 =>
  kq (some a1) <| fun v8 =>
  kq (aUn .xor v8) <| fun v9 =>
  ke (call N_num_Wrap [v7, v9] h) <| fun v10 h1 =>
  kq (some v10) <| fun v11 =>
  some (v11, h1))
theorem F_num_Not_eq (call callD : ACall) (a0 a1 : AVal) (h : AH) : kFunc Try.prog [] call callD N_num_Not [a0, a1] h = F_num_Not call callD a0 a1 h := by kernel_rfl
theorem C_num_Not {ov : AOver} (H : Plain ov) (n : Nat) (a0 a1 : AVal) (h : AH) : kc ov (n + 1) N_num_Not [a0, a1] h = F_num_Not (kc ov n) (kd ov n) a0 a1 h := by
  have hov : ov N_num_Not = none := H _ (by decide)
  unfold kc kd; rw [← F_num_Not_eq]; simp only [kcall, hov]

/-- rung/num.Range -/
def F_num_Range (call callD : ACall) (a0 : AVal) (h : AH) : Ans :=
  kq (some (.int .i64 0)) <| fun v0 =>
  kq (some (.int .i64 0)) <| fun v1 =>
  kq (some a0) <| fun v2 =>
  ke (call N_num_of [v2] h) <| fun v3 h0 =>
  kq (some v3) <| fun v4 =>
  kq (aExtract v4 0) <| fun v5 =>
  kq (aExtract v4 1) <| fun v6 =>
  km (pBox T_num_kind (.agg [(.str []), (.int .i64 0), (.bool false), (.bool false)])) h0 <| fun v7 h1 =>
  ke ((rStore 4 v7 v5 h1).map fun h' => (.tuple [], h')) <| fun v8 h2 =>
  kq (some v6) <| fun v9 =>
  kq (some v9) <| fun v10 =>
  kq (aUn .not v10) <| fun v11 =>
  kq (some v11) <| fun v12 =>
  kIf v12 (
  kq (some (.int .i64 0)) <| fun v13 =>
  kq (some (.int .i64 0)) <| fun v14 =>
  some (.tuple [v13, v14], h2)) (
  kq (rFieldP 2 v7) <| fun v15 =>
  kq (rLoad v15 h2) <| fun v16 =>
  kq (some v16) <| fun v17 =>
  kIf v17 (
  kq (rFieldP 1 v7) <| fun v18 =>
  kq (rLoad v18 h2) <| fun v19 =>
  kq (rBin .sub .no true v19 (.int .i64 1)) <| fun v20 =>
  kq (rConvI .u64 v20) <| fun v21 =>
  kq (rBin .shl .no true (.int .i64 (-1)) v21) <| fun v22 =>
  kq (rFieldP 1 v7) <| fun v23 =>
  kq (rLoad v23 h2) <| fun v24 =>
  kq (rBin .sub .no true v24 (.int .i64 1)) <| fun v25 =>
  kq (rConvI .u64 v25) <| fun v26 =>
  kq (rBin .shl .no true (.int .i64 1) v26) <| fun v27 =>
  kq (rBin .sub .no true v27 (.int .i64 1)) <| fun v28 =>
  kq (some v22) <| fun v29 =>
  kq (some v28) <| fun v30 =>
  some (.tuple [v29, v30], h2)) (
  kq (rFieldP 1 v7) <| fun v31 =>
  kq (rLoad v31 h2) <| fun v32 =>
  kq (rConvI .u64 v32) <| fun v33 =>
  kq (rBin .shl .no true (.int .i64 1) v33) <| fun v34 =>
  kq (rBin .sub .no true v34 (.int .i64 1)) <| fun v35 =>
  kq (some (.int .i64 0)) <| fun v36 =>
  kq (some v35) <| fun v37 =>
  some (.tuple [v36, v37], h2)))
theorem F_num_Range_eq (call callD : ACall) (a0 : AVal) (h : AH) : kFunc Try.prog [] call callD N_num_Range [a0] h = F_num_Range call callD a0 h := by kernel_rfl
theorem C_num_Range {ov : AOver} (H : Plain ov) (n : Nat) (a0 : AVal) (h : AH) : kc ov (n + 1) N_num_Range [a0] h = F_num_Range (kc ov n) (kd ov n) a0 h := by
  have hov : ov N_num_Range = none := H _ (by decide)
  unfold kc kd; rw [← F_num_Range_eq]; simp only [kcall, hov]

/-- rung/rungref1.Wrap -/
def F_rungref1_Wrap (call callD : ACall) (a0 a1 : AVal) (h : AH) : Ans :=
  kq (some (.int .i64 0)) <| fun v0 =>
  kq (some a0) <| fun v1 =>
  ke (call N_rungref1_Width [v1] h) <| fun v2 h0 =>
  kq (some v2) <| fun v3 =>
  kq (some v3) <| fun v4 =>
  kq (rBin .eql .no true v4 (.int .i64 0)) <| fun v5 =>
  kIf v5 (
  kq (some (.int .i64 0)) <| fun v6 =>
  some (v6, h0)) (
  kq (some a0) <| fun v7 =>
  kq (rBin .eql .no true v7 (.int .i64 1)) <| fun v8 =>
  kIf v8 (
  kq (some a1) <| fun v9 =>
  kq (rBin .neq .no true v9 (.int .i64 0)) <| fun v10 =>
  kIf v10 (
  kq (some (.int .i64 1)) <| fun v11 =>
  some (v11, h0)) (
  kq (some (.int .i64 0)) <| fun v12 =>
  some (v12, h0))) (
  kq (some a1) <| fun v13 =>
  kq (some v3) <| fun v14 =>
  kq (rBin .shl .no true (.int .i64 1) v14) <| fun v15 =>
  kq (rBin .sub .no true v15 (.int .i64 1)) <| fun v16 =>
  kq (rBin .and .no false v13 v16) <| fun v17 =>
  kq (some v17) <| fun v18 =>
  kq (some a0) <| fun v19 =>
  ke (call N_rungref1_Range [v19] h0) <| fun v20 h1 =>
  kq (some v20) <| fun v21 =>
  kq (aExtract v21 0) <| fun v22 =>
  kq (aExtract v21 1) <| fun v23 =>
  kq (some v22) <| fun v24 =>
  kq (some v23) <| fun v25 =>
  kq (some v18) <| fun v26 =>
  kq (some v25) <| fun v27 =>
  kq (rBin .gtr .no false v26 v27) <| fun v28 =>
  kj (fun l29 h2 =>
  kq (some (gd l29 0)) <| fun v31 =>
  kq (some v31) <| fun v32 =>
  some (v32, h2)) <| fun j30 =>
  kIf v28 (
  kq (some v18) <| fun v33 =>
  kq (some v3) <| fun v34 =>
  kq (rBin .shl .no true (.int .i64 1) v34) <| fun v35 =>
  kq (rBin .sub .no false v33 v35) <| fun v36 =>
  kq (some v36) <| fun v37 =>
  j30 [v37] h1) (
  j30 [v18] h1)))
theorem F_rungref1_Wrap_eq (call callD : ACall) (a0 a1 : AVal) (h : AH) : kFunc Try.prog [] call callD N_rungref1_Wrap [a0, a1] h = F_rungref1_Wrap call callD a0 a1 h := by kernel_rfl
theorem C_rungref1_Wrap {ov : AOver} (H : Plain ov) (n : Nat) (a0 a1 : AVal) (h : AH) : kc ov (n + 1) N_rungref1_Wrap [a0, a1] h = F_rungref1_Wrap (kc ov n) (kd ov n) a0 a1 h := by
  have hov : ov N_rungref1_Wrap = none := H _ (by decide)
  unfold kc kd; rw [← F_rungref1_Wrap_eq]; simp only [kcall, hov]

/-- rung/num.Width -/
def F_num_Width (call callD : ACall) (a0 : AVal) (h : AH) : Ans :=
  kq (some (.int .i64 0)) <| fun v0 =>
  kq (some a0) <| fun v1 =>
  ke (call N_num_of [v1] h) <| fun v2 h0 =>
  kq (some v2) <| fun v3 =>
  kq (aExtract v3 0) <| fun v4 =>
  kq (aExtract v3 1) <| fun v5 =>
  km (pBox T_num_kind (.agg [(.str []), (.int .i64 0), (.bool false), (.bool false)])) h0 <| fun v6 h1 =>
  ke ((rStore 4 v6 v4 h1).map fun h' => (.tuple [], h')) <| fun v7 h2 =>
  kq (some v5) <| fun v8 =>
  kq (rFieldP 1 v6) <| fun v9 =>
  kq (rLoad v9 h2) <| fun v10 =>
  kq (some v10) <| fun v11 =>
  some (v11, h2)
theorem F_num_Width_eq (call callD : ACall) (a0 : AVal) (h : AH) : kFunc Try.prog [] call callD N_num_Width [a0] h = F_num_Width call callD a0 h := by kernel_rfl
theorem C_num_Width {ov : AOver} (H : Plain ov) (n : Nat) (a0 : AVal) (h : AH) : kc ov (n + 1) N_num_Width [a0] h = F_num_Width (kc ov n) (kd ov n) a0 h := by
  have hov : ov N_num_Width = none := H _ (by decide)
  unfold kc kd; rw [← F_num_Width_eq]; simp only [kcall, hov]

/-- rung/rungref1.Range -/
def F_rungref1_Range (call callD : ACall) (a0 : AVal) (h : AH) : Ans :=
  kq (some (.int .i64 0)) <| fun v0 =>
  kq (some (.int .i64 0)) <| fun v1 =>
  kq (some a0) <| fun v2 =>
  ke (call N_rungref1_Width [v2] h) <| fun v3 h0 =>
  kq (some v3) <| fun v4 =>
  kq (some v4) <| fun v5 =>
  kq (rBin .eql .no true v5 (.int .i64 0)) <| fun v6 =>
  kIf v6 (
  kq (some (.int .i64 0)) <| fun v7 =>
  kq (some (.int .i64 0)) <| fun v8 =>
  some (.tuple [v7, v8], h0)) (
  kq (some a0) <| fun v9 =>
  ke (call N_rungref1_Signed [v9] h0) <| fun v10 h1 =>
  kIf v10 (
  kq (some v4) <| fun v11 =>
  kq (rBin .sub .no true v11 (.int .i64 1)) <| fun v12 =>
  kq (rBin .shl .no true (.int .i64 (-1)) v12) <| fun v13 =>
  kq (some v4) <| fun v14 =>
  kq (rBin .sub .no true v14 (.int .i64 1)) <| fun v15 =>
  kq (rBin .shl .no true (.int .i64 1) v15) <| fun v16 =>
  kq (rBin .sub .no true v16 (.int .i64 1)) <| fun v17 =>
  kq (some v13) <| fun v18 =>
  kq (some v17) <| fun v19 =>
  some (.tuple [v18, v19], h1)) (
  kq (some v4) <| fun v20 =>
  kq (rBin .shl .no true (.int .i64 1) v20) <| fun v21 =>
  kq (rBin .sub .no true v21 (.int .i64 1)) <| fun v22 =>
  kq (some (.int .i64 0)) <| fun v23 =>
  kq (some v22) <| fun v24 =>
  some (.tuple [v23, v24], h1)))
theorem F_rungref1_Range_eq (call callD : ACall) (a0 : AVal) (h : AH) : kFunc Try.prog [] call callD N_rungref1_Range [a0] h = F_rungref1_Range call callD a0 h := by kernel_rfl
theorem C_rungref1_Range {ov : AOver} (H : Plain ov) (n : Nat) (a0 : AVal) (h : AH) : kc ov (n + 1) N_rungref1_Range [a0] h = F_rungref1_Range (kc ov n) (kd ov n) a0 h := by
  have hov : ov N_rungref1_Range = none := H _ (by decide)
  unfold kc kd; rw [← F_rungref1_Range_eq]; simp only [kcall, hov]

/-- rung/num.Scalar -/
def F_num_Scalar (call callD : ACall) (a0 : AVal) (h : AH) : Ans :=
  kq (some (.bool false)) <| fun v0 =>
  kq (some a0) <| fun v1 =>
  ke (call N_num_of [v1] h) <| fun v2 h0 =>
  kq (some v2) <| fun v3 =>
  kq (aExtract v3 0) <| fun v4 =>
  kq (aExtract v3 1) <| fun v5 =>
  km (pBox T_num_kind (.agg [(.str []), (.int .i64 0), (.bool false), (.bool false)])) h0 <| fun v6 h1 =>
  ke ((rStore 4 v6 v4 h1).map fun h' => (.tuple [], h')) <| fun v7 h2 =>
  kq (some v5) <| fun v8 =>
  kq (some v8) <| fun v9 =>
  kq (some v9) <| fun v10 =>
  some (v10, h2)
theorem F_num_Scalar_eq (call callD : ACall) (a0 : AVal) (h : AH) : kFunc Try.prog [] call callD N_num_Scalar [a0] h = F_num_Scalar call callD a0 h := by kernel_rfl
theorem C_num_Scalar {ov : AOver} (H : Plain ov) (n : Nat) (a0 : AVal) (h : AH) : kc ov (n + 1) N_num_Scalar [a0] h = F_num_Scalar (kc ov n) (kd ov n) a0 h := by
  have hov : ov N_num_Scalar = none := H _ (by decide)
  unfold kc kd; rw [← F_num_Scalar_eq]; simp only [kcall, hov]

/-- rung/rungref1.Scalar -/
def F_rungref1_Scalar (call callD : ACall) (a0 : AVal) (h : AH) : Ans :=
  kq (some (.bool false)) <| fun v0 =>
  kq (some a0) <| fun v1 =>
  kq (rBin .geq .no true v1 (.int .i64 1)) <| fun v2 =>
  kq (some v2) <| fun v3 =>
  kt (fun v8 =>
  kq (some v8) <| fun v9 =>
  some (v9, h)) <| fun j4 =>
  kgq v3 true (fun k => kq (some a0) k) <| fun v5 =>
  kgq v3 true (fun k => kq (rBin .leq .no true v5 (.int .i64 11)) k) <| fun v6 =>
  kq (rPick v3 v6 (.bool false)) <| fun v7 =>
  j4 v7
theorem F_rungref1_Scalar_eq (call callD : ACall) (a0 : AVal) (h : AH) : kFunc Try.prog [] call callD N_rungref1_Scalar [a0] h = F_rungref1_Scalar call callD a0 h := by kernel_rfl
theorem C_rungref1_Scalar {ov : AOver} (H : Plain ov) (n : Nat) (a0 : AVal) (h : AH) : kc ov (n + 1) N_rungref1_Scalar [a0] h = F_rungref1_Scalar (kc ov n) (kd ov n) a0 h := by
  have hov : ov N_rungref1_Scalar = none := H _ (by decide)
  unfold kc kd; rw [← F_rungref1_Scalar_eq]; simp only [kcall, hov]

/-- rung/num.Signed -/
def F_num_Signed (call callD : ACall) (a0 : AVal) (h : AH) : Ans :=
  kq (some (.bool false)) <| fun v0 =>
  kq (some a0) <| fun v1 =>
  ke (call N_num_of [v1] h) <| fun v2 h0 =>
  kq (some v2) <| fun v3 =>
  kq (aExtract v3 0) <| fun v4 =>
  kq (aExtract v3 1) <| fun v5 =>
  km (pBox T_num_kind (.agg [(.str []), (.int .i64 0), (.bool false), (.bool false)])) h0 <| fun v6 h1 =>
  ke ((rStore 4 v6 v4 h1).map fun h' => (.tuple [], h')) <| fun v7 h2 =>
  kq (some v5) <| fun v8 =>
  kq (rFieldP 2 v6) <| fun v9 =>
  kq (rLoad v9 h2) <| fun v10 =>
  kq (some v10) <| fun v11 =>
  some (v11, h2)
theorem F_num_Signed_eq (call callD : ACall) (a0 : AVal) (h : AH) : kFunc Try.prog [] call callD N_num_Signed [a0] h = F_num_Signed call callD a0 h := by kernel_rfl
theorem C_num_Signed {ov : AOver} (H : Plain ov) (n : Nat) (a0 : AVal) (h : AH) : kc ov (n + 1) N_num_Signed [a0] h = F_num_Signed (kc ov n) (kd ov n) a0 h := by
  have hov : ov N_num_Signed = none := H _ (by decide)
  unfold kc kd; rw [← F_num_Signed_eq]; simp only [kcall, hov]

/-- rung/rungref1.Signed -/
def F_rungref1_Signed (call callD : ACall) (a0 : AVal) (h : AH) : Ans :=
  kq (some (.bool false)) <| fun v0 =>
  kq (some a0) <| fun v1 =>
  kq (rBin .eql .no true v1 (.int .i64 2)) <| fun v2 =>
  kq (some v2) <| fun v3 =>
  kt (fun v16 =>
  kq (some v16) <| fun v17 =>
  some (v17, h)) <| fun j4 =>
  kgq v3 false (fun k => kq (some a0) k) <| fun v5 =>
  kgq v3 false (fun k => kq (rBin .eql .no true v5 (.int .i64 3)) k) <| fun v6 =>
  kq (rPick v3 (.bool true) v6) <| fun v7 =>
  kq (some v7) <| fun v8 =>
  kgq v8 false (fun k => kq (some a0) k) <| fun v9 =>
  kgq v8 false (fun k => kq (rBin .eql .no true v9 (.int .i64 4)) k) <| fun v10 =>
  kq (rPick v8 (.bool true) v10) <| fun v11 =>
  kq (some v11) <| fun v12 =>
  kgq v12 false (fun k => kq (some a0) k) <| fun v13 =>
  kgq v12 false (fun k => kq (rBin .eql .no true v13 (.int .i64 11)) k) <| fun v14 =>
  kq (rPick v12 (.bool true) v14) <| fun v15 =>
  j4 v15
theorem F_rungref1_Signed_eq (call callD : ACall) (a0 : AVal) (h : AH) : kFunc Try.prog [] call callD N_rungref1_Signed [a0] h = F_rungref1_Signed call callD a0 h := by kernel_rfl
theorem C_rungref1_Signed {ov : AOver} (H : Plain ov) (n : Nat) (a0 : AVal) (h : AH) : kc ov (n + 1) N_rungref1_Signed [a0] h = F_rungref1_Signed (kc ov n) (kd ov n) a0 h := by
  have hov : ov N_rungref1_Signed = none := H _ (by decide)
  unfold kc kd; rw [← F_rungref1_Signed_eq]; simp only [kcall, hov]

/-- rung/rungref1.Width -/
def F_rungref1_Width (call callD : ACall) (a0 : AVal) (h : AH) : Ans :=
  kq (some (.int .i64 0)) <| fun v0 =>
  kq (some a0) <| fun v1 =>
  ke (call N_rungref1_Scalar [v1] h) <| fun v2 h0 =>
  kq (aUn .not v2) <| fun v3 =>
  kIf v3 (
  kq (some (.int .i64 0)) <| fun v4 =>
  some (v4, h0)) (
  km (mBuildSl T_int 1 [(.int .i64 0)] 11 [(0, (.int .i64 1)), (1, (.int .i64 8)), (2, (.int .i64 16)), (3, (.int .i64 32)), (4, (.int .i64 8)), (5, (.int .i64 16)), (6, (.int .i64 32)), (7, (.int .i64 8)), (8, (.int .i64 16)), (9, (.int .i64 32)), (10, (.int .i64 32))]) h0 <| fun v5 h1 =>
  kq (some a0) <| fun v6 =>
  kq (rBin .sub .no true v6 (.int .i64 1)) <| fun v7 =>
  kq (rAt 1 v5 v7) <| fun v8 =>
  kq (rLoad v8 h1) <| fun v9 =>
  kq (some v9) <| fun v10 =>
  some (v10, h1))
theorem F_rungref1_Width_eq (call callD : ACall) (a0 : AVal) (h : AH) : kFunc Try.prog [] call callD N_rungref1_Width [a0] h = F_rungref1_Width call callD a0 h := by kernel_rfl
theorem C_rungref1_Width {ov : AOver} (H : Plain ov) (n : Nat) (a0 : AVal) (h : AH) : kc ov (n + 1) N_rungref1_Width [a0] h = F_rungref1_Width (kc ov n) (kd ov n) a0 h := by
  have hov : ov N_rungref1_Width = none := H _ (by decide)
  unfold kc kd; rw [← F_rungref1_Width_eq]; simp only [kcall, hov]

/-- rung/num.Name -/
def F_num_Name (call callD : ACall) (a0 : AVal) (h : AH) : Ans :=
  kq (some (.str [])) <| fun v0 =>
  kq (some a0) <| fun v1 =>
  ke (call N_num_of [v1] h) <| fun v2 h0 =>
  kq (some v2) <| fun v3 =>
  kq (aExtract v3 0) <| fun v4 =>
  kq (aExtract v3 1) <| fun v5 =>
  km (pBox T_num_kind (.agg [(.str []), (.int .i64 0), (.bool false), (.bool false)])) h0 <| fun v6 h1 =>
  ke ((rStore 4 v6 v4 h1).map fun h' => (.tuple [], h')) <| fun v7 h2 =>
  kq (some v5) <| fun v8 =>
  kq (rFieldP 0 v6) <| fun v9 =>
  kq (rLoad v9 h2) <| fun v10 =>
  kq (some v10) <| fun v11 =>
  some (v11, h2)
theorem F_num_Name_eq (call callD : ACall) (a0 : AVal) (h : AH) : kFunc Try.prog [] call callD N_num_Name [a0] h = F_num_Name call callD a0 h := by kernel_rfl
theorem C_num_Name {ov : AOver} (H : Plain ov) (n : Nat) (a0 : AVal) (h : AH) : kc ov (n + 1) N_num_Name [a0] h = F_num_Name (kc ov n) (kd ov n) a0 h := by
  have hov : ov N_num_Name = none := H _ (by decide)
  unfold kc kd; rw [← F_num_Name_eq]; simp only [kcall, hov]

/-- rung/rungref1.Name -/
def F_rungref1_Name (call callD : ACall) (a0 : AVal) (h : AH) : Ans :=
  kq (some (.str [])) <| fun v0 =>
  kq (some a0) <| fun v1 =>
  ke (call N_rungref1_Scalar [v1] h) <| fun v2 h0 =>
  kq (aUn .not v2) <| fun v3 =>
  kIf v3 (
  kq (some (.str [])) <| fun v4 =>
  some (v4, h0)) (
  ke (call N_rungref1_names [] h0) <| fun v5 h1 =>
  kq (some a0) <| fun v6 =>
  kq (rBin .sub .no true v6 (.int .i64 1)) <| fun v7 =>
  kq (rAt 1 v5 v7) <| fun v8 =>
  kq (rLoad v8 h1) <| fun v9 =>
  kq (some v9) <| fun v10 =>
  some (v10, h1))
theorem F_rungref1_Name_eq (call callD : ACall) (a0 : AVal) (h : AH) : kFunc Try.prog [] call callD N_rungref1_Name [a0] h = F_rungref1_Name call callD a0 h := by kernel_rfl
theorem C_rungref1_Name {ov : AOver} (H : Plain ov) (n : Nat) (a0 : AVal) (h : AH) : kc ov (n + 1) N_rungref1_Name [a0] h = F_rungref1_Name (kc ov n) (kd ov n) a0 h := by
  have hov : ov N_rungref1_Name = none := H _ (by decide)
  unfold kc kd; rw [← F_rungref1_Name_eq]; simp only [kcall, hov]

/-- rung/num.Kind -/
def L_num_Kind_0 (call callD : ACall) (a0 : AVal) : (List AVal → AH → Ans) → List AVal → AH → Ans := fun j3 l2 h0 =>
  kq (some (gd l2 0)) <| fun v4 =>
  kq (rBin .leq .no true v4 (.int .i64 11)) <| fun v5 =>
  kq (some v5) <| fun v6 =>
  kt (fun v11 =>
  kIf v11 (
  kq (some (gd l2 0)) <| fun v12 =>
  ke (call N_num_Name [v12] h0) <| fun v13 h2 =>
  kq (some a0) <| fun v14 =>
  kq (rBin .eql .no false v13 v14) <| fun v15 =>
  kIf v15 (
  kq (some (gd l2 0)) <| fun v16 =>
  kq (some v16) <| fun v17 =>
  some (v17, h2)) (
  kq (some (gd l2 0)) <| fun v18 =>
  kq (rBin .add .no true v18 (.int .i64 1)) <| fun v19 =>
  kq (some v19) <| fun v20 =>
  j3 [v20] h2)) (
  kq (some (.int .i64 0)) <| fun v21 =>
  some (v21, h0))) <| fun j7 =>
  kgq v6 true (fun k => kq (some a0) k) <| fun v8 =>
  kgq v6 true (fun k => kq (rBin .neq .no true v8 (.str [])) k) <| fun v9 =>
  kq (rPick v6 v9 (.bool false)) <| fun v10 =>
  j7 v10
def F_num_Kind (call callD : ACall) (a0 : AVal) (h : AH) : Ans :=
  kq (some (.int .i64 0)) <| fun v0 =>
  kq (some (.int .i64 1)) <| fun v1 =>
  kLoop (L_num_Kind_0 call callD a0) rounds [v1] h
theorem F_num_Kind_eq (call callD : ACall) (a0 : AVal) (h : AH) : kFunc Try.prog [] call callD N_num_Kind [a0] h = F_num_Kind call callD a0 h := by kernel_rfl
theorem C_num_Kind {ov : AOver} (H : Plain ov) (n : Nat) (a0 : AVal) (h : AH) : kc ov (n + 1) N_num_Kind [a0] h = F_num_Kind (kc ov n) (kd ov n) a0 h := by
  have hov : ov N_num_Kind = none := H _ (by decide)
  unfold kc kd; rw [← F_num_Kind_eq]; simp only [kcall, hov]

/-- rung/rungref1.Kind -/
def L_rungref1_Kind_0 (call callD : ACall) (v2 : AVal) (a0 : AVal) : (List AVal → AH → Ans) → List AVal → AH → Ans := fun j5 l4 h1 =>
  kq (some (gd l4 0)) <| fun v6 =>
  kq (some v2) <| fun v7 =>
  kq (rLen v7) <| fun v8 =>
  kq (rBin .lss .no false v6 v8) <| fun v9 =>
  kIf v9 (
  kq (some v2) <| fun v10 =>
  kq (some (gd l4 0)) <| fun v11 =>
  kq (rAt 1 v10 v11) <| fun v12 =>
  kq (rLoad v12 h1) <| fun v13 =>
  kq (some a0) <| fun v14 =>
  kq (rBin .eql .no false v13 v14) <| fun v15 =>
  kIf v15 (
  kq (some (gd l4 0)) <| fun v16 =>
  kq (rBin .add .no true v16 (.int .i64 1)) <| fun v17 =>
  kq (some v17) <| fun v18 =>
  some (v18, h1)) (
  kq (some (gd l4 0)) <| fun v19 =>
  kq (rBin .add .no true v19 (.int .i64 1)) <| fun v20 =>
  kq (some v20) <| fun v21 =>
  j5 [v21] h1)) (
  kq (some (.int .i64 0)) <| fun v22 =>
  some (v22, h1))
def F_rungref1_Kind (call callD : ACall) (a0 : AVal) (h : AH) : Ans :=
  kq (some (.int .i64 0)) <| fun v0 =>
  ke (call N_rungref1_names [] h) <| fun v1 h0 =>
  kq (some v1) <| fun v2 =>
  kq (some (.int .i64 0)) <| fun v3 =>
  kLoop (L_rungref1_Kind_0 call callD v2 a0) rounds [v3] h0
theorem F_rungref1_Kind_eq (call callD : ACall) (a0 : AVal) (h : AH) : kFunc Try.prog [] call callD N_rungref1_Kind [a0] h = F_rungref1_Kind call callD a0 h := by kernel_rfl
theorem C_rungref1_Kind {ov : AOver} (H : Plain ov) (n : Nat) (a0 : AVal) (h : AH) : kc ov (n + 1) N_rungref1_Kind [a0] h = F_rungref1_Kind (kc ov n) (kd ov n) a0 h := by
  have hov : ov N_rungref1_Kind = none := H _ (by decide)
  unfold kc kd; rw [← F_rungref1_Kind_eq]; simp only [kcall, hov]

/-- rung/num.Convert -/
def F_num_Convert (call callD : ACall) (a0 a1 a2 : AVal) (h : AH) : Ans :=
  kq (some (.int .i64 0)) <| fun v0 =>
  kq (some a1) <| fun v1 =>
  kq (some a0) <| fun v2 =>
  kq (some a2) <| fun v3 =>
  ke (call N_num_Wrap [v2, v3] h) <| fun v4 h0 =>
  ke (call N_num_Wrap [v1, v4] h0) <| fun v5 h1 =>
  kq (some v5) <| fun v6 =>
  some (v6, h1)
theorem F_num_Convert_eq (call callD : ACall) (a0 a1 a2 : AVal) (h : AH) : kFunc Try.prog [] call callD N_num_Convert [a0, a1, a2] h = F_num_Convert call callD a0 a1 a2 h := by kernel_rfl
theorem C_num_Convert {ov : AOver} (H : Plain ov) (n : Nat) (a0 a1 a2 : AVal) (h : AH) : kc ov (n + 1) N_num_Convert [a0, a1, a2] h = F_num_Convert (kc ov n) (kd ov n) a0 a1 a2 h := by
  have hov : ov N_num_Convert = none := H _ (by decide)
  unfold kc kd; rw [← F_num_Convert_eq]; simp only [kcall, hov]

/-- rung/rungref1.Convert -/
def F_rungref1_Convert (call callD : ACall) (a0 a1 a2 : AVal) (h : AH) : Ans :=
  kq (some (.int .i64 0)) <| fun v0 =>
  kq (some a1) <| fun v1 =>
  kq (some a0) <| fun v2 =>
  kq (some a2) <| fun v3 =>
  ke (call N_rungref1_Wrap [v2, v3] h) <| fun v4 h0 =>
  ke (call N_rungref1_Wrap [v1, v4] h0) <| fun v5 h1 =>
  kq (some v5) <| fun v6 =>
  some (v6, h1)
theorem F_rungref1_Convert_eq (call callD : ACall) (a0 a1 a2 : AVal) (h : AH) : kFunc Try.prog [] call callD N_rungref1_Convert [a0, a1, a2] h = F_rungref1_Convert call callD a0 a1 a2 h := by kernel_rfl
theorem C_rungref1_Convert {ov : AOver} (H : Plain ov) (n : Nat) (a0 a1 a2 : AVal) (h : AH) : kc ov (n + 1) N_rungref1_Convert [a0, a1, a2] h = F_rungref1_Convert (kc ov n) (kd ov n) a0 a1 a2 h := by
  have hov : ov N_rungref1_Convert = none := H _ (by decide)
  unfold kc kd; rw [← F_rungref1_Convert_eq]; simp only [kcall, hov]

/-- rung/num.Shift -/
def F_num_Shift (call callD : ACall) (a0 a1 a2 a3 : AVal) (h : AH) : Ans :=
  kq (some (.int .i64 0)) <| fun v0 =>
  kq (some a1) <| fun v1 =>
  ke (call N_num_of [v1] h) <| fun v2 h0 =>
  kq (some v2) <| fun v3 =>
  kq (aExtract v3 0) <| fun v4 =>
  kq (aExtract v3 1) <| fun v5 =>
  km (pBox T_num_kind (.agg [(.str []), (.int .i64 0), (.bool false), (.bool false)])) h0 <| fun v6 h1 =>
  ke ((rStore 4 v6 v4 h1).map fun h' => (.tuple [], h')) <| fun v7 h2 =>
  kq (some v5) <| fun v8 =>
  kq (rFieldP 3 v6) <| fun v9 =>
  kq (rLoad v9 h2) <| fun v10 =>
  kq (aUn .not v10) <| fun v11 =>
  kq (some v11) <| fun v12 =>
  kt (fun v17 =>
  kIf v17 (
  kq (some (.int .i64 0)) <| fun v18 =>
  some (v18, h2)) (
  kq (rFieldP 1 v6) <| fun v19 =>
  kq (rLoad v19 h2) <| fun v20 =>
  kq (some v20) <| fun v21 =>
  kq (some a1) <| fun v22 =>
  kq (some a2) <| fun v23 =>
  ke (call N_num_Wrap [v22, v23] h2) <| fun v24 h4 =>
  kq (some a3) <| fun v25 =>
  kq (aMM aMax2 [v25, (.int .i64 0)]) <| fun v26 =>
  kq (some v24) <| fun v27 =>
  kq (some v26) <| fun v28 =>
  kq (some a0) <| fun v29 =>
  kq (rBin .eql .no true v29 (.str [83, 72, 76])) <| fun v30 =>
  kq (some v30) <| fun v31 =>
  kIf v31 (
  kq (some v28) <| fun v32 =>
  kq (some v21) <| fun v33 =>
  kq (rBin .geq .no false v32 v33) <| fun v34 =>
  kIf v34 (
  kq (some (.int .i64 0)) <| fun v35 =>
  some (v35, h4)) (
  kq (some a1) <| fun v36 =>
  kq (some v27) <| fun v37 =>
  kq (some v28) <| fun v38 =>
  kq (rConvI .u64 v38) <| fun v39 =>
  kq (rBin .shl .no false v37 v39) <| fun v40 =>
  ke (call N_num_Wrap [v36, v40] h4) <| fun v41 h5 =>
  kq (some v41) <| fun v42 =>
  some (v42, h5))) (
  kq (rBin .eql .no true v29 (.str [83, 72, 82])) <| fun v43 =>
  kq (some v43) <| fun v44 =>
  kIf v44 (
  kq (some v28) <| fun v45 =>
  kq (some v21) <| fun v46 =>
  kq (rBin .geq .no false v45 v46) <| fun v47 =>
  kIf v47 (
  kq (some (.int .i64 0)) <| fun v48 =>
  some (v48, h4)) (
  kq (some v27) <| fun v49 =>
  kq (some v28) <| fun v50 =>
  kq (rConvI .u64 v50) <| fun v51 =>
  kq (rBin .shr .no false v49 v51) <| fun v52 =>
  kq (some v52) <| fun v53 =>
  some (v53, h4))) (
  kq (rBin .eql .no true v29 (.str [82, 79, 76])) <| fun v54 =>
  kq (some v54) <| fun v55 =>
  kIf v55 (
  kq (some v28) <| fun v56 =>
  kq (some v21) <| fun v57 =>
  kq (rBin .rem .no false v56 v57) <| fun v58 =>
  kq (some v58) <| fun v59 =>
  kq (some a1) <| fun v60 =>
  kq (some v27) <| fun v61 =>
  kq (some v59) <| fun v62 =>
  kq (rConvI .u64 v62) <| fun v63 =>
  kq (rBin .shl .no false v61 v63) <| fun v64 =>
  kq (some v27) <| fun v65 =>
  kq (some v21) <| fun v66 =>
  kq (some v59) <| fun v67 =>
  kq (rBin .sub .no false v66 v67) <| fun v68 =>
  kq (rConvI .u64 v68) <| fun v69 =>
  kq (rBin .shr .no false v65 v69) <| fun v70 =>
  kq (rBin .or .no false v64 v70) <| fun v71 =>
  ke (call N_num_Wrap [v60, v71] h4) <| fun v72 h6 =>
  kq (some v72) <| fun v73 =>
  some (v73, h6)) (
  kq (rBin .eql .no true v29 (.str [82, 79, 82])) <| fun v74 =>
  kq (some v74) <| fun v75 =>
  kIf v75 (
  kq (some v28) <| fun v76 =>
  kq (some v21) <| fun v77 =>
  kq (rBin .rem .no false v76 v77) <| fun v78 =>
  kq (some v78) <| fun v79 =>
  kq (some a1) <| fun v80 =>
  kq (some v27) <| fun v81 =>
  kq (some v79) <| fun v82 =>
  kq (rConvI .u64 v82) <| fun v83 =>
  kq (rBin .shr .no false v81 v83) <| fun v84 =>
  kq (some v27) <| fun v85 =>
  kq (some v21) <| fun v86 =>
  kq (some v79) <| fun v87 =>
  kq (rBin .sub .no false v86 v87) <| fun v88 =>
  kq (rConvI .u64 v88) <| fun v89 =>
  kq (rBin .shl .no false v85 v89) <| fun v90 =>
  kq (rBin .or .no false v84 v90) <| fun v91 =>
  ke (call N_num_Wrap [v80, v91] h4) <| fun v92 h7 =>
  kq (some v92) <| fun v93 =>
  some (v93, h7)) (
  kq (some (.int .i64 0)) <| fun v94 =>
  some (v94, h4))))))) <| fun j13 =>
  kgq v12 false (fun k => kq (some a1) k) <| fun v14 =>
  kgq v12 false (fun k => kq (rBin .eql .no true v14 (.int .i64 1)) k) <| fun v15 =>
  kq (rPick v12 (.bool true) v15) <| fun v16 =>
  j13 v16
theorem F_num_Shift_eq (call callD : ACall) (a0 a1 a2 a3 : AVal) (h : AH) : kFunc Try.prog [] call callD N_num_Shift [a0, a1, a2, a3] h = F_num_Shift call callD a0 a1 a2 a3 h := by kernel_rfl
theorem C_num_Shift {ov : AOver} (H : Plain ov) (n : Nat) (a0 a1 a2 a3 : AVal) (h : AH) : kc ov (n + 1) N_num_Shift [a0, a1, a2, a3] h = F_num_Shift (kc ov n) (kd ov n) a0 a1 a2 a3 h := by
  have hov : ov N_num_Shift = none := H _ (by decide)
  unfold kc kd; rw [← F_num_Shift_eq]; simp only [kcall, hov]

/-- rung/rungref1.Shift -/
def F_rungref1_Shift (call callD : ACall) (a0 a1 a2 a3 : AVal) (h : AH) : Ans :=
  kq (some (.int .i64 0)) <| fun v0 =>
  kq (some a1) <| fun v1 =>
  ke (call N_rungref1_Bits [v1] h) <| fun v2 h0 =>
  kq (aUn .not v2) <| fun v3 =>
  kIf v3 (
  kq (some (.int .i64 0)) <| fun v4 =>
  some (v4, h0)) (
  kq (some a1) <| fun v5 =>
  ke (call N_rungref1_Width [v5] h0) <| fun v6 h1 =>
  kq (some v6) <| fun v7 =>
  kq (some a1) <| fun v8 =>
  kq (some a2) <| fun v9 =>
  ke (call N_rungref1_Wrap [v8, v9] h1) <| fun v10 h2 =>
  kq (some a3) <| fun v11 =>
  kq (aMM aMax2 [v11, (.int .i64 0)]) <| fun v12 =>
  kq (some v10) <| fun v13 =>
  kq (some v12) <| fun v14 =>
  kq (some a0) <| fun v15 =>
  kq (rBin .eql .no true v15 (.str [83, 72, 76])) <| fun v16 =>
  kq (some v16) <| fun v17 =>
  kIf v17 (
  kq (some v14) <| fun v18 =>
  kq (some v7) <| fun v19 =>
  kq (rBin .geq .no false v18 v19) <| fun v20 =>
  kIf v20 (
  kq (some (.int .i64 0)) <| fun v21 =>
  some (v21, h2)) (
  kq (some a1) <| fun v22 =>
  kq (some v13) <| fun v23 =>
  kq (some v14) <| fun v24 =>
  kq (rBin .shl .no false v23 v24) <| fun v25 =>
  ke (call N_rungref1_Wrap [v22, v25] h2) <| fun v26 h3 =>
  kq (some v26) <| fun v27 =>
  some (v27, h3))) (
  kq (rBin .eql .no true v15 (.str [83, 72, 82])) <| fun v28 =>
  kq (some v28) <| fun v29 =>
  kIf v29 (
  kq (some v14) <| fun v30 =>
  kq (some v7) <| fun v31 =>
  kq (rBin .geq .no false v30 v31) <| fun v32 =>
  kIf v32 (
  kq (some (.int .i64 0)) <| fun v33 =>
  some (v33, h2)) (
  kq (some v13) <| fun v34 =>
  kq (some v14) <| fun v35 =>
  kq (rBin .shr .no false v34 v35) <| fun v36 =>
  kq (some v36) <| fun v37 =>
  some (v37, h2))) (
  kq (rBin .eql .no true v15 (.str [82, 79, 76])) <| fun v38 =>
  kq (some v38) <| fun v39 =>
  kIf v39 (
  kq (some v14) <| fun v40 =>
  kq (some v7) <| fun v41 =>
  kq (rBin .rem .no false v40 v41) <| fun v42 =>
  kq (some v42) <| fun v43 =>
  kq (some a1) <| fun v44 =>
  kq (some v13) <| fun v45 =>
  kq (some v43) <| fun v46 =>
  kq (rBin .shl .no false v45 v46) <| fun v47 =>
  kq (some v13) <| fun v48 =>
  kq (some v7) <| fun v49 =>
  kq (some v43) <| fun v50 =>
  kq (rBin .sub .no false v49 v50) <| fun v51 =>
  kq (rBin .shr .no false v48 v51) <| fun v52 =>
  kq (rBin .or .no false v47 v52) <| fun v53 =>
  ke (call N_rungref1_Wrap [v44, v53] h2) <| fun v54 h4 =>
  kq (some v54) <| fun v55 =>
  some (v55, h4)) (
  kq (rBin .eql .no true v15 (.str [82, 79, 82])) <| fun v56 =>
  kq (some v56) <| fun v57 =>
  kIf v57 (
  kq (some v14) <| fun v58 =>
  kq (some v7) <| fun v59 =>
  kq (rBin .rem .no false v58 v59) <| fun v60 =>
  kq (some v60) <| fun v61 =>
  kq (some a1) <| fun v62 =>
  kq (some v13) <| fun v63 =>
  kq (some v61) <| fun v64 =>
  kq (rBin .shr .no false v63 v64) <| fun v65 =>
  kq (some v13) <| fun v66 =>
  kq (some v7) <| fun v67 =>
  kq (some v61) <| fun v68 =>
  kq (rBin .sub .no false v67 v68) <| fun v69 =>
  kq (rBin .shl .no false v66 v69) <| fun v70 =>
  kq (rBin .or .no false v65 v70) <| fun v71 =>
  ke (call N_rungref1_Wrap [v62, v71] h2) <| fun v72 h5 =>
  kq (some v72) <| fun v73 =>
  some (v73, h5)) (
  kq (some (.int .i64 0)) <| fun v74 =>
  some (v74, h2))))))
theorem F_rungref1_Shift_eq (call callD : ACall) (a0 a1 a2 a3 : AVal) (h : AH) : kFunc Try.prog [] call callD N_rungref1_Shift [a0, a1, a2, a3] h = F_rungref1_Shift call callD a0 a1 a2 a3 h := by kernel_rfl
theorem C_rungref1_Shift {ov : AOver} (H : Plain ov) (n : Nat) (a0 a1 a2 a3 : AVal) (h : AH) : kc ov (n + 1) N_rungref1_Shift [a0, a1, a2, a3] h = F_rungref1_Shift (kc ov n) (kd ov n) a0 a1 a2 a3 h := by
  have hov : ov N_rungref1_Shift = none := H _ (by decide)
  unfold kc kd; rw [← F_rungref1_Shift_eq]; simp only [kcall, hov]

/-- rung/num.of -/
def F_num_of (call callD : ACall) (a0 : AVal) (h : AH) : Ans :=
  km (pBox T_num_kind (.agg [(.str []), (.int .i64 0), (.bool false), (.bool false)])) h <| fun v0 h0 =>
  kq (some (.bool false)) <| fun v1 =>
  kq (some a0) <| fun v2 =>
  kq (rBin .eql .no true v2 (.int .i64 1)) <| fun v3 =>
  kq (some v3) <| fun v4 =>
  kIf v4 (
  kq (rBuild [(.str []), (.int .i64 0), (.bool false), (.bool false)] [(0, 1), (1, 1), (2, 1), (3, 1)] [(0, (.str [66, 79, 79, 76])), (1, (.int .i64 1)), (2, (.bool false)), (3, (.bool true))]) <| fun v5 =>
  ke ((rStore 4 v0 v5 h0).map fun h' => (.tuple [], h')) <| fun v6 h1 =>
  kq (some (.bool true)) <| fun v7 =>
  kq (rLoadA 4 v0 h1) <| fun v8 =>
  some (.tuple [v8, v7], h1)) (
  kq (rBin .eql .no true v2 (.int .i64 2)) <| fun v9 =>
  kq (some v9) <| fun v10 =>
  kIf v10 (
  kq (rBuild [(.str []), (.int .i64 0), (.bool false), (.bool false)] [(0, 1), (1, 1), (2, 1), (3, 1)] [(0, (.str [83, 73, 78, 84])), (1, (.int .i64 8)), (2, (.bool true)), (3, (.bool false))]) <| fun v11 =>
  ke ((rStore 4 v0 v11 h0).map fun h' => (.tuple [], h')) <| fun v12 h2 =>
  kq (some (.bool true)) <| fun v13 =>
  kq (rLoadA 4 v0 h2) <| fun v14 =>
  some (.tuple [v14, v13], h2)) (
  kq (rBin .eql .no true v2 (.int .i64 3)) <| fun v15 =>
  kq (some v15) <| fun v16 =>
  kIf v16 (
  kq (rBuild [(.str []), (.int .i64 0), (.bool false), (.bool false)] [(0, 1), (1, 1), (2, 1), (3, 1)] [(0, (.str [73, 78, 84])), (1, (.int .i64 16)), (2, (.bool true)), (3, (.bool false))]) <| fun v17 =>
  ke ((rStore 4 v0 v17 h0).map fun h' => (.tuple [], h')) <| fun v18 h3 =>
  kq (some (.bool true)) <| fun v19 =>
  kq (rLoadA 4 v0 h3) <| fun v20 =>
  some (.tuple [v20, v19], h3)) (
  kq (rBin .eql .no true v2 (.int .i64 4)) <| fun v21 =>
  kq (some v21) <| fun v22 =>
  kIf v22 (
  kq (rBuild [(.str []), (.int .i64 0), (.bool false), (.bool false)] [(0, 1), (1, 1), (2, 1), (3, 1)] [(0, (.str [68, 73, 78, 84])), (1, (.int .i64 32)), (2, (.bool true)), (3, (.bool false))]) <| fun v23 =>
  ke ((rStore 4 v0 v23 h0).map fun h' => (.tuple [], h')) <| fun v24 h4 =>
  kq (some (.bool true)) <| fun v25 =>
  kq (rLoadA 4 v0 h4) <| fun v26 =>
  some (.tuple [v26, v25], h4)) (
  kq (rBin .eql .no true v2 (.int .i64 5)) <| fun v27 =>
  kq (some v27) <| fun v28 =>
  kIf v28 (
  kq (rBuild [(.str []), (.int .i64 0), (.bool false), (.bool false)] [(0, 1), (1, 1), (2, 1), (3, 1)] [(0, (.str [85, 83, 73, 78, 84])), (1, (.int .i64 8)), (2, (.bool false)), (3, (.bool false))]) <| fun v29 =>
  ke ((rStore 4 v0 v29 h0).map fun h' => (.tuple [], h')) <| fun v30 h5 =>
  kq (some (.bool true)) <| fun v31 =>
  kq (rLoadA 4 v0 h5) <| fun v32 =>
  some (.tuple [v32, v31], h5)) (
  kq (rBin .eql .no true v2 (.int .i64 6)) <| fun v33 =>
  kq (some v33) <| fun v34 =>
  kIf v34 (
  kq (rBuild [(.str []), (.int .i64 0), (.bool false), (.bool false)] [(0, 1), (1, 1), (2, 1), (3, 1)] [(0, (.str [85, 73, 78, 84])), (1, (.int .i64 16)), (2, (.bool false)), (3, (.bool false))]) <| fun v35 =>
  ke ((rStore 4 v0 v35 h0).map fun h' => (.tuple [], h')) <| fun v36 h6 =>
  kq (some (.bool true)) <| fun v37 =>
  kq (rLoadA 4 v0 h6) <| fun v38 =>
  some (.tuple [v38, v37], h6)) (
  kq (rBin .eql .no true v2 (.int .i64 7)) <| fun v39 =>
  kq (some v39) <| fun v40 =>
  kIf v40 (
  kq (rBuild [(.str []), (.int .i64 0), (.bool false), (.bool false)] [(0, 1), (1, 1), (2, 1), (3, 1)] [(0, (.str [85, 68, 73, 78, 84])), (1, (.int .i64 32)), (2, (.bool false)), (3, (.bool false))]) <| fun v41 =>
  ke ((rStore 4 v0 v41 h0).map fun h' => (.tuple [], h')) <| fun v42 h7 =>
  kq (some (.bool true)) <| fun v43 =>
  kq (rLoadA 4 v0 h7) <| fun v44 =>
  some (.tuple [v44, v43], h7)) (
  kq (rBin .eql .no true v2 (.int .i64 8)) <| fun v45 =>
  kq (some v45) <| fun v46 =>
  kIf v46 (
  kq (rBuild [(.str []), (.int .i64 0), (.bool false), (.bool false)] [(0, 1), (1, 1), (2, 1), (3, 1)] [(0, (.str [66, 89, 84, 69])), (1, (.int .i64 8)), (2, (.bool false)), (3, (.bool true))]) <| fun v47 =>
  ke ((rStore 4 v0 v47 h0).map fun h' => (.tuple [], h')) <| fun v48 h8 =>
  kq (some (.bool true)) <| fun v49 =>
  kq (rLoadA 4 v0 h8) <| fun v50 =>
  some (.tuple [v50, v49], h8)) (
  kq (rBin .eql .no true v2 (.int .i64 9)) <| fun v51 =>
  kq (some v51) <| fun v52 =>
  kIf v52 (
  kq (rBuild [(.str []), (.int .i64 0), (.bool false), (.bool false)] [(0, 1), (1, 1), (2, 1), (3, 1)] [(0, (.str [87, 79, 82, 68])), (1, (.int .i64 16)), (2, (.bool false)), (3, (.bool true))]) <| fun v53 =>
  ke ((rStore 4 v0 v53 h0).map fun h' => (.tuple [], h')) <| fun v54 h9 =>
  kq (some (.bool true)) <| fun v55 =>
  kq (rLoadA 4 v0 h9) <| fun v56 =>
  some (.tuple [v56, v55], h9)) (
  kq (rBin .eql .no true v2 (.int .i64 10)) <| fun v57 =>
  kq (some v57) <| fun v58 =>
  kIf v58 (
  kq (rBuild [(.str []), (.int .i64 0), (.bool false), (.bool false)] [(0, 1), (1, 1), (2, 1), (3, 1)] [(0, (.str [68, 87, 79, 82, 68])), (1, (.int .i64 32)), (2, (.bool false)), (3, (.bool true))]) <| fun v59 =>
  ke ((rStore 4 v0 v59 h0).map fun h' => (.tuple [], h')) <| fun v60 h10 =>
  kq (some (.bool true)) <| fun v61 =>
  kq (rLoadA 4 v0 h10) <| fun v62 =>
  some (.tuple [v62, v61], h10)) (
  kq (rBin .eql .no true v2 (.int .i64 11)) <| fun v63 =>
  kq (some v63) <| fun v64 =>
  kIf v64 (
  kq (rBuild [(.str []), (.int .i64 0), (.bool false), (.bool false)] [(0, 1), (1, 1), (2, 1), (3, 1)] [(0, (.str [84, 73, 77, 69])), (1, (.int .i64 32)), (2, (.bool true)), (3, (.bool false))]) <| fun v65 =>
  ke ((rStore 4 v0 v65 h0).map fun h' => (.tuple [], h')) <| fun v66 h11 =>
  kq (some (.bool true)) <| fun v67 =>
  kq (rLoadA 4 v0 h11) <| fun v68 =>
  some (.tuple [v68, v67], h11)) (
  kq (rBuild [(.str []), (.int .i64 0), (.bool false), (.bool false)] [(0, 1), (1, 1), (2, 1), (3, 1)] []) <| fun v69 =>
  ke ((rStore 4 v0 v69 h0).map fun h' => (.tuple [], h')) <| fun v70 h12 =>
  kq (some (.bool false)) <| fun v71 =>
  kq (rLoadA 4 v0 h12) <| fun v72 =>
  some (.tuple [v72, v71], h12))))))))))))
theorem F_num_of_eq (call callD : ACall) (a0 : AVal) (h : AH) : kFunc Try.prog [] call callD N_num_of [a0] h = F_num_of call callD a0 h := by kernel_rfl
theorem C_num_of {ov : AOver} (H : Plain ov) (n : Nat) (a0 : AVal) (h : AH) : kc ov (n + 1) N_num_of [a0] h = F_num_of (kc ov n) (kd ov n) a0 h := by
  have hov : ov N_num_of = none := H _ (by decide)
  unfold kc kd; rw [← F_num_of_eq]; simp only [kcall, hov]

/-- rung/num.truth -/
def F_num_truth (call callD : ACall) (a0 : AVal) (h : AH) : Ans :=
  kq (some (.int .i64 0)) <| fun v0 =>
  kq (some a0) <| fun v1 =>
  kIf v1 (
  kq (some (.int .i64 1)) <| fun v2 =>
  some (v2, h)) (
  kq (some (.int .i64 0)) <| fun v3 =>
  some (v3, h))
theorem F_num_truth_eq (call callD : ACall) (a0 : AVal) (h : AH) : kFunc Try.prog [] call callD N_num_truth [a0] h = F_num_truth call callD a0 h := by kernel_rfl
theorem C_num_truth {ov : AOver} (H : Plain ov) (n : Nat) (a0 : AVal) (h : AH) : kc ov (n + 1) N_num_truth [a0] h = F_num_truth (kc ov n) (kd ov n) a0 h := by
  have hov : ov N_num_truth = none := H _ (by decide)
  unfold kc kd; rw [← F_num_truth_eq]; simp only [kcall, hov]

/-- rung/num.compare -/
def F_num_compare (call callD : ACall) (a0 a1 a2 : AVal) (h : AH) : Ans :=
  kq (some (.int .i64 0)) <| fun v0 =>
  kq (some (.bool false)) <| fun v1 =>
  kq (some a0) <| fun v2 =>
  kj (fun l3 h0 =>
  kq (some (.int .i64 0)) <| fun v5 =>
  some (v5, h0)) <| fun j4 =>
  kj (fun l6 h1 =>
  kq (some a1) <| fun v8 =>
  kq (some a2) <| fun v9 =>
  kq (rBin .eql .no false v8 v9) <| fun v10 =>
  kq (some (gd l6 0)) <| fun v11 =>
  kq (rBin .neq .bool false v10 v11) <| fun v12 =>
  ke (call N_num_truth [v12] h1) <| fun v13 h2 =>
  kq (some v13) <| fun v14 =>
  some (v14, h2)) <| fun j7 =>
  kj (fun l15 h3 =>
  kq (some a1) <| fun v17 =>
  kq (some a2) <| fun v18 =>
  kq (rBin .gtr .no false v17 v18) <| fun v19 =>
  kq (some (gd l15 0)) <| fun v20 =>
  kq (rBin .neq .bool false v19 v20) <| fun v21 =>
  ke (call N_num_truth [v21] h3) <| fun v22 h4 =>
  kq (some v22) <| fun v23 =>
  some (v23, h4)) <| fun j16 =>
  kj (fun l24 h5 =>
  kq (some a1) <| fun v26 =>
  kq (some a2) <| fun v27 =>
  kq (rBin .lss .no false v26 v27) <| fun v28 =>
  kq (some (gd l24 0)) <| fun v29 =>
  kq (rBin .neq .bool false v28 v29) <| fun v30 =>
  ke (call N_num_truth [v30] h5) <| fun v31 h6 =>
  kq (some v31) <| fun v32 =>
  some (v32, h6)) <| fun j25 =>
  kq (rBin .eql .no true v2 (.int .i64 13)) <| fun v33 =>
  kq (some v33) <| fun v34 =>
  kIf v34 (
  kq (some (.bool true)) <| fun v35 =>
  j25 [v35] h) (
  kq (rBin .eql .no true v2 (.int .i64 10)) <| fun v36 =>
  kq (some v36) <| fun v37 =>
  kIf v37 (
  j25 [v1] h) (
  kq (rBin .eql .no true v2 (.int .i64 12)) <| fun v38 =>
  kq (some v38) <| fun v39 =>
  kIf v39 (
  kq (some (.bool true)) <| fun v40 =>
  j16 [v40] h) (
  kq (rBin .eql .no true v2 (.int .i64 11)) <| fun v41 =>
  kq (some v41) <| fun v42 =>
  kIf v42 (
  j16 [v1] h) (
  kq (rBin .eql .no true v2 (.int .i64 15)) <| fun v43 =>
  kq (some v43) <| fun v44 =>
  kIf v44 (
  kq (some (.bool true)) <| fun v45 =>
  j7 [v45] h) (
  kq (rBin .eql .no true v2 (.int .i64 14)) <| fun v46 =>
  kq (some v46) <| fun v47 =>
  kIf v47 (
  j7 [v1] h) (
  j4 [] h))))))
theorem F_num_compare_eq (call callD : ACall) (a0 a1 a2 : AVal) (h : AH) : kFunc Try.prog [] call callD N_num_compare [a0, a1, a2] h = F_num_compare call callD a0 a1 a2 h := by kernel_rfl
theorem C_num_compare {ov : AOver} (H : Plain ov) (n : Nat) (a0 a1 a2 : AVal) (h : AH) : kc ov (n + 1) N_num_compare [a0, a1, a2] h = F_num_compare (kc ov n) (kd ov n) a0 a1 a2 h := by
  have hov : ov N_num_compare = none := H _ (by decide)
  unfold kc kd; rw [← F_num_compare_eq]; simp only [kcall, hov]

/-- rung/rungref1.names -/
def F_rungref1_names (call callD : ACall) (h : AH) : Ans :=
  kq (some (.slice none 0 0)) <| fun v0 =>
  km (mBuildSl T_string 1 [(.str [])] 11 [(0, (.str [66, 79, 79, 76])), (1, (.str [83, 73, 78, 84])), (2, (.str [73, 78, 84])), (3, (.str [68, 73, 78, 84])), (4, (.str [85, 83, 73, 78, 84])), (5, (.str [85, 73, 78, 84])), (6, (.str [85, 68, 73, 78, 84])), (7, (.str [66, 89, 84, 69])), (8, (.str [87, 79, 82, 68])), (9, (.str [68, 87, 79, 82, 68])), (10, (.str [84, 73, 77, 69]))]) h <| fun v1 h0 =>
  kq (some v1) <| fun v2 =>
  some (v2, h0)
theorem F_rungref1_names_eq (call callD : ACall) (h : AH) : kFunc Try.prog [] call callD N_rungref1_names [] h = F_rungref1_names call callD h := by kernel_rfl
theorem C_rungref1_names {ov : AOver} (H : Plain ov) (n : Nat) (h : AH) : kc ov (n + 1) N_rungref1_names [] h = F_rungref1_names (kc ov n) (kd ov n) h := by
  have hov : ov N_rungref1_names = none := H _ (by decide)
  unfold kc kd; rw [← F_rungref1_names_eq]; simp only [kcall, hov]

/-- rung/rungref1.Bits -/
def F_rungref1_Bits (call callD : ACall) (a0 : AVal) (h : AH) : Ans :=
  kq (some (.bool false)) <| fun v0 =>
  kq (some a0) <| fun v1 =>
  kq (rBin .eql .no true v1 (.int .i64 8)) <| fun v2 =>
  kq (some v2) <| fun v3 =>
  kt (fun v12 =>
  kq (some v12) <| fun v13 =>
  some (v13, h)) <| fun j4 =>
  kgq v3 false (fun k => kq (some a0) k) <| fun v5 =>
  kgq v3 false (fun k => kq (rBin .eql .no true v5 (.int .i64 9)) k) <| fun v6 =>
  kq (rPick v3 (.bool true) v6) <| fun v7 =>
  kq (some v7) <| fun v8 =>
  kgq v8 false (fun k => kq (some a0) k) <| fun v9 =>
  kgq v8 false (fun k => kq (rBin .eql .no true v9 (.int .i64 10)) k) <| fun v10 =>
  kq (rPick v8 (.bool true) v10) <| fun v11 =>
  j4 v11
theorem F_rungref1_Bits_eq (call callD : ACall) (a0 : AVal) (h : AH) : kFunc Try.prog [] call callD N_rungref1_Bits [a0] h = F_rungref1_Bits call callD a0 h := by kernel_rfl
theorem C_rungref1_Bits {ov : AOver} (H : Plain ov) (n : Nat) (a0 : AVal) (h : AH) : kc ov (n + 1) N_rungref1_Bits [a0] h = F_rungref1_Bits (kc ov n) (kd ov n) a0 h := by
  have hov : ov N_rungref1_Bits = none := H _ (by decide)
  unfold kc kd; rw [← F_rungref1_Bits_eq]; simp only [kcall, hov]


end Go.Proofs.Ytijdkjngbogegaa.AI
