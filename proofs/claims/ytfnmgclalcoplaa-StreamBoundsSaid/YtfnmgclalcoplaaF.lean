/- PRINTED by Pr2: the functions of the program as the machine sees them. -/
import Derived.Test.YtfnmgclalcoplaaAiLib3
import Derived.Test.YtfnmgclalcoplaaProg
import Derived.KernelRfl
namespace Go.Proofs.Ytfnmgclalcoplaa.AI
open Go
set_option linter.unusedVariables false
set_option maxRecDepth 100000
abbrev T_uint8 : Nat := 5
abbrev T_string : Nat := 9
abbrev T___uint8 : Nat := 22
abbrev T_uint16 : Nat := 27
abbrev T_api_Frame : Nat := 29
abbrev T_stream_Stream : Nat := 57
abbrev N_runglaw6_StreamReads : Nat := 3
abbrev N_runglaw6_StreamBounds : Nat := 4
abbrev N_runglaw6_StreamWrites : Nat := 5
abbrev N_runglaw6_known : Nat := 6
abbrev N_runglaw6_frames : Nat := 7
abbrev N_rungref3_OpenMbap : Nat := 8
abbrev N_runghelp_Frame : Nat := 9
abbrev N_stream_New : Nat := 10
abbrev N_stream_Stream_Feed : Nat := 11
abbrev N_stream_Stream_Left : Nat := 12
abbrev N_stream_Stream_Next : Nat := 13
abbrev N_rungref3_Mbap : Nat := 14
abbrev N_stream_Stream_Frames : Nat := 15
abbrev N_runghelp_Copy : Nat := 16
abbrev N_runghelp_Spoil : Nat := 17
abbrev N_rungref3_at : Nat := 18
abbrev N_runghelp_Bytes : Nat := 19
abbrev N_slices_Concat___byte_byte_ : Nat := 20
abbrev N_mbap_Open : Nat := 21
abbrev N_slices_Clone___byte_byte_ : Nat := 22
abbrev N_sync_atomic_Uint64_Add : Nat := 23
abbrev N_rungref3_two : Nat := 24
abbrev N_sync_atomic_Uint64_Load : Nat := 25
abbrev N_slices_Grow___byte_byte_ : Nat := 26
abbrev N_sync_atomic_AddUint64 : Nat := 27
abbrev N_sync_atomic_LoadUint64 : Nat := 28
/-- Functions that another thing stands in for. -/
def OVS : List Nat := [6, 27, 28]
def Plain (ov : AOver) : Prop := ∀ f, f ∉ OVS → ov f = none
noncomputable def kc (ov : AOver) (n : Nat) : ACall := kcall Try.prog [] ov n
noncomputable def kd (ov : AOver) (n : Nat) : ACall := kFuncD Try.prog [] (kcall Try.prog [] ov n)
/-- rung/runglaw6.StreamReads -/
def L_runglaw6_StreamReads_0 (call callD : ACall) (a0 : AVal) (v24 : AVal) (v23 : AVal) (v22 : AVal) : (List AVal → AH → Ans) → List AVal → AH → Ans := fun j28 l27 h3 =>
  kq (some a0) <| fun v29 =>
  kq (some (gd l27 0)) <| fun v30 =>
  kq (rCut 1 v29 (some v30) none none) <| fun v31 =>
  ke (call N_rungref3_OpenMbap [v31] h3) <| fun v32 h4 =>
  kq (some v32) <| fun v33 =>
  kq (aExtract v33 0) <| fun v34 =>
  kq (aExtract v33 1) <| fun v35 =>
  kq (aExtract v33 2) <| fun v36 =>
  km (pBox T_api_Frame (.agg [(.int .u16 0), (.int .u8 0), (.slice none 0 0)])) h4 <| fun v37 h5 =>
  ke ((rStore 3 v37 v34 h5).map fun h' => (.tuple [], h')) <| fun v38 h6 =>
  kq (some v35) <| fun v39 =>
  kq (some v36) <| fun v40 =>
  kq (some v40) <| fun v41 =>
  kq (rBin .neq .no true v41 (.int .i64 0)) <| fun v42 =>
  kq (some v42) <| fun v43 =>
  kt (fun v48 =>
  kIf v48 (
  kq (some v24) <| fun v49 =>
  kq (some v49) <| fun v50 =>
  kt (fun v62 =>
  kq (some v62) <| fun v63 =>
  some (v63, h6)) <| fun j51 =>
  kgq v50 true (fun k => kq (some v23) k) <| fun v52 =>
  kgq v50 true (fun k => kq (some v40) k) <| fun v53 =>
  kgq v50 true (fun k => kq (rBin .eql .no false v52 v53) k) <| fun v54 =>
  kq (rPick v50 v54 (.bool false)) <| fun v55 =>
  kq (some v55) <| fun v56 =>
  kgq v56 true (fun k => kq (some (gd l27 1)) k) <| fun v57 =>
  kgq v56 true (fun k => kq (some v22) k) <| fun v58 =>
  kgq v56 true (fun k => kq (rLen v58) k) <| fun v59 =>
  kgq v56 true (fun k => kq (rBin .eql .no false v57 v59) k) <| fun v60 =>
  kq (rPick v56 v60 (.bool false)) <| fun v61 =>
  j51 v61) (
  kq (some (gd l27 1)) <| fun v64 =>
  kq (some v22) <| fun v65 =>
  kq (rLen v65) <| fun v66 =>
  kq (rBin .geq .no false v64 v66) <| fun v67 =>
  kq (some v67) <| fun v68 =>
  kgq v68 false (fun k => kq (some v22) k) <| fun v69 =>
  kgq v68 false (fun k => kq (some (gd l27 1)) k) <| fun v70 =>
  kgq v68 false (fun k => kq (rAt 3 v69 v70) k) <| fun v71 =>
  kgq v68 false (fun k => kq (rLoadA 3 v71 h6) k) <| fun v72 =>
  kgq v68 false (fun k => kq (rLoadA 3 v37 h6) k) <| fun v73 =>
  kgh v68 false h6 (fun k => ke (call N_runghelp_Frame [v72, v73] h6) k) <| fun v74 h9 =>
  kgq v68 false (fun k => kq (aUn .not v74) k) <| fun v75 =>
  kq (rPick v68 (.bool true) v75) <| fun v76 =>
  kChk (!(gOn v68 false && !gOn v68 false) || kSame (rLoadA 3 v37 h9) v73) <|
  kChk (!(gOn v68 false && !gOn v68 false) || kSame (rLoadA 3 v71 h9) v72) <|
  kIf v76 (
  kq (some (.bool false)) <| fun v77 =>
  some (v77, h9)) (
  kq (some (gd l27 0)) <| fun v78 =>
  kq (some v39) <| fun v79 =>
  kq (rBin .add .no false v78 v79) <| fun v80 =>
  kq (some (gd l27 1)) <| fun v81 =>
  kq (rBin .add .no true v81 (.int .i64 1)) <| fun v82 =>
  kq (some v80) <| fun v83 =>
  kq (some v82) <| fun v84 =>
  j28 [v83, v84] h9))) <| fun j44 =>
  kgq v43 false (fun k => kq (some v39) k) <| fun v45 =>
  kgq v43 false (fun k => kq (rBin .eql .no true v45 (.int .i64 0)) k) <| fun v46 =>
  kq (rPick v43 (.bool true) v46) <| fun v47 =>
  j44 v47
def F_runglaw6_StreamReads (call callD : ACall) (a0 a1 : AVal) (h : AH) : Ans :=
  kq (some (.bool false)) <| fun v0 =>
  ke (call N_runglaw6_known [] h) <| fun v1 h0 =>
  kq (aUn .not v1) <| fun v2 =>
  kIf v2 (
  kq (some (.bool false)) <| fun v3 =>
  some (v3, h0)) (
  kq (some a0) <| fun v4 =>
  kq (rLen v4) <| fun v5 =>
  kq (rBin .gtr .no true v5 (.int .i64 4000)) <| fun v6 =>
  kq (some v6) <| fun v7 =>
  kt (fun v13 =>
  kIf v13 (
  kq (some (.bool true)) <| fun v14 =>
  some (v14, h0)) (
  kq (some a0) <| fun v15 =>
  kq (some a1) <| fun v16 =>
  ke (call N_runglaw6_frames [v15, v16] h0) <| fun v17 h2 =>
  kq (some v17) <| fun v18 =>
  kq (aExtract v18 0) <| fun v19 =>
  kq (aExtract v18 1) <| fun v20 =>
  kq (aExtract v18 2) <| fun v21 =>
  kq (some v19) <| fun v22 =>
  kq (some v20) <| fun v23 =>
  kq (some v21) <| fun v24 =>
  kq (some (.int .i64 0)) <| fun v25 =>
  kq (some (.int .i64 0)) <| fun v26 =>
  kLoop (L_runglaw6_StreamReads_0 call callD a0 v24 v23 v22) rounds [v25, v26] h2)) <| fun j8 =>
  kgq v7 false (fun k => kq (some a1) k) <| fun v9 =>
  kgq v7 false (fun k => kq (rLen v9) k) <| fun v10 =>
  kgq v7 false (fun k => kq (rBin .gtr .no true v10 (.int .i64 400)) k) <| fun v11 =>
  kq (rPick v7 (.bool true) v11) <| fun v12 =>
  j8 v12)
theorem F_runglaw6_StreamReads_eq (call callD : ACall) (a0 a1 : AVal) (h : AH) : kFunc Try.prog [] call callD N_runglaw6_StreamReads [a0, a1] h = F_runglaw6_StreamReads call callD a0 a1 h := by kernel_rfl
theorem C_runglaw6_StreamReads {ov : AOver} (H : Plain ov) (n : Nat) (a0 a1 : AVal) (h : AH) : kc ov (n + 1) N_runglaw6_StreamReads [a0, a1] h = F_runglaw6_StreamReads (kc ov n) (kd ov n) a0 a1 h := by
  have hov : ov N_runglaw6_StreamReads = none := H _ (by decide)
  unfold kc kd; rw [← F_runglaw6_StreamReads_eq]; simp only [kcall, hov]

/-- rung/runglaw6.StreamBounds -/
def L_runglaw6_StreamBounds_0 (call callD : ACall) (a0 : AVal) (v9 : AVal) : (List AVal → AH → Ans) → List AVal → AH → Ans := fun j14 l13 h2 =>
  kq (some (gd l13 2)) <| fun v15 =>
  kq (some a0) <| fun v16 =>
  kq (rLen v16) <| fun v17 =>
  kq (rBin .lss .no false v15 v17) <| fun v18 =>
  kIf v18 (
  kq (some a0) <| fun v19 =>
  kq (some (gd l13 2)) <| fun v20 =>
  kq (rAt 1 v19 v20) <| fun v21 =>
  kq (rLoad v21 h2) <| fun v22 =>
  kq (rLen v22) <| fun v23 =>
  kq (rBin .gtr .no true v23 (.int .i64 1000)) <| fun v24 =>
  kIf v24 (
  kq (some (.bool true)) <| fun v25 =>
  some (v25, h2)) (
  kq (some (.int .i64 0)) <| fun v26 =>
  kq (some (gd l13 1)) <| fun v27 =>
  kq (rBin .eql .no true v27 (.int .i64 0)) <| fun v28 =>
  kj (fun l29 h3 =>
  kq (some v9) <| fun v31 =>
  kq (some a0) <| fun v32 =>
  kq (some (gd l13 2)) <| fun v33 =>
  kq (rAt 1 v32 v33) <| fun v34 =>
  kq (rLoad v34 h3) <| fun v35 =>
  ke (call N_stream_Stream_Feed [v31, v35] h3) <| fun v36 h4 =>
  kq (some (gd l29 0)) <| fun v37 =>
  kq (rBin .neq .no false v36 v37) <| fun v38 =>
  kIf v38 (
  kq (some (.bool false)) <| fun v39 =>
  some (v39, h4)) (
  kq (some (gd l13 0)) <| fun v40 =>
  kq (some a0) <| fun v41 =>
  kq (some (gd l13 2)) <| fun v42 =>
  kq (rAt 1 v41 v42) <| fun v43 =>
  kq (rLoad v43 h4) <| fun v44 =>
  kq (some (gd l29 0)) <| fun v45 =>
  kq (rCut 1 v44 none (some v45) none) <| fun v46 =>
  ke (rAppend T_uint8 1 1 v40 v46 h4) <| fun v47 h5 =>
  kq (some v47) <| fun v48 =>
  kq (some v9) <| fun v49 =>
  ke (call N_stream_Stream_Left [v49] h5) <| fun v50 h6 =>
  kq (some v48) <| fun v51 =>
  kq (rLen v51) <| fun v52 =>
  kq (rBin .neq .no false v50 v52) <| fun v53 =>
  kIf v53 (
  kq (some (.bool false)) <| fun v54 =>
  some (v54, h6)) (
  kq (some v48) <| fun v55 =>
  ke (call N_rungref3_OpenMbap [v55] h6) <| fun v56 h7 =>
  kq (some v56) <| fun v57 =>
  kq (aExtract v57 0) <| fun v58 =>
  kq (aExtract v57 1) <| fun v59 =>
  kq (aExtract v57 2) <| fun v60 =>
  km (pBox T_api_Frame (.agg [(.int .u16 0), (.int .u8 0), (.slice none 0 0)])) h7 <| fun v61 h8 =>
  ke ((rStore 3 v61 v58 h8).map fun h' => (.tuple [], h')) <| fun v62 h9 =>
  kq (some v59) <| fun v63 =>
  kq (some v60) <| fun v64 =>
  kq (some v9) <| fun v65 =>
  ke (call N_stream_Stream_Next [v65] h9) <| fun v66 h10 =>
  kq (some v66) <| fun v67 =>
  kq (aExtract v67 0) <| fun v68 =>
  kq (aExtract v67 1) <| fun v69 =>
  kq (aExtract v67 2) <| fun v70 =>
  km (pBox T_api_Frame (.agg [(.int .u16 0), (.int .u8 0), (.slice none 0 0)])) h10 <| fun v71 h11 =>
  ke ((rStore 3 v71 v68 h11).map fun h' => (.tuple [], h')) <| fun v72 h12 =>
  kq (some v69) <| fun v73 =>
  kq (some v70) <| fun v74 =>
  kq (some (gd l13 1)) <| fun v75 =>
  kq (rBin .neq .no true v75 (.int .i64 0)) <| fun v76 =>
  kj (fun l77 h13 =>
  kq (some (gd l77 1)) <| fun v79 =>
  kq (some v79) <| fun v80 =>
  kq (some v74) <| fun v81 =>
  kq (some (gd l77 1)) <| fun v82 =>
  kq (rBin .neq .no false v81 v82) <| fun v83 =>
  kq (some v83) <| fun v84 =>
  kth (fun v98 h16 =>
  kIf v98 (
  kq (some (.bool false)) <| fun v99 =>
  some (v99, h16)) (
  kq (some v48) <| fun v100 =>
  kq (some (gd l77 0)) <| fun v101 =>
  kq (rCut 1 v100 (some v101) none none) <| fun v102 =>
  kq (some v102) <| fun v103 =>
  kq (some (gd l13 2)) <| fun v104 =>
  kq (rBin .add .no true v104 (.int .i64 1)) <| fun v105 =>
  kq (some v105) <| fun v106 =>
  j14 [v103, v80, v106] h16)) <| fun j85 =>
  kgq v84 false (fun k => kq (some v73) k) <| fun v86 =>
  kgq v84 false (fun k => kq (some (gd l77 0)) k) <| fun v87 =>
  kgq v84 false (fun k => kq (rBin .gtr .no true v87 (.int .i64 0)) k) <| fun v88 =>
  kgq v84 false (fun k => kq (rBin .neq .bool false v86 v88) k) <| fun v89 =>
  kq (rPick v84 (.bool true) v89) <| fun v90 =>
  kq (some v90) <| fun v91 =>
  kgq v91 false (fun k => kq (rLoadA 3 v61 h13) k) <| fun v92 =>
  kgq v91 false (fun k => kq (rLoadA 3 v71 h13) k) <| fun v93 =>
  kgh v91 false h13 (fun k => ke (call N_runghelp_Frame [v92, v93] h13) <| fun v94 h14 =>
  k v94 h14) <| fun v95 h15 =>
  kgq v91 false (fun k => kq (aUn .not v95) k) <| fun v96 =>
  kq (rPick v91 (.bool true) v96) <| fun v97 =>
  j85 v97 h15) <| fun j78 =>
  kIf v76 (
  kq (some (gd l13 1)) <| fun v107 =>
  kq (rBuild [(.int .u16 0), (.int .u8 0), (.slice none 0 0)] [(0, 1), (1, 1), (2, 1)] []) <| fun v108 =>
  kq (some v107) <| fun v109 =>
  kq (some (.int .i64 0)) <| fun v110 =>
  ke ((rStore 3 v61 v108 h12).map fun h' => (.tuple [], h')) <| fun v111 h17 =>
  j78 [v110, v109] h17) (
  j78 [v63, v64] h12)))) <| fun j30 =>
  kIf v28 (
  kq (some a0) <| fun v112 =>
  kq (some (gd l13 2)) <| fun v113 =>
  kq (rAt 1 v112 v113) <| fun v114 =>
  kq (rLoad v114 h2) <| fun v115 =>
  kq (rLen v115) <| fun v116 =>
  kq (some (gd l13 0)) <| fun v117 =>
  kq (rLen v117) <| fun v118 =>
  kq (rBin .sub .no true (.int .i64 260) v118) <| fun v119 =>
  kq (aMM aMin2 [v116, v119]) <| fun v120 =>
  kq (some v120) <| fun v121 =>
  j30 [v121] h2) (
  j30 [v26] h2))) (
  kq (some (.bool true)) <| fun v122 =>
  some (v122, h2))
def F_runglaw6_StreamBounds (call callD : ACall) (a0 : AVal) (h : AH) : Ans :=
  kq (some (.bool false)) <| fun v0 =>
  ke (call N_runglaw6_known [] h) <| fun v1 h0 =>
  kq (aUn .not v1) <| fun v2 =>
  kIf v2 (
  kq (some (.bool false)) <| fun v3 =>
  some (v3, h0)) (
  kq (some a0) <| fun v4 =>
  kq (rLen v4) <| fun v5 =>
  kq (rBin .gtr .no true v5 (.int .i64 60)) <| fun v6 =>
  kIf v6 (
  kq (some (.bool true)) <| fun v7 =>
  some (v7, h0)) (
  ke (call N_stream_New [] h0) <| fun v8 h1 =>
  kq (some v8) <| fun v9 =>
  kq (some (.slice none 0 0)) <| fun v10 =>
  kq (some (.int .i64 0)) <| fun v11 =>
  kq (some (.int .i64 0)) <| fun v12 =>
  kLoop (L_runglaw6_StreamBounds_0 call callD a0 v9) rounds [v10, v11, v12] h1))
theorem F_runglaw6_StreamBounds_eq (call callD : ACall) (a0 : AVal) (h : AH) : kFunc Try.prog [] call callD N_runglaw6_StreamBounds [a0] h = F_runglaw6_StreamBounds call callD a0 h := by kernel_rfl
theorem C_runglaw6_StreamBounds {ov : AOver} (H : Plain ov) (n : Nat) (a0 : AVal) (h : AH) : kc ov (n + 1) N_runglaw6_StreamBounds [a0] h = F_runglaw6_StreamBounds (kc ov n) (kd ov n) a0 h := by
  have hov : ov N_runglaw6_StreamBounds = none := H _ (by decide)
  unfold kc kd; rw [← F_runglaw6_StreamBounds_eq]; simp only [kcall, hov]

/-- rung/runglaw6.StreamWrites -/
def L_runglaw6_StreamWrites_0 (call callD : ACall) (a0 : AVal) (v50 : AVal) : (List AVal → AH → Ans) → List AVal → AH → Ans := fun j71 l70 h7 =>
  kq (some (gd l70 0)) <| fun v72 =>
  kq (some a0) <| fun v73 =>
  kq (rLen v73) <| fun v74 =>
  kq (rBin .lss .no false v72 v74) <| fun v75 =>
  kIf v75 (
  kq (some v50) <| fun v76 =>
  kq (some (gd l70 0)) <| fun v77 =>
  kq (rAt 3 v76 v77) <| fun v78 =>
  kq (rLoadA 3 v78 h7) <| fun v79 =>
  kq (some a0) <| fun v80 =>
  kq (some (gd l70 0)) <| fun v81 =>
  kq (rAt 3 v80 v81) <| fun v82 =>
  kq (rLoadA 3 v82 h7) <| fun v83 =>
  ke (call N_runghelp_Frame [v79, v83] h7) <| fun v84 h8 =>
  kq (aUn .not v84) <| fun v85 =>
  kChk (!false || kSame (rLoadA 3 v82 h8) v83) <|
  kChk (!false || kSame (rLoadA 3 v78 h8) v79) <|
  kIf v85 (
  kq (some (.bool false)) <| fun v86 =>
  some (v86, h8)) (
  kq (some (gd l70 0)) <| fun v87 =>
  kq (rBin .add .no true v87 (.int .i64 1)) <| fun v88 =>
  kq (some v88) <| fun v89 =>
  j71 [v89] h8)) (
  kq (some (.bool true)) <| fun v90 =>
  some (v90, h7))
def L_runglaw6_StreamWrites_1 (call callD : ACall) (a0 : AVal) (a1 : AVal) : (List AVal → AH → Ans) → List AVal → AH → Ans := fun j18 l17 h2 =>
  kq (some (gd l17 1)) <| fun v19 =>
  kq (some a0) <| fun v20 =>
  kq (rLen v20) <| fun v21 =>
  kq (rBin .lss .no false v19 v21) <| fun v22 =>
  kIf v22 (
  kq (some a0) <| fun v23 =>
  kq (some (gd l17 1)) <| fun v24 =>
  kq (rAt 3 v23 v24) <| fun v25 =>
  kq (rLoadA 3 v25 h2) <| fun v26 =>
  ke (call N_rungref3_Mbap [v26] h2) <| fun v27 h3 =>
  kq (some v27) <| fun v28 =>
  kq (aExtract v28 0) <| fun v29 =>
  kq (aExtract v28 1) <| fun v30 =>
  kq (some v29) <| fun v31 =>
  kq (some v30) <| fun v32 =>
  kq (some v32) <| fun v33 =>
  kq (rBin .neq .no true v33 (.int .i64 0)) <| fun v34 =>
  kIf v34 (
  kq (some (.bool true)) <| fun v35 =>
  some (v35, h3)) (
  kq (some (gd l17 0)) <| fun v36 =>
  kq (some v31) <| fun v37 =>
  ke (rAppend T_uint8 1 1 v36 v37 h3) <| fun v38 h4 =>
  kq (some v38) <| fun v39 =>
  kq (some (gd l17 1)) <| fun v40 =>
  kq (rBin .add .no true v40 (.int .i64 1)) <| fun v41 =>
  kq (some v41) <| fun v42 =>
  j18 [v39, v42] h4)) (
  kq (some (gd l17 0)) <| fun v43 =>
  kq (some a1) <| fun v44 =>
  ke (call N_runglaw6_frames [v43, v44] h2) <| fun v45 h5 =>
  kq (some v45) <| fun v46 =>
  kq (aExtract v46 0) <| fun v47 =>
  kq (aExtract v46 1) <| fun v48 =>
  kq (aExtract v46 2) <| fun v49 =>
  kq (some v47) <| fun v50 =>
  kq (some v48) <| fun v51 =>
  kq (some v49) <| fun v52 =>
  kq (some v52) <| fun v53 =>
  kq (aUn .not v53) <| fun v54 =>
  kq (some v54) <| fun v55 =>
  kt (fun v67 =>
  kIf v67 (
  kq (some (.bool false)) <| fun v68 =>
  some (v68, h5)) (
  kq (some (.int .i64 0)) <| fun v69 =>
  kLoop (L_runglaw6_StreamWrites_0 call callD a0 v50) rounds [v69] h5)) <| fun j56 =>
  kgq v55 false (fun k => kq (some v51) k) <| fun v57 =>
  kgq v55 false (fun k => kq (rBin .neq .no true v57 (.int .i64 0)) k) <| fun v58 =>
  kq (rPick v55 (.bool true) v58) <| fun v59 =>
  kq (some v59) <| fun v60 =>
  kgq v60 false (fun k => kq (some v50) k) <| fun v61 =>
  kgq v60 false (fun k => kq (rLen v61) k) <| fun v62 =>
  kgq v60 false (fun k => kq (some a0) k) <| fun v63 =>
  kgq v60 false (fun k => kq (rLen v63) k) <| fun v64 =>
  kgq v60 false (fun k => kq (rBin .neq .no false v62 v64) k) <| fun v65 =>
  kq (rPick v60 (.bool true) v65) <| fun v66 =>
  j56 v66)
def F_runglaw6_StreamWrites (call callD : ACall) (a0 a1 : AVal) (h : AH) : Ans :=
  kq (some (.bool false)) <| fun v0 =>
  ke (call N_runglaw6_known [] h) <| fun v1 h0 =>
  kq (aUn .not v1) <| fun v2 =>
  kIf v2 (
  kq (some (.bool false)) <| fun v3 =>
  some (v3, h0)) (
  kq (some a0) <| fun v4 =>
  kq (rLen v4) <| fun v5 =>
  kq (rBin .gtr .no true v5 (.int .i64 30)) <| fun v6 =>
  kq (some v6) <| fun v7 =>
  kt (fun v13 =>
  kIf v13 (
  kq (some (.bool true)) <| fun v14 =>
  some (v14, h0)) (
  kq (some (.slice none 0 0)) <| fun v15 =>
  kq (some (.int .i64 0)) <| fun v16 =>
  kLoop (L_runglaw6_StreamWrites_1 call callD a0 a1) rounds [v15, v16] h0)) <| fun j8 =>
  kgq v7 false (fun k => kq (some a1) k) <| fun v9 =>
  kgq v7 false (fun k => kq (rLen v9) k) <| fun v10 =>
  kgq v7 false (fun k => kq (rBin .gtr .no true v10 (.int .i64 400)) k) <| fun v11 =>
  kq (rPick v7 (.bool true) v11) <| fun v12 =>
  j8 v12)
theorem F_runglaw6_StreamWrites_eq (call callD : ACall) (a0 a1 : AVal) (h : AH) : kFunc Try.prog [] call callD N_runglaw6_StreamWrites [a0, a1] h = F_runglaw6_StreamWrites call callD a0 a1 h := by kernel_rfl
theorem C_runglaw6_StreamWrites {ov : AOver} (H : Plain ov) (n : Nat) (a0 a1 : AVal) (h : AH) : kc ov (n + 1) N_runglaw6_StreamWrites [a0, a1] h = F_runglaw6_StreamWrites (kc ov n) (kd ov n) a0 a1 h := by
  have hov : ov N_runglaw6_StreamWrites = none := H _ (by decide)
  unfold kc kd; rw [← F_runglaw6_StreamWrites_eq]; simp only [kcall, hov]

/-- rung/runglaw6.known -/
def F_runglaw6_known (call callD : ACall) (h : AH) : Ans :=
  kq (some (.bool false)) <| fun v0 =>
  ke (call N_stream_New [] h) <| fun v1 h0 =>
  kq (some v1) <| fun v2 =>
  kq (some v2) <| fun v3 =>
  kq (rBin .eql .ptr true v3 (.ptr none)) <| fun v4 =>
  kIf v4 (
  kq (some (.bool false)) <| fun v5 =>
  some (v5, h0)) (
  km (mBuildSl T_uint8 1 [(.int .u8 0)] 8 [(0, (.int .u8 0)), (1, (.int .u8 1)), (2, (.int .u8 0)), (3, (.int .u8 0)), (4, (.int .u8 0)), (5, (.int .u8 2)), (6, (.int .u8 17)), (7, (.int .u8 3))]) h0 <| fun v6 h1 =>
  kq (some v6) <| fun v7 =>
  kq (some v2) <| fun v8 =>
  kq (some v7) <| fun v9 =>
  kq (rCut 1 v9 none (some (.int .i64 3)) none) <| fun v10 =>
  ke (call N_stream_Stream_Feed [v8, v10] h1) <| fun v11 h2 =>
  kq (some v11) <| fun v12 =>
  kq (some v2) <| fun v13 =>
  ke (call N_stream_Stream_Next [v13] h2) <| fun v14 h3 =>
  kq (some v14) <| fun v15 =>
  kq (aExtract v15 0) <| fun v16 =>
  kq (aExtract v15 1) <| fun v17 =>
  kq (aExtract v15 2) <| fun v18 =>
  km (pBox T_api_Frame (.agg [(.int .u16 0), (.int .u8 0), (.slice none 0 0)])) h3 <| fun v19 h4 =>
  ke ((rStore 3 v19 v16 h4).map fun h' => (.tuple [], h')) <| fun v20 h5 =>
  kq (some v17) <| fun v21 =>
  kq (some v18) <| fun v22 =>
  kq (some v2) <| fun v23 =>
  kq (some v7) <| fun v24 =>
  kq (rCut 1 v24 (some (.int .i64 3)) none none) <| fun v25 =>
  ke (call N_stream_Stream_Feed [v23, v25] h5) <| fun v26 h6 =>
  kq (some v26) <| fun v27 =>
  kq (some v2) <| fun v28 =>
  ke (call N_stream_Stream_Next [v28] h6) <| fun v29 h7 =>
  kq (some v29) <| fun v30 =>
  kq (aExtract v30 0) <| fun v31 =>
  kq (aExtract v30 1) <| fun v32 =>
  kq (aExtract v30 2) <| fun v33 =>
  km (pBox T_api_Frame (.agg [(.int .u16 0), (.int .u8 0), (.slice none 0 0)])) h7 <| fun v34 h8 =>
  ke ((rStore 3 v34 v31 h8).map fun h' => (.tuple [], h')) <| fun v35 h9 =>
  kq (some v32) <| fun v36 =>
  kq (some v33) <| fun v37 =>
  kq (some v2) <| fun v38 =>
  ke (call N_stream_Stream_Next [v38] h9) <| fun v39 h10 =>
  kq (some v39) <| fun v40 =>
  kq (aExtract v40 0) <| fun v41 =>
  kq (aExtract v40 1) <| fun v42 =>
  kq (aExtract v40 2) <| fun v43 =>
  km (pBox T_api_Frame (.agg [(.int .u16 0), (.int .u8 0), (.slice none 0 0)])) h10 <| fun v44 h11 =>
  ke ((rStore 3 v44 v41 h11).map fun h' => (.tuple [], h')) <| fun v45 h12 =>
  kq (some v42) <| fun v46 =>
  kq (some v43) <| fun v47 =>
  ke (call N_stream_New [] h12) <| fun v48 h13 =>
  kq (some v48) <| fun v49 =>
  kq (some v49) <| fun v50 =>
  km (mBuildSl T_uint8 1 [(.int .u8 0)] 6 [(0, (.int .u8 0)), (1, (.int .u8 1)), (2, (.int .u8 0)), (3, (.int .u8 9)), (4, (.int .u8 0)), (5, (.int .u8 2))]) h13 <| fun v51 h14 =>
  ke (call N_stream_Stream_Feed [v50, v51] h14) <| fun v52 h15 =>
  kq (some v49) <| fun v53 =>
  ke (call N_stream_Stream_Next [v53] h15) <| fun v54 h16 =>
  kq (some v54) <| fun v55 =>
  kq (aExtract v55 0) <| fun v56 =>
  kq (aExtract v55 1) <| fun v57 =>
  kq (aExtract v55 2) <| fun v58 =>
  km (pBox T_api_Frame (.agg [(.int .u16 0), (.int .u8 0), (.slice none 0 0)])) h16 <| fun v59 h17 =>
  ke ((rStore 3 v59 v56 h17).map fun h' => (.tuple [], h')) <| fun v60 h18 =>
  kq (some v57) <| fun v61 =>
  kq (some v58) <| fun v62 =>
  kq (some v12) <| fun v63 =>
  kq (rBin .eql .no true v63 (.int .i64 3)) <| fun v64 =>
  kq (some v64) <| fun v65 =>
  kth (fun v117 h25 =>
  kq (some v117) <| fun v118 =>
  some (v118, h25)) <| fun j66 =>
  kgq v65 true (fun k => kq (some v27) k) <| fun v67 =>
  kgq v65 true (fun k => kq (rBin .eql .no true v67 (.int .i64 5)) k) <| fun v68 =>
  kq (rPick v65 v68 (.bool false)) <| fun v69 =>
  kq (some v69) <| fun v70 =>
  kgq v70 true (fun k => kq (some v21) k) <| fun v71 =>
  kgq v70 true (fun k => kq (aUn .not v71) k) <| fun v72 =>
  kq (rPick v70 v72 (.bool false)) <| fun v73 =>
  kq (some v73) <| fun v74 =>
  kgq v74 true (fun k => kq (some v22) k) <| fun v75 =>
  kgq v74 true (fun k => kq (rBin .eql .no true v75 (.int .i64 0)) k) <| fun v76 =>
  kq (rPick v74 v76 (.bool false)) <| fun v77 =>
  kq (some v77) <| fun v78 =>
  kgq v78 true (fun k => kq (some v36) k) <| fun v79 =>
  kq (rPick v78 v79 (.bool false)) <| fun v80 =>
  kq (some v80) <| fun v81 =>
  kgq v81 true (fun k => kq (some v37) k) <| fun v82 =>
  kgq v81 true (fun k => kq (rBin .eql .no true v82 (.int .i64 0)) k) <| fun v83 =>
  kq (rPick v81 v83 (.bool false)) <| fun v84 =>
  kq (some v84) <| fun v85 =>
  kgq v85 true (fun k => kq (rFieldP 1 v34) k) <| fun v86 =>
  kgq v85 true (fun k => kq (rLoad v86 h18) k) <| fun v87 =>
  kgq v85 true (fun k => kq (rBin .eql .no true v87 (.int .u8 17)) k) <| fun v88 =>
  kq (rPick v85 v88 (.bool false)) <| fun v89 =>
  kq (some v89) <| fun v90 =>
  kgq v90 true (fun k => kq (some v46) k) <| fun v91 =>
  kgq v90 true (fun k => kq (aUn .not v91) k) <| fun v92 =>
  kq (rPick v90 v92 (.bool false)) <| fun v93 =>
  kq (some v93) <| fun v94 =>
  kgq v94 true (fun k => kq (some v2) k) <| fun v95 =>
  kgh v94 true h18 (fun k => ke (call N_stream_Stream_Left [v95] h18) <| fun v96 h19 =>
  k v96 h19) <| fun v97 h20 =>
  kgq v94 true (fun k => kq (rBin .eql .no true v97 (.int .i64 0)) k) <| fun v98 =>
  kq (rPick v94 v98 (.bool false)) <| fun v99 =>
  kq (some v99) <| fun v100 =>
  kgq v100 true (fun k => kq (some v2) k) <| fun v101 =>
  kgh v100 true h20 (fun k => ke (call N_stream_Stream_Frames [v101] h20) <| fun v102 h21 =>
  k v102 h21) <| fun v103 h22 =>
  kgq v100 true (fun k => kq (rBin .eql .no true v103 (.int .u64 1)) k) <| fun v104 =>
  kq (rPick v100 v104 (.bool false)) <| fun v105 =>
  kq (some v105) <| fun v106 =>
  kgq v106 true (fun k => kq (some v62) k) <| fun v107 =>
  kgq v106 true (fun k => kq (rBin .eql .no true v107 (.int .i64 41)) k) <| fun v108 =>
  kq (rPick v106 v108 (.bool false)) <| fun v109 =>
  kq (some v109) <| fun v110 =>
  kgq v110 true (fun k => kq (some v49) k) <| fun v111 =>
  kgq v110 true (fun k => kq (some v7) k) <| fun v112 =>
  kgh v110 true h22 (fun k => ke (call N_stream_Stream_Feed [v111, v112] h22) <| fun v113 h23 =>
  k v113 h23) <| fun v114 h24 =>
  kgq v110 true (fun k => kq (rBin .eql .no true v114 (.int .i64 0)) k) <| fun v115 =>
  kq (rPick v110 v115 (.bool false)) <| fun v116 =>
  j66 v116 h24)
theorem F_runglaw6_known_eq (call callD : ACall) (h : AH) : kFunc Try.prog [] call callD N_runglaw6_known [] h = F_runglaw6_known call callD h := by kernel_rfl
theorem C_runglaw6_known {ov : AOver} (hov : ov N_runglaw6_known = none) (n : Nat) (h : AH) : kcall Try.prog [] ov (n + 1) N_runglaw6_known [] h = F_runglaw6_known (kcall Try.prog [] ov n) (kFuncD Try.prog [] (kcall Try.prog [] ov n)) h := by
  rw [← F_runglaw6_known_eq]; simp only [kcall, hov]

/-- rung/runglaw6.frames -/
def L_runglaw6_frames_0 (call callD : ACall) (v4 : AVal) (j69 : List AVal → AH → Ans) : (List AVal → AH → Ans) → List AVal → AH → Ans := fun j82 l81 h11 =>
  kq (some v4) <| fun v83 =>
  ke (call N_stream_Stream_Next [v83] h11) <| fun v84 h12 =>
  kq (some v84) <| fun v85 =>
  kq (aExtract v85 0) <| fun v86 =>
  kq (aExtract v85 1) <| fun v87 =>
  kq (aExtract v85 2) <| fun v88 =>
  km (pBox T_api_Frame (.agg [(.int .u16 0), (.int .u8 0), (.slice none 0 0)])) h12 <| fun v89 h13 =>
  ke ((rStore 3 v89 v86 h13).map fun h' => (.tuple [], h')) <| fun v90 h14 =>
  kq (some v87) <| fun v91 =>
  kq (some v88) <| fun v92 =>
  kq (some v92) <| fun v93 =>
  kq (rBin .neq .no true v93 (.int .i64 0)) <| fun v94 =>
  kIf v94 (
  kq (some v92) <| fun v95 =>
  kq (some v95) <| fun v96 =>
  j69 [(gd l81 0), v96] h14) (
  kq (some v91) <| fun v97 =>
  kq (aUn .not v97) <| fun v98 =>
  kIf v98 (
  j69 [(gd l81 0), (gd l81 1)] h14) (
  kq (some (gd l81 0)) <| fun v99 =>
  kq (rLoadA 3 v89 h14) <| fun v100 =>
  km (mBuildSl T_api_Frame 3 [(.int .u16 0), (.int .u8 0), (.slice none 0 0)] 1 [(0, v100)]) h14 <| fun v101 h15 =>
  ke (rAppend T_api_Frame 3 32 v99 v101 h15) <| fun v102 h16 =>
  kq (some v102) <| fun v103 =>
  j82 [v103, (gd l81 1)] h16))
def L_runglaw6_frames_1 (call callD : ACall) (a0 : AVal) (a1 : AVal) (v4 : AVal) : (List AVal → AH → Ans) → List AVal → AH → Ans := fun j10 l9 h1 =>
  kq (some (gd l9 1)) <| fun v11 =>
  kq (some a0) <| fun v12 =>
  kq (rLen v12) <| fun v13 =>
  kq (rBin .lss .no false v11 v13) <| fun v14 =>
  kq (some v14) <| fun v15 =>
  kt (fun v20 =>
  kIf v20 (
  kq (some a0) <| fun v21 =>
  kq (rLen v21) <| fun v22 =>
  kq (some (gd l9 1)) <| fun v23 =>
  kq (rBin .sub .no false v22 v23) <| fun v24 =>
  kq (some v24) <| fun v25 =>
  kq (some (gd l9 3)) <| fun v26 =>
  kq (some a1) <| fun v27 =>
  kq (rLen v27) <| fun v28 =>
  kq (rBin .lss .no false v26 v28) <| fun v29 =>
  kj (fun l30 h3 =>
  kq (some a0) <| fun v32 =>
  kq (some (gd l9 1)) <| fun v33 =>
  kq (some (gd l9 1)) <| fun v34 =>
  kq (some (gd l30 0)) <| fun v35 =>
  kq (rBin .add .no false v34 v35) <| fun v36 =>
  kq (rCut 1 v32 (some v33) (some v36) none) <| fun v37 =>
  ke (call N_runghelp_Copy [v37] h3) <| fun v38 h4 =>
  kq (some v38) <| fun v39 =>
  kq (some v4) <| fun v40 =>
  kq (some v39) <| fun v41 =>
  ke (call N_stream_Stream_Feed [v40, v41] h4) <| fun v42 h5 =>
  kq (some v42) <| fun v43 =>
  kq (some v39) <| fun v44 =>
  ke (call N_runghelp_Spoil [v44] h5) <| fun v45 h6 =>
  kq (some v43) <| fun v46 =>
  kq (rBin .lss .no true v46 (.int .i64 0)) <| fun v47 =>
  kq (some v47) <| fun v48 =>
  kth (fun v60 h9 =>
  kIf v60 (
  kq (some (.slice none 0 0)) <| fun v61 =>
  kq (some (.int .i64 0)) <| fun v62 =>
  kq (some (.bool false)) <| fun v63 =>
  some (.tuple [v61, v62, v63], h9)) (
  kq (some (gd l9 1)) <| fun v64 =>
  kq (some v43) <| fun v65 =>
  kq (rBin .add .no false v64 v65) <| fun v66 =>
  kq (some v66) <| fun v67 =>
  kj (fun l68 h10 =>
  kq (some (gd l9 3)) <| fun v70 =>
  kq (some a0) <| fun v71 =>
  kq (rLen v71) <| fun v72 =>
  kq (rBin .add .no true (.int .i64 5000) v72) <| fun v73 =>
  kq (rBin .gtr .no false v70 v73) <| fun v74 =>
  kIf v74 (
  kq (some (.slice none 0 0)) <| fun v75 =>
  kq (some (.int .i64 0)) <| fun v76 =>
  kq (some (.bool false)) <| fun v77 =>
  some (.tuple [v75, v76, v77], h10)) (
  kq (some (gd l9 3)) <| fun v78 =>
  kq (rBin .add .no true v78 (.int .i64 1)) <| fun v79 =>
  kq (some v79) <| fun v80 =>
  j10 [(gd l68 0), v67, (gd l68 1), v80] h10)) <| fun j69 =>
  kLoop (L_runglaw6_frames_0 call callD v4 j69) rounds [(gd l9 0), (gd l9 2)] h9)) <| fun j49 =>
  kgq v48 false (fun k => kq (some v43) k) <| fun v50 =>
  kgq v48 false (fun k => kq (some (gd l30 0)) k) <| fun v51 =>
  kgq v48 false (fun k => kq (rBin .gtr .no false v50 v51) k) <| fun v52 =>
  kq (rPick v48 (.bool true) v52) <| fun v53 =>
  kq (some v53) <| fun v54 =>
  kgq v54 false (fun k => kq (some v4) k) <| fun v55 =>
  kgh v54 false h6 (fun k => ke (call N_stream_Stream_Left [v55] h6) <| fun v56 h7 =>
  k v56 h7) <| fun v57 h8 =>
  kgq v54 false (fun k => kq (rBin .gtr .no true v57 (.int .i64 260)) k) <| fun v58 =>
  kq (rPick v54 (.bool true) v58) <| fun v59 =>
  j49 v59 h8) <| fun j31 =>
  kIf v29 (
  kq (some v25) <| fun v104 =>
  kq (some a1) <| fun v105 =>
  kq (some (gd l9 3)) <| fun v106 =>
  kq (rAt 1 v105 v106) <| fun v107 =>
  kq (rLoad v107 h1) <| fun v108 =>
  kq (rConvI .i64 v108) <| fun v109 =>
  kq (aMM aMin2 [v104, v109]) <| fun v110 =>
  kq (some v110) <| fun v111 =>
  j31 [v111] h1) (
  j31 [v25] h1)) (
  kq (some (gd l9 0)) <| fun v112 =>
  kq (some (gd l9 2)) <| fun v113 =>
  kq (some (gd l9 0)) <| fun v114 =>
  kq (rLen v114) <| fun v115 =>
  kq (rConvI .u64 v115) <| fun v116 =>
  kq (some v4) <| fun v117 =>
  ke (call N_stream_Stream_Frames [v117] h1) <| fun v118 h17 =>
  kq (rBin .eql .no false v116 v118) <| fun v119 =>
  kq (some v112) <| fun v120 =>
  kq (some v113) <| fun v121 =>
  kq (some v119) <| fun v122 =>
  some (.tuple [v120, v121, v122], h17))) <| fun j16 =>
  kgq v15 true (fun k => kq (some (gd l9 2)) k) <| fun v17 =>
  kgq v15 true (fun k => kq (rBin .eql .no true v17 (.int .i64 0)) k) <| fun v18 =>
  kq (rPick v15 v18 (.bool false)) <| fun v19 =>
  j16 v19
def F_runglaw6_frames (call callD : ACall) (a0 a1 : AVal) (h : AH) : Ans :=
  kq (some (.slice none 0 0)) <| fun v0 =>
  kq (some (.int .i64 0)) <| fun v1 =>
  kq (some (.bool false)) <| fun v2 =>
  ke (call N_stream_New [] h) <| fun v3 h0 =>
  kq (some v3) <| fun v4 =>
  kq (some (.slice none 0 0)) <| fun v5 =>
  kq (some (.int .i64 0)) <| fun v6 =>
  kq (some (.int .i64 0)) <| fun v7 =>
  kq (some (.int .i64 0)) <| fun v8 =>
  kLoop (L_runglaw6_frames_1 call callD a0 a1 v4) rounds [v5, v6, v7, v8] h0
theorem F_runglaw6_frames_eq (call callD : ACall) (a0 a1 : AVal) (h : AH) : kFunc Try.prog [] call callD N_runglaw6_frames [a0, a1] h = F_runglaw6_frames call callD a0 a1 h := by kernel_rfl
theorem C_runglaw6_frames {ov : AOver} (H : Plain ov) (n : Nat) (a0 a1 : AVal) (h : AH) : kc ov (n + 1) N_runglaw6_frames [a0, a1] h = F_runglaw6_frames (kc ov n) (kd ov n) a0 a1 h := by
  have hov : ov N_runglaw6_frames = none := H _ (by decide)
  unfold kc kd; rw [← F_runglaw6_frames_eq]; simp only [kcall, hov]

/-- rung/rungref3.OpenMbap -/
def F_rungref3_OpenMbap (call callD : ACall) (a0 : AVal) (h : AH) : Ans :=
  km (pBox T_api_Frame (.agg [(.int .u16 0), (.int .u8 0), (.slice none 0 0)])) h <| fun v0 h0 =>
  kq (some (.int .i64 0)) <| fun v1 =>
  kq (some (.int .i64 0)) <| fun v2 =>
  kq (some a0) <| fun v3 =>
  kq (rLen v3) <| fun v4 =>
  kq (rBin .lss .no true v4 (.int .i64 6)) <| fun v5 =>
  kIf v5 (
  kq (rBuild [(.int .u16 0), (.int .u8 0), (.slice none 0 0)] [(0, 1), (1, 1), (2, 1)] []) <| fun v6 =>
  ke ((rStore 3 v0 v6 h0).map fun h' => (.tuple [], h')) <| fun v7 h1 =>
  kq (some (.int .i64 0)) <| fun v8 =>
  kq (some (.int .i64 0)) <| fun v9 =>
  kq (rLoadA 3 v0 h1) <| fun v10 =>
  some (.tuple [v10, v8, v9], h1)) (
  kq (some a0) <| fun v11 =>
  ke (call N_rungref3_at [v11, (.int .i64 4)] h0) <| fun v12 h2 =>
  kq (rConvI .i64 v12) <| fun v13 =>
  kq (some v13) <| fun v14 =>
  kq (some a0) <| fun v15 =>
  ke (call N_rungref3_at [v15, (.int .i64 2)] h2) <| fun v16 h3 =>
  kq (rBin .neq .no true v16 (.int .u16 0)) <| fun v17 =>
  kIf v17 (
  kq (rBuild [(.int .u16 0), (.int .u8 0), (.slice none 0 0)] [(0, 1), (1, 1), (2, 1)] []) <| fun v18 =>
  ke ((rStore 3 v0 v18 h3).map fun h' => (.tuple [], h')) <| fun v19 h4 =>
  kq (some (.int .i64 0)) <| fun v20 =>
  kq (some (.int .i64 41)) <| fun v21 =>
  kq (rLoadA 3 v0 h4) <| fun v22 =>
  some (.tuple [v22, v20, v21], h4)) (
  kq (some v14) <| fun v23 =>
  kq (rBin .lss .no true v23 (.int .i64 2)) <| fun v24 =>
  kq (some v24) <| fun v25 =>
  kt (fun v30 =>
  kIf v30 (
  kq (rBuild [(.int .u16 0), (.int .u8 0), (.slice none 0 0)] [(0, 1), (1, 1), (2, 1)] []) <| fun v31 =>
  ke ((rStore 3 v0 v31 h3).map fun h' => (.tuple [], h')) <| fun v32 h6 =>
  kq (some (.int .i64 0)) <| fun v33 =>
  kq (some (.int .i64 40)) <| fun v34 =>
  kq (rLoadA 3 v0 h6) <| fun v35 =>
  some (.tuple [v35, v33, v34], h6)) (
  kq (some a0) <| fun v36 =>
  kq (rLen v36) <| fun v37 =>
  kq (some v14) <| fun v38 =>
  kq (rBin .add .no true (.int .i64 6) v38) <| fun v39 =>
  kq (rBin .lss .no false v37 v39) <| fun v40 =>
  kIf v40 (
  kq (rBuild [(.int .u16 0), (.int .u8 0), (.slice none 0 0)] [(0, 1), (1, 1), (2, 1)] []) <| fun v41 =>
  ke ((rStore 3 v0 v41 h3).map fun h' => (.tuple [], h')) <| fun v42 h7 =>
  kq (some (.int .i64 0)) <| fun v43 =>
  kq (some (.int .i64 0)) <| fun v44 =>
  kq (rLoadA 3 v0 h7) <| fun v45 =>
  some (.tuple [v45, v43, v44], h7)) (
  kq (some a0) <| fun v46 =>
  kq (some a0) <| fun v47 =>
  kq (rAt 1 v47 (.int .i64 6)) <| fun v48 =>
  kq (rLoad v48 h3) <| fun v49 =>
  kq (some a0) <| fun v50 =>
  kq (some v14) <| fun v51 =>
  kq (rBin .add .no true (.int .i64 6) v51) <| fun v52 =>
  kq (rCut 1 v50 (some (.int .i64 7)) (some v52) none) <| fun v53 =>
  kq (some v14) <| fun v54 =>
  kq (rBin .add .no true (.int .i64 6) v54) <| fun v55 =>
  ke (call N_rungref3_at [v46, (.int .i64 0)] h3) <| fun v56 h8 =>
  kChk (!true || kSame (rLoad v48 h8) v49) <|
  ke (rAppend T_uint8 1 1 (.slice none 0 0) v53 h8) <| fun v57 h9 =>
  kq (rBuild [(.int .u16 0), (.int .u8 0), (.slice none 0 0)] [(0, 1), (1, 1), (2, 1)] [(0, v56), (1, v49), (2, v57)]) <| fun v58 =>
  kChk (!true || kSame (rLoad v48 h9) v49) <|
  ke ((rStore 3 v0 v58 h9).map fun h' => (.tuple [], h')) <| fun v59 h10 =>
  kq (some v55) <| fun v60 =>
  kq (some (.int .i64 0)) <| fun v61 =>
  kChk (!false || kSame (rLoad v48 h10) v49) <|
  kq (rLoadA 3 v0 h10) <| fun v62 =>
  some (.tuple [v62, v60, v61], h10)))) <| fun j26 =>
  kgq v25 false (fun k => kq (some v14) k) <| fun v27 =>
  kgq v25 false (fun k => kq (rBin .gtr .no true v27 (.int .i64 254)) k) <| fun v28 =>
  kq (rPick v25 (.bool true) v28) <| fun v29 =>
  j26 v29))
theorem F_rungref3_OpenMbap_eq (call callD : ACall) (a0 : AVal) (h : AH) : kFunc Try.prog [] call callD N_rungref3_OpenMbap [a0] h = F_rungref3_OpenMbap call callD a0 h := by kernel_rfl
theorem C_rungref3_OpenMbap {ov : AOver} (H : Plain ov) (n : Nat) (a0 : AVal) (h : AH) : kc ov (n + 1) N_rungref3_OpenMbap [a0] h = F_rungref3_OpenMbap (kc ov n) (kd ov n) a0 h := by
  have hov : ov N_rungref3_OpenMbap = none := H _ (by decide)
  unfold kc kd; rw [← F_rungref3_OpenMbap_eq]; simp only [kcall, hov]

/-- rung/runghelp.Frame -/
def F_runghelp_Frame (call callD : ACall) (a0 a1 : AVal) (h : AH) : Ans :=
  km (pBox T_api_Frame a0) h <| fun v0 h0 =>
  km (pBox T_api_Frame a1) h0 <| fun v1 h1 =>
  kq (some (.bool false)) <| fun v2 =>
  kq (rFieldP 0 v0) <| fun v3 =>
  kq (rLoad v3 h1) <| fun v4 =>
  kq (rFieldP 0 v1) <| fun v5 =>
  kq (rLoad v5 h1) <| fun v6 =>
  kq (rBin .eql .no false v4 v6) <| fun v7 =>
  kq (some v7) <| fun v8 =>
  kth (fun v24 h4 =>
  kq (some v24) <| fun v25 =>
  some (v25, h4)) <| fun j9 =>
  kgq v8 true (fun k => kq (rFieldP 1 v0) k) <| fun v10 =>
  kgq v8 true (fun k => kq (rLoad v10 h1) k) <| fun v11 =>
  kgq v8 true (fun k => kq (rFieldP 1 v1) k) <| fun v12 =>
  kgq v8 true (fun k => kq (rLoad v12 h1) k) <| fun v13 =>
  kgq v8 true (fun k => kq (rBin .eql .no false v11 v13) k) <| fun v14 =>
  kq (rPick v8 v14 (.bool false)) <| fun v15 =>
  kq (some v15) <| fun v16 =>
  kgq v16 true (fun k => kq (rFieldP 2 v0) k) <| fun v17 =>
  kgq v16 true (fun k => kq (rLoad v17 h1) k) <| fun v18 =>
  kgq v16 true (fun k => kq (rFieldP 2 v1) k) <| fun v19 =>
  kgq v16 true (fun k => kq (rLoad v19 h1) k) <| fun v20 =>
  kgh v16 true h1 (fun k => ke (call N_runghelp_Bytes [v18, v20] h1) <| fun v21 h2 =>
  k v21 h2) <| fun v22 h3 =>
  kq (rPick v16 v22 (.bool false)) <| fun v23 =>
  j9 v23 h3
theorem F_runghelp_Frame_eq (call callD : ACall) (a0 a1 : AVal) (h : AH) : kFunc Try.prog [] call callD N_runghelp_Frame [a0, a1] h = F_runghelp_Frame call callD a0 a1 h := by kernel_rfl
theorem C_runghelp_Frame {ov : AOver} (H : Plain ov) (n : Nat) (a0 a1 : AVal) (h : AH) : kc ov (n + 1) N_runghelp_Frame [a0, a1] h = F_runghelp_Frame (kc ov n) (kd ov n) a0 a1 h := by
  have hov : ov N_runghelp_Frame = none := H _ (by decide)
  unfold kc kd; rw [← F_runghelp_Frame_eq]; simp only [kcall, hov]

/-- rung/stream.New -/
def F_stream_New (call callD : ACall) (h : AH) : Ans :=
  kq (some (.ptr none)) <| fun v0 =>
  kq (rBuild [(.slice none 0 0), (.int .i64 0), (.int .u64 0)] [(0, 1), (1, 1), (2, 1)] []) <| fun v1 =>
  km (pBox T_stream_Stream v1) h <| fun v2 h0 =>
  kq (some v2) <| fun v3 =>
  some (v3, h0)
theorem F_stream_New_eq (call callD : ACall) (h : AH) : kFunc Try.prog [] call callD N_stream_New [] h = F_stream_New call callD h := by kernel_rfl
theorem C_stream_New {ov : AOver} (H : Plain ov) (n : Nat) (h : AH) : kc ov (n + 1) N_stream_New [] h = F_stream_New (kc ov n) (kd ov n) h := by
  have hov : ov N_stream_New = none := H _ (by decide)
  unfold kc kd; rw [← F_stream_New_eq]; simp only [kcall, hov]

/-- (*rung/stream.Stream).Feed -/
def F_stream_Stream_Feed (call callD : ACall) (a0 a1 : AVal) (h : AH) : Ans :=
  kq (some (.int .i64 0)) <| fun v0 =>
  kq (some a0) <| fun v1 =>
  kq (aNilCheck v1) <| fun v2 =>
  kq (rFieldP 1 v2) <| fun v3 =>
  kq (rLoad v3 h) <| fun v4 =>
  kq (rBin .neq .no true v4 (.int .i64 0)) <| fun v5 =>
  kIf v5 (
  kq (some (.int .i64 0)) <| fun v6 =>
  some (v6, h)) (
  kq (some a1) <| fun v7 =>
  kq (rLen v7) <| fun v8 =>
  kq (some a0) <| fun v9 =>
  kq (aNilCheck v9) <| fun v10 =>
  kq (rFieldP 0 v10) <| fun v11 =>
  kq (rLoad v11 h) <| fun v12 =>
  kq (rLen v12) <| fun v13 =>
  kq (rBin .sub .no true (.int .i64 260) v13) <| fun v14 =>
  kq (aMM aMin2 [v8, v14]) <| fun v15 =>
  kq (some v15) <| fun v16 =>
  kq (some a0) <| fun v17 =>
  kq (some a0) <| fun v18 =>
  kq (aNilCheck v18) <| fun v19 =>
  kq (rFieldP 0 v19) <| fun v20 =>
  kq (rLoad v20 h) <| fun v21 =>
  kq (some a1) <| fun v22 =>
  kq (some v16) <| fun v23 =>
  kq (rCut 1 v22 none (some v23) none) <| fun v24 =>
  km (mBuildSl T___uint8 1 [(.slice none 0 0)] 2 [(0, v21), (1, v24)]) h <| fun v25 h0 =>
  kChk (!true || kSame (rLoad v20 h0) v21) <|
  ke (call N_slices_Concat___byte_byte_ [v25] h0) <| fun v26 h1 =>
  kq (aNilCheck v17) <| fun v27 =>
  kq (rFieldP 0 v27) <| fun v28 =>
  kChk (!false || kSame (rLoad v20 h1) v21) <|
  ke ((rStore 1 v28 v26 h1).map fun h' => (.tuple [], h')) <| fun v29 h2 =>
  kChk (!false || kSame (rLoad v20 h2) v21) <|
  kq (some v16) <| fun v30 =>
  kq (some v30) <| fun v31 =>
  some (v31, h2))
theorem F_stream_Stream_Feed_eq (call callD : ACall) (a0 a1 : AVal) (h : AH) : kFunc Try.prog [] call callD N_stream_Stream_Feed [a0, a1] h = F_stream_Stream_Feed call callD a0 a1 h := by kernel_rfl
theorem C_stream_Stream_Feed {ov : AOver} (H : Plain ov) (n : Nat) (a0 a1 : AVal) (h : AH) : kc ov (n + 1) N_stream_Stream_Feed [a0, a1] h = F_stream_Stream_Feed (kc ov n) (kd ov n) a0 a1 h := by
  have hov : ov N_stream_Stream_Feed = none := H _ (by decide)
  unfold kc kd; rw [← F_stream_Stream_Feed_eq]; simp only [kcall, hov]

/-- (*rung/stream.Stream).Left -/
def F_stream_Stream_Left (call callD : ACall) (a0 : AVal) (h : AH) : Ans :=
  kq (some (.int .i64 0)) <| fun v0 =>
  kq (some a0) <| fun v1 =>
  kq (aNilCheck v1) <| fun v2 =>
  kq (rFieldP 0 v2) <| fun v3 =>
  kq (rLoad v3 h) <| fun v4 =>
  kq (rLen v4) <| fun v5 =>
  kq (some v5) <| fun v6 =>
  some (v6, h)
theorem F_stream_Stream_Left_eq (call callD : ACall) (a0 : AVal) (h : AH) : kFunc Try.prog [] call callD N_stream_Stream_Left [a0] h = F_stream_Stream_Left call callD a0 h := by kernel_rfl
theorem C_stream_Stream_Left {ov : AOver} (H : Plain ov) (n : Nat) (a0 : AVal) (h : AH) : kc ov (n + 1) N_stream_Stream_Left [a0] h = F_stream_Stream_Left (kc ov n) (kd ov n) a0 h := by
  have hov : ov N_stream_Stream_Left = none := H _ (by decide)
  unfold kc kd; rw [← F_stream_Stream_Left_eq]; simp only [kcall, hov]

/-- (*rung/stream.Stream).Next -/
def F_stream_Stream_Next (call callD : ACall) (a0 : AVal) (h : AH) : Ans :=
  km (pBox T_api_Frame (.agg [(.int .u16 0), (.int .u8 0), (.slice none 0 0)])) h <| fun v0 h0 =>
  kq (some (.bool false)) <| fun v1 =>
  kq (some (.int .i64 0)) <| fun v2 =>
  kq (some a0) <| fun v3 =>
  kq (aNilCheck v3) <| fun v4 =>
  kq (rFieldP 1 v4) <| fun v5 =>
  kq (rLoad v5 h0) <| fun v6 =>
  kq (rBin .neq .no true v6 (.int .i64 0)) <| fun v7 =>
  kIf v7 (
  kq (rBuild [(.int .u16 0), (.int .u8 0), (.slice none 0 0)] [(0, 1), (1, 1), (2, 1)] []) <| fun v8 =>
  kq (some a0) <| fun v9 =>
  kq (aNilCheck v9) <| fun v10 =>
  kq (rFieldP 1 v10) <| fun v11 =>
  kq (rLoad v11 h0) <| fun v12 =>
  ke ((rStore 3 v0 v8 h0).map fun h' => (.tuple [], h')) <| fun v13 h1 =>
  kq (some (.bool false)) <| fun v14 =>
  kq (some v12) <| fun v15 =>
  kChk (!true || kSame (rLoad v11 h1) v12) <|
  kq (rLoadA 3 v0 h1) <| fun v16 =>
  some (.tuple [v16, v14, v15], h1)) (
  kq (some a0) <| fun v17 =>
  kq (aNilCheck v17) <| fun v18 =>
  kq (rFieldP 0 v18) <| fun v19 =>
  kq (rLoad v19 h0) <| fun v20 =>
  ke (call N_mbap_Open [v20] h0) <| fun v21 h2 =>
  kq (some v21) <| fun v22 =>
  kq (aExtract v22 0) <| fun v23 =>
  kq (aExtract v22 1) <| fun v24 =>
  kq (aExtract v22 2) <| fun v25 =>
  km (pBox T_api_Frame (.agg [(.int .u16 0), (.int .u8 0), (.slice none 0 0)])) h2 <| fun v26 h3 =>
  ke ((rStore 3 v26 v23 h3).map fun h' => (.tuple [], h')) <| fun v27 h4 =>
  kq (some v24) <| fun v28 =>
  kq (some v25) <| fun v29 =>
  kq (some a0) <| fun v30 =>
  kq (some v29) <| fun v31 =>
  kq (aNilCheck v30) <| fun v32 =>
  kq (rFieldP 1 v32) <| fun v33 =>
  ke ((rStore 1 v33 v31 h4).map fun h' => (.tuple [], h')) <| fun v34 h5 =>
  kq (some v29) <| fun v35 =>
  kq (rBin .neq .no true v35 (.int .i64 0)) <| fun v36 =>
  kq (some v36) <| fun v37 =>
  kt (fun v42 =>
  kIf v42 (
  kq (rBuild [(.int .u16 0), (.int .u8 0), (.slice none 0 0)] [(0, 1), (1, 1), (2, 1)] []) <| fun v43 =>
  kq (some v29) <| fun v44 =>
  ke ((rStore 3 v0 v43 h5).map fun h' => (.tuple [], h')) <| fun v45 h7 =>
  kq (some (.bool false)) <| fun v46 =>
  kq (some v44) <| fun v47 =>
  kq (rLoadA 3 v0 h7) <| fun v48 =>
  some (.tuple [v48, v46, v47], h7)) (
  kq (some a0) <| fun v49 =>
  kq (some a0) <| fun v50 =>
  kq (aNilCheck v50) <| fun v51 =>
  kq (rFieldP 0 v51) <| fun v52 =>
  kq (rLoad v52 h5) <| fun v53 =>
  kq (some v28) <| fun v54 =>
  kq (rCut 1 v53 (some v54) none none) <| fun v55 =>
  ke (call N_slices_Clone___byte_byte_ [v55] h5) <| fun v56 h8 =>
  kq (aNilCheck v49) <| fun v57 =>
  kq (rFieldP 0 v57) <| fun v58 =>
  ke ((rStore 1 v58 v56 h8).map fun h' => (.tuple [], h')) <| fun v59 h9 =>
  kq (some a0) <| fun v60 =>
  kq (aNilCheck v60) <| fun v61 =>
  kq (rFieldP 2 v61) <| fun v62 =>
  ke (call N_sync_atomic_Uint64_Add [v62, (.int .u64 1)] h9) <| fun v63 h10 =>
  kq (rLoadA 3 v26 h10) <| fun v64 =>
  ke ((rStore 3 v0 v64 h10).map fun h' => (.tuple [], h')) <| fun v65 h11 =>
  kq (some (.bool true)) <| fun v66 =>
  kq (some (.int .i64 0)) <| fun v67 =>
  kq (rLoadA 3 v0 h11) <| fun v68 =>
  some (.tuple [v68, v66, v67], h11))) <| fun j38 =>
  kgq v37 false (fun k => kq (some v28) k) <| fun v39 =>
  kgq v37 false (fun k => kq (rBin .eql .no true v39 (.int .i64 0)) k) <| fun v40 =>
  kq (rPick v37 (.bool true) v40) <| fun v41 =>
  j38 v41)
theorem F_stream_Stream_Next_eq (call callD : ACall) (a0 : AVal) (h : AH) : kFunc Try.prog [] call callD N_stream_Stream_Next [a0] h = F_stream_Stream_Next call callD a0 h := by kernel_rfl
theorem C_stream_Stream_Next {ov : AOver} (H : Plain ov) (n : Nat) (a0 : AVal) (h : AH) : kc ov (n + 1) N_stream_Stream_Next [a0] h = F_stream_Stream_Next (kc ov n) (kd ov n) a0 h := by
  have hov : ov N_stream_Stream_Next = none := H _ (by decide)
  unfold kc kd; rw [← F_stream_Stream_Next_eq]; simp only [kcall, hov]

/-- rung/rungref3.Mbap -/
def F_rungref3_Mbap (call callD : ACall) (a0 : AVal) (h : AH) : Ans :=
  km (pBox T_api_Frame a0) h <| fun v0 h0 =>
  kq (some (.slice none 0 0)) <| fun v1 =>
  kq (some (.int .i64 0)) <| fun v2 =>
  kq (rFieldP 2 v0) <| fun v3 =>
  kq (rLoad v3 h0) <| fun v4 =>
  kq (rLen v4) <| fun v5 =>
  kq (rBin .lss .no true v5 (.int .i64 1)) <| fun v6 =>
  kq (some v6) <| fun v7 =>
  kt (fun v14 =>
  kIf v14 (
  kq (some (.slice none 0 0)) <| fun v15 =>
  kq (some (.int .i64 41)) <| fun v16 =>
  some (.tuple [v15, v16], h0)) (
  kq (rFieldP 0 v0) <| fun v17 =>
  kq (rLoad v17 h0) <| fun v18 =>
  kq (rFieldP 2 v0) <| fun v19 =>
  kq (rLoad v19 h0) <| fun v20 =>
  kq (rLen v20) <| fun v21 =>
  kq (rBin .add .no true v21 (.int .i64 1)) <| fun v22 =>
  kq (rConvI .u16 v22) <| fun v23 =>
  km (mBuildSl T_uint16 1 [(.int .u16 0)] 3 [(0, v18), (1, (.int .u16 0)), (2, v23)]) h0 <| fun v24 h2 =>
  kq (rFieldP 1 v0) <| fun v25 =>
  kq (rLoad v25 h2) <| fun v26 =>
  km (mBuildSl T_uint8 1 [(.int .u8 0)] 1 [(0, v26)]) h2 <| fun v27 h3 =>
  kq (rFieldP 2 v0) <| fun v28 =>
  kq (rLoad v28 h3) <| fun v29 =>
  kChk (!true || kSame (rLoad v25 h3) v26) <|
  kChk (!true || kSame (rLoad v19 h3) v20) <|
  kChk (!true || kSame (rLoad v17 h3) v18) <|
  ke (call N_rungref3_two [(.slice none 0 0), v24] h3) <| fun v30 h4 =>
  kChk (!true || kSame (rLoad v28 h4) v29) <|
  kChk (!true || kSame (rLoad v25 h4) v26) <|
  kChk (!false || kSame (rLoad v19 h4) v20) <|
  kChk (!false || kSame (rLoad v17 h4) v18) <|
  ke (rAppend T_uint8 1 1 v30 v27 h4) <| fun v31 h5 =>
  kChk (!true || kSame (rLoad v28 h5) v29) <|
  kChk (!false || kSame (rLoad v25 h5) v26) <|
  kChk (!false || kSame (rLoad v19 h5) v20) <|
  kChk (!false || kSame (rLoad v17 h5) v18) <|
  ke (rAppend T_uint8 1 1 v31 v29 h5) <| fun v32 h6 =>
  kq (some v32) <| fun v33 =>
  kq (some (.int .i64 0)) <| fun v34 =>
  kChk (!false || kSame (rLoad v28 h6) v29) <|
  kChk (!false || kSame (rLoad v25 h6) v26) <|
  kChk (!false || kSame (rLoad v19 h6) v20) <|
  kChk (!false || kSame (rLoad v17 h6) v18) <|
  some (.tuple [v33, v34], h6))) <| fun j8 =>
  kgq v7 false (fun k => kq (rFieldP 2 v0) k) <| fun v9 =>
  kgq v7 false (fun k => kq (rLoad v9 h0) k) <| fun v10 =>
  kgq v7 false (fun k => kq (rLen v10) k) <| fun v11 =>
  kgq v7 false (fun k => kq (rBin .gtr .no true v11 (.int .i64 253)) k) <| fun v12 =>
  kq (rPick v7 (.bool true) v12) <| fun v13 =>
  j8 v13
theorem F_rungref3_Mbap_eq (call callD : ACall) (a0 : AVal) (h : AH) : kFunc Try.prog [] call callD N_rungref3_Mbap [a0] h = F_rungref3_Mbap call callD a0 h := by kernel_rfl
theorem C_rungref3_Mbap {ov : AOver} (H : Plain ov) (n : Nat) (a0 : AVal) (h : AH) : kc ov (n + 1) N_rungref3_Mbap [a0] h = F_rungref3_Mbap (kc ov n) (kd ov n) a0 h := by
  have hov : ov N_rungref3_Mbap = none := H _ (by decide)
  unfold kc kd; rw [← F_rungref3_Mbap_eq]; simp only [kcall, hov]

/-- (*rung/stream.Stream).Frames -/
def F_stream_Stream_Frames (call callD : ACall) (a0 : AVal) (h : AH) : Ans :=
  kq (some (.int .u64 0)) <| fun v0 =>
  kq (some a0) <| fun v1 =>
  kq (aNilCheck v1) <| fun v2 =>
  kq (rFieldP 2 v2) <| fun v3 =>
  ke (call N_sync_atomic_Uint64_Load [v3] h) <| fun v4 h0 =>
  kq (some v4) <| fun v5 =>
  some (v5, h0)
theorem F_stream_Stream_Frames_eq (call callD : ACall) (a0 : AVal) (h : AH) : kFunc Try.prog [] call callD N_stream_Stream_Frames [a0] h = F_stream_Stream_Frames call callD a0 h := by kernel_rfl
theorem C_stream_Stream_Frames {ov : AOver} (H : Plain ov) (n : Nat) (a0 : AVal) (h : AH) : kc ov (n + 1) N_stream_Stream_Frames [a0] h = F_stream_Stream_Frames (kc ov n) (kd ov n) a0 h := by
  have hov : ov N_stream_Stream_Frames = none := H _ (by decide)
  unfold kc kd; rw [← F_stream_Stream_Frames_eq]; simp only [kcall, hov]

/-- rung/runghelp.Copy -/
def F_runghelp_Copy (call callD : ACall) (a0 : AVal) (h : AH) : Ans :=
  kq (some (.slice none 0 0)) <| fun v0 =>
  kq (some a0) <| fun v1 =>
  ke (rAppend T_uint8 1 1 (.slice none 0 0) v1 h) <| fun v2 h0 =>
  kq (some v2) <| fun v3 =>
  some (v3, h0)
theorem F_runghelp_Copy_eq (call callD : ACall) (a0 : AVal) (h : AH) : kFunc Try.prog [] call callD N_runghelp_Copy [a0] h = F_runghelp_Copy call callD a0 h := by kernel_rfl
theorem C_runghelp_Copy {ov : AOver} (H : Plain ov) (n : Nat) (a0 : AVal) (h : AH) : kc ov (n + 1) N_runghelp_Copy [a0] h = F_runghelp_Copy (kc ov n) (kd ov n) a0 h := by
  have hov : ov N_runghelp_Copy = none := H _ (by decide)
  unfold kc kd; rw [← F_runghelp_Copy_eq]; simp only [kcall, hov]

/-- rung/runghelp.Spoil -/
def L_runghelp_Spoil_0 (call callD : ACall) (a0 : AVal) : (List AVal → AH → Ans) → List AVal → AH → Ans := fun j2 l1 h0 =>
  kq (some (gd l1 0)) <| fun v3 =>
  kq (some a0) <| fun v4 =>
  kq (rLen v4) <| fun v5 =>
  kq (rBin .lss .no false v3 v5) <| fun v6 =>
  kIf v6 (
  kq (some a0) <| fun v7 =>
  kq (some (gd l1 0)) <| fun v8 =>
  kq (some a0) <| fun v9 =>
  kq (some (gd l1 0)) <| fun v10 =>
  kq (rAt 1 v9 v10) <| fun v11 =>
  kq (rLoad v11 h0) <| fun v12 =>
  kq (rBin .xor .no true v12 (.int .u8 165)) <| fun v13 =>
  kq (rAt 1 v7 v8) <| fun v14 =>
  ke ((rStore 1 v14 v13 h0).map fun h' => (.tuple [], h')) <| fun v15 h1 =>
  kq (some (gd l1 0)) <| fun v16 =>
  kq (rBin .add .no true v16 (.int .i64 1)) <| fun v17 =>
  kq (some v17) <| fun v18 =>
  j2 [v18] h1) (
  some (.tuple [], h0))
def F_runghelp_Spoil (call callD : ACall) (a0 : AVal) (h : AH) : Ans :=
  kq (some (.int .i64 0)) <| fun v0 =>
  kLoop (L_runghelp_Spoil_0 call callD a0) rounds [v0] h
theorem F_runghelp_Spoil_eq (call callD : ACall) (a0 : AVal) (h : AH) : kFunc Try.prog [] call callD N_runghelp_Spoil [a0] h = F_runghelp_Spoil call callD a0 h := by kernel_rfl
theorem C_runghelp_Spoil {ov : AOver} (H : Plain ov) (n : Nat) (a0 : AVal) (h : AH) : kc ov (n + 1) N_runghelp_Spoil [a0] h = F_runghelp_Spoil (kc ov n) (kd ov n) a0 h := by
  have hov : ov N_runghelp_Spoil = none := H _ (by decide)
  unfold kc kd; rw [← F_runghelp_Spoil_eq]; simp only [kcall, hov]

/-- rung/rungref3.at -/
def F_rungref3_at (call callD : ACall) (a0 a1 : AVal) (h : AH) : Ans :=
  kq (some (.int .u16 0)) <| fun v0 =>
  kq (some a0) <| fun v1 =>
  kq (some a1) <| fun v2 =>
  kq (rAt 1 v1 v2) <| fun v3 =>
  kq (rLoad v3 h) <| fun v4 =>
  kq (rConvI .u16 v4) <| fun v5 =>
  kq (rBin .shl .no true v5 (.int .u64 8)) <| fun v6 =>
  kq (some a0) <| fun v7 =>
  kq (some a1) <| fun v8 =>
  kq (rBin .add .no true v8 (.int .i64 1)) <| fun v9 =>
  kq (rAt 1 v7 v9) <| fun v10 =>
  kq (rLoad v10 h) <| fun v11 =>
  kq (rConvI .u16 v11) <| fun v12 =>
  kq (rBin .or .no false v6 v12) <| fun v13 =>
  kq (some v13) <| fun v14 =>
  some (v14, h)
theorem F_rungref3_at_eq (call callD : ACall) (a0 a1 : AVal) (h : AH) : kFunc Try.prog [] call callD N_rungref3_at [a0, a1] h = F_rungref3_at call callD a0 a1 h := by kernel_rfl
theorem C_rungref3_at {ov : AOver} (H : Plain ov) (n : Nat) (a0 a1 : AVal) (h : AH) : kc ov (n + 1) N_rungref3_at [a0, a1] h = F_rungref3_at (kc ov n) (kd ov n) a0 a1 h := by
  have hov : ov N_rungref3_at = none := H _ (by decide)
  unfold kc kd; rw [← F_rungref3_at_eq]; simp only [kcall, hov]

/-- rung/runghelp.Bytes -/
def F_runghelp_Bytes (call callD : ACall) (a0 a1 : AVal) (h : AH) : Ans :=
  kq (some (.bool false)) <| fun v0 =>
  kq (some a0) <| fun v1 =>
  kq (rText v1 h) <| fun v2 =>
  kq (some a1) <| fun v3 =>
  kq (rText v3 h) <| fun v4 =>
  kq (rBin .eql .no false v2 v4) <| fun v5 =>
  kq (some v5) <| fun v6 =>
  some (v6, h)
theorem F_runghelp_Bytes_eq (call callD : ACall) (a0 a1 : AVal) (h : AH) : kFunc Try.prog [] call callD N_runghelp_Bytes [a0, a1] h = F_runghelp_Bytes call callD a0 a1 h := by kernel_rfl
theorem C_runghelp_Bytes {ov : AOver} (H : Plain ov) (n : Nat) (a0 a1 : AVal) (h : AH) : kc ov (n + 1) N_runghelp_Bytes [a0, a1] h = F_runghelp_Bytes (kc ov n) (kd ov n) a0 a1 h := by
  have hov : ov N_runghelp_Bytes = none := H _ (by decide)
  unfold kc kd; rw [← F_runghelp_Bytes_eq]; simp only [kcall, hov]

/-- slices.Concat[[]byte,byte] -/
def L_slices_Concat___byte_byte__0 (call callD : ACall) (v28 : AVal) (v27 : AVal) : (List AVal → AH → Ans) → List AVal → AH → Ans := fun j31 l30 h4 =>
  kq (rBin .lss .no false (gd l30 1) v28) <| fun v32 =>
  kIf v32 (
  kq (rAt 1 v27 (gd l30 1)) <| fun v33 =>
  kq (rLoad v33 h4) <| fun v34 =>
  kq (some v34) <| fun v35 =>
  kq (some (gd l30 0)) <| fun v36 =>
  kq (some v35) <| fun v37 =>
  ke (rAppend T_uint8 1 1 v36 v37 h4) <| fun v38 h5 =>
  kq (some v38) <| fun v39 =>
  kq (rBin .add .no true (gd l30 1) (.int .i64 1)) <| fun v40 =>
  kq (some v40) <| fun v41 =>
  j31 [v39, v41] h5) (
  kq (some (gd l30 0)) <| fun v42 =>
  kq (some v42) <| fun v43 =>
  some (v43, h4))
def L_slices_Concat___byte_byte__1 (call callD : ACall) (v3 : AVal) (v2 : AVal) (a0 : AVal) : (List AVal → AH → Ans) → List AVal → AH → Ans := fun j6 l5 h0 =>
  kq (rBin .lss .no false (gd l5 1) v3) <| fun v7 =>
  kIf v7 (
  kq (rAt 1 v2 (gd l5 1)) <| fun v8 =>
  kq (rLoad v8 h0) <| fun v9 =>
  kq (some v9) <| fun v10 =>
  kq (some (gd l5 0)) <| fun v11 =>
  kq (some v10) <| fun v12 =>
  kq (rLen v12) <| fun v13 =>
  kq (rBin .add .no false v11 v13) <| fun v14 =>
  kq (some v14) <| fun v15 =>
  kq (some v15) <| fun v16 =>
  kq (rBin .lss .no true v16 (.int .i64 0)) <| fun v17 =>
  kj (fun l18 h1 =>
  kq (rBin .add .no true (gd l5 1) (.int .i64 1)) <| fun v20 =>
  kq (some v20) <| fun v21 =>
  j6 [v15, v21] h1) <| fun j19 =>
  kIf v17 (
  kq (some (.iface T_string (.str [108, 101, 110, 32, 111, 117, 116, 32, 111, 102, 32, 114, 97, 110, 103, 101]))) <| fun v22 =>
  ke (none) <| fun v23 h2 =>
  j19 [] h2) (
  j19 [] h0)) (
  kq (some (gd l5 0)) <| fun v24 =>
  ke (call N_slices_Grow___byte_byte_ [(.slice none 0 0), v24] h0) <| fun v25 h3 =>
  kq (some v25) <| fun v26 =>
  kq (some a0) <| fun v27 =>
  kq (rLen v27) <| fun v28 =>
  kq (some (.int .i64 0)) <| fun v29 =>
  kLoop (L_slices_Concat___byte_byte__0 call callD v28 v27) rounds [v26, v29] h3)
def F_slices_Concat___byte_byte_ (call callD : ACall) (a0 : AVal) (h : AH) : Ans :=
  kq (some (.slice none 0 0)) <| fun v0 =>
  kq (some (.int .i64 0)) <| fun v1 =>
  kq (some a0) <| fun v2 =>
  kq (rLen v2) <| fun v3 =>
  kq (some (.int .i64 0)) <| fun v4 =>
  kLoop (L_slices_Concat___byte_byte__1 call callD v3 v2 a0) rounds [v1, v4] h
theorem F_slices_Concat___byte_byte__eq (call callD : ACall) (a0 : AVal) (h : AH) : kFunc Try.prog [] call callD N_slices_Concat___byte_byte_ [a0] h = F_slices_Concat___byte_byte_ call callD a0 h := by kernel_rfl
theorem C_slices_Concat___byte_byte_ {ov : AOver} (H : Plain ov) (n : Nat) (a0 : AVal) (h : AH) : kc ov (n + 1) N_slices_Concat___byte_byte_ [a0] h = F_slices_Concat___byte_byte_ (kc ov n) (kd ov n) a0 h := by
  have hov : ov N_slices_Concat___byte_byte_ = none := H _ (by decide)
  unfold kc kd; rw [← F_slices_Concat___byte_byte__eq]; simp only [kcall, hov]

/-- rung/mbap.Open -/
def F_mbap_Open (call callD : ACall) (a0 : AVal) (h : AH) : Ans :=
  km (pBox T_api_Frame (.agg [(.int .u16 0), (.int .u8 0), (.slice none 0 0)])) h <| fun v0 h0 =>
  kq (some (.int .i64 0)) <| fun v1 =>
  kq (some (.int .i64 0)) <| fun v2 =>
  kq (some a0) <| fun v3 =>
  kq (rLen v3) <| fun v4 =>
  kq (rBin .lss .no true v4 (.int .i64 6)) <| fun v5 =>
  kIf v5 (
  kq (rBuild [(.int .u16 0), (.int .u8 0), (.slice none 0 0)] [(0, 1), (1, 1), (2, 1)] []) <| fun v6 =>
  ke ((rStore 3 v0 v6 h0).map fun h' => (.tuple [], h')) <| fun v7 h1 =>
  kq (some (.int .i64 0)) <| fun v8 =>
  kq (some (.int .i64 0)) <| fun v9 =>
  kq (rLoadA 3 v0 h1) <| fun v10 =>
  some (.tuple [v10, v8, v9], h1)) (
  kq (some a0) <| fun v11 =>
  kq (rAt 1 v11 (.int .i64 4)) <| fun v12 =>
  kq (rLoad v12 h0) <| fun v13 =>
  kq (rConvI .i64 v13) <| fun v14 =>
  kq (rBin .shl .no true v14 (.int .u64 8)) <| fun v15 =>
  kq (some a0) <| fun v16 =>
  kq (rAt 1 v16 (.int .i64 5)) <| fun v17 =>
  kq (rLoad v17 h0) <| fun v18 =>
  kq (rConvI .i64 v18) <| fun v19 =>
  kq (rBin .or .no false v15 v19) <| fun v20 =>
  kq (some v20) <| fun v21 =>
  kq (some a0) <| fun v22 =>
  kq (rAt 1 v22 (.int .i64 2)) <| fun v23 =>
  kq (rLoad v23 h0) <| fun v24 =>
  kq (rBin .neq .no true v24 (.int .u8 0)) <| fun v25 =>
  kq (some v25) <| fun v26 =>
  kt (fun v33 =>
  kq (some v33) <| fun v34 =>
  kIf v34 (
  kq (rBuild [(.int .u16 0), (.int .u8 0), (.slice none 0 0)] [(0, 1), (1, 1), (2, 1)] []) <| fun v35 =>
  ke ((rStore 3 v0 v35 h0).map fun h' => (.tuple [], h')) <| fun v36 h3 =>
  kq (some (.int .i64 0)) <| fun v37 =>
  kq (some (.int .i64 41)) <| fun v38 =>
  kq (rLoadA 3 v0 h3) <| fun v39 =>
  some (.tuple [v39, v37, v38], h3)) (
  kq (some v21) <| fun v40 =>
  kq (rBin .lss .no true v40 (.int .i64 2)) <| fun v41 =>
  kq (some v41) <| fun v42 =>
  kt (fun v47 =>
  kq (some v47) <| fun v48 =>
  kIf v48 (
  kq (rBuild [(.int .u16 0), (.int .u8 0), (.slice none 0 0)] [(0, 1), (1, 1), (2, 1)] []) <| fun v49 =>
  ke ((rStore 3 v0 v49 h0).map fun h' => (.tuple [], h')) <| fun v50 h5 =>
  kq (some (.int .i64 0)) <| fun v51 =>
  kq (some (.int .i64 40)) <| fun v52 =>
  kq (rLoadA 3 v0 h5) <| fun v53 =>
  some (.tuple [v53, v51, v52], h5)) (
  kq (some a0) <| fun v54 =>
  kq (rLen v54) <| fun v55 =>
  kq (some v21) <| fun v56 =>
  kq (rBin .add .no true (.int .i64 6) v56) <| fun v57 =>
  kq (rBin .lss .no false v55 v57) <| fun v58 =>
  kq (some v58) <| fun v59 =>
  kIf v59 (
  kq (rBuild [(.int .u16 0), (.int .u8 0), (.slice none 0 0)] [(0, 1), (1, 1), (2, 1)] []) <| fun v60 =>
  ke ((rStore 3 v0 v60 h0).map fun h' => (.tuple [], h')) <| fun v61 h6 =>
  kq (some (.int .i64 0)) <| fun v62 =>
  kq (some (.int .i64 0)) <| fun v63 =>
  kq (rLoadA 3 v0 h6) <| fun v64 =>
  some (.tuple [v64, v62, v63], h6)) (
  kq (some v21) <| fun v65 =>
  kq (rBin .add .no true (.int .i64 6) v65) <| fun v66 =>
  kq (some v66) <| fun v67 =>
  kq (some a0) <| fun v68 =>
  kq (some v67) <| fun v69 =>
  kq (some v67) <| fun v70 =>
  kq (rCut 1 v68 (some (.int .i64 7)) (some v69) (some v70)) <| fun v71 =>
  kq (some v71) <| fun v72 =>
  kq (some a0) <| fun v73 =>
  kq (rAt 1 v73 (.int .i64 0)) <| fun v74 =>
  kq (rLoad v74 h0) <| fun v75 =>
  kq (rConvI .u16 v75) <| fun v76 =>
  kq (rBin .shl .no true v76 (.int .u64 8)) <| fun v77 =>
  kq (some a0) <| fun v78 =>
  kq (rAt 1 v78 (.int .i64 1)) <| fun v79 =>
  kq (rLoad v79 h0) <| fun v80 =>
  kq (rConvI .u16 v80) <| fun v81 =>
  kq (rBin .or .no false v77 v81) <| fun v82 =>
  kq (some a0) <| fun v83 =>
  kq (rAt 1 v83 (.int .i64 6)) <| fun v84 =>
  kq (rLoad v84 h0) <| fun v85 =>
  kq (some v72) <| fun v86 =>
  kq (some v67) <| fun v87 =>
  ke (call N_slices_Clone___byte_byte_ [v86] h0) <| fun v88 h7 =>
  kq (rBuild [(.int .u16 0), (.int .u8 0), (.slice none 0 0)] [(0, 1), (1, 1), (2, 1)] [(0, v82), (1, v85), (2, v88)]) <| fun v89 =>
  kChk (!true || kSame (rLoad v84 h7) v85) <|
  kChk (!true || kSame (rLoad v79 h7) v80) <|
  kChk (!true || kSame (rLoad v74 h7) v75) <|
  ke ((rStore 3 v0 v89 h7).map fun h' => (.tuple [], h')) <| fun v90 h8 =>
  kq (some v87) <| fun v91 =>
  kq (some (.int .i64 0)) <| fun v92 =>
  kChk (!false || kSame (rLoad v84 h8) v85) <|
  kChk (!false || kSame (rLoad v79 h8) v80) <|
  kChk (!false || kSame (rLoad v74 h8) v75) <|
  kq (rLoadA 3 v0 h8) <| fun v93 =>
  some (.tuple [v93, v91, v92], h8)))) <| fun j43 =>
  kgq v42 false (fun k => kq (some v21) k) <| fun v44 =>
  kgq v42 false (fun k => kq (rBin .gtr .no true v44 (.int .i64 254)) k) <| fun v45 =>
  kq (rPick v42 (.bool true) v45) <| fun v46 =>
  j43 v46)) <| fun j27 =>
  kgq v26 false (fun k => kq (some a0) k) <| fun v28 =>
  kgq v26 false (fun k => kq (rAt 1 v28 (.int .i64 3)) k) <| fun v29 =>
  kgq v26 false (fun k => kq (rLoad v29 h0) k) <| fun v30 =>
  kgq v26 false (fun k => kq (rBin .neq .no true v30 (.int .u8 0)) k) <| fun v31 =>
  kq (rPick v26 (.bool true) v31) <| fun v32 =>
  j27 v32)
theorem F_mbap_Open_eq (call callD : ACall) (a0 : AVal) (h : AH) : kFunc Try.prog [] call callD N_mbap_Open [a0] h = F_mbap_Open call callD a0 h := by kernel_rfl
theorem C_mbap_Open {ov : AOver} (H : Plain ov) (n : Nat) (a0 : AVal) (h : AH) : kc ov (n + 1) N_mbap_Open [a0] h = F_mbap_Open (kc ov n) (kd ov n) a0 h := by
  have hov : ov N_mbap_Open = none := H _ (by decide)
  unfold kc kd; rw [← F_mbap_Open_eq]; simp only [kcall, hov]

/-- slices.Clone[[]byte,byte] -/
def F_slices_Clone___byte_byte_ (call callD : ACall) (a0 : AVal) (h : AH) : Ans :=
  kq (some (.slice none 0 0)) <| fun v0 =>
  kq (some a0) <| fun v1 =>
  kq (rBin .eql .slice true v1 (.slice none 0 0)) <| fun v2 =>
  kIf v2 (
  kq (some (.slice none 0 0)) <| fun v3 =>
  some (v3, h)) (
  km (mBuildSl T_uint8 1 [(.int .u8 0)] 0 []) h <| fun v4 h0 =>
  kq (some a0) <| fun v5 =>
  ke (rAppend T_uint8 1 1 v4 v5 h0) <| fun v6 h1 =>
  kq (some v6) <| fun v7 =>
  some (v7, h1))
theorem F_slices_Clone___byte_byte__eq (call callD : ACall) (a0 : AVal) (h : AH) : kFunc Try.prog [] call callD N_slices_Clone___byte_byte_ [a0] h = F_slices_Clone___byte_byte_ call callD a0 h := by kernel_rfl
theorem C_slices_Clone___byte_byte_ {ov : AOver} (H : Plain ov) (n : Nat) (a0 : AVal) (h : AH) : kc ov (n + 1) N_slices_Clone___byte_byte_ [a0] h = F_slices_Clone___byte_byte_ (kc ov n) (kd ov n) a0 h := by
  have hov : ov N_slices_Clone___byte_byte_ = none := H _ (by decide)
  unfold kc kd; rw [← F_slices_Clone___byte_byte__eq]; simp only [kcall, hov]

/-- (*sync/atomic.Uint64).Add -/
def F_sync_atomic_Uint64_Add (call callD : ACall) (a0 a1 : AVal) (h : AH) : Ans :=
  kq (some (.int .u64 0)) <| fun v0 =>
  kq (some a0) <| fun v1 =>
  kq (aNilCheck v1) <| fun v2 =>
  kq (rFieldP 0 v2) <| fun v3 =>
  kq (some a1) <| fun v4 =>
  ke (call N_sync_atomic_AddUint64 [v3, v4] h) <| fun v5 h0 =>
  kq (some v5) <| fun v6 =>
  some (v6, h0)
theorem F_sync_atomic_Uint64_Add_eq (call callD : ACall) (a0 a1 : AVal) (h : AH) : kFunc Try.prog [] call callD N_sync_atomic_Uint64_Add [a0, a1] h = F_sync_atomic_Uint64_Add call callD a0 a1 h := by kernel_rfl
theorem C_sync_atomic_Uint64_Add {ov : AOver} (H : Plain ov) (n : Nat) (a0 a1 : AVal) (h : AH) : kc ov (n + 1) N_sync_atomic_Uint64_Add [a0, a1] h = F_sync_atomic_Uint64_Add (kc ov n) (kd ov n) a0 a1 h := by
  have hov : ov N_sync_atomic_Uint64_Add = none := H _ (by decide)
  unfold kc kd; rw [← F_sync_atomic_Uint64_Add_eq]; simp only [kcall, hov]

/-- rung/rungref3.two -/
def L_rungref3_two_0 (call callD : ACall) (a1 : AVal) : (List AVal → AH → Ans) → List AVal → AH → Ans := fun j3 l2 h0 =>
  kq (some (gd l2 1)) <| fun v4 =>
  kq (some a1) <| fun v5 =>
  kq (rLen v5) <| fun v6 =>
  kq (rBin .lss .no false v4 v6) <| fun v7 =>
  kIf v7 (
  kq (some (gd l2 0)) <| fun v8 =>
  kq (some a1) <| fun v9 =>
  kq (some (gd l2 1)) <| fun v10 =>
  kq (rAt 1 v9 v10) <| fun v11 =>
  kq (rLoad v11 h0) <| fun v12 =>
  kq (rBin .shr .no true v12 (.int .u64 8)) <| fun v13 =>
  kq (rConvI .u8 v13) <| fun v14 =>
  kq (some a1) <| fun v15 =>
  kq (some (gd l2 1)) <| fun v16 =>
  kq (rAt 1 v15 v16) <| fun v17 =>
  kq (rLoad v17 h0) <| fun v18 =>
  kq (rConvI .u8 v18) <| fun v19 =>
  km (mBuildSl T_uint8 1 [(.int .u8 0)] 2 [(0, v14), (1, v19)]) h0 <| fun v20 h1 =>
  kChk (!true || kSame (rLoad v17 h1) v18) <|
  kChk (!true || kSame (rLoad v11 h1) v12) <|
  ke (rAppend T_uint8 1 1 v8 v20 h1) <| fun v21 h2 =>
  kq (some v21) <| fun v22 =>
  kChk (!false || kSame (rLoad v17 h2) v18) <|
  kChk (!false || kSame (rLoad v11 h2) v12) <|
  kq (some (gd l2 1)) <| fun v23 =>
  kq (rBin .add .no true v23 (.int .i64 1)) <| fun v24 =>
  kq (some v24) <| fun v25 =>
  j3 [v22, v25] h2) (
  kq (some (gd l2 0)) <| fun v26 =>
  kq (some v26) <| fun v27 =>
  some (v27, h0))
def F_rungref3_two (call callD : ACall) (a0 a1 : AVal) (h : AH) : Ans :=
  kq (some (.slice none 0 0)) <| fun v0 =>
  kq (some (.int .i64 0)) <| fun v1 =>
  kLoop (L_rungref3_two_0 call callD a1) rounds [a0, v1] h
theorem F_rungref3_two_eq (call callD : ACall) (a0 a1 : AVal) (h : AH) : kFunc Try.prog [] call callD N_rungref3_two [a0, a1] h = F_rungref3_two call callD a0 a1 h := by kernel_rfl
theorem C_rungref3_two {ov : AOver} (H : Plain ov) (n : Nat) (a0 a1 : AVal) (h : AH) : kc ov (n + 1) N_rungref3_two [a0, a1] h = F_rungref3_two (kc ov n) (kd ov n) a0 a1 h := by
  have hov : ov N_rungref3_two = none := H _ (by decide)
  unfold kc kd; rw [← F_rungref3_two_eq]; simp only [kcall, hov]

/-- (*sync/atomic.Uint64).Load -/
def F_sync_atomic_Uint64_Load (call callD : ACall) (a0 : AVal) (h : AH) : Ans :=
  kq (some (.int .u64 0)) <| fun v0 =>
  kq (some a0) <| fun v1 =>
  kq (aNilCheck v1) <| fun v2 =>
  kq (rFieldP 0 v2) <| fun v3 =>
  ke (call N_sync_atomic_LoadUint64 [v3] h) <| fun v4 h0 =>
  kq (some v4) <| fun v5 =>
  some (v5, h0)
theorem F_sync_atomic_Uint64_Load_eq (call callD : ACall) (a0 : AVal) (h : AH) : kFunc Try.prog [] call callD N_sync_atomic_Uint64_Load [a0] h = F_sync_atomic_Uint64_Load call callD a0 h := by kernel_rfl
theorem C_sync_atomic_Uint64_Load {ov : AOver} (H : Plain ov) (n : Nat) (a0 : AVal) (h : AH) : kc ov (n + 1) N_sync_atomic_Uint64_Load [a0] h = F_sync_atomic_Uint64_Load (kc ov n) (kd ov n) a0 h := by
  have hov : ov N_sync_atomic_Uint64_Load = none := H _ (by decide)
  unfold kc kd; rw [← F_sync_atomic_Uint64_Load_eq]; simp only [kcall, hov]

/-- slices.Grow[[]byte,byte] -/
def F_slices_Grow___byte_byte_ (call callD : ACall) (a0 a1 : AVal) (h : AH) : Ans :=
  kq (some (.slice none 0 0)) <| fun v0 =>
  kq (some a1) <| fun v1 =>
  kq (rBin .lss .no true v1 (.int .i64 0)) <| fun v2 =>
  kj (fun l3 h0 =>
  kq (some a1) <| fun v5 =>
  kq (some a0) <| fun v6 =>
  kq (rCap v6 h0) <| fun v7 =>
  kq (some a0) <| fun v8 =>
  kq (rLen v8) <| fun v9 =>
  kq (rBin .sub .no false v7 v9) <| fun v10 =>
  kq (rBin .sub .no false v5 v10) <| fun v11 =>
  kq (some v11) <| fun v12 =>
  kq (some v12) <| fun v13 =>
  kq (rBin .gtr .no true v13 (.int .i64 0)) <| fun v14 =>
  kj (fun l15 h1 =>
  kq (some (gd l15 0)) <| fun v17 =>
  kq (some v17) <| fun v18 =>
  some (v18, h1)) <| fun j16 =>
  kIf v14 (
  kq (some a0) <| fun v19 =>
  kq (some a0) <| fun v20 =>
  kq (rCap v20 h0) <| fun v21 =>
  kq (rCut 1 v19 none (some v21) none) <| fun v22 =>
  kq (some v12) <| fun v23 =>
  ke (rAppendN T_uint8 1 1 [(.int .u8 0)] v22 v23 h0) <| fun v24 h2 =>
  kq (some a0) <| fun v25 =>
  kq (rLen v25) <| fun v26 =>
  kq (rCut 1 v24 none (some v26) none) <| fun v27 =>
  kq (some v27) <| fun v28 =>
  j16 [v28] h2) (
  j16 [a0] h0)) <| fun j4 =>
  kIf v2 (
  kq (some (.iface T_string (.str [99, 97, 110, 110, 111, 116, 32, 98, 101, 32, 110, 101, 103, 97, 116, 105, 118, 101]))) <| fun v29 =>
  ke (none) <| fun v30 h3 =>
  j4 [] h3) (
  j4 [] h)
theorem F_slices_Grow___byte_byte__eq (call callD : ACall) (a0 a1 : AVal) (h : AH) : kFunc Try.prog [] call callD N_slices_Grow___byte_byte_ [a0, a1] h = F_slices_Grow___byte_byte_ call callD a0 a1 h := by kernel_rfl
theorem C_slices_Grow___byte_byte_ {ov : AOver} (H : Plain ov) (n : Nat) (a0 a1 : AVal) (h : AH) : kc ov (n + 1) N_slices_Grow___byte_byte_ [a0, a1] h = F_slices_Grow___byte_byte_ (kc ov n) (kd ov n) a0 a1 h := by
  have hov : ov N_slices_Grow___byte_byte_ = none := H _ (by decide)
  unfold kc kd; rw [← F_slices_Grow___byte_byte__eq]; simp only [kcall, hov]


end Go.Proofs.Ytfnmgclalcoplaa.AI
