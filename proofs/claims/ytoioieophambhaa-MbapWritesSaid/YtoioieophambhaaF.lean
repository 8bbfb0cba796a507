/- PRINTED by Pr2: the functions of the program as the machine sees them. -/
import Derived.Test.YtoioieophambhaaAiLib
import Derived.Test.YtoioieophambhaaProg
import Derived.KernelRfl
namespace Go.Proofs.Ytoioieophambhaa.AI
open Go
set_option linter.unusedVariables false
set_option maxRecDepth 100000
abbrev T_uint8 : Nat := 5
abbrev T_uint16 : Nat := 22
abbrev T_api_Frame : Nat := 25
abbrev N_runglaw4_MbapWrites : Nat := 3
abbrev N_runglaw4_MbapReads : Nat := 4
abbrev N_runglaw4_MbapWaits : Nat := 5
abbrev N_runglaw4_known : Nat := 6
abbrev N_mbap_Write : Nat := 7
abbrev N_rungref3_Mbap : Nat := 8
abbrev N_runghelp_Bytes : Nat := 9
abbrev N_mbap_Open : Nat := 10
abbrev N_runghelp_Copy : Nat := 11
abbrev N_runghelp_Frame : Nat := 12
abbrev N_rungref3_OpenMbap : Nat := 13
abbrev N_runghelp_Place : Nat := 14
abbrev N_rungref3_two : Nat := 15
abbrev N_slices_Clone___byte_byte_ : Nat := 16
abbrev N_rungref3_at : Nat := 17
/-- Functions that another thing stands in for. -/
def OVS : List Nat := [6]
def Plain (ov : AOver) : Prop := ∀ f, f ∉ OVS → ov f = none
noncomputable def kc (ov : AOver) (n : Nat) : ACall := kcall Try.prog [] ov n
noncomputable def kd (ov : AOver) (n : Nat) : ACall := kFuncD Try.prog [] (kcall Try.prog [] ov n)
/-- rung/runglaw4.MbapWrites -/
def F_runglaw4_MbapWrites (call callD : ACall) (a0 a1 : AVal) (h : AH) : Ans :=
  kM (pBox T_api_Frame a0) h <| hd fun v0 h0 =>
  kQ (some (.bool false)) <| hd fun v1 =>
  kE (call N_runglaw4_known [] h0) <| hd fun v2 h1 =>
  kQ (aUn .not v2) <| hd fun v3 =>
  kIf v3 (
  kQ (some (.bool false)) <| hd fun v4 =>
  some (v4, h1)) (
  kQ (rFieldP 2 v0) <| hd fun v5 =>
  kQ (rLoad v5 h1) <| hd fun v6 =>
  kQ (rLen v6) <| hd fun v7 =>
  kQ (rBin .gtr .no true v7 (.int .i64 600)) <| hd fun v8 =>
  kQ (some v8) <| hd fun v9 =>
  kT (hd fun v15 =>
  kIf v15 (
  kQ (some (.bool true)) <| hd fun v16 =>
  some (v16, h1)) (
  kQ (rLoadA 3 v0 h1) <| hd fun v17 =>
  kE (call N_mbap_Write [v17] h1) <| hd fun v18 h3 =>
  kQ (some v18) <| hd fun v19 =>
  kQ (aExtract v19 0) <| hd fun v20 =>
  kQ (aExtract v19 1) <| hd fun v21 =>
  kQ (some v20) <| hd fun v22 =>
  kQ (some v21) <| hd fun v23 =>
  kQ (rLoadA 3 v0 h3) <| hd fun v24 =>
  kE (call N_rungref3_Mbap [v24] h3) <| hd fun v25 h4 =>
  kQ (some v25) <| hd fun v26 =>
  kQ (aExtract v26 0) <| hd fun v27 =>
  kQ (aExtract v26 1) <| hd fun v28 =>
  kQ (some v27) <| hd fun v29 =>
  kQ (some v28) <| hd fun v30 =>
  kQ (some v22) <| hd fun v31 =>
  kQ (some v29) <| hd fun v32 =>
  kE (call N_runghelp_Bytes [v31, v32] h4) <| hd fun v33 h5 =>
  kQ (aUn .not v33) <| hd fun v34 =>
  kQ (some v34) <| hd fun v35 =>
  kT (hd fun v41 =>
  kIf v41 (
  kQ (some (.bool false)) <| hd fun v42 =>
  some (v42, h5)) (
  kQ (some v30) <| hd fun v43 =>
  kQ (rBin .neq .no true v43 (.int .i64 0)) <| hd fun v44 =>
  kIf v44 (
  kQ (some (.bool true)) <| hd fun v45 =>
  some (v45, h5)) (
  kQ (some v22) <| hd fun v46 =>
  kE (call N_runghelp_Copy [v46] h5) <| hd fun v47 h7 =>
  kQ (some a1) <| hd fun v48 =>
  kE (rAppend T_uint8 1 1 v47 v48 h7) <| hd fun v49 h8 =>
  kE (call N_mbap_Open [v49] h8) <| hd fun v50 h9 =>
  kQ (some v50) <| hd fun v51 =>
  kQ (aExtract v51 0) <| hd fun v52 =>
  kQ (aExtract v51 1) <| hd fun v53 =>
  kQ (aExtract v51 2) <| hd fun v54 =>
  kM (pBox T_api_Frame (.agg [(.int .u16 0), (.int .u8 0), (.slice none 0 0)])) h9 <| hd fun v55 h10 =>
  kE ((rStore 3 v55 v52 h10).map fun h' => (.tuple [], h')) <| hd fun v56 h11 =>
  kQ (some v53) <| hd fun v57 =>
  kQ (some v54) <| hd fun v58 =>
  kQ (some v58) <| hd fun v59 =>
  kQ (rBin .eql .no true v59 (.int .i64 0)) <| hd fun v60 =>
  kQ (some v60) <| hd fun v61 =>
  kTh (hd fun v74 h14 =>
  kQ (some v74) <| hd fun v75 =>
  some (v75, h14)) <| hd fun j62 =>
  kGq v61 true (fun k => kQ (some v57) k) <| hd fun v63 =>
  kGq v61 true (fun k => kQ (some v22) k) <| hd fun v64 =>
  kGq v61 true (fun k => kQ (rLen v64) k) <| hd fun v65 =>
  kGq v61 true (fun k => kQ (rBin .eql .no false v63 v65) k) <| hd fun v66 =>
  kQ (rPick v61 v66 (.bool false)) <| hd fun v67 =>
  kQ (some v67) <| hd fun v68 =>
  kGq v68 true (fun k => kQ (rLoadA 3 v55 h11) k) <| hd fun v69 =>
  kGq v68 true (fun k => kQ (rLoadA 3 v0 h11) k) <| hd fun v70 =>
  kG v68 true h11 (fun k => kE (call N_runghelp_Frame [v69, v70] h11) <| hd fun v71 h12 =>
  k v71 h12) <| hd fun v72 h13 =>
  kQ (rPick v68 v72 (.bool false)) <| hd fun v73 =>
  j62 v73 h13))) <| hd fun j36 =>
  kGq v35 false (fun k => kQ (some v23) k) <| hd fun v37 =>
  kGq v35 false (fun k => kQ (some v30) k) <| hd fun v38 =>
  kGq v35 false (fun k => kQ (rBin .neq .no false v37 v38) k) <| hd fun v39 =>
  kQ (rPick v35 (.bool true) v39) <| hd fun v40 =>
  j36 v40)) <| hd fun j10 =>
  kGq v9 false (fun k => kQ (some a1) k) <| hd fun v11 =>
  kGq v9 false (fun k => kQ (rLen v11) k) <| hd fun v12 =>
  kGq v9 false (fun k => kQ (rBin .gtr .no true v12 (.int .i64 300)) k) <| hd fun v13 =>
  kQ (rPick v9 (.bool true) v13) <| hd fun v14 =>
  j10 v14)
theorem F_runglaw4_MbapWrites_eq (call callD : ACall) (a0 a1 : AVal) (h : AH) : kFunc Try.prog [] call callD N_runglaw4_MbapWrites [a0, a1] h = F_runglaw4_MbapWrites call callD a0 a1 h := by kernel_rfl
theorem C_runglaw4_MbapWrites {ov : AOver} (H : Plain ov) (n : Nat) (a0 a1 : AVal) (h : AH) : kc ov (n + 1) N_runglaw4_MbapWrites [a0, a1] h = F_runglaw4_MbapWrites (kc ov n) (kd ov n) a0 a1 h := by
  have hov : ov N_runglaw4_MbapWrites = none := H _ (by decide)
  unfold kc kd; rw [← F_runglaw4_MbapWrites_eq]; simp only [kcall, hov]

/-- rung/runglaw4.MbapReads -/
def F_runglaw4_MbapReads (call callD : ACall) (a0 : AVal) (h : AH) : Ans :=
  kQ (some (.bool false)) <| hd fun v0 =>
  kE (call N_runglaw4_known [] h) <| hd fun v1 h0 =>
  kQ (aUn .not v1) <| hd fun v2 =>
  kIf v2 (
  kQ (some (.bool false)) <| hd fun v3 =>
  some (v3, h0)) (
  kQ (some a0) <| hd fun v4 =>
  kQ (rLen v4) <| hd fun v5 =>
  kQ (rBin .gtr .no true v5 (.int .i64 600)) <| hd fun v6 =>
  kIf v6 (
  kQ (some (.bool true)) <| hd fun v7 =>
  some (v7, h0)) (
  kQ (some a0) <| hd fun v8 =>
  kE (call N_runghelp_Copy [v8] h0) <| hd fun v9 h1 =>
  kQ (some v9) <| hd fun v10 =>
  kQ (some v10) <| hd fun v11 =>
  kE (call N_mbap_Open [v11] h1) <| hd fun v12 h2 =>
  kQ (some v12) <| hd fun v13 =>
  kQ (aExtract v13 0) <| hd fun v14 =>
  kQ (aExtract v13 1) <| hd fun v15 =>
  kQ (aExtract v13 2) <| hd fun v16 =>
  kM (pBox T_api_Frame (.agg [(.int .u16 0), (.int .u8 0), (.slice none 0 0)])) h2 <| hd fun v17 h3 =>
  kE ((rStore 3 v17 v14 h3).map fun h' => (.tuple [], h')) <| hd fun v18 h4 =>
  kQ (some v15) <| hd fun v19 =>
  kQ (some v16) <| hd fun v20 =>
  kQ (some a0) <| hd fun v21 =>
  kE (call N_rungref3_OpenMbap [v21] h4) <| hd fun v22 h5 =>
  kQ (some v22) <| hd fun v23 =>
  kQ (aExtract v23 0) <| hd fun v24 =>
  kQ (aExtract v23 1) <| hd fun v25 =>
  kQ (aExtract v23 2) <| hd fun v26 =>
  kM (pBox T_api_Frame (.agg [(.int .u16 0), (.int .u8 0), (.slice none 0 0)])) h5 <| hd fun v27 h6 =>
  kE ((rStore 3 v27 v24 h6).map fun h' => (.tuple [], h')) <| hd fun v28 h7 =>
  kQ (some v25) <| hd fun v29 =>
  kQ (some v26) <| hd fun v30 =>
  kQ (some v19) <| hd fun v31 =>
  kQ (some v29) <| hd fun v32 =>
  kQ (rBin .eql .no false v31 v32) <| hd fun v33 =>
  kQ (some v33) <| hd fun v34 =>
  kTh (hd fun v52 h12 =>
  kQ (some v52) <| hd fun v53 =>
  some (v53, h12)) <| hd fun j35 =>
  kGq v34 true (fun k => kQ (some v20) k) <| hd fun v36 =>
  kGq v34 true (fun k => kQ (some v30) k) <| hd fun v37 =>
  kGq v34 true (fun k => kQ (rBin .eql .no false v36 v37) k) <| hd fun v38 =>
  kQ (rPick v34 v38 (.bool false)) <| hd fun v39 =>
  kQ (some v39) <| hd fun v40 =>
  kGq v40 true (fun k => kQ (rLoadA 3 v17 h7) k) <| hd fun v41 =>
  kGq v40 true (fun k => kQ (rLoadA 3 v27 h7) k) <| hd fun v42 =>
  kG v40 true h7 (fun k => kE (call N_runghelp_Frame [v41, v42] h7) <| hd fun v43 h8 =>
  k v43 h8) <| hd fun v44 h9 =>
  kQ (rPick v40 v44 (.bool false)) <| hd fun v45 =>
  kQ (some v45) <| hd fun v46 =>
  kGq v46 true (fun k => kQ (some v10) k) <| hd fun v47 =>
  kGq v46 true (fun k => kQ (some a0) k) <| hd fun v48 =>
  kG v46 true h9 (fun k => kE (call N_runghelp_Bytes [v47, v48] h9) <| hd fun v49 h10 =>
  k v49 h10) <| hd fun v50 h11 =>
  kQ (rPick v46 v50 (.bool false)) <| hd fun v51 =>
  j35 v51 h11))
theorem F_runglaw4_MbapReads_eq (call callD : ACall) (a0 : AVal) (h : AH) : kFunc Try.prog [] call callD N_runglaw4_MbapReads [a0] h = F_runglaw4_MbapReads call callD a0 h := by kernel_rfl
theorem C_runglaw4_MbapReads {ov : AOver} (H : Plain ov) (n : Nat) (a0 : AVal) (h : AH) : kc ov (n + 1) N_runglaw4_MbapReads [a0] h = F_runglaw4_MbapReads (kc ov n) (kd ov n) a0 h := by
  have hov : ov N_runglaw4_MbapReads = none := H _ (by decide)
  unfold kc kd; rw [← F_runglaw4_MbapReads_eq]; simp only [kcall, hov]

/-- rung/runglaw4.MbapWaits -/
def F_runglaw4_MbapWaits (call callD : ACall) (a0 a1 : AVal) (h : AH) : Ans :=
  kM (pBox T_api_Frame a0) h <| hd fun v0 h0 =>
  kQ (some (.bool false)) <| hd fun v1 =>
  kE (call N_runglaw4_known [] h0) <| hd fun v2 h1 =>
  kQ (aUn .not v2) <| hd fun v3 =>
  kIf v3 (
  kQ (some (.bool false)) <| hd fun v4 =>
  some (v4, h1)) (
  kQ (rFieldP 2 v0) <| hd fun v5 =>
  kQ (rLoad v5 h1) <| hd fun v6 =>
  kQ (rLen v6) <| hd fun v7 =>
  kQ (rBin .gtr .no true v7 (.int .i64 600)) <| hd fun v8 =>
  kIf v8 (
  kQ (some (.bool true)) <| hd fun v9 =>
  some (v9, h1)) (
  kQ (rLoadA 3 v0 h1) <| hd fun v10 =>
  kE (call N_mbap_Write [v10] h1) <| hd fun v11 h2 =>
  kQ (some v11) <| hd fun v12 =>
  kQ (aExtract v12 0) <| hd fun v13 =>
  kQ (aExtract v12 1) <| hd fun v14 =>
  kQ (some v13) <| hd fun v15 =>
  kQ (some v14) <| hd fun v16 =>
  kQ (some v16) <| hd fun v17 =>
  kQ (rBin .neq .no true v17 (.int .i64 0)) <| hd fun v18 =>
  kQ (some v18) <| hd fun v19 =>
  kT (hd fun v25 =>
  kIf v25 (
  kQ (some (.bool true)) <| hd fun v26 =>
  some (v26, h2)) (
  kQ (some v15) <| hd fun v27 =>
  kQ (some a1) <| hd fun v28 =>
  kQ (some v15) <| hd fun v29 =>
  kQ (rLen v29) <| hd fun v30 =>
  kE (call N_runghelp_Place [v28, v30] h2) <| hd fun v31 h4 =>
  kQ (rCut 1 v27 none (some v31) none) <| hd fun v32 =>
  kE (call N_mbap_Open [v32] h4) <| hd fun v33 h5 =>
  kQ (some v33) <| hd fun v34 =>
  kQ (aExtract v34 0) <| hd fun v35 =>
  kQ (aExtract v34 1) <| hd fun v36 =>
  kQ (aExtract v34 2) <| hd fun v37 =>
  kM (pBox T_api_Frame (.agg [(.int .u16 0), (.int .u8 0), (.slice none 0 0)])) h5 <| hd fun v38 h6 =>
  kE ((rStore 3 v38 v35 h6).map fun h' => (.tuple [], h')) <| hd fun v39 h7 =>
  kQ (some v36) <| hd fun v40 =>
  kQ (some v37) <| hd fun v41 =>
  kQ (some v40) <| hd fun v42 =>
  kQ (rBin .eql .no true v42 (.int .i64 0)) <| hd fun v43 =>
  kQ (some v43) <| hd fun v44 =>
  kT (hd fun v49 =>
  kQ (some v49) <| hd fun v50 =>
  some (v50, h7)) <| hd fun j45 =>
  kGq v44 true (fun k => kQ (some v41) k) <| hd fun v46 =>
  kGq v44 true (fun k => kQ (rBin .eql .no true v46 (.int .i64 0)) k) <| hd fun v47 =>
  kQ (rPick v44 v47 (.bool false)) <| hd fun v48 =>
  j45 v48)) <| hd fun j20 =>
  kGq v19 false (fun k => kQ (some v15) k) <| hd fun v21 =>
  kGq v19 false (fun k => kQ (rLen v21) k) <| hd fun v22 =>
  kGq v19 false (fun k => kQ (rBin .eql .no true v22 (.int .i64 0)) k) <| hd fun v23 =>
  kQ (rPick v19 (.bool true) v23) <| hd fun v24 =>
  j20 v24))
theorem F_runglaw4_MbapWaits_eq (call callD : ACall) (a0 a1 : AVal) (h : AH) : kFunc Try.prog [] call callD N_runglaw4_MbapWaits [a0, a1] h = F_runglaw4_MbapWaits call callD a0 a1 h := by kernel_rfl
theorem C_runglaw4_MbapWaits {ov : AOver} (H : Plain ov) (n : Nat) (a0 a1 : AVal) (h : AH) : kc ov (n + 1) N_runglaw4_MbapWaits [a0, a1] h = F_runglaw4_MbapWaits (kc ov n) (kd ov n) a0 a1 h := by
  have hov : ov N_runglaw4_MbapWaits = none := H _ (by decide)
  unfold kc kd; rw [← F_runglaw4_MbapWaits_eq]; simp only [kcall, hov]

/-- rung/runglaw4.known -/
def F_runglaw4_known (call callD : ACall) (h : AH) : Ans :=
  kQ (some (.bool false)) <| hd fun v0 =>
  kM (mBuildSl T_uint8 1 [(.int .u8 0)] 1 [(0, (.int .u8 3))]) h <| hd fun v1 h0 =>
  kQ (rBuild [(.int .u16 0), (.int .u8 0), (.slice none 0 0)] [(0, 1), (1, 1), (2, 1)] [(0, (.int .u16 1)), (1, (.int .u8 17)), (2, v1)]) <| hd fun v2 =>
  kE (call N_mbap_Write [v2] h0) <| hd fun v3 h1 =>
  kQ (some v3) <| hd fun v4 =>
  kQ (aExtract v4 0) <| hd fun v5 =>
  kQ (aExtract v4 1) <| hd fun v6 =>
  kQ (some v5) <| hd fun v7 =>
  kQ (some v6) <| hd fun v8 =>
  kQ (some v7) <| hd fun v9 =>
  kQ (rLen v9) <| hd fun v10 =>
  kQ (rBin .neq .no true v10 (.int .i64 8)) <| hd fun v11 =>
  kIf v11 (
  kQ (some (.bool false)) <| hd fun v12 =>
  some (v12, h1)) (
  kQ (some v7) <| hd fun v13 =>
  kE (call N_runghelp_Copy [v13] h1) <| hd fun v14 h2 =>
  kM (mBuildSl T_uint8 1 [(.int .u8 0)] 1 [(0, (.int .u8 9))]) h2 <| hd fun v15 h3 =>
  kE (rAppend T_uint8 1 1 v14 v15 h3) <| hd fun v16 h4 =>
  kE (call N_mbap_Open [v16] h4) <| hd fun v17 h5 =>
  kQ (some v17) <| hd fun v18 =>
  kQ (aExtract v18 0) <| hd fun v19 =>
  kQ (aExtract v18 1) <| hd fun v20 =>
  kQ (aExtract v18 2) <| hd fun v21 =>
  kM (pBox T_api_Frame (.agg [(.int .u16 0), (.int .u8 0), (.slice none 0 0)])) h5 <| hd fun v22 h6 =>
  kE ((rStore 3 v22 v19 h6).map fun h' => (.tuple [], h')) <| hd fun v23 h7 =>
  kQ (some v20) <| hd fun v24 =>
  kQ (some v21) <| hd fun v25 =>
  kQ (some v7) <| hd fun v26 =>
  kQ (rCut 1 v26 none (some (.int .i64 7)) none) <| hd fun v27 =>
  kE (call N_mbap_Open [v27] h7) <| hd fun v28 h8 =>
  kQ (some v28) <| hd fun v29 =>
  kQ (aExtract v29 0) <| hd fun v30 =>
  kQ (aExtract v29 1) <| hd fun v31 =>
  kQ (aExtract v29 2) <| hd fun v32 =>
  kM (pBox T_api_Frame (.agg [(.int .u16 0), (.int .u8 0), (.slice none 0 0)])) h8 <| hd fun v33 h9 =>
  kE ((rStore 3 v33 v30 h9).map fun h' => (.tuple [], h')) <| hd fun v34 h10 =>
  kQ (some v31) <| hd fun v35 =>
  kQ (some v32) <| hd fun v36 =>
  kM (mBuildSl T_uint8 1 [(.int .u8 0)] 6 [(0, (.int .u8 0)), (1, (.int .u8 1)), (2, (.int .u8 0)), (3, (.int .u8 0)), (4, (.int .u8 0)), (5, (.int .u8 1))]) h10 <| hd fun v37 h11 =>
  kE (call N_mbap_Open [v37] h11) <| hd fun v38 h12 =>
  kQ (some v38) <| hd fun v39 =>
  kQ (aExtract v39 0) <| hd fun v40 =>
  kQ (aExtract v39 1) <| hd fun v41 =>
  kQ (aExtract v39 2) <| hd fun v42 =>
  kM (pBox T_api_Frame (.agg [(.int .u16 0), (.int .u8 0), (.slice none 0 0)])) h12 <| hd fun v43 h13 =>
  kE ((rStore 3 v43 v40 h13).map fun h' => (.tuple [], h')) <| hd fun v44 h14 =>
  kQ (some v41) <| hd fun v45 =>
  kQ (some v42) <| hd fun v46 =>
  kQ (some v8) <| hd fun v47 =>
  kQ (some v25) <| hd fun v48 =>
  kQ (rBin .add .no false v47 v48) <| hd fun v49 =>
  kQ (some v36) <| hd fun v50 =>
  kQ (rBin .add .no false v49 v50) <| hd fun v51 =>
  kQ (rBin .eql .no true v51 (.int .i64 0)) <| hd fun v52 =>
  kQ (some v52) <| hd fun v53 =>
  kTh (hd fun v78 h19 =>
  kQ (some v78) <| hd fun v79 =>
  some (v79, h19)) <| hd fun j54 =>
  kGq v53 true (fun k => kQ (some v7) k) <| hd fun v55 =>
  kG v53 true h14 (fun k => kM (mBuildSl T_uint8 1 [(.int .u8 0)] 8 [(0, (.int .u8 0)), (1, (.int .u8 1)), (2, (.int .u8 0)), (3, (.int .u8 0)), (4, (.int .u8 0)), (5, (.int .u8 2)), (6, (.int .u8 17)), (7, (.int .u8 3))]) h14 <| hd fun v56 h15 =>
  k v56 h15) <| hd fun v57 h16 =>
  kG v53 true h16 (fun k => kE (call N_runghelp_Bytes [v55, v57] h16) <| hd fun v58 h17 =>
  k v58 h17) <| hd fun v59 h18 =>
  kQ (rPick v53 v59 (.bool false)) <| hd fun v60 =>
  kQ (some v60) <| hd fun v61 =>
  kGq v61 true (fun k => kQ (some v24) k) <| hd fun v62 =>
  kGq v61 true (fun k => kQ (rBin .eql .no true v62 (.int .i64 8)) k) <| hd fun v63 =>
  kQ (rPick v61 v63 (.bool false)) <| hd fun v64 =>
  kQ (some v64) <| hd fun v65 =>
  kGq v65 true (fun k => kQ (rFieldP 1 v22) k) <| hd fun v66 =>
  kGq v65 true (fun k => kQ (rLoad v66 h18) k) <| hd fun v67 =>
  kGq v65 true (fun k => kQ (rBin .eql .no true v67 (.int .u8 17)) k) <| hd fun v68 =>
  kQ (rPick v65 v68 (.bool false)) <| hd fun v69 =>
  kQ (some v69) <| hd fun v70 =>
  kGq v70 true (fun k => kQ (some v35) k) <| hd fun v71 =>
  kGq v70 true (fun k => kQ (rBin .eql .no true v71 (.int .i64 0)) k) <| hd fun v72 =>
  kQ (rPick v70 v72 (.bool false)) <| hd fun v73 =>
  kQ (some v73) <| hd fun v74 =>
  kGq v74 true (fun k => kQ (some v46) k) <| hd fun v75 =>
  kGq v74 true (fun k => kQ (rBin .eql .no true v75 (.int .i64 40)) k) <| hd fun v76 =>
  kQ (rPick v74 v76 (.bool false)) <| hd fun v77 =>
  j54 v77 h18)
theorem F_runglaw4_known_eq (call callD : ACall) (h : AH) : kFunc Try.prog [] call callD N_runglaw4_known [] h = F_runglaw4_known call callD h := by kernel_rfl
theorem C_runglaw4_known {ov : AOver} (hov : ov N_runglaw4_known = none) (n : Nat) (h : AH) : kcall Try.prog [] ov (n + 1) N_runglaw4_known [] h = F_runglaw4_known (kcall Try.prog [] ov n) (kFuncD Try.prog [] (kcall Try.prog [] ov n)) h := by
  rw [← F_runglaw4_known_eq]; simp only [kcall, hov]

/-- rung/mbap.Write -/
def F_mbap_Write (call callD : ACall) (a0 : AVal) (h : AH) : Ans :=
  kM (pBox T_api_Frame a0) h <| hd fun v0 h0 =>
  kQ (some (.slice none 0 0)) <| hd fun v1 =>
  kQ (some (.int .i64 0)) <| hd fun v2 =>
  kQ (rFieldP 2 v0) <| hd fun v3 =>
  kQ (rLoad v3 h0) <| hd fun v4 =>
  kQ (rLen v4) <| hd fun v5 =>
  kQ (rBin .lss .no true v5 (.int .i64 1)) <| hd fun v6 =>
  kQ (some v6) <| hd fun v7 =>
  kT (hd fun v14 =>
  kIf v14 (
  kQ (some (.slice none 0 0)) <| hd fun v15 =>
  kQ (some (.int .i64 41)) <| hd fun v16 =>
  some (.tuple [v15, v16], h0)) (
  kQ (rFieldP 2 v0) <| hd fun v17 =>
  kQ (rLoad v17 h0) <| hd fun v18 =>
  kQ (rLen v18) <| hd fun v19 =>
  kQ (rBin .add .no true v19 (.int .i64 1)) <| hd fun v20 =>
  kQ (some v20) <| hd fun v21 =>
  kQ (rFieldP 0 v0) <| hd fun v22 =>
  kQ (rLoad v22 h0) <| hd fun v23 =>
  kQ (rBin .shr .no true v23 (.int .u64 8)) <| hd fun v24 =>
  kQ (rConvI .u8 v24) <| hd fun v25 =>
  kQ (rFieldP 0 v0) <| hd fun v26 =>
  kQ (rLoad v26 h0) <| hd fun v27 =>
  kQ (rConvI .u8 v27) <| hd fun v28 =>
  kQ (some v21) <| hd fun v29 =>
  kQ (rBin .shr .no true v29 (.int .u64 8)) <| hd fun v30 =>
  kQ (rConvI .u8 v30) <| hd fun v31 =>
  kQ (some v21) <| hd fun v32 =>
  kQ (rConvI .u8 v32) <| hd fun v33 =>
  kQ (rFieldP 1 v0) <| hd fun v34 =>
  kQ (rLoad v34 h0) <| hd fun v35 =>
  kM (mBuildSl T_uint8 1 [(.int .u8 0)] 7 [(0, v25), (1, v28), (2, (.int .u8 0)), (3, (.int .u8 0)), (4, v31), (5, v33), (6, v35)]) h0 <| hd fun v36 h2 =>
  kQ (rFieldP 2 v0) <| hd fun v37 =>
  kQ (rLoad v37 h2) <| hd fun v38 =>
  kE (rAppend T_uint8 1 1 v36 v38 h2) <| hd fun v39 h3 =>
  kQ (some v39) <| hd fun v40 =>
  kQ (some (.int .i64 0)) <| hd fun v41 =>
  some (.tuple [v40, v41], h3))) <| hd fun j8 =>
  kGq v7 false (fun k => kQ (rFieldP 2 v0) k) <| hd fun v9 =>
  kGq v7 false (fun k => kQ (rLoad v9 h0) k) <| hd fun v10 =>
  kGq v7 false (fun k => kQ (rLen v10) k) <| hd fun v11 =>
  kGq v7 false (fun k => kQ (rBin .gtr .no true v11 (.int .i64 253)) k) <| hd fun v12 =>
  kQ (rPick v7 (.bool true) v12) <| hd fun v13 =>
  j8 v13
theorem F_mbap_Write_eq (call callD : ACall) (a0 : AVal) (h : AH) : kFunc Try.prog [] call callD N_mbap_Write [a0] h = F_mbap_Write call callD a0 h := by kernel_rfl
theorem C_mbap_Write {ov : AOver} (H : Plain ov) (n : Nat) (a0 : AVal) (h : AH) : kc ov (n + 1) N_mbap_Write [a0] h = F_mbap_Write (kc ov n) (kd ov n) a0 h := by
  have hov : ov N_mbap_Write = none := H _ (by decide)
  unfold kc kd; rw [← F_mbap_Write_eq]; simp only [kcall, hov]

/-- rung/rungref3.Mbap -/
def F_rungref3_Mbap (call callD : ACall) (a0 : AVal) (h : AH) : Ans :=
  kM (pBox T_api_Frame a0) h <| hd fun v0 h0 =>
  kQ (some (.slice none 0 0)) <| hd fun v1 =>
  kQ (some (.int .i64 0)) <| hd fun v2 =>
  kQ (rFieldP 2 v0) <| hd fun v3 =>
  kQ (rLoad v3 h0) <| hd fun v4 =>
  kQ (rLen v4) <| hd fun v5 =>
  kQ (rBin .lss .no true v5 (.int .i64 1)) <| hd fun v6 =>
  kQ (some v6) <| hd fun v7 =>
  kT (hd fun v14 =>
  kIf v14 (
  kQ (some (.slice none 0 0)) <| hd fun v15 =>
  kQ (some (.int .i64 41)) <| hd fun v16 =>
  some (.tuple [v15, v16], h0)) (
  kQ (rFieldP 0 v0) <| hd fun v17 =>
  kQ (rLoad v17 h0) <| hd fun v18 =>
  kQ (rFieldP 2 v0) <| hd fun v19 =>
  kQ (rLoad v19 h0) <| hd fun v20 =>
  kQ (rLen v20) <| hd fun v21 =>
  kQ (rBin .add .no true v21 (.int .i64 1)) <| hd fun v22 =>
  kQ (rConvI .u16 v22) <| hd fun v23 =>
  kM (mBuildSl T_uint16 1 [(.int .u16 0)] 3 [(0, v18), (1, (.int .u16 0)), (2, v23)]) h0 <| hd fun v24 h2 =>
  kQ (rFieldP 1 v0) <| hd fun v25 =>
  kQ (rLoad v25 h2) <| hd fun v26 =>
  kM (mBuildSl T_uint8 1 [(.int .u8 0)] 1 [(0, v26)]) h2 <| hd fun v27 h3 =>
  kQ (rFieldP 2 v0) <| hd fun v28 =>
  kQ (rLoad v28 h3) <| hd fun v29 =>
  kChk (!true || kSame (rLoad v25 h3) v26) <|
  kChk (!true || kSame (rLoad v19 h3) v20) <|
  kChk (!true || kSame (rLoad v17 h3) v18) <|
  kE (call N_rungref3_two [(.slice none 0 0), v24] h3) <| hd fun v30 h4 =>
  kChk (!true || kSame (rLoad v28 h4) v29) <|
  kChk (!true || kSame (rLoad v25 h4) v26) <|
  kChk (!false || kSame (rLoad v19 h4) v20) <|
  kChk (!false || kSame (rLoad v17 h4) v18) <|
  kE (rAppend T_uint8 1 1 v30 v27 h4) <| hd fun v31 h5 =>
  kChk (!true || kSame (rLoad v28 h5) v29) <|
  kChk (!false || kSame (rLoad v25 h5) v26) <|
  kChk (!false || kSame (rLoad v19 h5) v20) <|
  kChk (!false || kSame (rLoad v17 h5) v18) <|
  kE (rAppend T_uint8 1 1 v31 v29 h5) <| hd fun v32 h6 =>
  kQ (some v32) <| hd fun v33 =>
  kQ (some (.int .i64 0)) <| hd fun v34 =>
  kChk (!false || kSame (rLoad v28 h6) v29) <|
  kChk (!false || kSame (rLoad v25 h6) v26) <|
  kChk (!false || kSame (rLoad v19 h6) v20) <|
  kChk (!false || kSame (rLoad v17 h6) v18) <|
  some (.tuple [v33, v34], h6))) <| hd fun j8 =>
  kGq v7 false (fun k => kQ (rFieldP 2 v0) k) <| hd fun v9 =>
  kGq v7 false (fun k => kQ (rLoad v9 h0) k) <| hd fun v10 =>
  kGq v7 false (fun k => kQ (rLen v10) k) <| hd fun v11 =>
  kGq v7 false (fun k => kQ (rBin .gtr .no true v11 (.int .i64 253)) k) <| hd fun v12 =>
  kQ (rPick v7 (.bool true) v12) <| hd fun v13 =>
  j8 v13
theorem F_rungref3_Mbap_eq (call callD : ACall) (a0 : AVal) (h : AH) : kFunc Try.prog [] call callD N_rungref3_Mbap [a0] h = F_rungref3_Mbap call callD a0 h := by kernel_rfl
theorem C_rungref3_Mbap {ov : AOver} (H : Plain ov) (n : Nat) (a0 : AVal) (h : AH) : kc ov (n + 1) N_rungref3_Mbap [a0] h = F_rungref3_Mbap (kc ov n) (kd ov n) a0 h := by
  have hov : ov N_rungref3_Mbap = none := H _ (by decide)
  unfold kc kd; rw [← F_rungref3_Mbap_eq]; simp only [kcall, hov]

/-- rung/runghelp.Bytes -/
def F_runghelp_Bytes (call callD : ACall) (a0 a1 : AVal) (h : AH) : Ans :=
  kQ (some (.bool false)) <| hd fun v0 =>
  kQ (some a0) <| hd fun v1 =>
  kQ (rText v1 h) <| hd fun v2 =>
  kQ (some a1) <| hd fun v3 =>
  kQ (rText v3 h) <| hd fun v4 =>
  kQ (rBin .eql .no false v2 v4) <| hd fun v5 =>
  kQ (some v5) <| hd fun v6 =>
  some (v6, h)
theorem F_runghelp_Bytes_eq (call callD : ACall) (a0 a1 : AVal) (h : AH) : kFunc Try.prog [] call callD N_runghelp_Bytes [a0, a1] h = F_runghelp_Bytes call callD a0 a1 h := by kernel_rfl
theorem C_runghelp_Bytes {ov : AOver} (H : Plain ov) (n : Nat) (a0 a1 : AVal) (h : AH) : kc ov (n + 1) N_runghelp_Bytes [a0, a1] h = F_runghelp_Bytes (kc ov n) (kd ov n) a0 a1 h := by
  have hov : ov N_runghelp_Bytes = none := H _ (by decide)
  unfold kc kd; rw [← F_runghelp_Bytes_eq]; simp only [kcall, hov]

/-- rung/mbap.Open -/
def F_mbap_Open (call callD : ACall) (a0 : AVal) (h : AH) : Ans :=
  kM (pBox T_api_Frame (.agg [(.int .u16 0), (.int .u8 0), (.slice none 0 0)])) h <| hd fun v0 h0 =>
  kQ (some (.int .i64 0)) <| hd fun v1 =>
  kQ (some (.int .i64 0)) <| hd fun v2 =>
  kQ (some a0) <| hd fun v3 =>
  kQ (rLen v3) <| hd fun v4 =>
  kQ (rBin .lss .no true v4 (.int .i64 6)) <| hd fun v5 =>
  kIf v5 (
  kQ (rBuild [(.int .u16 0), (.int .u8 0), (.slice none 0 0)] [(0, 1), (1, 1), (2, 1)] []) <| hd fun v6 =>
  kE ((rStore 3 v0 v6 h0).map fun h' => (.tuple [], h')) <| hd fun v7 h1 =>
  kQ (some (.int .i64 0)) <| hd fun v8 =>
  kQ (some (.int .i64 0)) <| hd fun v9 =>
  kQ (rLoadA 3 v0 h1) <| hd fun v10 =>
  some (.tuple [v10, v8, v9], h1)) (
  kQ (some a0) <| hd fun v11 =>
  kQ (rAt 1 v11 (.int .i64 4)) <| hd fun v12 =>
  kQ (rLoad v12 h0) <| hd fun v13 =>
  kQ (rConvI .i64 v13) <| hd fun v14 =>
  kQ (rBin .shl .no true v14 (.int .u64 8)) <| hd fun v15 =>
  kQ (some a0) <| hd fun v16 =>
  kQ (rAt 1 v16 (.int .i64 5)) <| hd fun v17 =>
  kQ (rLoad v17 h0) <| hd fun v18 =>
  kQ (rConvI .i64 v18) <| hd fun v19 =>
  kQ (rBin .or .no false v15 v19) <| hd fun v20 =>
  kQ (some v20) <| hd fun v21 =>
  kQ (some a0) <| hd fun v22 =>
  kQ (rAt 1 v22 (.int .i64 2)) <| hd fun v23 =>
  kQ (rLoad v23 h0) <| hd fun v24 =>
  kQ (rBin .neq .no true v24 (.int .u8 0)) <| hd fun v25 =>
  kQ (some v25) <| hd fun v26 =>
  kT (hd fun v33 =>
  kQ (some v33) <| hd fun v34 =>
  kIf v34 (
  kQ (rBuild [(.int .u16 0), (.int .u8 0), (.slice none 0 0)] [(0, 1), (1, 1), (2, 1)] []) <| hd fun v35 =>
  kE ((rStore 3 v0 v35 h0).map fun h' => (.tuple [], h')) <| hd fun v36 h3 =>
  kQ (some (.int .i64 0)) <| hd fun v37 =>
  kQ (some (.int .i64 41)) <| hd fun v38 =>
  kQ (rLoadA 3 v0 h3) <| hd fun v39 =>
  some (.tuple [v39, v37, v38], h3)) (
  kQ (some v21) <| hd fun v40 =>
  kQ (rBin .lss .no true v40 (.int .i64 2)) <| hd fun v41 =>
  kQ (some v41) <| hd fun v42 =>
  kT (hd fun v47 =>
  kQ (some v47) <| hd fun v48 =>
  kIf v48 (
  kQ (rBuild [(.int .u16 0), (.int .u8 0), (.slice none 0 0)] [(0, 1), (1, 1), (2, 1)] []) <| hd fun v49 =>
  kE ((rStore 3 v0 v49 h0).map fun h' => (.tuple [], h')) <| hd fun v50 h5 =>
  kQ (some (.int .i64 0)) <| hd fun v51 =>
  kQ (some (.int .i64 40)) <| hd fun v52 =>
  kQ (rLoadA 3 v0 h5) <| hd fun v53 =>
  some (.tuple [v53, v51, v52], h5)) (
  kQ (some a0) <| hd fun v54 =>
  kQ (rLen v54) <| hd fun v55 =>
  kQ (some v21) <| hd fun v56 =>
  kQ (rBin .add .no true (.int .i64 6) v56) <| hd fun v57 =>
  kQ (rBin .lss .no false v55 v57) <| hd fun v58 =>
  kQ (some v58) <| hd fun v59 =>
  kIf v59 (
  kQ (rBuild [(.int .u16 0), (.int .u8 0), (.slice none 0 0)] [(0, 1), (1, 1), (2, 1)] []) <| hd fun v60 =>
  kE ((rStore 3 v0 v60 h0).map fun h' => (.tuple [], h')) <| hd fun v61 h6 =>
  kQ (some (.int .i64 0)) <| hd fun v62 =>
  kQ (some (.int .i64 0)) <| hd fun v63 =>
  kQ (rLoadA 3 v0 h6) <| hd fun v64 =>
  some (.tuple [v64, v62, v63], h6)) (
  kQ (some v21) <| hd fun v65 =>
  kQ (rBin .add .no true (.int .i64 6) v65) <| hd fun v66 =>
  kQ (some v66) <| hd fun v67 =>
  kQ (some a0) <| hd fun v68 =>
  kQ (some v67) <| hd fun v69 =>
  kQ (some v67) <| hd fun v70 =>
  kQ (rCut 1 v68 (some (.int .i64 7)) (some v69) (some v70)) <| hd fun v71 =>
  kQ (some v71) <| hd fun v72 =>
  kQ (some a0) <| hd fun v73 =>
  kQ (rAt 1 v73 (.int .i64 0)) <| hd fun v74 =>
  kQ (rLoad v74 h0) <| hd fun v75 =>
  kQ (rConvI .u16 v75) <| hd fun v76 =>
  kQ (rBin .shl .no true v76 (.int .u64 8)) <| hd fun v77 =>
  kQ (some a0) <| hd fun v78 =>
  kQ (rAt 1 v78 (.int .i64 1)) <| hd fun v79 =>
  kQ (rLoad v79 h0) <| hd fun v80 =>
  kQ (rConvI .u16 v80) <| hd fun v81 =>
  kQ (rBin .or .no false v77 v81) <| hd fun v82 =>
  kQ (some a0) <| hd fun v83 =>
  kQ (rAt 1 v83 (.int .i64 6)) <| hd fun v84 =>
  kQ (rLoad v84 h0) <| hd fun v85 =>
  kQ (some v72) <| hd fun v86 =>
  kQ (some v67) <| hd fun v87 =>
  kE (call N_slices_Clone___byte_byte_ [v86] h0) <| hd fun v88 h7 =>
  kQ (rBuild [(.int .u16 0), (.int .u8 0), (.slice none 0 0)] [(0, 1), (1, 1), (2, 1)] [(0, v82), (1, v85), (2, v88)]) <| hd fun v89 =>
  kChk (!true || kSame (rLoad v84 h7) v85) <|
  kChk (!true || kSame (rLoad v79 h7) v80) <|
  kChk (!true || kSame (rLoad v74 h7) v75) <|
  kE ((rStore 3 v0 v89 h7).map fun h' => (.tuple [], h')) <| hd fun v90 h8 =>
  kQ (some v87) <| hd fun v91 =>
  kQ (some (.int .i64 0)) <| hd fun v92 =>
  kChk (!false || kSame (rLoad v84 h8) v85) <|
  kChk (!false || kSame (rLoad v79 h8) v80) <|
  kChk (!false || kSame (rLoad v74 h8) v75) <|
  kQ (rLoadA 3 v0 h8) <| hd fun v93 =>
  some (.tuple [v93, v91, v92], h8)))) <| hd fun j43 =>
  kGq v42 false (fun k => kQ (some v21) k) <| hd fun v44 =>
  kGq v42 false (fun k => kQ (rBin .gtr .no true v44 (.int .i64 254)) k) <| hd fun v45 =>
  kQ (rPick v42 (.bool true) v45) <| hd fun v46 =>
  j43 v46)) <| hd fun j27 =>
  kGq v26 false (fun k => kQ (some a0) k) <| hd fun v28 =>
  kGq v26 false (fun k => kQ (rAt 1 v28 (.int .i64 3)) k) <| hd fun v29 =>
  kGq v26 false (fun k => kQ (rLoad v29 h0) k) <| hd fun v30 =>
  kGq v26 false (fun k => kQ (rBin .neq .no true v30 (.int .u8 0)) k) <| hd fun v31 =>
  kQ (rPick v26 (.bool true) v31) <| hd fun v32 =>
  j27 v32)
theorem F_mbap_Open_eq (call callD : ACall) (a0 : AVal) (h : AH) : kFunc Try.prog [] call callD N_mbap_Open [a0] h = F_mbap_Open call callD a0 h := by kernel_rfl
theorem C_mbap_Open {ov : AOver} (H : Plain ov) (n : Nat) (a0 : AVal) (h : AH) : kc ov (n + 1) N_mbap_Open [a0] h = F_mbap_Open (kc ov n) (kd ov n) a0 h := by
  have hov : ov N_mbap_Open = none := H _ (by decide)
  unfold kc kd; rw [← F_mbap_Open_eq]; simp only [kcall, hov]

/-- rung/runghelp.Copy -/
def F_runghelp_Copy (call callD : ACall) (a0 : AVal) (h : AH) : Ans :=
  kQ (some (.slice none 0 0)) <| hd fun v0 =>
  kQ (some a0) <| hd fun v1 =>
  kE (rAppend T_uint8 1 1 (.slice none 0 0) v1 h) <| hd fun v2 h0 =>
  kQ (some v2) <| hd fun v3 =>
  some (v3, h0)
theorem F_runghelp_Copy_eq (call callD : ACall) (a0 : AVal) (h : AH) : kFunc Try.prog [] call callD N_runghelp_Copy [a0] h = F_runghelp_Copy call callD a0 h := by kernel_rfl
theorem C_runghelp_Copy {ov : AOver} (H : Plain ov) (n : Nat) (a0 : AVal) (h : AH) : kc ov (n + 1) N_runghelp_Copy [a0] h = F_runghelp_Copy (kc ov n) (kd ov n) a0 h := by
  have hov : ov N_runghelp_Copy = none := H _ (by decide)
  unfold kc kd; rw [← F_runghelp_Copy_eq]; simp only [kcall, hov]

/-- rung/runghelp.Frame -/
def F_runghelp_Frame (call callD : ACall) (a0 a1 : AVal) (h : AH) : Ans :=
  kM (pBox T_api_Frame a0) h <| hd fun v0 h0 =>
  kM (pBox T_api_Frame a1) h0 <| hd fun v1 h1 =>
  kQ (some (.bool false)) <| hd fun v2 =>
  kQ (rFieldP 0 v0) <| hd fun v3 =>
  kQ (rLoad v3 h1) <| hd fun v4 =>
  kQ (rFieldP 0 v1) <| hd fun v5 =>
  kQ (rLoad v5 h1) <| hd fun v6 =>
  kQ (rBin .eql .no false v4 v6) <| hd fun v7 =>
  kQ (some v7) <| hd fun v8 =>
  kTh (hd fun v24 h4 =>
  kQ (some v24) <| hd fun v25 =>
  some (v25, h4)) <| hd fun j9 =>
  kGq v8 true (fun k => kQ (rFieldP 1 v0) k) <| hd fun v10 =>
  kGq v8 true (fun k => kQ (rLoad v10 h1) k) <| hd fun v11 =>
  kGq v8 true (fun k => kQ (rFieldP 1 v1) k) <| hd fun v12 =>
  kGq v8 true (fun k => kQ (rLoad v12 h1) k) <| hd fun v13 =>
  kGq v8 true (fun k => kQ (rBin .eql .no false v11 v13) k) <| hd fun v14 =>
  kQ (rPick v8 v14 (.bool false)) <| hd fun v15 =>
  kQ (some v15) <| hd fun v16 =>
  kGq v16 true (fun k => kQ (rFieldP 2 v0) k) <| hd fun v17 =>
  kGq v16 true (fun k => kQ (rLoad v17 h1) k) <| hd fun v18 =>
  kGq v16 true (fun k => kQ (rFieldP 2 v1) k) <| hd fun v19 =>
  kGq v16 true (fun k => kQ (rLoad v19 h1) k) <| hd fun v20 =>
  kG v16 true h1 (fun k => kE (call N_runghelp_Bytes [v18, v20] h1) <| hd fun v21 h2 =>
  k v21 h2) <| hd fun v22 h3 =>
  kQ (rPick v16 v22 (.bool false)) <| hd fun v23 =>
  j9 v23 h3
theorem F_runghelp_Frame_eq (call callD : ACall) (a0 a1 : AVal) (h : AH) : kFunc Try.prog [] call callD N_runghelp_Frame [a0, a1] h = F_runghelp_Frame call callD a0 a1 h := by kernel_rfl
theorem C_runghelp_Frame {ov : AOver} (H : Plain ov) (n : Nat) (a0 a1 : AVal) (h : AH) : kc ov (n + 1) N_runghelp_Frame [a0, a1] h = F_runghelp_Frame (kc ov n) (kd ov n) a0 a1 h := by
  have hov : ov N_runghelp_Frame = none := H _ (by decide)
  unfold kc kd; rw [← F_runghelp_Frame_eq]; simp only [kcall, hov]

/-- rung/rungref3.OpenMbap -/
def F_rungref3_OpenMbap (call callD : ACall) (a0 : AVal) (h : AH) : Ans :=
  kM (pBox T_api_Frame (.agg [(.int .u16 0), (.int .u8 0), (.slice none 0 0)])) h <| hd fun v0 h0 =>
  kQ (some (.int .i64 0)) <| hd fun v1 =>
  kQ (some (.int .i64 0)) <| hd fun v2 =>
  kQ (some a0) <| hd fun v3 =>
  kQ (rLen v3) <| hd fun v4 =>
  kQ (rBin .lss .no true v4 (.int .i64 6)) <| hd fun v5 =>
  kIf v5 (
  kQ (rBuild [(.int .u16 0), (.int .u8 0), (.slice none 0 0)] [(0, 1), (1, 1), (2, 1)] []) <| hd fun v6 =>
  kE ((rStore 3 v0 v6 h0).map fun h' => (.tuple [], h')) <| hd fun v7 h1 =>
  kQ (some (.int .i64 0)) <| hd fun v8 =>
  kQ (some (.int .i64 0)) <| hd fun v9 =>
  kQ (rLoadA 3 v0 h1) <| hd fun v10 =>
  some (.tuple [v10, v8, v9], h1)) (
  kQ (some a0) <| hd fun v11 =>
  kE (call N_rungref3_at [v11, (.int .i64 4)] h0) <| hd fun v12 h2 =>
  kQ (rConvI .i64 v12) <| hd fun v13 =>
  kQ (some v13) <| hd fun v14 =>
  kQ (some a0) <| hd fun v15 =>
  kE (call N_rungref3_at [v15, (.int .i64 2)] h2) <| hd fun v16 h3 =>
  kQ (rBin .neq .no true v16 (.int .u16 0)) <| hd fun v17 =>
  kIf v17 (
  kQ (rBuild [(.int .u16 0), (.int .u8 0), (.slice none 0 0)] [(0, 1), (1, 1), (2, 1)] []) <| hd fun v18 =>
  kE ((rStore 3 v0 v18 h3).map fun h' => (.tuple [], h')) <| hd fun v19 h4 =>
  kQ (some (.int .i64 0)) <| hd fun v20 =>
  kQ (some (.int .i64 41)) <| hd fun v21 =>
  kQ (rLoadA 3 v0 h4) <| hd fun v22 =>
  some (.tuple [v22, v20, v21], h4)) (
  kQ (some v14) <| hd fun v23 =>
  kQ (rBin .lss .no true v23 (.int .i64 2)) <| hd fun v24 =>
  kQ (some v24) <| hd fun v25 =>
  kT (hd fun v30 =>
  kIf v30 (
  kQ (rBuild [(.int .u16 0), (.int .u8 0), (.slice none 0 0)] [(0, 1), (1, 1), (2, 1)] []) <| hd fun v31 =>
  kE ((rStore 3 v0 v31 h3).map fun h' => (.tuple [], h')) <| hd fun v32 h6 =>
  kQ (some (.int .i64 0)) <| hd fun v33 =>
  kQ (some (.int .i64 40)) <| hd fun v34 =>
  kQ (rLoadA 3 v0 h6) <| hd fun v35 =>
  some (.tuple [v35, v33, v34], h6)) (
  kQ (some a0) <| hd fun v36 =>
  kQ (rLen v36) <| hd fun v37 =>
  kQ (some v14) <| hd fun v38 =>
  kQ (rBin .add .no true (.int .i64 6) v38) <| hd fun v39 =>
  kQ (rBin .lss .no false v37 v39) <| hd fun v40 =>
  kIf v40 (
  kQ (rBuild [(.int .u16 0), (.int .u8 0), (.slice none 0 0)] [(0, 1), (1, 1), (2, 1)] []) <| hd fun v41 =>
  kE ((rStore 3 v0 v41 h3).map fun h' => (.tuple [], h')) <| hd fun v42 h7 =>
  kQ (some (.int .i64 0)) <| hd fun v43 =>
  kQ (some (.int .i64 0)) <| hd fun v44 =>
  kQ (rLoadA 3 v0 h7) <| hd fun v45 =>
  some (.tuple [v45, v43, v44], h7)) (
  kQ (some a0) <| hd fun v46 =>
  kQ (some a0) <| hd fun v47 =>
  kQ (rAt 1 v47 (.int .i64 6)) <| hd fun v48 =>
  kQ (rLoad v48 h3) <| hd fun v49 =>
  kQ (some a0) <| hd fun v50 =>
  kQ (some v14) <| hd fun v51 =>
  kQ (rBin .add .no true (.int .i64 6) v51) <| hd fun v52 =>
  kQ (rCut 1 v50 (some (.int .i64 7)) (some v52) none) <| hd fun v53 =>
  kQ (some v14) <| hd fun v54 =>
  kQ (rBin .add .no true (.int .i64 6) v54) <| hd fun v55 =>
  kE (call N_rungref3_at [v46, (.int .i64 0)] h3) <| hd fun v56 h8 =>
  kChk (!true || kSame (rLoad v48 h8) v49) <|
  kE (rAppend T_uint8 1 1 (.slice none 0 0) v53 h8) <| hd fun v57 h9 =>
  kQ (rBuild [(.int .u16 0), (.int .u8 0), (.slice none 0 0)] [(0, 1), (1, 1), (2, 1)] [(0, v56), (1, v49), (2, v57)]) <| hd fun v58 =>
  kChk (!true || kSame (rLoad v48 h9) v49) <|
  kE ((rStore 3 v0 v58 h9).map fun h' => (.tuple [], h')) <| hd fun v59 h10 =>
  kQ (some v55) <| hd fun v60 =>
  kQ (some (.int .i64 0)) <| hd fun v61 =>
  kChk (!false || kSame (rLoad v48 h10) v49) <|
  kQ (rLoadA 3 v0 h10) <| hd fun v62 =>
  some (.tuple [v62, v60, v61], h10)))) <| hd fun j26 =>
  kGq v25 false (fun k => kQ (some v14) k) <| hd fun v27 =>
  kGq v25 false (fun k => kQ (rBin .gtr .no true v27 (.int .i64 254)) k) <| hd fun v28 =>
  kQ (rPick v25 (.bool true) v28) <| hd fun v29 =>
  j26 v29))
theorem F_rungref3_OpenMbap_eq (call callD : ACall) (a0 : AVal) (h : AH) : kFunc Try.prog [] call callD N_rungref3_OpenMbap [a0] h = F_rungref3_OpenMbap call callD a0 h := by kernel_rfl
theorem C_rungref3_OpenMbap {ov : AOver} (H : Plain ov) (n : Nat) (a0 : AVal) (h : AH) : kc ov (n + 1) N_rungref3_OpenMbap [a0] h = F_rungref3_OpenMbap (kc ov n) (kd ov n) a0 h := by
  have hov : ov N_rungref3_OpenMbap = none := H _ (by decide)
  unfold kc kd; rw [← F_rungref3_OpenMbap_eq]; simp only [kcall, hov]

/-- rung/runghelp.Place -/
def F_runghelp_Place (call callD : ACall) (a0 a1 : AVal) (h : AH) : Ans :=
  kQ (some (.int .i64 0)) <| hd fun v0 =>
  kQ (some a0) <| hd fun v1 =>
  kQ (some a1) <| hd fun v2 =>
  kQ (rBin .rem .no false v1 v2) <| hd fun v3 =>
  kQ (some v3) <| hd fun v4 =>
  kQ (some v4) <| hd fun v5 =>
  kQ (rBin .lss .no true v5 (.int .i64 0)) <| hd fun v6 =>
  kJ (hd fun l7 h0 =>
  kQ (some (gd l7 0)) <| hd fun v9 =>
  kQ (some v9) <| hd fun v10 =>
  some (v10, h0)) <| hd fun j8 =>
  kIf v6 (
  kQ (some v4) <| hd fun v11 =>
  kQ (some a1) <| hd fun v12 =>
  kQ (rBin .add .no false v11 v12) <| hd fun v13 =>
  kQ (some v13) <| hd fun v14 =>
  j8 [v14] h) (
  j8 [v4] h)
theorem F_runghelp_Place_eq (call callD : ACall) (a0 a1 : AVal) (h : AH) : kFunc Try.prog [] call callD N_runghelp_Place [a0, a1] h = F_runghelp_Place call callD a0 a1 h := by kernel_rfl
theorem C_runghelp_Place {ov : AOver} (H : Plain ov) (n : Nat) (a0 a1 : AVal) (h : AH) : kc ov (n + 1) N_runghelp_Place [a0, a1] h = F_runghelp_Place (kc ov n) (kd ov n) a0 a1 h := by
  have hov : ov N_runghelp_Place = none := H _ (by decide)
  unfold kc kd; rw [← F_runghelp_Place_eq]; simp only [kcall, hov]

/-- rung/rungref3.two -/
def L_rungref3_two_0 (call callD : ACall) (a1 : AVal) : (List AVal → AH → Ans) → List AVal → AH → Ans := fun j3 l2 h0 =>
  kQ (some (gd l2 1)) <| hd fun v4 =>
  kQ (some a1) <| hd fun v5 =>
  kQ (rLen v5) <| hd fun v6 =>
  kQ (rBin .lss .no false v4 v6) <| hd fun v7 =>
  kIf v7 (
  kQ (some (gd l2 0)) <| hd fun v8 =>
  kQ (some a1) <| hd fun v9 =>
  kQ (some (gd l2 1)) <| hd fun v10 =>
  kQ (rAt 1 v9 v10) <| hd fun v11 =>
  kQ (rLoad v11 h0) <| hd fun v12 =>
  kQ (rBin .shr .no true v12 (.int .u64 8)) <| hd fun v13 =>
  kQ (rConvI .u8 v13) <| hd fun v14 =>
  kQ (some a1) <| hd fun v15 =>
  kQ (some (gd l2 1)) <| hd fun v16 =>
  kQ (rAt 1 v15 v16) <| hd fun v17 =>
  kQ (rLoad v17 h0) <| hd fun v18 =>
  kQ (rConvI .u8 v18) <| hd fun v19 =>
  kM (mBuildSl T_uint8 1 [(.int .u8 0)] 2 [(0, v14), (1, v19)]) h0 <| hd fun v20 h1 =>
  kChk (!true || kSame (rLoad v17 h1) v18) <|
  kChk (!true || kSame (rLoad v11 h1) v12) <|
  kE (rAppend T_uint8 1 1 v8 v20 h1) <| hd fun v21 h2 =>
  kQ (some v21) <| hd fun v22 =>
  kChk (!false || kSame (rLoad v17 h2) v18) <|
  kChk (!false || kSame (rLoad v11 h2) v12) <|
  kQ (some (gd l2 1)) <| hd fun v23 =>
  kQ (rBin .add .no true v23 (.int .i64 1)) <| hd fun v24 =>
  kQ (some v24) <| hd fun v25 =>
  j3 [v22, v25] h2) (
  kQ (some (gd l2 0)) <| hd fun v26 =>
  kQ (some v26) <| hd fun v27 =>
  some (v27, h0))
def F_rungref3_two (call callD : ACall) (a0 a1 : AVal) (h : AH) : Ans :=
  kQ (some (.slice none 0 0)) <| hd fun v0 =>
  kQ (some (.int .i64 0)) <| hd fun v1 =>
  kLoop (L_rungref3_two_0 call callD a1) rounds [a0, v1] h
theorem F_rungref3_two_eq (call callD : ACall) (a0 a1 : AVal) (h : AH) : kFunc Try.prog [] call callD N_rungref3_two [a0, a1] h = F_rungref3_two call callD a0 a1 h := by kernel_rfl
theorem C_rungref3_two {ov : AOver} (H : Plain ov) (n : Nat) (a0 a1 : AVal) (h : AH) : kc ov (n + 1) N_rungref3_two [a0, a1] h = F_rungref3_two (kc ov n) (kd ov n) a0 a1 h := by
  have hov : ov N_rungref3_two = none := H _ (by decide)
  unfold kc kd; rw [← F_rungref3_two_eq]; simp only [kcall, hov]

/-- slices.Clone[[]byte,byte] -/
def F_slices_Clone___byte_byte_ (call callD : ACall) (a0 : AVal) (h : AH) : Ans :=
  kQ (some (.slice none 0 0)) <| hd fun v0 =>
  kQ (some a0) <| hd fun v1 =>
  kQ (rBin .eql .slice true v1 (.slice none 0 0)) <| hd fun v2 =>
  kIf v2 (
  kQ (some (.slice none 0 0)) <| hd fun v3 =>
  some (v3, h)) (
  kM (mBuildSl T_uint8 1 [(.int .u8 0)] 0 []) h <| hd fun v4 h0 =>
  kQ (some a0) <| hd fun v5 =>
  kE (rAppend T_uint8 1 1 v4 v5 h0) <| hd fun v6 h1 =>
  kQ (some v6) <| hd fun v7 =>
  some (v7, h1))
theorem F_slices_Clone___byte_byte__eq (call callD : ACall) (a0 : AVal) (h : AH) : kFunc Try.prog [] call callD N_slices_Clone___byte_byte_ [a0] h = F_slices_Clone___byte_byte_ call callD a0 h := by kernel_rfl
theorem C_slices_Clone___byte_byte_ {ov : AOver} (H : Plain ov) (n : Nat) (a0 : AVal) (h : AH) : kc ov (n + 1) N_slices_Clone___byte_byte_ [a0] h = F_slices_Clone___byte_byte_ (kc ov n) (kd ov n) a0 h := by
  have hov : ov N_slices_Clone___byte_byte_ = none := H _ (by decide)
  unfold kc kd; rw [← F_slices_Clone___byte_byte__eq]; simp only [kcall, hov]

/-- rung/rungref3.at -/
def F_rungref3_at (call callD : ACall) (a0 a1 : AVal) (h : AH) : Ans :=
  kQ (some (.int .u16 0)) <| hd fun v0 =>
  kQ (some a0) <| hd fun v1 =>
  kQ (some a1) <| hd fun v2 =>
  kQ (rAt 1 v1 v2) <| hd fun v3 =>
  kQ (rLoad v3 h) <| hd fun v4 =>
  kQ (rConvI .u16 v4) <| hd fun v5 =>
  kQ (rBin .shl .no true v5 (.int .u64 8)) <| hd fun v6 =>
  kQ (some a0) <| hd fun v7 =>
  kQ (some a1) <| hd fun v8 =>
  kQ (rBin .add .no true v8 (.int .i64 1)) <| hd fun v9 =>
  kQ (rAt 1 v7 v9) <| hd fun v10 =>
  kQ (rLoad v10 h) <| hd fun v11 =>
  kQ (rConvI .u16 v11) <| hd fun v12 =>
  kQ (rBin .or .no false v6 v12) <| hd fun v13 =>
  kQ (some v13) <| hd fun v14 =>
  some (v14, h)
theorem F_rungref3_at_eq (call callD : ACall) (a0 a1 : AVal) (h : AH) : kFunc Try.prog [] call callD N_rungref3_at [a0, a1] h = F_rungref3_at call callD a0 a1 h := by kernel_rfl
theorem C_rungref3_at {ov : AOver} (H : Plain ov) (n : Nat) (a0 a1 : AVal) (h : AH) : kc ov (n + 1) N_rungref3_at [a0, a1] h = F_rungref3_at (kc ov n) (kd ov n) a0 a1 h := by
  have hov : ov N_rungref3_at = none := H _ (by decide)
  unfold kc kd; rw [← F_rungref3_at_eq]; simp only [kcall, hov]


end Go.Proofs.Ytoioieophambhaa.AI
