/- PRINTED by Pr2: the functions of the program as the machine sees them. -/
import Derived.Test.YtoaghkjeioionaaAiLib3
import Derived.Test.YtoaghkjeioionaaProg
import Derived.KernelRfl
namespace Go.Proofs.Ytoaghkjeioionaa.AI
open Go
set_option linter.unusedVariables false
set_option maxRecDepth 100000
abbrev T_uint8 : Nat := 5
abbrev T_string : Nat := 9
abbrev T___uint8 : Nat := 22
abbrev N_runglaw5_RtuWrites : Nat := 3
abbrev N_runglaw5_RtuReads : Nat := 4
abbrev N_runglaw5_RtuTells : Nat := 5
abbrev N_runglaw5_known : Nat := 6
abbrev N_rtu_Write : Nat := 7
abbrev N_rungref3_Rtu : Nat := 8
abbrev N_runghelp_Bytes : Nat := 9
abbrev N_rtu_Open : Nat := 10
abbrev N_rungref3_OpenRtu : Nat := 11
abbrev N_runghelp_Place : Nat := 12
abbrev N_rtu_joined : Nat := 13
abbrev N_rungref2_Sum16 : Nat := 14
abbrev N_slices_Equal___byte_byte_ : Nat := 15
abbrev N_slices_Clone___byte_byte_ : Nat := 16
abbrev N_slices_Concat___byte_byte_ : Nat := 17
abbrev N_crc_Sum16 : Nat := 18
abbrev N_slices_Grow___byte_byte_ : Nat := 19
abbrev N_crc_step16 : Nat := 20
/-- Functions that another thing stands in for. -/
def OVS : List Nat := [6]
def Plain (ov : AOver) : Prop := ∀ f, f ∉ OVS → ov f = none
noncomputable def kc (ov : AOver) (n : Nat) : ACall := kcall Try.prog [] ov n
noncomputable def kd (ov : AOver) (n : Nat) : ACall := kFuncD Try.prog [] (kcall Try.prog [] ov n)
/-- rung/runglaw5.RtuWrites -/
def F_runglaw5_RtuWrites (call callD : ACall) (a0 a1 : AVal) (h : AH) : Ans :=
  kq (some (.bool false)) <| fun v0 =>
  ke (call N_runglaw5_known [] h) <| fun v1 h0 =>
  kq (aUn .not v1) <| fun v2 =>
  kIf v2 (
  kq (some (.bool false)) <| fun v3 =>
  some (v3, h0)) (
  kq (some a1) <| fun v4 =>
  kq (rLen v4) <| fun v5 =>
  kq (rBin .gtr .no true v5 (.int .i64 600)) <| fun v6 =>
  kIf v6 (
  kq (some (.bool true)) <| fun v7 =>
  some (v7, h0)) (
  kq (some a0) <| fun v8 =>
  kq (some a1) <| fun v9 =>
  ke (call N_rtu_Write [v8, v9] h0) <| fun v10 h1 =>
  kq (some v10) <| fun v11 =>
  kq (aExtract v11 0) <| fun v12 =>
  kq (aExtract v11 1) <| fun v13 =>
  kq (some v12) <| fun v14 =>
  kq (some v13) <| fun v15 =>
  kq (some a0) <| fun v16 =>
  kq (some a1) <| fun v17 =>
  ke (call N_rungref3_Rtu [v16, v17] h1) <| fun v18 h2 =>
  kq (some v18) <| fun v19 =>
  kq (aExtract v19 0) <| fun v20 =>
  kq (aExtract v19 1) <| fun v21 =>
  kq (some v20) <| fun v22 =>
  kq (some v21) <| fun v23 =>
  kq (some v14) <| fun v24 =>
  kq (some v22) <| fun v25 =>
  ke (call N_runghelp_Bytes [v24, v25] h2) <| fun v26 h3 =>
  kq (aUn .not v26) <| fun v27 =>
  kq (some v27) <| fun v28 =>
  kt (fun v34 =>
  kIf v34 (
  kq (some (.bool false)) <| fun v35 =>
  some (v35, h3)) (
  kq (some v23) <| fun v36 =>
  kq (rBin .neq .no true v36 (.int .i64 0)) <| fun v37 =>
  kIf v37 (
  kq (some (.bool true)) <| fun v38 =>
  some (v38, h3)) (
  kq (some v14) <| fun v39 =>
  ke (call N_rtu_Open [v39] h3) <| fun v40 h5 =>
  kq (some v40) <| fun v41 =>
  kq (aExtract v41 0) <| fun v42 =>
  kq (aExtract v41 1) <| fun v43 =>
  kq (aExtract v41 2) <| fun v44 =>
  kq (some v42) <| fun v45 =>
  kq (some v43) <| fun v46 =>
  kq (some v44) <| fun v47 =>
  kq (some v47) <| fun v48 =>
  kq (rBin .eql .no true v48 (.int .i64 0)) <| fun v49 =>
  kq (some v49) <| fun v50 =>
  kth (fun v62 h8 =>
  kq (some v62) <| fun v63 =>
  some (v63, h8)) <| fun j51 =>
  kgq v50 true (fun k => kq (some v45) k) <| fun v52 =>
  kgq v50 true (fun k => kq (some a0) k) <| fun v53 =>
  kgq v50 true (fun k => kq (rBin .eql .no false v52 v53) k) <| fun v54 =>
  kq (rPick v50 v54 (.bool false)) <| fun v55 =>
  kq (some v55) <| fun v56 =>
  kgq v56 true (fun k => kq (some v46) k) <| fun v57 =>
  kgq v56 true (fun k => kq (some a1) k) <| fun v58 =>
  kgh v56 true h5 (fun k => ke (call N_runghelp_Bytes [v57, v58] h5) <| fun v59 h6 =>
  k v59 h6) <| fun v60 h7 =>
  kq (rPick v56 v60 (.bool false)) <| fun v61 =>
  j51 v61 h7))) <| fun j29 =>
  kgq v28 false (fun k => kq (some v15) k) <| fun v30 =>
  kgq v28 false (fun k => kq (some v23) k) <| fun v31 =>
  kgq v28 false (fun k => kq (rBin .neq .no false v30 v31) k) <| fun v32 =>
  kq (rPick v28 (.bool true) v32) <| fun v33 =>
  j29 v33))
theorem F_runglaw5_RtuWrites_eq (call callD : ACall) (a0 a1 : AVal) (h : AH) : kFunc Try.prog [] call callD N_runglaw5_RtuWrites [a0, a1] h = F_runglaw5_RtuWrites call callD a0 a1 h := by kernel_rfl
theorem C_runglaw5_RtuWrites {ov : AOver} (H : Plain ov) (n : Nat) (a0 a1 : AVal) (h : AH) : kc ov (n + 1) N_runglaw5_RtuWrites [a0, a1] h = F_runglaw5_RtuWrites (kc ov n) (kd ov n) a0 a1 h := by
  have hov : ov N_runglaw5_RtuWrites = none := H _ (by decide)
  unfold kc kd; rw [← F_runglaw5_RtuWrites_eq]; simp only [kcall, hov]

/-- rung/runglaw5.RtuReads -/
def F_runglaw5_RtuReads (call callD : ACall) (a0 : AVal) (h : AH) : Ans :=
  kq (some (.bool false)) <| fun v0 =>
  ke (call N_runglaw5_known [] h) <| fun v1 h0 =>
  kq (aUn .not v1) <| fun v2 =>
  kIf v2 (
  kq (some (.bool false)) <| fun v3 =>
  some (v3, h0)) (
  kq (some a0) <| fun v4 =>
  kq (rLen v4) <| fun v5 =>
  kq (rBin .gtr .no true v5 (.int .i64 600)) <| fun v6 =>
  kIf v6 (
  kq (some (.bool true)) <| fun v7 =>
  some (v7, h0)) (
  kq (some a0) <| fun v8 =>
  ke (call N_rtu_Open [v8] h0) <| fun v9 h1 =>
  kq (some v9) <| fun v10 =>
  kq (aExtract v10 0) <| fun v11 =>
  kq (aExtract v10 1) <| fun v12 =>
  kq (aExtract v10 2) <| fun v13 =>
  kq (some v11) <| fun v14 =>
  kq (some v12) <| fun v15 =>
  kq (some v13) <| fun v16 =>
  kq (some a0) <| fun v17 =>
  ke (call N_rungref3_OpenRtu [v17] h1) <| fun v18 h2 =>
  kq (some v18) <| fun v19 =>
  kq (aExtract v19 0) <| fun v20 =>
  kq (aExtract v19 1) <| fun v21 =>
  kq (aExtract v19 2) <| fun v22 =>
  kq (some v20) <| fun v23 =>
  kq (some v21) <| fun v24 =>
  kq (some v22) <| fun v25 =>
  kq (some v14) <| fun v26 =>
  kq (some v23) <| fun v27 =>
  kq (rBin .eql .no false v26 v27) <| fun v28 =>
  kq (some v28) <| fun v29 =>
  kth (fun v41 h5 =>
  kq (some v41) <| fun v42 =>
  some (v42, h5)) <| fun j30 =>
  kgq v29 true (fun k => kq (some v16) k) <| fun v31 =>
  kgq v29 true (fun k => kq (some v25) k) <| fun v32 =>
  kgq v29 true (fun k => kq (rBin .eql .no false v31 v32) k) <| fun v33 =>
  kq (rPick v29 v33 (.bool false)) <| fun v34 =>
  kq (some v34) <| fun v35 =>
  kgq v35 true (fun k => kq (some v15) k) <| fun v36 =>
  kgq v35 true (fun k => kq (some v24) k) <| fun v37 =>
  kgh v35 true h2 (fun k => ke (call N_runghelp_Bytes [v36, v37] h2) <| fun v38 h3 =>
  k v38 h3) <| fun v39 h4 =>
  kq (rPick v35 v39 (.bool false)) <| fun v40 =>
  j30 v40 h4))
theorem F_runglaw5_RtuReads_eq (call callD : ACall) (a0 : AVal) (h : AH) : kFunc Try.prog [] call callD N_runglaw5_RtuReads [a0] h = F_runglaw5_RtuReads call callD a0 h := by kernel_rfl
theorem C_runglaw5_RtuReads {ov : AOver} (H : Plain ov) (n : Nat) (a0 : AVal) (h : AH) : kc ov (n + 1) N_runglaw5_RtuReads [a0] h = F_runglaw5_RtuReads (kc ov n) (kd ov n) a0 h := by
  have hov : ov N_runglaw5_RtuReads = none := H _ (by decide)
  unfold kc kd; rw [← F_runglaw5_RtuReads_eq]; simp only [kcall, hov]

/-- rung/runglaw5.RtuTells -/
def L_runglaw5_RtuTells_0 (call callD : ACall) (a3 : AVal) (v25 : AVal) (v47 : AVal) : (List AVal → AH → Ans) → List AVal → AH → Ans := fun j50 l49 h5 =>
  kq (some (gd l49 0)) <| fun v51 =>
  kq (rBin .lss .no true v51 (.int .i64 16)) <| fun v52 =>
  kIf v52 (
  kq (some a3) <| fun v53 =>
  kq (some (gd l49 0)) <| fun v54 =>
  kq (rBin .shr .no false v53 v54) <| fun v55 =>
  kq (rBin .and .no true v55 (.int .u16 1)) <| fun v56 =>
  kq (rBin .eql .no true v56 (.int .u16 1)) <| fun v57 =>
  kj (fun l58 h6 =>
  kq (some (gd l49 0)) <| fun v60 =>
  kq (rBin .add .no true v60 (.int .i64 1)) <| fun v61 =>
  kq (some v61) <| fun v62 =>
  j50 [v62] h6) <| fun j59 =>
  kIf v57 (
  kq (some v25) <| fun v63 =>
  kq (some v47) <| fun v64 =>
  kq (some (gd l49 0)) <| fun v65 =>
  kq (rBin .add .no false v64 v65) <| fun v66 =>
  kq (rBin .quo .no true v66 (.int .i64 8)) <| fun v67 =>
  kq (rAt 1 v63 v67) <| fun v68 =>
  kq (rLoad v68 h5) <| fun v69 =>
  kq (some v47) <| fun v70 =>
  kq (some (gd l49 0)) <| fun v71 =>
  kq (rBin .add .no false v70 v71) <| fun v72 =>
  kq (rBin .rem .no true v72 (.int .i64 8)) <| fun v73 =>
  kq (rBin .shl .no true (.int .u8 1) v73) <| fun v74 =>
  kq (rBin .xor .no false v69 v74) <| fun v75 =>
  kq (rAt 1 v63 v67) <| fun v76 =>
  ke ((rStore 1 v76 v75 h5).map fun h' => (.tuple [], h')) <| fun v77 h7 =>
  kChk (!false || kSame (rLoad v68 h7) v69) <|
  j59 [] h7) (
  j59 [] h5)) (
  kq (some v25) <| fun v78 =>
  ke (call N_rtu_Open [v78] h5) <| fun v79 h8 =>
  kq (some v79) <| fun v80 =>
  kq (aExtract v80 0) <| fun v81 =>
  kq (aExtract v80 1) <| fun v82 =>
  kq (aExtract v80 2) <| fun v83 =>
  kq (some v81) <| fun v84 =>
  kq (some v82) <| fun v85 =>
  kq (some v83) <| fun v86 =>
  kq (some v86) <| fun v87 =>
  kq (rBin .eql .no true v87 (.int .i64 50)) <| fun v88 =>
  kq (some v88) <| fun v89 =>
  some (v89, h8))
def F_runglaw5_RtuTells (call callD : ACall) (a0 a1 a2 a3 : AVal) (h : AH) : Ans :=
  kq (some (.bool false)) <| fun v0 =>
  ke (call N_runglaw5_known [] h) <| fun v1 h0 =>
  kq (aUn .not v1) <| fun v2 =>
  kIf v2 (
  kq (some (.bool false)) <| fun v3 =>
  some (v3, h0)) (
  kq (some a1) <| fun v4 =>
  kq (rLen v4) <| fun v5 =>
  kq (rBin .gtr .no true v5 (.int .i64 253)) <| fun v6 =>
  kq (some v6) <| fun v7 =>
  kt (fun v17 =>
  kIf v17 (
  kq (some (.bool true)) <| fun v18 =>
  some (v18, h0)) (
  kq (some a0) <| fun v19 =>
  kq (some a1) <| fun v20 =>
  ke (call N_rtu_Write [v19, v20] h0) <| fun v21 h2 =>
  kq (some v21) <| fun v22 =>
  kq (aExtract v22 0) <| fun v23 =>
  kq (aExtract v22 1) <| fun v24 =>
  kq (some v23) <| fun v25 =>
  kq (some v24) <| fun v26 =>
  kq (some v26) <| fun v27 =>
  kq (rBin .neq .no true v27 (.int .i64 0)) <| fun v28 =>
  kq (some v28) <| fun v29 =>
  kt (fun v38 =>
  kIf v38 (
  kq (some (.bool false)) <| fun v39 =>
  some (v39, h2)) (
  kq (some a2) <| fun v40 =>
  kq (some v25) <| fun v41 =>
  kq (rLen v41) <| fun v42 =>
  kq (rBin .sub .no true v42 (.int .i64 4)) <| fun v43 =>
  kq (rBin .mul .no true (.int .i64 8) v43) <| fun v44 =>
  kq (rBin .add .no true v44 (.int .i64 1)) <| fun v45 =>
  ke (call N_runghelp_Place [v40, v45] h2) <| fun v46 h4 =>
  kq (some v46) <| fun v47 =>
  kq (some (.int .i64 0)) <| fun v48 =>
  kLoop (L_runglaw5_RtuTells_0 call callD a3 v25 v47) rounds [v48] h4)) <| fun j30 =>
  kgq v29 false (fun k => kq (some v25) k) <| fun v31 =>
  kgq v29 false (fun k => kq (rLen v31) k) <| fun v32 =>
  kgq v29 false (fun k => kq (some a1) k) <| fun v33 =>
  kgq v29 false (fun k => kq (rLen v33) k) <| fun v34 =>
  kgq v29 false (fun k => kq (rBin .add .no true v34 (.int .i64 3)) k) <| fun v35 =>
  kgq v29 false (fun k => kq (rBin .neq .no false v32 v35) k) <| fun v36 =>
  kq (rPick v29 (.bool true) v36) <| fun v37 =>
  j30 v37)) <| fun j8 =>
  kgq v7 false (fun k => kq (some a1) k) <| fun v9 =>
  kgq v7 false (fun k => kq (rLen v9) k) <| fun v10 =>
  kgq v7 false (fun k => kq (rBin .lss .no true v10 (.int .i64 1)) k) <| fun v11 =>
  kq (rPick v7 (.bool true) v11) <| fun v12 =>
  kq (some v12) <| fun v13 =>
  kgq v13 false (fun k => kq (some a3) k) <| fun v14 =>
  kgq v13 false (fun k => kq (rBin .eql .no true v14 (.int .u16 0)) k) <| fun v15 =>
  kq (rPick v13 (.bool true) v15) <| fun v16 =>
  j8 v16)
theorem F_runglaw5_RtuTells_eq (call callD : ACall) (a0 a1 a2 a3 : AVal) (h : AH) : kFunc Try.prog [] call callD N_runglaw5_RtuTells [a0, a1, a2, a3] h = F_runglaw5_RtuTells call callD a0 a1 a2 a3 h := by kernel_rfl
theorem C_runglaw5_RtuTells {ov : AOver} (H : Plain ov) (n : Nat) (a0 a1 a2 a3 : AVal) (h : AH) : kc ov (n + 1) N_runglaw5_RtuTells [a0, a1, a2, a3] h = F_runglaw5_RtuTells (kc ov n) (kd ov n) a0 a1 a2 a3 h := by
  have hov : ov N_runglaw5_RtuTells = none := H _ (by decide)
  unfold kc kd; rw [← F_runglaw5_RtuTells_eq]; simp only [kcall, hov]

/-- rung/runglaw5.known -/
def F_runglaw5_known (call callD : ACall) (h : AH) : Ans :=
  kq (some (.bool false)) <| fun v0 =>
  km (mBuildSl T_uint8 1 [(.int .u8 0)] 5 [(0, (.int .u8 3)), (1, (.int .u8 0)), (2, (.int .u8 0)), (3, (.int .u8 0)), (4, (.int .u8 1))]) h <| fun v1 h0 =>
  ke (call N_rtu_Write [(.int .u8 1), v1] h0) <| fun v2 h1 =>
  kq (some v2) <| fun v3 =>
  kq (aExtract v3 0) <| fun v4 =>
  kq (aExtract v3 1) <| fun v5 =>
  kq (some v4) <| fun v6 =>
  kq (some v5) <| fun v7 =>
  kq (some v6) <| fun v8 =>
  ke (call N_rtu_Open [v8] h1) <| fun v9 h2 =>
  kq (some v9) <| fun v10 =>
  kq (aExtract v10 0) <| fun v11 =>
  kq (aExtract v10 1) <| fun v12 =>
  kq (aExtract v10 2) <| fun v13 =>
  kq (some v11) <| fun v14 =>
  kq (some v12) <| fun v15 =>
  kq (some v13) <| fun v16 =>
  km (mBuildSl T_uint8 1 [(.int .u8 0)] 3 [(0, (.int .u8 1)), (1, (.int .u8 2)), (2, (.int .u8 3))]) h2 <| fun v17 h3 =>
  ke (call N_rtu_Open [v17] h3) <| fun v18 h4 =>
  kq (some v18) <| fun v19 =>
  kq (aExtract v19 0) <| fun v20 =>
  kq (aExtract v19 1) <| fun v21 =>
  kq (aExtract v19 2) <| fun v22 =>
  kq (some v20) <| fun v23 =>
  kq (some v21) <| fun v24 =>
  kq (some v22) <| fun v25 =>
  kq (some v7) <| fun v26 =>
  kq (some v16) <| fun v27 =>
  kq (rBin .add .no false v26 v27) <| fun v28 =>
  kq (rBin .eql .no true v28 (.int .i64 0)) <| fun v29 =>
  kq (some v29) <| fun v30 =>
  kth (fun v51 h9 =>
  kq (some v51) <| fun v52 =>
  some (v52, h9)) <| fun j31 =>
  kgq v30 true (fun k => kq (some v6) k) <| fun v32 =>
  kgh v30 true h4 (fun k => km (mBuildSl T_uint8 1 [(.int .u8 0)] 8 [(0, (.int .u8 1)), (1, (.int .u8 3)), (2, (.int .u8 0)), (3, (.int .u8 0)), (4, (.int .u8 0)), (5, (.int .u8 1)), (6, (.int .u8 132)), (7, (.int .u8 10))]) h4 <| fun v33 h5 =>
  k v33 h5) <| fun v34 h6 =>
  kgh v30 true h6 (fun k => ke (call N_runghelp_Bytes [v32, v34] h6) <| fun v35 h7 =>
  k v35 h7) <| fun v36 h8 =>
  kq (rPick v30 v36 (.bool false)) <| fun v37 =>
  kq (some v37) <| fun v38 =>
  kgq v38 true (fun k => kq (some v14) k) <| fun v39 =>
  kgq v38 true (fun k => kq (rBin .eql .no true v39 (.int .u8 1)) k) <| fun v40 =>
  kq (rPick v38 v40 (.bool false)) <| fun v41 =>
  kq (some v41) <| fun v42 =>
  kgq v42 true (fun k => kq (some v15) k) <| fun v43 =>
  kgq v42 true (fun k => kq (rLen v43) k) <| fun v44 =>
  kgq v42 true (fun k => kq (rBin .eql .no true v44 (.int .i64 5)) k) <| fun v45 =>
  kq (rPick v42 v45 (.bool false)) <| fun v46 =>
  kq (some v46) <| fun v47 =>
  kgq v47 true (fun k => kq (some v25) k) <| fun v48 =>
  kgq v47 true (fun k => kq (rBin .eql .no true v48 (.int .i64 51)) k) <| fun v49 =>
  kq (rPick v47 v49 (.bool false)) <| fun v50 =>
  j31 v50 h8
theorem F_runglaw5_known_eq (call callD : ACall) (h : AH) : kFunc Try.prog [] call callD N_runglaw5_known [] h = F_runglaw5_known call callD h := by kernel_rfl
theorem C_runglaw5_known {ov : AOver} (hov : ov N_runglaw5_known = none) (n : Nat) (h : AH) : kcall Try.prog [] ov (n + 1) N_runglaw5_known [] h = F_runglaw5_known (kcall Try.prog [] ov n) (kFuncD Try.prog [] (kcall Try.prog [] ov n)) h := by
  rw [← F_runglaw5_known_eq]; simp only [kcall, hov]

/-- rung/rtu.Write -/
def F_rtu_Write (call callD : ACall) (a0 a1 : AVal) (h : AH) : Ans :=
  kq (some (.slice none 0 0)) <| fun v0 =>
  kq (some (.int .i64 0)) <| fun v1 =>
  kq (some a1) <| fun v2 =>
  kq (rLen v2) <| fun v3 =>
  kq (rBin .lss .no true v3 (.int .i64 1)) <| fun v4 =>
  kq (some v4) <| fun v5 =>
  kt (fun v11 =>
  kIf v11 (
  kq (some (.slice none 0 0)) <| fun v12 =>
  kq (some (.int .i64 51)) <| fun v13 =>
  some (.tuple [v12, v13], h)) (
  kq (some a0) <| fun v14 =>
  km (mBuildSl T_uint8 1 [(.int .u8 0)] 1 [(0, v14)]) h <| fun v15 h1 =>
  kq (some a1) <| fun v16 =>
  km (mBuildSl T___uint8 1 [(.slice none 0 0)] 2 [(0, v15), (1, v16)]) h1 <| fun v17 h2 =>
  ke (call N_rtu_joined [v17] h2) <| fun v18 h3 =>
  kq (some v18) <| fun v19 =>
  kq (some (.int .i64 0)) <| fun v20 =>
  some (.tuple [v19, v20], h3))) <| fun j6 =>
  kgq v5 false (fun k => kq (some a1) k) <| fun v7 =>
  kgq v5 false (fun k => kq (rLen v7) k) <| fun v8 =>
  kgq v5 false (fun k => kq (rBin .gtr .no true v8 (.int .i64 253)) k) <| fun v9 =>
  kq (rPick v5 (.bool true) v9) <| fun v10 =>
  j6 v10
theorem F_rtu_Write_eq (call callD : ACall) (a0 a1 : AVal) (h : AH) : kFunc Try.prog [] call callD N_rtu_Write [a0, a1] h = F_rtu_Write call callD a0 a1 h := by kernel_rfl
theorem C_rtu_Write {ov : AOver} (H : Plain ov) (n : Nat) (a0 a1 : AVal) (h : AH) : kc ov (n + 1) N_rtu_Write [a0, a1] h = F_rtu_Write (kc ov n) (kd ov n) a0 a1 h := by
  have hov : ov N_rtu_Write = none := H _ (by decide)
  unfold kc kd; rw [← F_rtu_Write_eq]; simp only [kcall, hov]

/-- rung/rungref3.Rtu -/
def F_rungref3_Rtu (call callD : ACall) (a0 a1 : AVal) (h : AH) : Ans :=
  kq (some (.slice none 0 0)) <| fun v0 =>
  kq (some (.int .i64 0)) <| fun v1 =>
  kq (some a1) <| fun v2 =>
  kq (rLen v2) <| fun v3 =>
  kq (rBin .lss .no true v3 (.int .i64 1)) <| fun v4 =>
  kq (some v4) <| fun v5 =>
  kt (fun v11 =>
  kIf v11 (
  kq (some (.slice none 0 0)) <| fun v12 =>
  kq (some (.int .i64 51)) <| fun v13 =>
  some (.tuple [v12, v13], h)) (
  kq (some a0) <| fun v14 =>
  km (mBuildSl T_uint8 1 [(.int .u8 0)] 1 [(0, v14)]) h <| fun v15 h1 =>
  kq (some a1) <| fun v16 =>
  ke (rAppend T_uint8 1 1 v15 v16 h1) <| fun v17 h2 =>
  kq (some v17) <| fun v18 =>
  kq (some v18) <| fun v19 =>
  ke (call N_rungref2_Sum16 [v19] h2) <| fun v20 h3 =>
  kq (some v20) <| fun v21 =>
  kq (some v18) <| fun v22 =>
  kq (some v21) <| fun v23 =>
  kq (rConvI .u8 v23) <| fun v24 =>
  kq (some v21) <| fun v25 =>
  kq (rBin .shr .no true v25 (.int .u64 8)) <| fun v26 =>
  kq (rConvI .u8 v26) <| fun v27 =>
  km (mBuildSl T_uint8 1 [(.int .u8 0)] 2 [(0, v24), (1, v27)]) h3 <| fun v28 h4 =>
  ke (rAppend T_uint8 1 1 v22 v28 h4) <| fun v29 h5 =>
  kq (some v29) <| fun v30 =>
  kq (some (.int .i64 0)) <| fun v31 =>
  some (.tuple [v30, v31], h5))) <| fun j6 =>
  kgq v5 false (fun k => kq (some a1) k) <| fun v7 =>
  kgq v5 false (fun k => kq (rLen v7) k) <| fun v8 =>
  kgq v5 false (fun k => kq (rBin .gtr .no true v8 (.int .i64 253)) k) <| fun v9 =>
  kq (rPick v5 (.bool true) v9) <| fun v10 =>
  j6 v10
theorem F_rungref3_Rtu_eq (call callD : ACall) (a0 a1 : AVal) (h : AH) : kFunc Try.prog [] call callD N_rungref3_Rtu [a0, a1] h = F_rungref3_Rtu call callD a0 a1 h := by kernel_rfl
theorem C_rungref3_Rtu {ov : AOver} (H : Plain ov) (n : Nat) (a0 a1 : AVal) (h : AH) : kc ov (n + 1) N_rungref3_Rtu [a0, a1] h = F_rungref3_Rtu (kc ov n) (kd ov n) a0 a1 h := by
  have hov : ov N_rungref3_Rtu = none := H _ (by decide)
  unfold kc kd; rw [← F_rungref3_Rtu_eq]; simp only [kcall, hov]

/-- rung/runghelp.Bytes -/
def F_runghelp_Bytes (call callD : ACall) (a0 a1 : AVal) (h : AH) : Ans :=
  kq (some (.bool false)) <| fun v0 =>
  kq (some a0) <| fun v1 =>
  kq (rText v1 h) <| fun v2 =>
  kq (some a1) <| fun v3 =>
  kq (rText v3 h) <| fun v4 =>
  kq (rBin .eql .no false v2 v4) <| fun v5 =>
  kq (some v5) <| fun v6 =>
  some (v6, h)
theorem F_runghelp_Bytes_eq (call callD : ACall) (a0 a1 : AVal) (h : AH) : kFunc Try.prog [] call callD N_runghelp_Bytes [a0, a1] h = F_runghelp_Bytes call callD a0 a1 h := by kernel_rfl
theorem C_runghelp_Bytes {ov : AOver} (H : Plain ov) (n : Nat) (a0 a1 : AVal) (h : AH) : kc ov (n + 1) N_runghelp_Bytes [a0, a1] h = F_runghelp_Bytes (kc ov n) (kd ov n) a0 a1 h := by
  have hov : ov N_runghelp_Bytes = none := H _ (by decide)
  unfold kc kd; rw [← F_runghelp_Bytes_eq]; simp only [kcall, hov]

/-- rung/rtu.Open -/
def F_rtu_Open (call callD : ACall) (a0 : AVal) (h : AH) : Ans :=
  kq (some (.int .u8 0)) <| fun v0 =>
  kq (some (.slice none 0 0)) <| fun v1 =>
  kq (some (.int .i64 0)) <| fun v2 =>
  kq (some a0) <| fun v3 =>
  kq (rLen v3) <| fun v4 =>
  kq (rBin .lss .no true v4 (.int .i64 4)) <| fun v5 =>
  kq (some v5) <| fun v6 =>
  kt (fun v12 =>
  kIf v12 (
  kq (some (.int .u8 0)) <| fun v13 =>
  kq (some (.slice none 0 0)) <| fun v14 =>
  kq (some (.int .i64 51)) <| fun v15 =>
  some (.tuple [v13, v14, v15], h)) (
  kq (some a0) <| fun v16 =>
  kq (some a0) <| fun v17 =>
  kq (rLen v17) <| fun v18 =>
  kq (rBin .sub .no true v18 (.int .i64 2)) <| fun v19 =>
  kq (rCut 1 v16 none (some v19) none) <| fun v20 =>
  kq (some v20) <| fun v21 =>
  kq (some v21) <| fun v22 =>
  km (mBuildSl T___uint8 1 [(.slice none 0 0)] 1 [(0, v22)]) h <| fun v23 h1 =>
  ke (call N_rtu_joined [v23] h1) <| fun v24 h2 =>
  kq (some a0) <| fun v25 =>
  ke (call N_slices_Equal___byte_byte_ [v24, v25] h2) <| fun v26 h3 =>
  kq (aUn .not v26) <| fun v27 =>
  kIf v27 (
  kq (some (.int .u8 0)) <| fun v28 =>
  kq (some (.slice none 0 0)) <| fun v29 =>
  kq (some (.int .i64 50)) <| fun v30 =>
  some (.tuple [v28, v29, v30], h3)) (
  kq (some v21) <| fun v31 =>
  kq (rAt 1 v31 (.int .i64 0)) <| fun v32 =>
  kq (rLoad v32 h3) <| fun v33 =>
  kq (some v21) <| fun v34 =>
  kq (rCut 1 v34 (some (.int .i64 1)) none none) <| fun v35 =>
  ke (call N_slices_Clone___byte_byte_ [v35] h3) <| fun v36 h4 =>
  kq (some v33) <| fun v37 =>
  kq (some v36) <| fun v38 =>
  kq (some (.int .i64 0)) <| fun v39 =>
  kChk (!true || kSame (rLoad v32 h4) v33) <|
  some (.tuple [v37, v38, v39], h4)))) <| fun j7 =>
  kgq v6 false (fun k => kq (some a0) k) <| fun v8 =>
  kgq v6 false (fun k => kq (rLen v8) k) <| fun v9 =>
  kgq v6 false (fun k => kq (rBin .gtr .no true v9 (.int .i64 256)) k) <| fun v10 =>
  kq (rPick v6 (.bool true) v10) <| fun v11 =>
  j7 v11
theorem F_rtu_Open_eq (call callD : ACall) (a0 : AVal) (h : AH) : kFunc Try.prog [] call callD N_rtu_Open [a0] h = F_rtu_Open call callD a0 h := by kernel_rfl
theorem C_rtu_Open {ov : AOver} (H : Plain ov) (n : Nat) (a0 : AVal) (h : AH) : kc ov (n + 1) N_rtu_Open [a0] h = F_rtu_Open (kc ov n) (kd ov n) a0 h := by
  have hov : ov N_rtu_Open = none := H _ (by decide)
  unfold kc kd; rw [← F_rtu_Open_eq]; simp only [kcall, hov]

/-- rung/rungref3.OpenRtu -/
def F_rungref3_OpenRtu (call callD : ACall) (a0 : AVal) (h : AH) : Ans :=
  kq (some (.int .u8 0)) <| fun v0 =>
  kq (some (.slice none 0 0)) <| fun v1 =>
  kq (some (.int .i64 0)) <| fun v2 =>
  kq (some a0) <| fun v3 =>
  kq (rLen v3) <| fun v4 =>
  kq (rBin .lss .no true v4 (.int .i64 4)) <| fun v5 =>
  kq (some v5) <| fun v6 =>
  kt (fun v12 =>
  kIf v12 (
  kq (some (.int .u8 0)) <| fun v13 =>
  kq (some (.slice none 0 0)) <| fun v14 =>
  kq (some (.int .i64 51)) <| fun v15 =>
  some (.tuple [v13, v14, v15], h)) (
  kq (some a0) <| fun v16 =>
  kq (rLen v16) <| fun v17 =>
  kq (rBin .sub .no true v17 (.int .i64 2)) <| fun v18 =>
  kq (some v18) <| fun v19 =>
  kq (some a0) <| fun v20 =>
  kq (some v19) <| fun v21 =>
  kq (rCut 1 v20 none (some v21) none) <| fun v22 =>
  kq (some a0) <| fun v23 =>
  kq (some v19) <| fun v24 =>
  kq (rAt 1 v23 v24) <| fun v25 =>
  kq (rLoad v25 h) <| fun v26 =>
  kq (rConvI .u16 v26) <| fun v27 =>
  kq (some a0) <| fun v28 =>
  kq (some v19) <| fun v29 =>
  kq (rBin .add .no true v29 (.int .i64 1)) <| fun v30 =>
  kq (rAt 1 v28 v30) <| fun v31 =>
  kq (rLoad v31 h) <| fun v32 =>
  kq (rConvI .u16 v32) <| fun v33 =>
  kq (rBin .shl .no true v33 (.int .u64 8)) <| fun v34 =>
  kq (rBin .or .no false v27 v34) <| fun v35 =>
  ke (call N_rungref2_Sum16 [v22] h) <| fun v36 h1 =>
  kq (rBin .neq .no false v36 v35) <| fun v37 =>
  kChk (!true || kSame (rLoad v31 h1) v32) <|
  kChk (!true || kSame (rLoad v25 h1) v26) <|
  kIf v37 (
  kq (some (.int .u8 0)) <| fun v38 =>
  kq (some (.slice none 0 0)) <| fun v39 =>
  kq (some (.int .i64 50)) <| fun v40 =>
  some (.tuple [v38, v39, v40], h1)) (
  kq (some a0) <| fun v41 =>
  kq (rAt 1 v41 (.int .i64 0)) <| fun v42 =>
  kq (rLoad v42 h1) <| fun v43 =>
  kq (some a0) <| fun v44 =>
  kq (some v19) <| fun v45 =>
  kq (rCut 1 v44 (some (.int .i64 1)) (some v45) none) <| fun v46 =>
  ke (rAppend T_uint8 1 1 (.slice none 0 0) v46 h1) <| fun v47 h2 =>
  kq (some v43) <| fun v48 =>
  kq (some v47) <| fun v49 =>
  kq (some (.int .i64 0)) <| fun v50 =>
  kChk (!true || kSame (rLoad v42 h2) v43) <|
  some (.tuple [v48, v49, v50], h2)))) <| fun j7 =>
  kgq v6 false (fun k => kq (some a0) k) <| fun v8 =>
  kgq v6 false (fun k => kq (rLen v8) k) <| fun v9 =>
  kgq v6 false (fun k => kq (rBin .gtr .no true v9 (.int .i64 256)) k) <| fun v10 =>
  kq (rPick v6 (.bool true) v10) <| fun v11 =>
  j7 v11
theorem F_rungref3_OpenRtu_eq (call callD : ACall) (a0 : AVal) (h : AH) : kFunc Try.prog [] call callD N_rungref3_OpenRtu [a0] h = F_rungref3_OpenRtu call callD a0 h := by kernel_rfl
theorem C_rungref3_OpenRtu {ov : AOver} (H : Plain ov) (n : Nat) (a0 : AVal) (h : AH) : kc ov (n + 1) N_rungref3_OpenRtu [a0] h = F_rungref3_OpenRtu (kc ov n) (kd ov n) a0 h := by
  have hov : ov N_rungref3_OpenRtu = none := H _ (by decide)
  unfold kc kd; rw [← F_rungref3_OpenRtu_eq]; simp only [kcall, hov]

/-- rung/runghelp.Place -/
def F_runghelp_Place (call callD : ACall) (a0 a1 : AVal) (h : AH) : Ans :=
  kq (some (.int .i64 0)) <| fun v0 =>
  kq (some a0) <| fun v1 =>
  kq (some a1) <| fun v2 =>
  kq (rBin .rem .no false v1 v2) <| fun v3 =>
  kq (some v3) <| fun v4 =>
  kq (some v4) <| fun v5 =>
  kq (rBin .lss .no true v5 (.int .i64 0)) <| fun v6 =>
  kj (fun l7 h0 =>
  kq (some (gd l7 0)) <| fun v9 =>
  kq (some v9) <| fun v10 =>
  some (v10, h0)) <| fun j8 =>
  kIf v6 (
  kq (some v4) <| fun v11 =>
  kq (some a1) <| fun v12 =>
  kq (rBin .add .no false v11 v12) <| fun v13 =>
  kq (some v13) <| fun v14 =>
  j8 [v14] h) (
  j8 [v4] h)
theorem F_runghelp_Place_eq (call callD : ACall) (a0 a1 : AVal) (h : AH) : kFunc Try.prog [] call callD N_runghelp_Place [a0, a1] h = F_runghelp_Place call callD a0 a1 h := by kernel_rfl
theorem C_runghelp_Place {ov : AOver} (H : Plain ov) (n : Nat) (a0 a1 : AVal) (h : AH) : kc ov (n + 1) N_runghelp_Place [a0, a1] h = F_runghelp_Place (kc ov n) (kd ov n) a0 a1 h := by
  have hov : ov N_runghelp_Place = none := H _ (by decide)
  unfold kc kd; rw [← F_runghelp_Place_eq]; simp only [kcall, hov]

/-- rung/rtu.joined -/
def F_rtu_joined (call callD : ACall) (a0 : AVal) (h : AH) : Ans :=
  kq (some (.slice none 0 0)) <| fun v0 =>
  kq (some a0) <| fun v1 =>
  ke (call N_slices_Concat___byte_byte_ [v1] h) <| fun v2 h0 =>
  kq (some v2) <| fun v3 =>
  kq (some v3) <| fun v4 =>
  ke (call N_crc_Sum16 [v4] h0) <| fun v5 h1 =>
  kq (some v5) <| fun v6 =>
  kq (some v3) <| fun v7 =>
  kq (some v6) <| fun v8 =>
  kq (rConvI .u8 v8) <| fun v9 =>
  kq (some v6) <| fun v10 =>
  kq (rBin .shr .no true v10 (.int .u64 8)) <| fun v11 =>
  kq (rConvI .u8 v11) <| fun v12 =>
  km (mBuildSl T_uint8 1 [(.int .u8 0)] 2 [(0, v9), (1, v12)]) h1 <| fun v13 h2 =>
  ke (rAppend T_uint8 1 1 v7 v13 h2) <| fun v14 h3 =>
  kq (some v14) <| fun v15 =>
  some (v15, h3)
theorem F_rtu_joined_eq (call callD : ACall) (a0 : AVal) (h : AH) : kFunc Try.prog [] call callD N_rtu_joined [a0] h = F_rtu_joined call callD a0 h := by kernel_rfl
theorem C_rtu_joined {ov : AOver} (H : Plain ov) (n : Nat) (a0 : AVal) (h : AH) : kc ov (n + 1) N_rtu_joined [a0] h = F_rtu_joined (kc ov n) (kd ov n) a0 h := by
  have hov : ov N_rtu_joined = none := H _ (by decide)
  unfold kc kd; rw [← F_rtu_joined_eq]; simp only [kcall, hov]

/-- rung/rungref2.Sum16 -/
def L_rungref2_Sum16_0 (call callD : ACall) (l3 : List AVal) (j4 : List AVal → AH → Ans) : (List AVal → AH → Ans) → List AVal → AH → Ans := fun j19 l18 h1 =>
  kq (some (gd l18 1)) <| fun v20 =>
  kq (rBin .lss .no true v20 (.int .i64 8)) <| fun v21 =>
  kIf v21 (
  kq (some (gd l18 0)) <| fun v22 =>
  kq (rBin .and .no true v22 (.int .u16 1)) <| fun v23 =>
  kq (rBin .eql .no true v23 (.int .u16 1)) <| fun v24 =>
  kj (fun l25 h2 =>
  kq (some (gd l18 1)) <| fun v27 =>
  kq (rBin .add .no true v27 (.int .i64 1)) <| fun v28 =>
  kq (some v28) <| fun v29 =>
  j19 [(gd l25 0), v29] h2) <| fun j26 =>
  kIf v24 (
  kq (some (gd l18 0)) <| fun v30 =>
  kq (rBin .shr .no true v30 (.int .u64 1)) <| fun v31 =>
  kq (rBin .xor .no true v31 (.int .u16 40961)) <| fun v32 =>
  kq (some v32) <| fun v33 =>
  j26 [v33] h1) (
  kq (some (gd l18 0)) <| fun v34 =>
  kq (rBin .shr .no true v34 (.int .u64 1)) <| fun v35 =>
  kq (some v35) <| fun v36 =>
  j26 [v36] h1)) (
  kq (some (gd l3 1)) <| fun v37 =>
  kq (rBin .add .no true v37 (.int .i64 1)) <| fun v38 =>
  kq (some v38) <| fun v39 =>
  j4 [(gd l18 0), v39] h1)
def L_rungref2_Sum16_1 (call callD : ACall) (a0 : AVal) : (List AVal → AH → Ans) → List AVal → AH → Ans := fun j4 l3 h0 =>
  kq (some (gd l3 1)) <| fun v5 =>
  kq (some a0) <| fun v6 =>
  kq (rLen v6) <| fun v7 =>
  kq (rBin .lss .no false v5 v7) <| fun v8 =>
  kIf v8 (
  kq (some (gd l3 0)) <| fun v9 =>
  kq (some a0) <| fun v10 =>
  kq (some (gd l3 1)) <| fun v11 =>
  kq (rAt 1 v10 v11) <| fun v12 =>
  kq (rLoad v12 h0) <| fun v13 =>
  kq (rConvI .u16 v13) <| fun v14 =>
  kq (rBin .xor .no false v9 v14) <| fun v15 =>
  kq (some v15) <| fun v16 =>
  kq (some (.int .i64 0)) <| fun v17 =>
  kLoop (L_rungref2_Sum16_0 call callD l3 j4) rounds [v16, v17] h0) (
  kq (some (gd l3 0)) <| fun v40 =>
  kq (some v40) <| fun v41 =>
  some (v41, h0))
def F_rungref2_Sum16 (call callD : ACall) (a0 : AVal) (h : AH) : Ans :=
  kq (some (.int .u16 0)) <| fun v0 =>
  kq (some (.int .u16 65535)) <| fun v1 =>
  kq (some (.int .i64 0)) <| fun v2 =>
  kLoop (L_rungref2_Sum16_1 call callD a0) rounds [v1, v2] h
theorem F_rungref2_Sum16_eq (call callD : ACall) (a0 : AVal) (h : AH) : kFunc Try.prog [] call callD N_rungref2_Sum16 [a0] h = F_rungref2_Sum16 call callD a0 h := by kernel_rfl
theorem C_rungref2_Sum16 {ov : AOver} (H : Plain ov) (n : Nat) (a0 : AVal) (h : AH) : kc ov (n + 1) N_rungref2_Sum16 [a0] h = F_rungref2_Sum16 (kc ov n) (kd ov n) a0 h := by
  have hov : ov N_rungref2_Sum16 = none := H _ (by decide)
  unfold kc kd; rw [← F_rungref2_Sum16_eq]; simp only [kcall, hov]

/-- slices.Equal[[]byte,byte] -/
def L_slices_Equal___byte_byte__0 (call callD : ACall) (v8 : AVal) (a0 : AVal) (a1 : AVal) : (List AVal → AH → Ans) → List AVal → AH → Ans := fun j11 l10 h0 =>
  kq (rBin .lss .no false (gd l10 0) v8) <| fun v12 =>
  kIf v12 (
  kq (some (gd l10 0)) <| fun v13 =>
  kq (some v13) <| fun v14 =>
  kq (some a0) <| fun v15 =>
  kq (some v14) <| fun v16 =>
  kq (rAt 1 v15 v16) <| fun v17 =>
  kq (rLoad v17 h0) <| fun v18 =>
  kq (some a1) <| fun v19 =>
  kq (some v14) <| fun v20 =>
  kq (rAt 1 v19 v20) <| fun v21 =>
  kq (rLoad v21 h0) <| fun v22 =>
  kq (rBin .neq .no false v18 v22) <| fun v23 =>
  kIf v23 (
  kq (some (.bool false)) <| fun v24 =>
  some (v24, h0)) (
  kq (rBin .add .no true (gd l10 0) (.int .i64 1)) <| fun v25 =>
  kq (some v25) <| fun v26 =>
  j11 [v26] h0)) (
  kq (some (.bool true)) <| fun v27 =>
  some (v27, h0))
def F_slices_Equal___byte_byte_ (call callD : ACall) (a0 a1 : AVal) (h : AH) : Ans :=
  kq (some (.bool false)) <| fun v0 =>
  kq (some a0) <| fun v1 =>
  kq (rLen v1) <| fun v2 =>
  kq (some a1) <| fun v3 =>
  kq (rLen v3) <| fun v4 =>
  kq (rBin .neq .no false v2 v4) <| fun v5 =>
  kIf v5 (
  kq (some (.bool false)) <| fun v6 =>
  some (v6, h)) (
  kq (some a0) <| fun v7 =>
  kq (rLen v7) <| fun v8 =>
  kq (some (.int .i64 0)) <| fun v9 =>
  kLoop (L_slices_Equal___byte_byte__0 call callD v8 a0 a1) rounds [v9] h)
theorem F_slices_Equal___byte_byte__eq (call callD : ACall) (a0 a1 : AVal) (h : AH) : kFunc Try.prog [] call callD N_slices_Equal___byte_byte_ [a0, a1] h = F_slices_Equal___byte_byte_ call callD a0 a1 h := by kernel_rfl
theorem C_slices_Equal___byte_byte_ {ov : AOver} (H : Plain ov) (n : Nat) (a0 a1 : AVal) (h : AH) : kc ov (n + 1) N_slices_Equal___byte_byte_ [a0, a1] h = F_slices_Equal___byte_byte_ (kc ov n) (kd ov n) a0 a1 h := by
  have hov : ov N_slices_Equal___byte_byte_ = none := H _ (by decide)
  unfold kc kd; rw [← F_slices_Equal___byte_byte__eq]; simp only [kcall, hov]

/-- slices.Clone[[]byte,byte] -/
def F_slices_Clone___byte_byte_ (call callD : ACall) (a0 : AVal) (h : AH) : Ans :=
  kq (some (.slice none 0 0)) <| fun v0 =>
  kq (some a0) <| fun v1 =>
  kq (rBin .eql .slice true v1 (.slice none 0 0)) <| fun v2 =>
  kIf v2 (
  kq (some (.slice none 0 0)) <| fun v3 =>
  some (v3, h)) (
  km (mBuildSl T_uint8 1 [(.int .u8 0)] 0 []) h <| fun v4 h0 =>
  kq (some a0) <| fun v5 =>
  ke (rAppend T_uint8 1 1 v4 v5 h0) <| fun v6 h1 =>
  kq (some v6) <| fun v7 =>
  some (v7, h1))
theorem F_slices_Clone___byte_byte__eq (call callD : ACall) (a0 : AVal) (h : AH) : kFunc Try.prog [] call callD N_slices_Clone___byte_byte_ [a0] h = F_slices_Clone___byte_byte_ call callD a0 h := by kernel_rfl
theorem C_slices_Clone___byte_byte_ {ov : AOver} (H : Plain ov) (n : Nat) (a0 : AVal) (h : AH) : kc ov (n + 1) N_slices_Clone___byte_byte_ [a0] h = F_slices_Clone___byte_byte_ (kc ov n) (kd ov n) a0 h := by
  have hov : ov N_slices_Clone___byte_byte_ = none := H _ (by decide)
  unfold kc kd; rw [← F_slices_Clone___byte_byte__eq]; simp only [kcall, hov]

/-- slices.Concat[[]byte,byte] -/
def L_slices_Concat___byte_byte__0 (call callD : ACall) (v28 : AVal) (v27 : AVal) : (List AVal → AH → Ans) → List AVal → AH → Ans := fun j31 l30 h4 =>
  kq (rBin .lss .no false (gd l30 1) v28) <| fun v32 =>
  kIf v32 (
  kq (rAt 1 v27 (gd l30 1)) <| fun v33 =>
  kq (rLoad v33 h4) <| fun v34 =>
  kq (some v34) <| fun v35 =>
  kq (some (gd l30 0)) <| fun v36 =>
  kq (some v35) <| fun v37 =>
  ke (rAppend T_uint8 1 1 v36 v37 h4) <| fun v38 h5 =>
  kq (some v38) <| fun v39 =>
  kq (rBin .add .no true (gd l30 1) (.int .i64 1)) <| fun v40 =>
  kq (some v40) <| fun v41 =>
  j31 [v39, v41] h5) (
  kq (some (gd l30 0)) <| fun v42 =>
  kq (some v42) <| fun v43 =>
  some (v43, h4))
def L_slices_Concat___byte_byte__1 (call callD : ACall) (v3 : AVal) (v2 : AVal) (a0 : AVal) : (List AVal → AH → Ans) → List AVal → AH → Ans := fun j6 l5 h0 =>
  kq (rBin .lss .no false (gd l5 1) v3) <| fun v7 =>
  kIf v7 (
  kq (rAt 1 v2 (gd l5 1)) <| fun v8 =>
  kq (rLoad v8 h0) <| fun v9 =>
  kq (some v9) <| fun v10 =>
  kq (some (gd l5 0)) <| fun v11 =>
  kq (some v10) <| fun v12 =>
  kq (rLen v12) <| fun v13 =>
  kq (rBin .add .no false v11 v13) <| fun v14 =>
  kq (some v14) <| fun v15 =>
  kq (some v15) <| fun v16 =>
  kq (rBin .lss .no true v16 (.int .i64 0)) <| fun v17 =>
  kj (fun l18 h1 =>
  kq (rBin .add .no true (gd l5 1) (.int .i64 1)) <| fun v20 =>
  kq (some v20) <| fun v21 =>
  j6 [v15, v21] h1) <| fun j19 =>
  kIf v17 (
  kq (some (.iface T_string (.str [108, 101, 110, 32, 111, 117, 116, 32, 111, 102, 32, 114, 97, 110, 103, 101]))) <| fun v22 =>
  ke (none) <| fun v23 h2 =>
  j19 [] h2) (
  j19 [] h0)) (
  kq (some (gd l5 0)) <| fun v24 =>
  ke (call N_slices_Grow___byte_byte_ [(.slice none 0 0), v24] h0) <| fun v25 h3 =>
  kq (some v25) <| fun v26 =>
  kq (some a0) <| fun v27 =>
  kq (rLen v27) <| fun v28 =>
  kq (some (.int .i64 0)) <| fun v29 =>
  kLoop (L_slices_Concat___byte_byte__0 call callD v28 v27) rounds [v26, v29] h3)
def F_slices_Concat___byte_byte_ (call callD : ACall) (a0 : AVal) (h : AH) : Ans :=
  kq (some (.slice none 0 0)) <| fun v0 =>
  kq (some (.int .i64 0)) <| fun v1 =>
  kq (some a0) <| fun v2 =>
  kq (rLen v2) <| fun v3 =>
  kq (some (.int .i64 0)) <| fun v4 =>
  kLoop (L_slices_Concat___byte_byte__1 call callD v3 v2 a0) rounds [v1, v4] h
theorem F_slices_Concat___byte_byte__eq (call callD : ACall) (a0 : AVal) (h : AH) : kFunc Try.prog [] call callD N_slices_Concat___byte_byte_ [a0] h = F_slices_Concat___byte_byte_ call callD a0 h := by kernel_rfl
theorem C_slices_Concat___byte_byte_ {ov : AOver} (H : Plain ov) (n : Nat) (a0 : AVal) (h : AH) : kc ov (n + 1) N_slices_Concat___byte_byte_ [a0] h = F_slices_Concat___byte_byte_ (kc ov n) (kd ov n) a0 h := by
  have hov : ov N_slices_Concat___byte_byte_ = none := H _ (by decide)
  unfold kc kd; rw [← F_slices_Concat___byte_byte__eq]; simp only [kcall, hov]

/-- rung/crc.Sum16 -/
def L_crc_Sum16_0 (call callD : ACall) (v3 : AVal) (v2 : AVal) : (List AVal → AH → Ans) → List AVal → AH → Ans := fun j6 l5 h0 =>
  kq (rBin .lss .no false (gd l5 1) v3) <| fun v7 =>
  kIf v7 (
  kq (rAt 1 v2 (gd l5 1)) <| fun v8 =>
  kq (rLoad v8 h0) <| fun v9 =>
  kq (some v9) <| fun v10 =>
  kq (some (gd l5 0)) <| fun v11 =>
  kq (some v10) <| fun v12 =>
  kq (rConvI .u16 v12) <| fun v13 =>
  kq (rBin .xor .no false v11 v13) <| fun v14 =>
  ke (call N_crc_step16 [v14] h0) <| fun v15 h1 =>
  kq (some v15) <| fun v16 =>
  kq (rBin .add .no true (gd l5 1) (.int .i64 1)) <| fun v17 =>
  kq (some v17) <| fun v18 =>
  j6 [v16, v18] h1) (
  kq (some (gd l5 0)) <| fun v19 =>
  kq (some v19) <| fun v20 =>
  some (v20, h0))
def F_crc_Sum16 (call callD : ACall) (a0 : AVal) (h : AH) : Ans :=
  kq (some (.int .u16 0)) <| fun v0 =>
  kq (some (.int .u16 65535)) <| fun v1 =>
  kq (some a0) <| fun v2 =>
  kq (rLen v2) <| fun v3 =>
  kq (some (.int .i64 0)) <| fun v4 =>
  kLoop (L_crc_Sum16_0 call callD v3 v2) rounds [v1, v4] h
theorem F_crc_Sum16_eq (call callD : ACall) (a0 : AVal) (h : AH) : kFunc Try.prog [] call callD N_crc_Sum16 [a0] h = F_crc_Sum16 call callD a0 h := by kernel_rfl
theorem C_crc_Sum16 {ov : AOver} (H : Plain ov) (n : Nat) (a0 : AVal) (h : AH) : kc ov (n + 1) N_crc_Sum16 [a0] h = F_crc_Sum16 (kc ov n) (kd ov n) a0 h := by
  have hov : ov N_crc_Sum16 = none := H _ (by decide)
  unfold kc kd; rw [← F_crc_Sum16_eq]; simp only [kcall, hov]

/-- slices.Grow[[]byte,byte] -/
def F_slices_Grow___byte_byte_ (call callD : ACall) (a0 a1 : AVal) (h : AH) : Ans :=
  kq (some (.slice none 0 0)) <| fun v0 =>
  kq (some a1) <| fun v1 =>
  kq (rBin .lss .no true v1 (.int .i64 0)) <| fun v2 =>
  kj (fun l3 h0 =>
  kq (some a1) <| fun v5 =>
  kq (some a0) <| fun v6 =>
  kq (rCap v6 h0) <| fun v7 =>
  kq (some a0) <| fun v8 =>
  kq (rLen v8) <| fun v9 =>
  kq (rBin .sub .no false v7 v9) <| fun v10 =>
  kq (rBin .sub .no false v5 v10) <| fun v11 =>
  kq (some v11) <| fun v12 =>
  kq (some v12) <| fun v13 =>
  kq (rBin .gtr .no true v13 (.int .i64 0)) <| fun v14 =>
  kj (fun l15 h1 =>
  kq (some (gd l15 0)) <| fun v17 =>
  kq (some v17) <| fun v18 =>
  some (v18, h1)) <| fun j16 =>
  kIf v14 (
  kq (some a0) <| fun v19 =>
  kq (some a0) <| fun v20 =>
  kq (rCap v20 h0) <| fun v21 =>
  kq (rCut 1 v19 none (some v21) none) <| fun v22 =>
  kq (some v12) <| fun v23 =>
  ke (rAppendN T_uint8 1 1 [(.int .u8 0)] v22 v23 h0) <| fun v24 h2 =>
  kq (some a0) <| fun v25 =>
  kq (rLen v25) <| fun v26 =>
  kq (rCut 1 v24 none (some v26) none) <| fun v27 =>
  kq (some v27) <| fun v28 =>
  j16 [v28] h2) (
  j16 [a0] h0)) <| fun j4 =>
  kIf v2 (
  kq (some (.iface T_string (.str [99, 97, 110, 110, 111, 116, 32, 98, 101, 32, 110, 101, 103, 97, 116, 105, 118, 101]))) <| fun v29 =>
  ke (none) <| fun v30 h3 =>
  j4 [] h3) (
  j4 [] h)
theorem F_slices_Grow___byte_byte__eq (call callD : ACall) (a0 a1 : AVal) (h : AH) : kFunc Try.prog [] call callD N_slices_Grow___byte_byte_ [a0, a1] h = F_slices_Grow___byte_byte_ call callD a0 a1 h := by kernel_rfl
theorem C_slices_Grow___byte_byte_ {ov : AOver} (H : Plain ov) (n : Nat) (a0 a1 : AVal) (h : AH) : kc ov (n + 1) N_slices_Grow___byte_byte_ [a0, a1] h = F_slices_Grow___byte_byte_ (kc ov n) (kd ov n) a0 a1 h := by
  have hov : ov N_slices_Grow___byte_byte_ = none := H _ (by decide)
  unfold kc kd; rw [← F_slices_Grow___byte_byte__eq]; simp only [kcall, hov]

/-- rung/crc.step16 -/
def L_crc_step16_0 (call callD : ACall) : (List AVal → AH → Ans) → List AVal → AH → Ans := fun j3 l2 h0 =>
  kq (rBin .lss .no true (gd l2 1) (.int .i64 8)) <| fun v4 =>
  kIf v4 (
  kq (some (gd l2 0)) <| fun v5 =>
  kq (rBin .shr .no true v5 (.int .u64 1)) <| fun v6 =>
  kq (some (gd l2 0)) <| fun v7 =>
  kq (rBin .and .no true v7 (.int .u16 1)) <| fun v8 =>
  kq (rBin .mul .no true (.int .u16 40961) v8) <| fun v9 =>
  kq (rBin .xor .no false v6 v9) <| fun v10 =>
  kq (some v10) <| fun v11 =>
  kq (rBin .add .no true (gd l2 1) (.int .i64 1)) <| fun v12 =>
  kq (some v12) <| fun v13 =>
  j3 [v11, v13] h0) (
  kq (some (gd l2 0)) <| fun v14 =>
  kq (some v14) <| fun v15 =>
  some (v15, h0))
def F_crc_step16 (call callD : ACall) (a0 : AVal) (h : AH) : Ans :=
  kq (some (.int .u16 0)) <| fun v0 =>
  kq (some (.int .i64 0)) <| fun v1 =>
  kLoop (L_crc_step16_0 call callD) rounds [a0, v1] h
theorem F_crc_step16_eq (call callD : ACall) (a0 : AVal) (h : AH) : kFunc Try.prog [] call callD N_crc_step16 [a0] h = F_crc_step16 call callD a0 h := by kernel_rfl
theorem C_crc_step16 {ov : AOver} (H : Plain ov) (n : Nat) (a0 : AVal) (h : AH) : kc ov (n + 1) N_crc_step16 [a0] h = F_crc_step16 (kc ov n) (kd ov n) a0 h := by
  have hov : ov N_crc_step16 = none := H _ (by decide)
  unfold kc kd; rw [← F_crc_step16_eq]; simp only [kcall, hov]


end Go.Proofs.Ytoaghkjeioionaa.AI
