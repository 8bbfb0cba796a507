/- PRINTED by Pr2: the functions of the program as the machine sees them. -/
import Derived.Test.YtfikmcfiojpilaaAiLib3
import Derived.Test.YtfikmcfiojpilaaProg
import Derived.KernelRfl
namespace Go.Proofs.Ytfikmcfiojpilaa.AI
open Go
set_option linter.unusedVariables false
set_option maxRecDepth 100000
abbrev T_uint8 : Nat := 5
abbrev T_crc_Table : Nat := 41
abbrev T_uint16 : Nat := 43
abbrev T__2_crc_Table : Nat := 54
abbrev T__2_int : Nat := 55
abbrev N_runglaw2_CrcSums : Nat := 3
abbrev N_runglaw2_CrcTells : Nat := 4
abbrev N_runglaw2_CrcZero : Nat := 5
abbrev N_runglaw2_CrcOnce : Nat := 6
abbrev N_runglaw2_known : Nat := 7
abbrev N_runghelp_Copy : Nat := 8
abbrev N_crc_Table_Sum16 : Nat := 9
abbrev N_rungref2_Sum16 : Nat := 10
abbrev N_crc_Sum16 : Nat := 11
abbrev N_crc_Sum32 : Nat := 12
abbrev N_rungref2_Sum32 : Nat := 13
abbrev N_crc_Table_Made : Nat := 14
abbrev N_runghelp_Bytes : Nat := 15
abbrev N_runghelp_Place : Nat := 16
abbrev N_sync_Once_Do : Nat := 17
abbrev N_crc_Table_make16 : Nat := 18
abbrev N_crc_step16 : Nat := 19
abbrev N_sync_atomic_Int64_Load : Nat := 20
abbrev N_sync_atomic_Bool_Load : Nat := 21
abbrev N_sync_Once_doSlow : Nat := 22
abbrev N_sync_atomic_Int64_Add : Nat := 23
abbrev N_sync_atomic_LoadInt64 : Nat := 24
abbrev N_sync_atomic_LoadUint32 : Nat := 25
abbrev N_sync_Mutex_Lock : Nat := 26
abbrev N_sync_Mutex_Unlock : Nat := 27
abbrev N_sync_atomic_Bool_Store : Nat := 28
abbrev N_sync_atomic_AddInt64 : Nat := 29
abbrev N_internal_sync_Mutex_Lock : Nat := 30
abbrev N_internal_sync_Mutex_Unlock : Nat := 31
abbrev N_sync_atomic_StoreUint32 : Nat := 32
abbrev N_sync_atomic_b32 : Nat := 33
abbrev N_internal_race_Disable : Nat := 34
abbrev N_sync_atomic_CompareAndSwapInt32 : Nat := 35
abbrev N_internal_race_Enable : Nat := 36
abbrev N_internal_race_Acquire : Nat := 37
abbrev N_internal_sync_Mutex_lockSlow : Nat := 38
abbrev N_internal_race_ReleaseMerge : Nat := 39
abbrev N_sync_atomic_AddInt32 : Nat := 40
abbrev N_internal_sync_Mutex_unlockSlow : Nat := 41
abbrev N_internal_sync_runtime_canSpin : Nat := 42
abbrev N_internal_sync_runtime_doSpin : Nat := 43
abbrev N_internal_sync_throw : Nat := 44
abbrev N_internal_sync_runtime_nanotime : Nat := 45
abbrev N_internal_sync_runtime_SemacquireMutex : Nat := 46
abbrev N_internal_sync_fatal : Nat := 47
abbrev N_internal_sync_runtime_Semrelease : Nat := 48
/-- Functions that another thing stands in for. -/
def OVS : List Nat := [7, 24, 25, 29, 32, 34, 35, 36, 37, 39, 40, 42, 43, 44, 45, 46, 47, 48]
def Plain (ov : AOver) : Prop := ∀ f, f ∉ OVS → ov f = none
noncomputable def kc (ov : AOver) (n : Nat) : ACall := kcall Try.prog [] ov n
noncomputable def kd (ov : AOver) (n : Nat) : ACall := kFuncD Try.prog [] (kcall Try.prog [] ov n)
/-- rung/runglaw2.CrcSums -/
def F_runglaw2_CrcSums (call callD : ACall) (a0 : AVal) (h : AH) : Ans :=
  kq (some (.bool false)) <| fun v0 =>
  ke (call N_runglaw2_known [] h) <| fun v1 h0 =>
  kq (aUn .not v1) <| fun v2 =>
  kIf v2 (
  kq (some (.bool false)) <| fun v3 =>
  some (v3, h0)) (
  kq (some a0) <| fun v4 =>
  kq (rLen v4) <| fun v5 =>
  kq (rBin .gtr .no true v5 (.int .i64 5000)) <| fun v6 =>
  kIf v6 (
  kq (some (.bool true)) <| fun v7 =>
  some (v7, h0)) (
  km (pBox T_crc_Table (.agg [(.int .u32 0), (.int .i32 0), (.int .u32 0), (.int .i64 0), (.slice none 0 0)])) h0 <| fun v8 h1 =>
  kq (some a0) <| fun v9 =>
  ke (call N_runghelp_Copy [v9] h1) <| fun v10 h2 =>
  kq (some v10) <| fun v11 =>
  kq (some v11) <| fun v12 =>
  ke (call N_crc_Table_Sum16 [v8, v12] h2) <| fun v13 h3 =>
  kq (some v13) <| fun v14 =>
  kq (some v14) <| fun v15 =>
  kq (some a0) <| fun v16 =>
  ke (call N_rungref2_Sum16 [v16] h3) <| fun v17 h4 =>
  kq (rBin .eql .no false v15 v17) <| fun v18 =>
  kq (some v18) <| fun v19 =>
  kth (fun v54 h17 =>
  kq (some v54) <| fun v55 =>
  some (v55, h17)) <| fun j20 =>
  kgq v19 true (fun k => kq (some a0) k) <| fun v21 =>
  kgh v19 true h4 (fun k => ke (call N_crc_Sum16 [v21] h4) <| fun v22 h5 =>
  k v22 h5) <| fun v23 h6 =>
  kgq v19 true (fun k => kq (some v14) k) <| fun v24 =>
  kgq v19 true (fun k => kq (rBin .eql .no false v23 v24) k) <| fun v25 =>
  kq (rPick v19 v25 (.bool false)) <| fun v26 =>
  kq (some v26) <| fun v27 =>
  kgq v27 true (fun k => kq (some a0) k) <| fun v28 =>
  kgh v27 true h6 (fun k => ke (call N_crc_Sum32 [v28] h6) <| fun v29 h7 =>
  k v29 h7) <| fun v30 h8 =>
  kgq v27 true (fun k => kq (some a0) k) <| fun v31 =>
  kgh v27 true h8 (fun k => ke (call N_rungref2_Sum32 [v31] h8) <| fun v32 h9 =>
  k v32 h9) <| fun v33 h10 =>
  kgq v27 true (fun k => kq (rBin .eql .no false v30 v33) k) <| fun v34 =>
  kq (rPick v27 v34 (.bool false)) <| fun v35 =>
  kq (some v35) <| fun v36 =>
  kgq v36 true (fun k => kq (some a0) k) <| fun v37 =>
  kgh v36 true h10 (fun k => ke (call N_crc_Table_Sum16 [v8, v37] h10) <| fun v38 h11 =>
  k v38 h11) <| fun v39 h12 =>
  kgq v36 true (fun k => kq (some v14) k) <| fun v40 =>
  kgq v36 true (fun k => kq (rBin .eql .no false v39 v40) k) <| fun v41 =>
  kq (rPick v36 v41 (.bool false)) <| fun v42 =>
  kq (some v42) <| fun v43 =>
  kgh v43 true h12 (fun k => ke (call N_crc_Table_Made [v8] h12) <| fun v44 h13 =>
  k v44 h13) <| fun v45 h14 =>
  kgq v43 true (fun k => kq (rBin .eql .no true v45 (.int .i64 1)) k) <| fun v46 =>
  kq (rPick v43 v46 (.bool false)) <| fun v47 =>
  kq (some v47) <| fun v48 =>
  kgq v48 true (fun k => kq (some v11) k) <| fun v49 =>
  kgq v48 true (fun k => kq (some a0) k) <| fun v50 =>
  kgh v48 true h14 (fun k => ke (call N_runghelp_Bytes [v49, v50] h14) <| fun v51 h15 =>
  k v51 h15) <| fun v52 h16 =>
  kq (rPick v48 v52 (.bool false)) <| fun v53 =>
  j20 v53 h16))
theorem F_runglaw2_CrcSums_eq (call callD : ACall) (a0 : AVal) (h : AH) : kFunc Try.prog [] call callD N_runglaw2_CrcSums [a0] h = F_runglaw2_CrcSums call callD a0 h := by kernel_rfl
theorem C_runglaw2_CrcSums {ov : AOver} (H : Plain ov) (n : Nat) (a0 : AVal) (h : AH) : kc ov (n + 1) N_runglaw2_CrcSums [a0] h = F_runglaw2_CrcSums (kc ov n) (kd ov n) a0 h := by
  have hov : ov N_runglaw2_CrcSums = none := H _ (by decide)
  unfold kc kd; rw [← F_runglaw2_CrcSums_eq]; simp only [kcall, hov]

/-- rung/runglaw2.CrcTells -/
def L_runglaw2_CrcTells_0 (call callD : ACall) (a2 : AVal) (v21 : AVal) (v29 : AVal) (a0 : AVal) : (List AVal → AH → Ans) → List AVal → AH → Ans := fun j32 l31 h4 =>
  kq (some (gd l31 0)) <| fun v33 =>
  kq (rBin .lss .no true v33 (.int .i64 16)) <| fun v34 =>
  kIf v34 (
  kq (some a2) <| fun v35 =>
  kq (some (gd l31 0)) <| fun v36 =>
  kq (rBin .shr .no false v35 v36) <| fun v37 =>
  kq (rBin .and .no true v37 (.int .u16 1)) <| fun v38 =>
  kq (rBin .eql .no true v38 (.int .u16 1)) <| fun v39 =>
  kj (fun l40 h5 =>
  kq (some (gd l31 0)) <| fun v42 =>
  kq (rBin .add .no true v42 (.int .i64 1)) <| fun v43 =>
  kq (some v43) <| fun v44 =>
  j32 [v44] h5) <| fun j41 =>
  kIf v39 (
  kq (some v21) <| fun v45 =>
  kq (some v29) <| fun v46 =>
  kq (some (gd l31 0)) <| fun v47 =>
  kq (rBin .add .no false v46 v47) <| fun v48 =>
  kq (rBin .quo .no true v48 (.int .i64 8)) <| fun v49 =>
  kq (rAt 1 v45 v49) <| fun v50 =>
  kq (rLoad v50 h4) <| fun v51 =>
  kq (some v29) <| fun v52 =>
  kq (some (gd l31 0)) <| fun v53 =>
  kq (rBin .add .no false v52 v53) <| fun v54 =>
  kq (rBin .rem .no true v54 (.int .i64 8)) <| fun v55 =>
  kq (rBin .shl .no true (.int .u8 1) v55) <| fun v56 =>
  kq (rBin .xor .no false v51 v56) <| fun v57 =>
  kq (rAt 1 v45 v49) <| fun v58 =>
  ke ((rStore 1 v58 v57 h4).map fun h' => (.tuple [], h')) <| fun v59 h6 =>
  kChk (!false || kSame (rLoad v50 h6) v51) <|
  j41 [] h6) (
  j41 [] h4)) (
  kq (some v21) <| fun v60 =>
  ke (call N_crc_Sum16 [v60] h4) <| fun v61 h7 =>
  kq (some a0) <| fun v62 =>
  ke (call N_crc_Sum16 [v62] h7) <| fun v63 h8 =>
  kq (rBin .neq .no false v61 v63) <| fun v64 =>
  kq (some v64) <| fun v65 =>
  some (v65, h8))
def F_runglaw2_CrcTells (call callD : ACall) (a0 a1 a2 : AVal) (h : AH) : Ans :=
  kq (some (.bool false)) <| fun v0 =>
  ke (call N_runglaw2_known [] h) <| fun v1 h0 =>
  kq (aUn .not v1) <| fun v2 =>
  kIf v2 (
  kq (some (.bool false)) <| fun v3 =>
  some (v3, h0)) (
  kq (some a0) <| fun v4 =>
  kq (rLen v4) <| fun v5 =>
  kq (rBin .gtr .no true v5 (.int .i64 2000)) <| fun v6 =>
  kq (some v6) <| fun v7 =>
  kt (fun v17 =>
  kIf v17 (
  kq (some (.bool true)) <| fun v18 =>
  some (v18, h0)) (
  kq (some a0) <| fun v19 =>
  ke (call N_runghelp_Copy [v19] h0) <| fun v20 h2 =>
  kq (some v20) <| fun v21 =>
  kq (some a1) <| fun v22 =>
  kq (some a0) <| fun v23 =>
  kq (rLen v23) <| fun v24 =>
  kq (rBin .sub .no true v24 (.int .i64 2)) <| fun v25 =>
  kq (rBin .mul .no true (.int .i64 8) v25) <| fun v26 =>
  kq (rBin .add .no true v26 (.int .i64 1)) <| fun v27 =>
  ke (call N_runghelp_Place [v22, v27] h2) <| fun v28 h3 =>
  kq (some v28) <| fun v29 =>
  kq (some (.int .i64 0)) <| fun v30 =>
  kLoop (L_runglaw2_CrcTells_0 call callD a2 v21 v29 a0) rounds [v30] h3)) <| fun j8 =>
  kgq v7 false (fun k => kq (some a0) k) <| fun v9 =>
  kgq v7 false (fun k => kq (rLen v9) k) <| fun v10 =>
  kgq v7 false (fun k => kq (rBin .lss .no true v10 (.int .i64 2)) k) <| fun v11 =>
  kq (rPick v7 (.bool true) v11) <| fun v12 =>
  kq (some v12) <| fun v13 =>
  kgq v13 false (fun k => kq (some a2) k) <| fun v14 =>
  kgq v13 false (fun k => kq (rBin .eql .no true v14 (.int .u16 0)) k) <| fun v15 =>
  kq (rPick v13 (.bool true) v15) <| fun v16 =>
  j8 v16)
theorem F_runglaw2_CrcTells_eq (call callD : ACall) (a0 a1 a2 : AVal) (h : AH) : kFunc Try.prog [] call callD N_runglaw2_CrcTells [a0, a1, a2] h = F_runglaw2_CrcTells call callD a0 a1 a2 h := by kernel_rfl
theorem C_runglaw2_CrcTells {ov : AOver} (H : Plain ov) (n : Nat) (a0 a1 a2 : AVal) (h : AH) : kc ov (n + 1) N_runglaw2_CrcTells [a0, a1, a2] h = F_runglaw2_CrcTells (kc ov n) (kd ov n) a0 a1 a2 h := by
  have hov : ov N_runglaw2_CrcTells = none := H _ (by decide)
  unfold kc kd; rw [← F_runglaw2_CrcTells_eq]; simp only [kcall, hov]

/-- rung/runglaw2.CrcZero -/
def F_runglaw2_CrcZero (call callD : ACall) (a0 : AVal) (h : AH) : Ans :=
  kq (some (.bool false)) <| fun v0 =>
  ke (call N_runglaw2_known [] h) <| fun v1 h0 =>
  kq (aUn .not v1) <| fun v2 =>
  kIf v2 (
  kq (some (.bool false)) <| fun v3 =>
  some (v3, h0)) (
  kq (some a0) <| fun v4 =>
  kq (rLen v4) <| fun v5 =>
  kq (rBin .gtr .no true v5 (.int .i64 3000)) <| fun v6 =>
  kIf v6 (
  kq (some (.bool true)) <| fun v7 =>
  some (v7, h0)) (
  kq (some a0) <| fun v8 =>
  ke (call N_crc_Sum16 [v8] h0) <| fun v9 h1 =>
  kq (some v9) <| fun v10 =>
  kq (some a0) <| fun v11 =>
  ke (call N_runghelp_Copy [v11] h1) <| fun v12 h2 =>
  kq (some v10) <| fun v13 =>
  kq (rConvI .u8 v13) <| fun v14 =>
  kq (some v10) <| fun v15 =>
  kq (rBin .shr .no true v15 (.int .u64 8)) <| fun v16 =>
  kq (rConvI .u8 v16) <| fun v17 =>
  km (mBuildSl T_uint8 1 [(.int .u8 0)] 2 [(0, v14), (1, v17)]) h2 <| fun v18 h3 =>
  ke (rAppend T_uint8 1 1 v12 v18 h3) <| fun v19 h4 =>
  ke (call N_crc_Sum16 [v19] h4) <| fun v20 h5 =>
  kq (rBin .eql .no true v20 (.int .u16 0)) <| fun v21 =>
  kq (some v21) <| fun v22 =>
  some (v22, h5)))
theorem F_runglaw2_CrcZero_eq (call callD : ACall) (a0 : AVal) (h : AH) : kFunc Try.prog [] call callD N_runglaw2_CrcZero [a0] h = F_runglaw2_CrcZero call callD a0 h := by kernel_rfl
theorem C_runglaw2_CrcZero {ov : AOver} (H : Plain ov) (n : Nat) (a0 : AVal) (h : AH) : kc ov (n + 1) N_runglaw2_CrcZero [a0] h = F_runglaw2_CrcZero (kc ov n) (kd ov n) a0 h := by
  have hov : ov N_runglaw2_CrcZero = none := H _ (by decide)
  unfold kc kd; rw [← F_runglaw2_CrcZero_eq]; simp only [kcall, hov]

/-- rung/runglaw2.CrcOnce -/
def L_runglaw2_CrcOnce_0 (call callD : ACall) (a0 : AVal) (a1 : AVal) (v15 : AVal) (v17 : AVal) : (List AVal → AH → Ans) → List AVal → AH → Ans := fun j21 l20 h5 =>
  kq (some (gd l20 0)) <| fun v22 =>
  kq (some a0) <| fun v23 =>
  kq (rLen v23) <| fun v24 =>
  kq (rBin .lss .no false v22 v24) <| fun v25 =>
  kIf v25 (
  kq (some a0) <| fun v26 =>
  kq (some (gd l20 0)) <| fun v27 =>
  kq (rAt 1 v26 v27) <| fun v28 =>
  kq (rLoad v28 h5) <| fun v29 =>
  kq (rLen v29) <| fun v30 =>
  kq (rBin .gtr .no true v30 (.int .i64 500)) <| fun v31 =>
  kIf v31 (
  kq (some (.bool true)) <| fun v32 =>
  some (v32, h5)) (
  kq (some (.int .i64 0)) <| fun v33 =>
  kq (some (gd l20 0)) <| fun v34 =>
  kq (some a1) <| fun v35 =>
  kq (rLen v35) <| fun v36 =>
  kq (rBin .lss .no false v34 v36) <| fun v37 =>
  kq (some v37) <| fun v38 =>
  kt (fun v45 =>
  kj (fun l46 h7 =>
  kq (some (gd l46 0)) <| fun v48 =>
  kq (rAtArr 2 5 v15 v48) <| fun v49 =>
  kq (some a0) <| fun v50 =>
  kq (some (gd l20 0)) <| fun v51 =>
  kq (rAt 1 v50 v51) <| fun v52 =>
  kq (rLoad v52 h7) <| fun v53 =>
  kq (some a0) <| fun v54 =>
  kq (some (gd l20 0)) <| fun v55 =>
  kq (rAt 1 v54 v55) <| fun v56 =>
  kq (rLoad v56 h7) <| fun v57 =>
  ke (call N_crc_Table_Sum16 [v49, v53] h7) <| fun v58 h8 =>
  kChk (!true || kSame (rLoad v56 h8) v57) <|
  kChk (!false || kSame (rLoad v52 h8) v53) <|
  ke (call N_rungref2_Sum16 [v57] h8) <| fun v59 h9 =>
  kq (rBin .neq .no false v58 v59) <| fun v60 =>
  kChk (!false || kSame (rLoad v56 h9) v57) <|
  kChk (!false || kSame (rLoad v52 h9) v53) <|
  kIf v60 (
  kq (some (.bool false)) <| fun v61 =>
  some (v61, h9)) (
  kq (some (gd l46 0)) <| fun v62 =>
  kq (rAtArr 2 1 v17 v62) <| fun v63 =>
  ke ((rStore 1 v63 (.int .i64 1) h9).map fun h' => (.tuple [], h')) <| fun v64 h10 =>
  kq (rAtArr 2 5 v15 (.int .i64 0)) <| fun v65 =>
  kq (rAtArr 2 1 v17 (.int .i64 0)) <| fun v66 =>
  kq (rLoad v66 h10) <| fun v67 =>
  ke (call N_crc_Table_Made [v65] h10) <| fun v68 h11 =>
  kq (rBin .neq .no false v68 v67) <| fun v69 =>
  kq (some v69) <| fun v70 =>
  kgq v70 false (fun k => kq (rAtArr 2 5 v15 (.int .i64 1)) k) <| fun v71 =>
  kgq v70 false (fun k => kq (rAtArr 2 1 v17 (.int .i64 1)) k) <| fun v72 =>
  kgq v70 false (fun k => kq (rLoad v72 h11) k) <| fun v73 =>
  kgh v70 false h11 (fun k => kChk (!true || kSame (rLoad v66 h11) v67) <|
  ke (call N_crc_Table_Made [v71] h11) k) <| fun v74 h12 =>
  kgq v70 false (fun k => kq (rBin .neq .no false v74 v73) k) <| fun v75 =>
  kq (rPick v70 (.bool true) v75) <| fun v76 =>
  kChk (!gOn v70 false || kSame (rLoad v72 h12) v73) <|
  kChk (!(true && !gOn v70 false) || kSame (rLoad v66 h12) v67) <|
  kIf v76 (
  kq (some (.bool false)) <| fun v77 =>
  some (v77, h12)) (
  kq (some (gd l20 0)) <| fun v78 =>
  kq (rBin .add .no true v78 (.int .i64 1)) <| fun v79 =>
  kq (some v79) <| fun v80 =>
  j21 [v80] h12))) <| fun j47 =>
  kIf v45 (
  kq (some (.int .i64 1)) <| fun v81 =>
  j47 [v81] h5) (
  j47 [v33] h5)) <| fun j39 =>
  kgq v38 true (fun k => kq (some a1) k) <| fun v40 =>
  kgq v38 true (fun k => kq (some (gd l20 0)) k) <| fun v41 =>
  kgq v38 true (fun k => kq (rAt 1 v40 v41) k) <| fun v42 =>
  kgq v38 true (fun k => kq (rLoad v42 h5) k) <| fun v43 =>
  kq (rPick v38 v43 (.bool false)) <| fun v44 =>
  j39 v44)) (
  kq (some (.bool true)) <| fun v82 =>
  some (v82, h5))
def F_runglaw2_CrcOnce (call callD : ACall) (a0 a1 : AVal) (h : AH) : Ans :=
  kq (some (.bool false)) <| fun v0 =>
  ke (call N_runglaw2_known [] h) <| fun v1 h0 =>
  kq (aUn .not v1) <| fun v2 =>
  kIf v2 (
  kq (some (.bool false)) <| fun v3 =>
  some (v3, h0)) (
  kq (some a0) <| fun v4 =>
  kq (rLen v4) <| fun v5 =>
  kq (rBin .gtr .no true v5 (.int .i64 40)) <| fun v6 =>
  kq (some v6) <| fun v7 =>
  kt (fun v13 =>
  kIf v13 (
  kq (some (.bool true)) <| fun v14 =>
  some (v14, h0)) (
  km (pBox T__2_crc_Table (.agg [(.int .u32 0), (.int .i32 0), (.int .u32 0), (.int .i64 0), (.slice none 0 0), (.int .u32 0), (.int .i32 0), (.int .u32 0), (.int .i64 0), (.slice none 0 0)])) h0 <| fun v15 h2 =>
  kq (rBuildA [(.int .i64 0), (.int .i64 0)] 1 []) <| fun v16 =>
  km (pBox T__2_int (.agg [(.int .i64 0), (.int .i64 0)])) h2 <| fun v17 h3 =>
  ke ((rStore 2 v17 v16 h3).map fun h' => (.tuple [], h')) <| fun v18 h4 =>
  kq (some (.int .i64 0)) <| fun v19 =>
  kLoop (L_runglaw2_CrcOnce_0 call callD a0 a1 v15 v17) rounds [v19] h4)) <| fun j8 =>
  kgq v7 false (fun k => kq (some a1) k) <| fun v9 =>
  kgq v7 false (fun k => kq (rLen v9) k) <| fun v10 =>
  kgq v7 false (fun k => kq (rBin .gtr .no true v10 (.int .i64 40)) k) <| fun v11 =>
  kq (rPick v7 (.bool true) v11) <| fun v12 =>
  j8 v12)
theorem F_runglaw2_CrcOnce_eq (call callD : ACall) (a0 a1 : AVal) (h : AH) : kFunc Try.prog [] call callD N_runglaw2_CrcOnce [a0, a1] h = F_runglaw2_CrcOnce call callD a0 a1 h := by kernel_rfl
theorem C_runglaw2_CrcOnce {ov : AOver} (H : Plain ov) (n : Nat) (a0 a1 : AVal) (h : AH) : kc ov (n + 1) N_runglaw2_CrcOnce [a0, a1] h = F_runglaw2_CrcOnce (kc ov n) (kd ov n) a0 a1 h := by
  have hov : ov N_runglaw2_CrcOnce = none := H _ (by decide)
  unfold kc kd; rw [← F_runglaw2_CrcOnce_eq]; simp only [kcall, hov]

/-- rung/runglaw2.known -/
def F_runglaw2_known (call callD : ACall) (h : AH) : Ans :=
  kq (some (.bool false)) <| fun v0 =>
  km (pBox T_crc_Table (.agg [(.int .u32 0), (.int .i32 0), (.int .u32 0), (.int .i64 0), (.slice none 0 0)])) h <| fun v1 h0 =>
  km (mBuildSl T_uint8 1 [(.int .u8 0)] 9 [(0, (.int .u8 49)), (1, (.int .u8 50)), (2, (.int .u8 51)), (3, (.int .u8 52)), (4, (.int .u8 53)), (5, (.int .u8 54)), (6, (.int .u8 55)), (7, (.int .u8 56)), (8, (.int .u8 57))]) h0 <| fun v2 h1 =>
  ke (rConvB v2 h1) <| fun v3 h2 =>
  kq (some v3) <| fun v4 =>
  ke (call N_crc_Table_Made [v1] h2) <| fun v5 h3 =>
  kq (some v5) <| fun v6 =>
  kq (some v4) <| fun v7 =>
  ke (call N_crc_Table_Sum16 [v1, v7] h3) <| fun v8 h4 =>
  kq (some v8) <| fun v9 =>
  ke (call N_crc_Table_Sum16 [v1, (.slice none 0 0)] h4) <| fun v10 h5 =>
  kq (some v4) <| fun v11 =>
  ke (call N_crc_Sum16 [v11] h5) <| fun v12 h6 =>
  kq (rBin .eql .no true v12 (.int .u16 19255)) <| fun v13 =>
  kq (some v13) <| fun v14 =>
  kth (fun v34 h11 =>
  kq (some v34) <| fun v35 =>
  some (v35, h11)) <| fun j15 =>
  kgq v14 true (fun k => kq (some v4) k) <| fun v16 =>
  kgh v14 true h6 (fun k => ke (call N_crc_Sum32 [v16] h6) <| fun v17 h7 =>
  k v17 h7) <| fun v18 h8 =>
  kgq v14 true (fun k => kq (rBin .eql .no true v18 (.int .u32 3421780262)) k) <| fun v19 =>
  kq (rPick v14 v19 (.bool false)) <| fun v20 =>
  kq (some v20) <| fun v21 =>
  kgq v21 true (fun k => kq (some v6) k) <| fun v22 =>
  kgq v21 true (fun k => kq (rBin .eql .no true v22 (.int .i64 0)) k) <| fun v23 =>
  kq (rPick v21 v23 (.bool false)) <| fun v24 =>
  kq (some v24) <| fun v25 =>
  kgq v25 true (fun k => kq (some v9) k) <| fun v26 =>
  kgq v25 true (fun k => kq (rBin .eql .no true v26 (.int .u16 19255)) k) <| fun v27 =>
  kq (rPick v25 v27 (.bool false)) <| fun v28 =>
  kq (some v28) <| fun v29 =>
  kgh v29 true h8 (fun k => ke (call N_crc_Table_Made [v1] h8) <| fun v30 h9 =>
  k v30 h9) <| fun v31 h10 =>
  kgq v29 true (fun k => kq (rBin .eql .no true v31 (.int .i64 1)) k) <| fun v32 =>
  kq (rPick v29 v32 (.bool false)) <| fun v33 =>
  j15 v33 h10
theorem F_runglaw2_known_eq (call callD : ACall) (h : AH) : kFunc Try.prog [] call callD N_runglaw2_known [] h = F_runglaw2_known call callD h := by kernel_rfl
theorem C_runglaw2_known {ov : AOver} (hov : ov N_runglaw2_known = none) (n : Nat) (h : AH) : kcall Try.prog [] ov (n + 1) N_runglaw2_known [] h = F_runglaw2_known (kcall Try.prog [] ov n) (kFuncD Try.prog [] (kcall Try.prog [] ov n)) h := by
  rw [← F_runglaw2_known_eq]; simp only [kcall, hov]

/-- rung/runghelp.Copy -/
def F_runghelp_Copy (call callD : ACall) (a0 : AVal) (h : AH) : Ans :=
  kq (some (.slice none 0 0)) <| fun v0 =>
  kq (some a0) <| fun v1 =>
  ke (rAppend T_uint8 1 1 (.slice none 0 0) v1 h) <| fun v2 h0 =>
  kq (some v2) <| fun v3 =>
  some (v3, h0)
theorem F_runghelp_Copy_eq (call callD : ACall) (a0 : AVal) (h : AH) : kFunc Try.prog [] call callD N_runghelp_Copy [a0] h = F_runghelp_Copy call callD a0 h := by kernel_rfl
theorem C_runghelp_Copy {ov : AOver} (H : Plain ov) (n : Nat) (a0 : AVal) (h : AH) : kc ov (n + 1) N_runghelp_Copy [a0] h = F_runghelp_Copy (kc ov n) (kd ov n) a0 h := by
  have hov : ov N_runghelp_Copy = none := H _ (by decide)
  unfold kc kd; rw [← F_runghelp_Copy_eq]; simp only [kcall, hov]

/-- (*rung/crc.Table).Sum16 -/
def L_crc_Table_Sum16_0 (call callD : ACall) (v9 : AVal) (v8 : AVal) (a0 : AVal) : (List AVal → AH → Ans) → List AVal → AH → Ans := fun j12 l11 h1 =>
  kq (rBin .lss .no false (gd l11 1) v9) <| fun v13 =>
  kIf v13 (
  kq (rAt 1 v8 (gd l11 1)) <| fun v14 =>
  kq (rLoad v14 h1) <| fun v15 =>
  kq (some v15) <| fun v16 =>
  kq (some (gd l11 0)) <| fun v17 =>
  kq (rBin .shr .no true v17 (.int .u64 8)) <| fun v18 =>
  kq (some a0) <| fun v19 =>
  kq (aNilCheck v19) <| fun v20 =>
  kq (rFieldP 4 v20) <| fun v21 =>
  kq (rLoad v21 h1) <| fun v22 =>
  kq (some (gd l11 0)) <| fun v23 =>
  kq (rConvI .u8 v23) <| fun v24 =>
  kq (some v16) <| fun v25 =>
  kq (rBin .xor .no false v24 v25) <| fun v26 =>
  kq (rAt 1 v22 v26) <| fun v27 =>
  kq (rLoad v27 h1) <| fun v28 =>
  kq (rBin .xor .no false v18 v28) <| fun v29 =>
  kq (some v29) <| fun v30 =>
  kq (rBin .add .no true (gd l11 1) (.int .i64 1)) <| fun v31 =>
  kq (some v31) <| fun v32 =>
  j12 [v30, v32] h1) (
  kq (some (gd l11 0)) <| fun v33 =>
  kq (some v33) <| fun v34 =>
  some (v34, h1))
def F_crc_Table_Sum16 (call callD : ACall) (a0 a1 : AVal) (h : AH) : Ans :=
  kq (some (.int .u16 0)) <| fun v0 =>
  kq (some a0) <| fun v1 =>
  kq (aNilCheck v1) <| fun v2 =>
  kq (rFieldP 0 v2) <| fun v3 =>
  kq (some a0) <| fun v4 =>
  kq (some (.func (.func N_crc_Table_make16) [v4] [])) <| fun v5 =>
  ke (call N_sync_Once_Do [v3, v5] h) <| fun v6 h0 =>
  kq (some (.int .u16 65535)) <| fun v7 =>
  kq (some a1) <| fun v8 =>
  kq (rLen v8) <| fun v9 =>
  kq (some (.int .i64 0)) <| fun v10 =>
  kLoop (L_crc_Table_Sum16_0 call callD v9 v8 a0) rounds [v7, v10] h0
theorem F_crc_Table_Sum16_eq (call callD : ACall) (a0 a1 : AVal) (h : AH) : kFunc Try.prog [] call callD N_crc_Table_Sum16 [a0, a1] h = F_crc_Table_Sum16 call callD a0 a1 h := by kernel_rfl
theorem C_crc_Table_Sum16 {ov : AOver} (H : Plain ov) (n : Nat) (a0 a1 : AVal) (h : AH) : kc ov (n + 1) N_crc_Table_Sum16 [a0, a1] h = F_crc_Table_Sum16 (kc ov n) (kd ov n) a0 a1 h := by
  have hov : ov N_crc_Table_Sum16 = none := H _ (by decide)
  unfold kc kd; rw [← F_crc_Table_Sum16_eq]; simp only [kcall, hov]

/-- rung/rungref2.Sum16 -/
def L_rungref2_Sum16_0 (call callD : ACall) (l3 : List AVal) (j4 : List AVal → AH → Ans) : (List AVal → AH → Ans) → List AVal → AH → Ans := fun j19 l18 h1 =>
  kq (some (gd l18 1)) <| fun v20 =>
  kq (rBin .lss .no true v20 (.int .i64 8)) <| fun v21 =>
  kIf v21 (
  kq (some (gd l18 0)) <| fun v22 =>
  kq (rBin .and .no true v22 (.int .u16 1)) <| fun v23 =>
  kq (rBin .eql .no true v23 (.int .u16 1)) <| fun v24 =>
  kj (fun l25 h2 =>
  kq (some (gd l18 1)) <| fun v27 =>
  kq (rBin .add .no true v27 (.int .i64 1)) <| fun v28 =>
  kq (some v28) <| fun v29 =>
  j19 [(gd l25 0), v29] h2) <| fun j26 =>
  kIf v24 (
  kq (some (gd l18 0)) <| fun v30 =>
  kq (rBin .shr .no true v30 (.int .u64 1)) <| fun v31 =>
  kq (rBin .xor .no true v31 (.int .u16 40961)) <| fun v32 =>
  kq (some v32) <| fun v33 =>
  j26 [v33] h1) (
  kq (some (gd l18 0)) <| fun v34 =>
  kq (rBin .shr .no true v34 (.int .u64 1)) <| fun v35 =>
  kq (some v35) <| fun v36 =>
  j26 [v36] h1)) (
  kq (some (gd l3 1)) <| fun v37 =>
  kq (rBin .add .no true v37 (.int .i64 1)) <| fun v38 =>
  kq (some v38) <| fun v39 =>
  j4 [(gd l18 0), v39] h1)
def L_rungref2_Sum16_1 (call callD : ACall) (a0 : AVal) : (List AVal → AH → Ans) → List AVal → AH → Ans := fun j4 l3 h0 =>
  kq (some (gd l3 1)) <| fun v5 =>
  kq (some a0) <| fun v6 =>
  kq (rLen v6) <| fun v7 =>
  kq (rBin .lss .no false v5 v7) <| fun v8 =>
  kIf v8 (
  kq (some (gd l3 0)) <| fun v9 =>
  kq (some a0) <| fun v10 =>
  kq (some (gd l3 1)) <| fun v11 =>
  kq (rAt 1 v10 v11) <| fun v12 =>
  kq (rLoad v12 h0) <| fun v13 =>
  kq (rConvI .u16 v13) <| fun v14 =>
  kq (rBin .xor .no false v9 v14) <| fun v15 =>
  kq (some v15) <| fun v16 =>
  kq (some (.int .i64 0)) <| fun v17 =>
  kLoop (L_rungref2_Sum16_0 call callD l3 j4) rounds [v16, v17] h0) (
  kq (some (gd l3 0)) <| fun v40 =>
  kq (some v40) <| fun v41 =>
  some (v41, h0))
def F_rungref2_Sum16 (call callD : ACall) (a0 : AVal) (h : AH) : Ans :=
  kq (some (.int .u16 0)) <| fun v0 =>
  kq (some (.int .u16 65535)) <| fun v1 =>
  kq (some (.int .i64 0)) <| fun v2 =>
  kLoop (L_rungref2_Sum16_1 call callD a0) rounds [v1, v2] h
theorem F_rungref2_Sum16_eq (call callD : ACall) (a0 : AVal) (h : AH) : kFunc Try.prog [] call callD N_rungref2_Sum16 [a0] h = F_rungref2_Sum16 call callD a0 h := by kernel_rfl
theorem C_rungref2_Sum16 {ov : AOver} (H : Plain ov) (n : Nat) (a0 : AVal) (h : AH) : kc ov (n + 1) N_rungref2_Sum16 [a0] h = F_rungref2_Sum16 (kc ov n) (kd ov n) a0 h := by
  have hov : ov N_rungref2_Sum16 = none := H _ (by decide)
  unfold kc kd; rw [← F_rungref2_Sum16_eq]; simp only [kcall, hov]

/-- rung/crc.Sum16 -/
def L_crc_Sum16_0 (call callD : ACall) (v3 : AVal) (v2 : AVal) : (List AVal → AH → Ans) → List AVal → AH → Ans := fun j6 l5 h0 =>
  kq (rBin .lss .no false (gd l5 1) v3) <| fun v7 =>
  kIf v7 (
  kq (rAt 1 v2 (gd l5 1)) <| fun v8 =>
  kq (rLoad v8 h0) <| fun v9 =>
  kq (some v9) <| fun v10 =>
  kq (some (gd l5 0)) <| fun v11 =>
  kq (some v10) <| fun v12 =>
  kq (rConvI .u16 v12) <| fun v13 =>
  kq (rBin .xor .no false v11 v13) <| fun v14 =>
  ke (call N_crc_step16 [v14] h0) <| fun v15 h1 =>
  kq (some v15) <| fun v16 =>
  kq (rBin .add .no true (gd l5 1) (.int .i64 1)) <| fun v17 =>
  kq (some v17) <| fun v18 =>
  j6 [v16, v18] h1) (
  kq (some (gd l5 0)) <| fun v19 =>
  kq (some v19) <| fun v20 =>
  some (v20, h0))
def F_crc_Sum16 (call callD : ACall) (a0 : AVal) (h : AH) : Ans :=
  kq (some (.int .u16 0)) <| fun v0 =>
  kq (some (.int .u16 65535)) <| fun v1 =>
  kq (some a0) <| fun v2 =>
  kq (rLen v2) <| fun v3 =>
  kq (some (.int .i64 0)) <| fun v4 =>
  kLoop (L_crc_Sum16_0 call callD v3 v2) rounds [v1, v4] h
theorem F_crc_Sum16_eq (call callD : ACall) (a0 : AVal) (h : AH) : kFunc Try.prog [] call callD N_crc_Sum16 [a0] h = F_crc_Sum16 call callD a0 h := by kernel_rfl
theorem C_crc_Sum16 {ov : AOver} (H : Plain ov) (n : Nat) (a0 : AVal) (h : AH) : kc ov (n + 1) N_crc_Sum16 [a0] h = F_crc_Sum16 (kc ov n) (kd ov n) a0 h := by
  have hov : ov N_crc_Sum16 = none := H _ (by decide)
  unfold kc kd; rw [← F_crc_Sum16_eq]; simp only [kcall, hov]

/-- rung/crc.Sum32 -/
def L_crc_Sum32_0 (call callD : ACall) (l5 : List AVal) (j6 : List AVal → AH → Ans) : (List AVal → AH → Ans) → List AVal → AH → Ans := fun j18 l17 h1 =>
  kq (rBin .lss .no true (gd l17 1) (.int .i64 8)) <| fun v19 =>
  kIf v19 (
  kq (some (gd l17 0)) <| fun v20 =>
  kq (rBin .shr .no true v20 (.int .u64 1)) <| fun v21 =>
  kq (some (gd l17 0)) <| fun v22 =>
  kq (rBin .and .no true v22 (.int .u32 1)) <| fun v23 =>
  kq (rBin .mul .no true (.int .u32 3988292384) v23) <| fun v24 =>
  kq (rBin .xor .no false v21 v24) <| fun v25 =>
  kq (some v25) <| fun v26 =>
  kq (rBin .add .no true (gd l17 1) (.int .i64 1)) <| fun v27 =>
  kq (some v27) <| fun v28 =>
  j18 [v26, v28] h1) (
  kq (rBin .add .no true (gd l5 1) (.int .i64 1)) <| fun v29 =>
  kq (some v29) <| fun v30 =>
  j6 [(gd l17 0), v30] h1)
def L_crc_Sum32_1 (call callD : ACall) (v3 : AVal) (v2 : AVal) : (List AVal → AH → Ans) → List AVal → AH → Ans := fun j6 l5 h0 =>
  kq (rBin .lss .no false (gd l5 1) v3) <| fun v7 =>
  kIf v7 (
  kq (rAt 1 v2 (gd l5 1)) <| fun v8 =>
  kq (rLoad v8 h0) <| fun v9 =>
  kq (some v9) <| fun v10 =>
  kq (some (gd l5 0)) <| fun v11 =>
  kq (some v10) <| fun v12 =>
  kq (rConvI .u32 v12) <| fun v13 =>
  kq (rBin .xor .no false v11 v13) <| fun v14 =>
  kq (some v14) <| fun v15 =>
  kq (some (.int .i64 0)) <| fun v16 =>
  kLoop (L_crc_Sum32_0 call callD l5 j6) rounds [v15, v16] h0) (
  kq (some (gd l5 0)) <| fun v31 =>
  kq (aUn .xor v31) <| fun v32 =>
  kq (some v32) <| fun v33 =>
  some (v33, h0))
def F_crc_Sum32 (call callD : ACall) (a0 : AVal) (h : AH) : Ans :=
  kq (some (.int .u32 0)) <| fun v0 =>
  kq (some (.int .u32 4294967295)) <| fun v1 =>
  kq (some a0) <| fun v2 =>
  kq (rLen v2) <| fun v3 =>
  kq (some (.int .i64 0)) <| fun v4 =>
  kLoop (L_crc_Sum32_1 call callD v3 v2) rounds [v1, v4] h
theorem F_crc_Sum32_eq (call callD : ACall) (a0 : AVal) (h : AH) : kFunc Try.prog [] call callD N_crc_Sum32 [a0] h = F_crc_Sum32 call callD a0 h := by kernel_rfl
theorem C_crc_Sum32 {ov : AOver} (H : Plain ov) (n : Nat) (a0 : AVal) (h : AH) : kc ov (n + 1) N_crc_Sum32 [a0] h = F_crc_Sum32 (kc ov n) (kd ov n) a0 h := by
  have hov : ov N_crc_Sum32 = none := H _ (by decide)
  unfold kc kd; rw [← F_crc_Sum32_eq]; simp only [kcall, hov]

/-- rung/rungref2.Sum32 -/
def L_rungref2_Sum32_0 (call callD : ACall) (l3 : List AVal) (j4 : List AVal → AH → Ans) : (List AVal → AH → Ans) → List AVal → AH → Ans := fun j19 l18 h1 =>
  kq (some (gd l18 1)) <| fun v20 =>
  kq (rBin .lss .no true v20 (.int .i64 8)) <| fun v21 =>
  kIf v21 (
  kq (some (gd l18 0)) <| fun v22 =>
  kq (rBin .and .no true v22 (.int .u32 1)) <| fun v23 =>
  kq (rBin .eql .no true v23 (.int .u32 1)) <| fun v24 =>
  kj (fun l25 h2 =>
  kq (some (gd l18 1)) <| fun v27 =>
  kq (rBin .add .no true v27 (.int .i64 1)) <| fun v28 =>
  kq (some v28) <| fun v29 =>
  j19 [(gd l25 0), v29] h2) <| fun j26 =>
  kIf v24 (
  kq (some (gd l18 0)) <| fun v30 =>
  kq (rBin .shr .no true v30 (.int .u64 1)) <| fun v31 =>
  kq (rBin .xor .no true v31 (.int .u32 3988292384)) <| fun v32 =>
  kq (some v32) <| fun v33 =>
  j26 [v33] h1) (
  kq (some (gd l18 0)) <| fun v34 =>
  kq (rBin .shr .no true v34 (.int .u64 1)) <| fun v35 =>
  kq (some v35) <| fun v36 =>
  j26 [v36] h1)) (
  kq (some (gd l3 1)) <| fun v37 =>
  kq (rBin .add .no true v37 (.int .i64 1)) <| fun v38 =>
  kq (some v38) <| fun v39 =>
  j4 [(gd l18 0), v39] h1)
def L_rungref2_Sum32_1 (call callD : ACall) (a0 : AVal) : (List AVal → AH → Ans) → List AVal → AH → Ans := fun j4 l3 h0 =>
  kq (some (gd l3 1)) <| fun v5 =>
  kq (some a0) <| fun v6 =>
  kq (rLen v6) <| fun v7 =>
  kq (rBin .lss .no false v5 v7) <| fun v8 =>
  kIf v8 (
  kq (some (gd l3 0)) <| fun v9 =>
  kq (some a0) <| fun v10 =>
  kq (some (gd l3 1)) <| fun v11 =>
  kq (rAt 1 v10 v11) <| fun v12 =>
  kq (rLoad v12 h0) <| fun v13 =>
  kq (rConvI .u32 v13) <| fun v14 =>
  kq (rBin .xor .no false v9 v14) <| fun v15 =>
  kq (some v15) <| fun v16 =>
  kq (some (.int .i64 0)) <| fun v17 =>
  kLoop (L_rungref2_Sum32_0 call callD l3 j4) rounds [v16, v17] h0) (
  kq (some (gd l3 0)) <| fun v40 =>
  kq (aUn .xor v40) <| fun v41 =>
  kq (some v41) <| fun v42 =>
  some (v42, h0))
def F_rungref2_Sum32 (call callD : ACall) (a0 : AVal) (h : AH) : Ans :=
  kq (some (.int .u32 0)) <| fun v0 =>
  kq (some (.int .u32 4294967295)) <| fun v1 =>
  kq (some (.int .i64 0)) <| fun v2 =>
  kLoop (L_rungref2_Sum32_1 call callD a0) rounds [v1, v2] h
theorem F_rungref2_Sum32_eq (call callD : ACall) (a0 : AVal) (h : AH) : kFunc Try.prog [] call callD N_rungref2_Sum32 [a0] h = F_rungref2_Sum32 call callD a0 h := by kernel_rfl
theorem C_rungref2_Sum32 {ov : AOver} (H : Plain ov) (n : Nat) (a0 : AVal) (h : AH) : kc ov (n + 1) N_rungref2_Sum32 [a0] h = F_rungref2_Sum32 (kc ov n) (kd ov n) a0 h := by
  have hov : ov N_rungref2_Sum32 = none := H _ (by decide)
  unfold kc kd; rw [← F_rungref2_Sum32_eq]; simp only [kcall, hov]

/-- (*rung/crc.Table).Made -/
def F_crc_Table_Made (call callD : ACall) (a0 : AVal) (h : AH) : Ans :=
  kq (some (.int .i64 0)) <| fun v0 =>
  kq (some a0) <| fun v1 =>
  kq (aNilCheck v1) <| fun v2 =>
  kq (rFieldP 3 v2) <| fun v3 =>
  ke (call N_sync_atomic_Int64_Load [v3] h) <| fun v4 h0 =>
  kq (some v4) <| fun v5 =>
  some (v5, h0)
theorem F_crc_Table_Made_eq (call callD : ACall) (a0 : AVal) (h : AH) : kFunc Try.prog [] call callD N_crc_Table_Made [a0] h = F_crc_Table_Made call callD a0 h := by kernel_rfl
theorem C_crc_Table_Made {ov : AOver} (H : Plain ov) (n : Nat) (a0 : AVal) (h : AH) : kc ov (n + 1) N_crc_Table_Made [a0] h = F_crc_Table_Made (kc ov n) (kd ov n) a0 h := by
  have hov : ov N_crc_Table_Made = none := H _ (by decide)
  unfold kc kd; rw [← F_crc_Table_Made_eq]; simp only [kcall, hov]

/-- rung/runghelp.Bytes -/
def F_runghelp_Bytes (call callD : ACall) (a0 a1 : AVal) (h : AH) : Ans :=
  kq (some (.bool false)) <| fun v0 =>
  kq (some a0) <| fun v1 =>
  kq (rText v1 h) <| fun v2 =>
  kq (some a1) <| fun v3 =>
  kq (rText v3 h) <| fun v4 =>
  kq (rBin .eql .no false v2 v4) <| fun v5 =>
  kq (some v5) <| fun v6 =>
  some (v6, h)
theorem F_runghelp_Bytes_eq (call callD : ACall) (a0 a1 : AVal) (h : AH) : kFunc Try.prog [] call callD N_runghelp_Bytes [a0, a1] h = F_runghelp_Bytes call callD a0 a1 h := by kernel_rfl
theorem C_runghelp_Bytes {ov : AOver} (H : Plain ov) (n : Nat) (a0 a1 : AVal) (h : AH) : kc ov (n + 1) N_runghelp_Bytes [a0, a1] h = F_runghelp_Bytes (kc ov n) (kd ov n) a0 a1 h := by
  have hov : ov N_runghelp_Bytes = none := H _ (by decide)
  unfold kc kd; rw [← F_runghelp_Bytes_eq]; simp only [kcall, hov]

/-- rung/runghelp.Place -/
def F_runghelp_Place (call callD : ACall) (a0 a1 : AVal) (h : AH) : Ans :=
  kq (some (.int .i64 0)) <| fun v0 =>
  kq (some a0) <| fun v1 =>
  kq (some a1) <| fun v2 =>
  kq (rBin .rem .no false v1 v2) <| fun v3 =>
  kq (some v3) <| fun v4 =>
  kq (some v4) <| fun v5 =>
  kq (rBin .lss .no true v5 (.int .i64 0)) <| fun v6 =>
  kj (fun l7 h0 =>
  kq (some (gd l7 0)) <| fun v9 =>
  kq (some v9) <| fun v10 =>
  some (v10, h0)) <| fun j8 =>
  kIf v6 (
  kq (some v4) <| fun v11 =>
  kq (some a1) <| fun v12 =>
  kq (rBin .add .no false v11 v12) <| fun v13 =>
  kq (some v13) <| fun v14 =>
  j8 [v14] h) (
  j8 [v4] h)
theorem F_runghelp_Place_eq (call callD : ACall) (a0 a1 : AVal) (h : AH) : kFunc Try.prog [] call callD N_runghelp_Place [a0, a1] h = F_runghelp_Place call callD a0 a1 h := by kernel_rfl
theorem C_runghelp_Place {ov : AOver} (H : Plain ov) (n : Nat) (a0 a1 : AVal) (h : AH) : kc ov (n + 1) N_runghelp_Place [a0, a1] h = F_runghelp_Place (kc ov n) (kd ov n) a0 a1 h := by
  have hov : ov N_runghelp_Place = none := H _ (by decide)
  unfold kc kd; rw [← F_runghelp_Place_eq]; simp only [kcall, hov]

/-- (*sync.Once).Do -/
def F_sync_Once_Do (call callD : ACall) (a0 a1 : AVal) (h : AH) : Ans :=
  kq (some a0) <| fun v0 =>
  kq (aNilCheck v0) <| fun v1 =>
  kq (rFieldP 0 v1) <| fun v2 =>
  ke (call N_sync_atomic_Bool_Load [v2] h) <| fun v3 h0 =>
  kq (aUn .not v3) <| fun v4 =>
  kj (fun l5 h1 =>
  some (.tuple [], h1)) <| fun j6 =>
  kIf v4 (
  kq (some a0) <| fun v7 =>
  kq (some a1) <| fun v8 =>
  ke (call N_sync_Once_doSlow [v7, v8] h0) <| fun v9 h2 =>
  j6 [] h2) (
  j6 [] h0)
theorem F_sync_Once_Do_eq (call callD : ACall) (a0 a1 : AVal) (h : AH) : kFunc Try.prog [] call callD N_sync_Once_Do [a0, a1] h = F_sync_Once_Do call callD a0 a1 h := by kernel_rfl
theorem C_sync_Once_Do {ov : AOver} (H : Plain ov) (n : Nat) (a0 a1 : AVal) (h : AH) : kc ov (n + 1) N_sync_Once_Do [a0, a1] h = F_sync_Once_Do (kc ov n) (kd ov n) a0 a1 h := by
  have hov : ov N_sync_Once_Do = none := H _ (by decide)
  unfold kc kd; rw [← F_sync_Once_Do_eq]; simp only [kcall, hov]

/-- (*rung/crc.Table).make16 -/
def L_crc_Table_make16_0 (call callD : ACall) (v3 : AVal) (v1 : AVal) (a0 : AVal) : (List AVal → AH → Ans) → List AVal → AH → Ans := fun j6 l5 h1 =>
  kq (rBin .lss .no false (gd l5 0) v3) <| fun v7 =>
  kIf v7 (
  kq (some (gd l5 0)) <| fun v8 =>
  kq (some v8) <| fun v9 =>
  kq (some v1) <| fun v10 =>
  kq (some v9) <| fun v11 =>
  kq (some v9) <| fun v12 =>
  kq (rConvI .u16 v12) <| fun v13 =>
  ke (call N_crc_step16 [v13] h1) <| fun v14 h2 =>
  kq (rAt 1 v10 v11) <| fun v15 =>
  ke ((rStore 1 v15 v14 h2).map fun h' => (.tuple [], h')) <| fun v16 h3 =>
  kq (rBin .add .no true (gd l5 0) (.int .i64 1)) <| fun v17 =>
  kq (some v17) <| fun v18 =>
  j6 [v18] h3) (
  kq (some a0) <| fun v19 =>
  kq (some v1) <| fun v20 =>
  kq (aNilCheck v19) <| fun v21 =>
  kq (rFieldP 4 v21) <| fun v22 =>
  ke ((rStore 1 v22 v20 h1).map fun h' => (.tuple [], h')) <| fun v23 h4 =>
  kq (some a0) <| fun v24 =>
  kq (aNilCheck v24) <| fun v25 =>
  kq (rFieldP 3 v25) <| fun v26 =>
  ke (call N_sync_atomic_Int64_Add [v26, (.int .i64 1)] h4) <| fun v27 h5 =>
  some (.tuple [], h5))
def F_crc_Table_make16 (call callD : ACall) (a0 : AVal) (h : AH) : Ans :=
  km (mMakeSl T_uint16 1 2 [(.int .u16 0)] (.int .i64 256) (.int .i64 256)) h <| fun v0 h0 =>
  kq (some v0) <| fun v1 =>
  kq (some v1) <| fun v2 =>
  kq (rLen v2) <| fun v3 =>
  kq (some (.int .i64 0)) <| fun v4 =>
  kLoop (L_crc_Table_make16_0 call callD v3 v1 a0) rounds [v4] h0
theorem F_crc_Table_make16_eq (call callD : ACall) (a0 : AVal) (h : AH) : kFunc Try.prog [] call callD N_crc_Table_make16 [a0] h = F_crc_Table_make16 call callD a0 h := by kernel_rfl
theorem C_crc_Table_make16 {ov : AOver} (H : Plain ov) (n : Nat) (a0 : AVal) (h : AH) : kc ov (n + 1) N_crc_Table_make16 [a0] h = F_crc_Table_make16 (kc ov n) (kd ov n) a0 h := by
  have hov : ov N_crc_Table_make16 = none := H _ (by decide)
  unfold kc kd; rw [← F_crc_Table_make16_eq]; simp only [kcall, hov]

/-- rung/crc.step16 -/
def L_crc_step16_0 (call callD : ACall) : (List AVal → AH → Ans) → List AVal → AH → Ans := fun j3 l2 h0 =>
  kq (rBin .lss .no true (gd l2 1) (.int .i64 8)) <| fun v4 =>
  kIf v4 (
  kq (some (gd l2 0)) <| fun v5 =>
  kq (rBin .shr .no true v5 (.int .u64 1)) <| fun v6 =>
  kq (some (gd l2 0)) <| fun v7 =>
  kq (rBin .and .no true v7 (.int .u16 1)) <| fun v8 =>
  kq (rBin .mul .no true (.int .u16 40961) v8) <| fun v9 =>
  kq (rBin .xor .no false v6 v9) <| fun v10 =>
  kq (some v10) <| fun v11 =>
  kq (rBin .add .no true (gd l2 1) (.int .i64 1)) <| fun v12 =>
  kq (some v12) <| fun v13 =>
  j3 [v11, v13] h0) (
  kq (some (gd l2 0)) <| fun v14 =>
  kq (some v14) <| fun v15 =>
  some (v15, h0))
def F_crc_step16 (call callD : ACall) (a0 : AVal) (h : AH) : Ans :=
  kq (some (.int .u16 0)) <| fun v0 =>
  kq (some (.int .i64 0)) <| fun v1 =>
  kLoop (L_crc_step16_0 call callD) rounds [a0, v1] h
theorem F_crc_step16_eq (call callD : ACall) (a0 : AVal) (h : AH) : kFunc Try.prog [] call callD N_crc_step16 [a0] h = F_crc_step16 call callD a0 h := by kernel_rfl
theorem C_crc_step16 {ov : AOver} (H : Plain ov) (n : Nat) (a0 : AVal) (h : AH) : kc ov (n + 1) N_crc_step16 [a0] h = F_crc_step16 (kc ov n) (kd ov n) a0 h := by
  have hov : ov N_crc_step16 = none := H _ (by decide)
  unfold kc kd; rw [← F_crc_step16_eq]; simp only [kcall, hov]

/-- (*sync/atomic.Int64).Load -/
def F_sync_atomic_Int64_Load (call callD : ACall) (a0 : AVal) (h : AH) : Ans :=
  kq (some (.int .i64 0)) <| fun v0 =>
  kq (some a0) <| fun v1 =>
  kq (aNilCheck v1) <| fun v2 =>
  kq (rFieldP 0 v2) <| fun v3 =>
  ke (call N_sync_atomic_LoadInt64 [v3] h) <| fun v4 h0 =>
  kq (some v4) <| fun v5 =>
  some (v5, h0)
theorem F_sync_atomic_Int64_Load_eq (call callD : ACall) (a0 : AVal) (h : AH) : kFunc Try.prog [] call callD N_sync_atomic_Int64_Load [a0] h = F_sync_atomic_Int64_Load call callD a0 h := by kernel_rfl
theorem C_sync_atomic_Int64_Load {ov : AOver} (H : Plain ov) (n : Nat) (a0 : AVal) (h : AH) : kc ov (n + 1) N_sync_atomic_Int64_Load [a0] h = F_sync_atomic_Int64_Load (kc ov n) (kd ov n) a0 h := by
  have hov : ov N_sync_atomic_Int64_Load = none := H _ (by decide)
  unfold kc kd; rw [← F_sync_atomic_Int64_Load_eq]; simp only [kcall, hov]

/-- (*sync/atomic.Bool).Load -/
def F_sync_atomic_Bool_Load (call callD : ACall) (a0 : AVal) (h : AH) : Ans :=
  kq (some (.bool false)) <| fun v0 =>
  kq (some a0) <| fun v1 =>
  kq (aNilCheck v1) <| fun v2 =>
  kq (rFieldP 0 v2) <| fun v3 =>
  ke (call N_sync_atomic_LoadUint32 [v3] h) <| fun v4 h0 =>
  kq (rBin .neq .no true v4 (.int .u32 0)) <| fun v5 =>
  kq (some v5) <| fun v6 =>
  some (v6, h0)
theorem F_sync_atomic_Bool_Load_eq (call callD : ACall) (a0 : AVal) (h : AH) : kFunc Try.prog [] call callD N_sync_atomic_Bool_Load [a0] h = F_sync_atomic_Bool_Load call callD a0 h := by kernel_rfl
theorem C_sync_atomic_Bool_Load {ov : AOver} (H : Plain ov) (n : Nat) (a0 : AVal) (h : AH) : kc ov (n + 1) N_sync_atomic_Bool_Load [a0] h = F_sync_atomic_Bool_Load (kc ov n) (kd ov n) a0 h := by
  have hov : ov N_sync_atomic_Bool_Load = none := H _ (by decide)
  unfold kc kd; rw [← F_sync_atomic_Bool_Load_eq]; simp only [kcall, hov]

/-- (*sync.Once).doSlow -/
def F_sync_Once_doSlow (call callD : ACall) (a0 a1 : AVal) (h : AH) : Ans :=
  kq (some a0) <| fun v0 =>
  kq (aNilCheck v0) <| fun v1 =>
  kq (rFieldP 1 v1) <| fun v2 =>
  ke (call N_sync_Mutex_Lock [v2] h) <| fun v3 h0 =>
  kq (some a0) <| fun v4 =>
  kq (aNilCheck v4) <| fun v5 =>
  kq (rFieldP 1 v5) <| fun v6 =>
  kq (some a0) <| fun v7 =>
  kq (aNilCheck v7) <| fun v8 =>
  kq (rFieldP 0 v8) <| fun v9 =>
  ke (call N_sync_atomic_Bool_Load [v9] h0) <| fun v10 h1 =>
  kq (aUn .not v10) <| fun v11 =>
  kIf v11 (
  kq (some a0) <| fun v12 =>
  kq (aNilCheck v12) <| fun v13 =>
  kq (rFieldP 0 v13) <| fun v14 =>
  kq (some a1) <| fun v15 =>
  ke (rCallV call v15 [] h1) <| fun v16 h2 =>
  ke (callD N_sync_atomic_Bool_Store [v14, (.bool true)] h2) <| fun v17 h3 =>
  ke (callD N_sync_Mutex_Unlock [v6] h3) <| fun v18 h4 =>
  some (.tuple [], h4)) (
  ke (callD N_sync_Mutex_Unlock [v6] h1) <| fun v19 h5 =>
  some (.tuple [], h5))
theorem F_sync_Once_doSlow_eq (call callD : ACall) (a0 a1 : AVal) (h : AH) : kFunc Try.prog [] call callD N_sync_Once_doSlow [a0, a1] h = F_sync_Once_doSlow call callD a0 a1 h := by kernel_rfl
theorem C_sync_Once_doSlow {ov : AOver} (H : Plain ov) (n : Nat) (a0 a1 : AVal) (h : AH) : kc ov (n + 1) N_sync_Once_doSlow [a0, a1] h = F_sync_Once_doSlow (kc ov n) (kd ov n) a0 a1 h := by
  have hov : ov N_sync_Once_doSlow = none := H _ (by decide)
  unfold kc kd; rw [← F_sync_Once_doSlow_eq]; simp only [kcall, hov]

/-- (*sync/atomic.Int64).Add -/
def F_sync_atomic_Int64_Add (call callD : ACall) (a0 a1 : AVal) (h : AH) : Ans :=
  kq (some (.int .i64 0)) <| fun v0 =>
  kq (some a0) <| fun v1 =>
  kq (aNilCheck v1) <| fun v2 =>
  kq (rFieldP 0 v2) <| fun v3 =>
  kq (some a1) <| fun v4 =>
  ke (call N_sync_atomic_AddInt64 [v3, v4] h) <| fun v5 h0 =>
  kq (some v5) <| fun v6 =>
  some (v6, h0)
theorem F_sync_atomic_Int64_Add_eq (call callD : ACall) (a0 a1 : AVal) (h : AH) : kFunc Try.prog [] call callD N_sync_atomic_Int64_Add [a0, a1] h = F_sync_atomic_Int64_Add call callD a0 a1 h := by kernel_rfl
theorem C_sync_atomic_Int64_Add {ov : AOver} (H : Plain ov) (n : Nat) (a0 a1 : AVal) (h : AH) : kc ov (n + 1) N_sync_atomic_Int64_Add [a0, a1] h = F_sync_atomic_Int64_Add (kc ov n) (kd ov n) a0 a1 h := by
  have hov : ov N_sync_atomic_Int64_Add = none := H _ (by decide)
  unfold kc kd; rw [← F_sync_atomic_Int64_Add_eq]; simp only [kcall, hov]

/-- (*sync.Mutex).Lock -/
def F_sync_Mutex_Lock (call callD : ACall) (a0 : AVal) (h : AH) : Ans :=
  kq (some a0) <| fun v0 =>
  kq (aNilCheck v0) <| fun v1 =>
  kq (rFieldP 0 v1) <| fun v2 =>
  ke (call N_internal_sync_Mutex_Lock [v2] h) <| fun v3 h0 =>
  some (.tuple [], h0)
theorem F_sync_Mutex_Lock_eq (call callD : ACall) (a0 : AVal) (h : AH) : kFunc Try.prog [] call callD N_sync_Mutex_Lock [a0] h = F_sync_Mutex_Lock call callD a0 h := by kernel_rfl
theorem C_sync_Mutex_Lock {ov : AOver} (H : Plain ov) (n : Nat) (a0 : AVal) (h : AH) : kc ov (n + 1) N_sync_Mutex_Lock [a0] h = F_sync_Mutex_Lock (kc ov n) (kd ov n) a0 h := by
  have hov : ov N_sync_Mutex_Lock = none := H _ (by decide)
  unfold kc kd; rw [← F_sync_Mutex_Lock_eq]; simp only [kcall, hov]

/-- (*sync.Mutex).Unlock -/
def F_sync_Mutex_Unlock (call callD : ACall) (a0 : AVal) (h : AH) : Ans :=
  kq (some a0) <| fun v0 =>
  kq (aNilCheck v0) <| fun v1 =>
  kq (rFieldP 0 v1) <| fun v2 =>
  ke (call N_internal_sync_Mutex_Unlock [v2] h) <| fun v3 h0 =>
  some (.tuple [], h0)
theorem F_sync_Mutex_Unlock_eq (call callD : ACall) (a0 : AVal) (h : AH) : kFunc Try.prog [] call callD N_sync_Mutex_Unlock [a0] h = F_sync_Mutex_Unlock call callD a0 h := by kernel_rfl
theorem C_sync_Mutex_Unlock {ov : AOver} (H : Plain ov) (n : Nat) (a0 : AVal) (h : AH) : kc ov (n + 1) N_sync_Mutex_Unlock [a0] h = F_sync_Mutex_Unlock (kc ov n) (kd ov n) a0 h := by
  have hov : ov N_sync_Mutex_Unlock = none := H _ (by decide)
  unfold kc kd; rw [← F_sync_Mutex_Unlock_eq]; simp only [kcall, hov]

/-- (*sync/atomic.Bool).Store -/
def F_sync_atomic_Bool_Store (call callD : ACall) (a0 a1 : AVal) (h : AH) : Ans :=
  kq (some a0) <| fun v0 =>
  kq (aNilCheck v0) <| fun v1 =>
  kq (rFieldP 0 v1) <| fun v2 =>
  kq (some a1) <| fun v3 =>
  ke (call N_sync_atomic_b32 [v3] h) <| fun v4 h0 =>
  ke (call N_sync_atomic_StoreUint32 [v2, v4] h0) <| fun v5 h1 =>
  some (.tuple [], h1)
theorem F_sync_atomic_Bool_Store_eq (call callD : ACall) (a0 a1 : AVal) (h : AH) : kFunc Try.prog [] call callD N_sync_atomic_Bool_Store [a0, a1] h = F_sync_atomic_Bool_Store call callD a0 a1 h := by kernel_rfl
theorem C_sync_atomic_Bool_Store {ov : AOver} (H : Plain ov) (n : Nat) (a0 a1 : AVal) (h : AH) : kc ov (n + 1) N_sync_atomic_Bool_Store [a0, a1] h = F_sync_atomic_Bool_Store (kc ov n) (kd ov n) a0 a1 h := by
  have hov : ov N_sync_atomic_Bool_Store = none := H _ (by decide)
  unfold kc kd; rw [← F_sync_atomic_Bool_Store_eq]; simp only [kcall, hov]

/-- (*internal/sync.Mutex).Lock -/
def F_internal_sync_Mutex_Lock (call callD : ACall) (a0 : AVal) (h : AH) : Ans :=
  ke (call N_internal_race_Disable [] h) <| fun v0 h0 =>
  kq (some a0) <| fun v1 =>
  kq (aNilCheck v1) <| fun v2 =>
  kq (rFieldP 0 v2) <| fun v3 =>
  ke (call N_sync_atomic_CompareAndSwapInt32 [v3, (.int .i32 0), (.int .i32 1)] h0) <| fun v4 h1 =>
  kIf v4 (
  kj (fun l5 h2 =>
  some (.tuple [], h2)) <| fun j6 =>
  kIf (.bool true) (
  ke (call N_internal_race_Enable [] h1) <| fun v7 h3 =>
  kq (some a0) <| fun v8 =>
  kq (rUnsafe v8 h3) <| fun v9 =>
  ke (call N_internal_race_Acquire [v9] h3) <| fun v10 h4 =>
  j6 [] h4) (
  j6 [] h1)) (
  kq (some a0) <| fun v11 =>
  ke (call N_internal_sync_Mutex_lockSlow [v11] h1) <| fun v12 h5 =>
  some (.tuple [], h5))
theorem F_internal_sync_Mutex_Lock_eq (call callD : ACall) (a0 : AVal) (h : AH) : kFunc Try.prog [] call callD N_internal_sync_Mutex_Lock [a0] h = F_internal_sync_Mutex_Lock call callD a0 h := by kernel_rfl
theorem C_internal_sync_Mutex_Lock {ov : AOver} (H : Plain ov) (n : Nat) (a0 : AVal) (h : AH) : kc ov (n + 1) N_internal_sync_Mutex_Lock [a0] h = F_internal_sync_Mutex_Lock (kc ov n) (kd ov n) a0 h := by
  have hov : ov N_internal_sync_Mutex_Lock = none := H _ (by decide)
  unfold kc kd; rw [← F_internal_sync_Mutex_Lock_eq]; simp only [kcall, hov]

/-- (*internal/sync.Mutex).Unlock -/
def F_internal_sync_Mutex_Unlock (call callD : ACall) (a0 : AVal) (h : AH) : Ans :=
  kj (fun l0 h0 =>
  kq (some a0) <| fun v2 =>
  kq (aNilCheck v2) <| fun v3 =>
  kq (rFieldP 0 v3) <| fun v4 =>
  ke (call N_sync_atomic_AddInt32 [v4, (.int .i32 (-1))] h0) <| fun v5 h1 =>
  kq (some v5) <| fun v6 =>
  kq (some v6) <| fun v7 =>
  kq (rBin .neq .no true v7 (.int .i32 0)) <| fun v8 =>
  kj (fun l9 h2 =>
  ke (call N_internal_race_Enable [] h2) <| fun v11 h3 =>
  some (.tuple [], h3)) <| fun j10 =>
  kIf v8 (
  kq (some a0) <| fun v12 =>
  kq (some v6) <| fun v13 =>
  ke (call N_internal_sync_Mutex_unlockSlow [v12, v13] h1) <| fun v14 h4 =>
  j10 [] h4) (
  j10 [] h1)) <| fun j1 =>
  kIf (.bool true) (
  kq (some a0) <| fun v15 =>
  kq (aNilCheck v15) <| fun v16 =>
  kq (rFieldP 0 v16) <| fun v17 =>
  kq (rLoad v17 h) <| fun v18 =>
  kq (some a0) <| fun v19 =>
  kq (rUnsafe v19 h) <| fun v20 =>
  ke (call N_internal_race_ReleaseMerge [v20] h) <| fun v21 h5 =>
  ke (call N_internal_race_Disable [] h5) <| fun v22 h6 =>
  j1 [] h6) (
  j1 [] h)
theorem F_internal_sync_Mutex_Unlock_eq (call callD : ACall) (a0 : AVal) (h : AH) : kFunc Try.prog [] call callD N_internal_sync_Mutex_Unlock [a0] h = F_internal_sync_Mutex_Unlock call callD a0 h := by kernel_rfl
theorem C_internal_sync_Mutex_Unlock {ov : AOver} (H : Plain ov) (n : Nat) (a0 : AVal) (h : AH) : kc ov (n + 1) N_internal_sync_Mutex_Unlock [a0] h = F_internal_sync_Mutex_Unlock (kc ov n) (kd ov n) a0 h := by
  have hov : ov N_internal_sync_Mutex_Unlock = none := H _ (by decide)
  unfold kc kd; rw [← F_internal_sync_Mutex_Unlock_eq]; simp only [kcall, hov]

/-- sync/atomic.b32 -/
def F_sync_atomic_b32 (call callD : ACall) (a0 : AVal) (h : AH) : Ans :=
  kq (some (.int .u32 0)) <| fun v0 =>
  kq (some a0) <| fun v1 =>
  kIf v1 (
  kq (some (.int .u32 1)) <| fun v2 =>
  some (v2, h)) (
  kq (some (.int .u32 0)) <| fun v3 =>
  some (v3, h))
theorem F_sync_atomic_b32_eq (call callD : ACall) (a0 : AVal) (h : AH) : kFunc Try.prog [] call callD N_sync_atomic_b32 [a0] h = F_sync_atomic_b32 call callD a0 h := by kernel_rfl
theorem C_sync_atomic_b32 {ov : AOver} (H : Plain ov) (n : Nat) (a0 : AVal) (h : AH) : kc ov (n + 1) N_sync_atomic_b32 [a0] h = F_sync_atomic_b32 (kc ov n) (kd ov n) a0 h := by
  have hov : ov N_sync_atomic_b32 = none := H _ (by decide)
  unfold kc kd; rw [← F_sync_atomic_b32_eq]; simp only [kcall, hov]

/-- (*internal/sync.Mutex).lockSlow -/
def L_internal_sync_Mutex_lockSlow_0 (call callD : ACall) (a0 : AVal) (j10 : List AVal → AH → Ans) : (List AVal → AH → Ans) → List AVal → AH → Ans := fun j18 l17 h4 =>
  kj (fun l19 h5 =>
  j18 [(gd l19 0), (gd l19 1), (gd l19 2), (gd l19 3), (gd l19 4)] h5) <| fun j20 =>
  kq (some (gd l17 4)) <| fun v21 =>
  kq (rBin .and .no true v21 (.int .i32 5)) <| fun v22 =>
  kq (rBin .eql .no true v22 (.int .i32 1)) <| fun v23 =>
  kq (some v23) <| fun v24 =>
  kth (fun v30 h8 =>
  kIf v30 (
  kq (some (gd l17 2)) <| fun v31 =>
  kq (aUn .not v31) <| fun v32 =>
  kq (some v32) <| fun v33 =>
  kth (fun v54 h11 =>
  kj (fun l55 h12 =>
  ke (call N_internal_sync_runtime_doSpin [] h12) <| fun v57 h13 =>
  kq (some (gd l17 3)) <| fun v58 =>
  kq (rBin .add .no true v58 (.int .i64 1)) <| fun v59 =>
  kq (some v59) <| fun v60 =>
  kq (some a0) <| fun v61 =>
  kq (aNilCheck v61) <| fun v62 =>
  kq (rFieldP 0 v62) <| fun v63 =>
  kq (rLoad v63 h13) <| fun v64 =>
  kq (some v64) <| fun v65 =>
  j20 [(gd l17 0), (gd l17 1), (gd l55 0), v60, v65] h13) <| fun j56 =>
  kIf v54 (
  kq (some (.bool true)) <| fun v66 =>
  j56 [v66] h11) (
  j56 [(gd l17 2)] h11)) <| fun j34 =>
  kgq v33 true (fun k => kq (some (gd l17 4)) k) <| fun v35 =>
  kgq v33 true (fun k => kq (rBin .and .no true v35 (.int .i32 2)) k) <| fun v36 =>
  kgq v33 true (fun k => kq (rBin .eql .no true v36 (.int .i32 0)) k) <| fun v37 =>
  kq (rPick v33 v37 (.bool false)) <| fun v38 =>
  kq (some v38) <| fun v39 =>
  kgq v39 true (fun k => kq (some (gd l17 4)) k) <| fun v40 =>
  kgq v39 true (fun k => kq (rBin .shr .no true v40 (.int .u64 3)) k) <| fun v41 =>
  kgq v39 true (fun k => kq (rBin .neq .no true v41 (.int .i32 0)) k) <| fun v42 =>
  kq (rPick v39 v42 (.bool false)) <| fun v43 =>
  kq (some v43) <| fun v44 =>
  kgq v44 true (fun k => kq (some a0) k) <| fun v45 =>
  kgq v44 true (fun k => kq (aNilCheck v45) k) <| fun v46 =>
  kgq v44 true (fun k => kq (rFieldP 0 v46) k) <| fun v47 =>
  kgq v44 true (fun k => kq (some (gd l17 4)) k) <| fun v48 =>
  kgq v44 true (fun k => kq (some (gd l17 4)) k) <| fun v49 =>
  kgq v44 true (fun k => kq (rBin .or .no true v49 (.int .i32 2)) k) <| fun v50 =>
  kgh v44 true h8 (fun k => ke (call N_sync_atomic_CompareAndSwapInt32 [v47, v48, v50] h8) <| fun v51 h9 =>
  k v51 h9) <| fun v52 h10 =>
  kq (rPick v44 v52 (.bool false)) <| fun v53 =>
  j34 v53 h10) (
  kq (some (gd l17 4)) <| fun v67 =>
  kq (some v67) <| fun v68 =>
  kq (some (gd l17 4)) <| fun v69 =>
  kq (rBin .and .no true v69 (.int .i32 4)) <| fun v70 =>
  kq (rBin .eql .no true v70 (.int .i32 0)) <| fun v71 =>
  kj (fun l72 h14 =>
  kq (some (gd l17 4)) <| fun v74 =>
  kq (rBin .and .no true v74 (.int .i32 5)) <| fun v75 =>
  kq (rBin .neq .no true v75 (.int .i32 0)) <| fun v76 =>
  kj (fun l77 h15 =>
  kq (some (gd l17 1)) <| fun v79 =>
  kq (some v79) <| fun v80 =>
  kt (fun v86 =>
  kj (fun l87 h17 =>
  kq (some (gd l17 2)) <| fun v89 =>
  kj (fun l90 h18 =>
  kq (some a0) <| fun v92 =>
  kq (aNilCheck v92) <| fun v93 =>
  kq (rFieldP 0 v93) <| fun v94 =>
  kq (some (gd l17 4)) <| fun v95 =>
  kq (some (gd l90 0)) <| fun v96 =>
  ke (call N_sync_atomic_CompareAndSwapInt32 [v94, v95, v96] h18) <| fun v97 h19 =>
  kj (fun l98 h20 =>
  j20 [(gd l98 0), (gd l98 1), (gd l98 2), (gd l98 3), (gd l98 4)] h20) <| fun j99 =>
  kIf v97 (
  kq (some (gd l17 4)) <| fun v100 =>
  kq (rBin .and .no true v100 (.int .i32 5)) <| fun v101 =>
  kq (rBin .eql .no true v101 (.int .i32 0)) <| fun v102 =>
  kIf v102 (
  j10 [] h19) (
  kq (some (gd l17 0)) <| fun v103 =>
  kq (rBin .neq .no true v103 (.int .i64 0)) <| fun v104 =>
  kq (some v104) <| fun v105 =>
  kq (some (gd l17 0)) <| fun v106 =>
  kq (rBin .eql .no true v106 (.int .i64 0)) <| fun v107 =>
  kj (fun l108 h21 =>
  kq (some a0) <| fun v110 =>
  kq (aNilCheck v110) <| fun v111 =>
  kq (rFieldP 1 v111) <| fun v112 =>
  kq (some v105) <| fun v113 =>
  ke (call N_internal_sync_runtime_SemacquireMutex [v112, v113, (.int .i64 2)] h21) <| fun v114 h22 =>
  kq (some (gd l17 1)) <| fun v115 =>
  kq (some v115) <| fun v116 =>
  kth (fun v124 h25 =>
  kq (some v124) <| fun v125 =>
  kq (some a0) <| fun v126 =>
  kq (aNilCheck v126) <| fun v127 =>
  kq (rFieldP 0 v127) <| fun v128 =>
  kq (rLoad v128 h25) <| fun v129 =>
  kq (some v129) <| fun v130 =>
  kq (some v130) <| fun v131 =>
  kq (rBin .and .no true v131 (.int .i32 4)) <| fun v132 =>
  kq (rBin .neq .no true v132 (.int .i32 0)) <| fun v133 =>
  kIf v133 (
  kq (some v130) <| fun v134 =>
  kq (rBin .and .no true v134 (.int .i32 3)) <| fun v135 =>
  kq (rBin .neq .no true v135 (.int .i32 0)) <| fun v136 =>
  kq (some v136) <| fun v137 =>
  kt (fun v143 =>
  kj (fun l144 h27 =>
  kq (some (.int .i32 (-7))) <| fun v146 =>
  kq (some v125) <| fun v147 =>
  kq (aUn .not v147) <| fun v148 =>
  kq (some v148) <| fun v149 =>
  kt (fun v155 =>
  kj (fun l156 h29 =>
  kq (some a0) <| fun v158 =>
  kq (aNilCheck v158) <| fun v159 =>
  kq (rFieldP 0 v159) <| fun v160 =>
  kq (some (gd l156 0)) <| fun v161 =>
  ke (call N_sync_atomic_AddInt32 [v160, v161] h29) <| fun v162 h30 =>
  j10 [] h30) <| fun j157 =>
  kIf v155 (
  kq (some v146) <| fun v163 =>
  kq (rBin .sub .no true v163 (.int .i32 4)) <| fun v164 =>
  kq (some v164) <| fun v165 =>
  j157 [v165] h27) (
  j157 [v146] h27)) <| fun j150 =>
  kgq v149 false (fun k => kq (some v130) k) <| fun v151 =>
  kgq v149 false (fun k => kq (rBin .shr .no true v151 (.int .u64 3)) k) <| fun v152 =>
  kgq v149 false (fun k => kq (rBin .eql .no true v152 (.int .i32 1)) k) <| fun v153 =>
  kq (rPick v149 (.bool true) v153) <| fun v154 =>
  j150 v154) <| fun j145 =>
  kIf v143 (
  ke (call N_internal_sync_throw [(.str [115, 121, 110, 99, 58, 32, 105, 110, 99, 111, 110, 115, 105, 115, 116, 101, 110, 116, 32, 109, 117, 116, 101, 120, 32, 115, 116, 97, 116, 101])] h25) <| fun v166 h31 =>
  j145 [] h31) (
  j145 [] h25)) <| fun j138 =>
  kgq v137 false (fun k => kq (some v130) k) <| fun v139 =>
  kgq v137 false (fun k => kq (rBin .shr .no true v139 (.int .u64 3)) k) <| fun v140 =>
  kgq v137 false (fun k => kq (rBin .eql .no true v140 (.int .i32 0)) k) <| fun v141 =>
  kq (rPick v137 (.bool true) v141) <| fun v142 =>
  j138 v142) (
  kq (some (.bool true)) <| fun v167 =>
  kq (some (.int .i64 0)) <| fun v168 =>
  j99 [(gd l108 0), v125, v167, v168, v130] h25)) <| fun j117 =>
  kgh v116 false h22 (fun k => ke (call N_internal_sync_runtime_nanotime [] h22) <| fun v118 h23 =>
  k v118 h23) <| fun v119 h24 =>
  kgq v116 false (fun k => kq (some (gd l108 0)) k) <| fun v120 =>
  kgq v116 false (fun k => kq (rBin .sub .no false v119 v120) k) <| fun v121 =>
  kgq v116 false (fun k => kq (rBin .gtr .no true v121 (.int .i64 1000000)) k) <| fun v122 =>
  kq (rPick v116 (.bool true) v122) <| fun v123 =>
  j117 v123 h24) <| fun j109 =>
  kIf v107 (
  ke (call N_internal_sync_runtime_nanotime [] h19) <| fun v169 h32 =>
  kq (some v169) <| fun v170 =>
  j109 [v170] h32) (
  j109 [(gd l17 0)] h19))) (
  kq (some a0) <| fun v171 =>
  kq (aNilCheck v171) <| fun v172 =>
  kq (rFieldP 0 v172) <| fun v173 =>
  kq (rLoad v173 h19) <| fun v174 =>
  kq (some v174) <| fun v175 =>
  j99 [(gd l17 0), (gd l17 1), (gd l17 2), (gd l17 3), v175] h19)) <| fun j91 =>
  kIf v89 (
  kq (some (gd l87 0)) <| fun v176 =>
  kq (rBin .and .no true v176 (.int .i32 2)) <| fun v177 =>
  kq (rBin .eql .no true v177 (.int .i32 0)) <| fun v178 =>
  kj (fun l179 h33 =>
  kq (some (gd l87 0)) <| fun v181 =>
  kq (rBin .andNot .no true v181 (.int .i32 2)) <| fun v182 =>
  kq (some v182) <| fun v183 =>
  j91 [v183] h33) <| fun j180 =>
  kIf v178 (
  ke (call N_internal_sync_throw [(.str [115, 121, 110, 99, 58, 32, 105, 110, 99, 111, 110, 115, 105, 115, 116, 101, 110, 116, 32, 109, 117, 116, 101, 120, 32, 115, 116, 97, 116, 101])] h17) <| fun v184 h34 =>
  j180 [] h34) (
  j180 [] h17)) (
  j91 [(gd l87 0)] h17)) <| fun j88 =>
  kIf v86 (
  kq (some (gd l77 0)) <| fun v185 =>
  kq (rBin .or .no true v185 (.int .i32 4)) <| fun v186 =>
  kq (some v186) <| fun v187 =>
  j88 [v187] h15) (
  j88 [(gd l77 0)] h15)) <| fun j81 =>
  kgq v80 true (fun k => kq (some (gd l17 4)) k) <| fun v82 =>
  kgq v80 true (fun k => kq (rBin .and .no true v82 (.int .i32 1)) k) <| fun v83 =>
  kgq v80 true (fun k => kq (rBin .neq .no true v83 (.int .i32 0)) k) <| fun v84 =>
  kq (rPick v80 v84 (.bool false)) <| fun v85 =>
  j81 v85) <| fun j78 =>
  kIf v76 (
  kq (some (gd l72 0)) <| fun v188 =>
  kq (rBin .add .no true v188 (.int .i32 8)) <| fun v189 =>
  kq (some v189) <| fun v190 =>
  j78 [v190] h14) (
  j78 [(gd l72 0)] h14)) <| fun j73 =>
  kIf v71 (
  kq (some v68) <| fun v191 =>
  kq (rBin .or .no true v191 (.int .i32 1)) <| fun v192 =>
  kq (some v192) <| fun v193 =>
  j73 [v193] h8) (
  j73 [v68] h8))) <| fun j25 =>
  kgq v24 true (fun k => kq (some (gd l17 3)) k) <| fun v26 =>
  kgh v24 true h4 (fun k => ke (call N_internal_sync_runtime_canSpin [v26] h4) <| fun v27 h6 =>
  k v27 h6) <| fun v28 h7 =>
  kq (rPick v24 v28 (.bool false)) <| fun v29 =>
  j25 v29 h7
def F_internal_sync_Mutex_lockSlow (call callD : ACall) (a0 : AVal) (h : AH) : Ans :=
  kq (some (.int .i64 0)) <| fun v0 =>
  kq (some (.bool false)) <| fun v1 =>
  kq (some (.bool false)) <| fun v2 =>
  kq (some (.int .i64 0)) <| fun v3 =>
  kq (some a0) <| fun v4 =>
  kq (aNilCheck v4) <| fun v5 =>
  kq (rFieldP 0 v5) <| fun v6 =>
  kq (rLoad v6 h) <| fun v7 =>
  kq (some v7) <| fun v8 =>
  kj (fun l9 h0 =>
  kj (fun l11 h1 =>
  some (.tuple [], h1)) <| fun j12 =>
  kIf (.bool true) (
  ke (call N_internal_race_Enable [] h0) <| fun v13 h2 =>
  kq (some a0) <| fun v14 =>
  kq (rUnsafe v14 h2) <| fun v15 =>
  ke (call N_internal_race_Acquire [v15] h2) <| fun v16 h3 =>
  j12 [] h3) (
  j12 [] h0)) <| fun j10 =>
  kLoop (L_internal_sync_Mutex_lockSlow_0 call callD a0 j10) rounds [v0, v1, v2, v3, v8] h
theorem F_internal_sync_Mutex_lockSlow_eq (call callD : ACall) (a0 : AVal) (h : AH) : kFunc Try.prog [] call callD N_internal_sync_Mutex_lockSlow [a0] h = F_internal_sync_Mutex_lockSlow call callD a0 h := by kernel_rfl
theorem C_internal_sync_Mutex_lockSlow {ov : AOver} (H : Plain ov) (n : Nat) (a0 : AVal) (h : AH) : kc ov (n + 1) N_internal_sync_Mutex_lockSlow [a0] h = F_internal_sync_Mutex_lockSlow (kc ov n) (kd ov n) a0 h := by
  have hov : ov N_internal_sync_Mutex_lockSlow = none := H _ (by decide)
  unfold kc kd; rw [← F_internal_sync_Mutex_lockSlow_eq]; simp only [kcall, hov]

/-- (*internal/sync.Mutex).unlockSlow -/
def L_internal_sync_Mutex_unlockSlow_0 (call callD : ACall) (a0 : AVal) : (List AVal → AH → Ans) → List AVal → AH → Ans := fun j12 l11 h1 =>
  kq (some (gd l11 0)) <| fun v13 =>
  kq (rBin .shr .no true v13 (.int .u64 3)) <| fun v14 =>
  kq (rBin .eql .no true v14 (.int .i32 0)) <| fun v15 =>
  kq (some v15) <| fun v16 =>
  kt (fun v22 =>
  kIf v22 (
  some (.tuple [], h1)) (
  kq (some (gd l11 0)) <| fun v23 =>
  kq (rBin .sub .no true v23 (.int .i32 8)) <| fun v24 =>
  kq (rBin .or .no true v24 (.int .i32 2)) <| fun v25 =>
  kq (some v25) <| fun v26 =>
  kq (some a0) <| fun v27 =>
  kq (aNilCheck v27) <| fun v28 =>
  kq (rFieldP 0 v28) <| fun v29 =>
  kq (some (gd l11 0)) <| fun v30 =>
  kq (some v26) <| fun v31 =>
  ke (call N_sync_atomic_CompareAndSwapInt32 [v29, v30, v31] h1) <| fun v32 h3 =>
  kIf v32 (
  kq (some a0) <| fun v33 =>
  kq (aNilCheck v33) <| fun v34 =>
  kq (rFieldP 1 v34) <| fun v35 =>
  ke (call N_internal_sync_runtime_Semrelease [v35, (.bool false), (.int .i64 2)] h3) <| fun v36 h4 =>
  some (.tuple [], h4)) (
  kq (some a0) <| fun v37 =>
  kq (aNilCheck v37) <| fun v38 =>
  kq (rFieldP 0 v38) <| fun v39 =>
  kq (rLoad v39 h3) <| fun v40 =>
  kq (some v40) <| fun v41 =>
  j12 [v41] h3))) <| fun j17 =>
  kgq v16 false (fun k => kq (some (gd l11 0)) k) <| fun v18 =>
  kgq v16 false (fun k => kq (rBin .and .no true v18 (.int .i32 7)) k) <| fun v19 =>
  kgq v16 false (fun k => kq (rBin .neq .no true v19 (.int .i32 0)) k) <| fun v20 =>
  kq (rPick v16 (.bool true) v20) <| fun v21 =>
  j17 v21
def F_internal_sync_Mutex_unlockSlow (call callD : ACall) (a0 a1 : AVal) (h : AH) : Ans :=
  kq (some a1) <| fun v0 =>
  kq (rBin .add .no true v0 (.int .i32 1)) <| fun v1 =>
  kq (rBin .and .no true v1 (.int .i32 1)) <| fun v2 =>
  kq (rBin .eql .no true v2 (.int .i32 0)) <| fun v3 =>
  kj (fun l4 h0 =>
  kq (some a1) <| fun v6 =>
  kq (rBin .and .no true v6 (.int .i32 4)) <| fun v7 =>
  kq (rBin .eql .no true v7 (.int .i32 0)) <| fun v8 =>
  kIf v8 (
  kq (some a1) <| fun v9 =>
  kq (some v9) <| fun v10 =>
  kLoop (L_internal_sync_Mutex_unlockSlow_0 call callD a0) rounds [v10] h0) (
  kq (some a0) <| fun v42 =>
  kq (aNilCheck v42) <| fun v43 =>
  kq (rFieldP 1 v43) <| fun v44 =>
  ke (call N_internal_sync_runtime_Semrelease [v44, (.bool true), (.int .i64 2)] h0) <| fun v45 h5 =>
  some (.tuple [], h5))) <| fun j5 =>
  kIf v3 (
  ke (call N_internal_sync_fatal [(.str [115, 121, 110, 99, 58, 32, 117, 110, 108, 111, 99, 107, 32, 111, 102, 32, 117, 110, 108, 111, 99, 107, 101, 100, 32, 109, 117, 116, 101, 120])] h) <| fun v46 h6 =>
  j5 [] h6) (
  j5 [] h)
theorem F_internal_sync_Mutex_unlockSlow_eq (call callD : ACall) (a0 a1 : AVal) (h : AH) : kFunc Try.prog [] call callD N_internal_sync_Mutex_unlockSlow [a0, a1] h = F_internal_sync_Mutex_unlockSlow call callD a0 a1 h := by kernel_rfl
theorem C_internal_sync_Mutex_unlockSlow {ov : AOver} (H : Plain ov) (n : Nat) (a0 a1 : AVal) (h : AH) : kc ov (n + 1) N_internal_sync_Mutex_unlockSlow [a0, a1] h = F_internal_sync_Mutex_unlockSlow (kc ov n) (kd ov n) a0 a1 h := by
  have hov : ov N_internal_sync_Mutex_unlockSlow = none := H _ (by decide)
  unfold kc kd; rw [← F_internal_sync_Mutex_unlockSlow_eq]; simp only [kcall, hov]


end Go.Proofs.Ytfikmcfiojpilaa.AI
