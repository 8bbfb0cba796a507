/- Chapter 2: the program is as the machine wants it; the chapter's example holds. -/
import Derived.Test.YtfikmcfiojpilaaLaw2
import Derived.Test.YtfikmcfiojpilaaAiRowH
import Derived.Test.YtfikmcfiojpilaaRows
import Derived.WalkKit
import Derived.ProofKit
import Derived.OpenShut
import Derived.ShutString
import Derived.ChangeOld
import Derived.Below
import Derived.SizedLaws
namespace Go.Proofs.Ytfikmcfiojpilaa
open Go Go.ChangeShapes Go.WideShapes Go.ChangeAt Go.RowKit Go.Proofs.Ytfikmcfiojpilaa.AI
set_option linter.unusedVariables false
theorem own : ownKnob Try.prog.godebug = none := by kernel_rfl
theorem prog_ok : progOk Try.prog = true := by kernel_rfl
theorem wf_empty : Wf AH.empty := ⟨fun i b h => by simp [AH.empty, AH.get, Tr.get] at h, fun i b h => by simp [AH.empty, AH.get, Tr.get] at h⟩
def XL : List (Nat × (List AVal → AH → Ans)) := [(N_sync_atomic_LoadInt64, (xLoad .i64)), (N_sync_atomic_LoadUint32, (xLoad .u32)), (N_sync_atomic_AddInt64, (xAdd .i64)), (N_sync_atomic_StoreUint32, (xStore .u32)), (N_internal_race_Disable, xMark0), (N_sync_atomic_CompareAndSwapInt32, (xCas .i32)), (N_internal_race_Enable, xMark0), (N_internal_race_Acquire, xMarked), (N_internal_race_ReleaseMerge, xMarked), (N_sync_atomic_AddInt32, (xAdd .i32))]
theorem isx_sync_atomic_LoadInt64 : IsX Try.prog N_sync_atomic_LoadInt64 (Extern.Atomic.loadT (.int .i64)) := ⟨_, Try.func24, by kernel_rfl, by kernel_rfl, by kernel_rfl, by kernel_rfl⟩
theorem isx_sync_atomic_LoadUint32 : IsX Try.prog N_sync_atomic_LoadUint32 (Extern.Atomic.loadT (.int .u32)) := ⟨_, Try.func25, by kernel_rfl, by kernel_rfl, by kernel_rfl, by kernel_rfl⟩
theorem isx_sync_atomic_AddInt64 : IsX Try.prog N_sync_atomic_AddInt64 (Extern.Atomic.update (Op.intArith .add) .i64 true) := ⟨_, Try.func29, by kernel_rfl, by kernel_rfl, by kernel_rfl, by kernel_rfl⟩
theorem isx_sync_atomic_StoreUint32 : IsX Try.prog N_sync_atomic_StoreUint32 Extern.Atomic.storeT := ⟨_, Try.func32, by kernel_rfl, by kernel_rfl, by kernel_rfl, by kernel_rfl⟩
theorem isx_internal_race_Disable : IsX Try.prog N_internal_race_Disable (fun _ => do mark .disable; pure Extern.Race.none_) := ⟨_, Try.func34, by kernel_rfl, by kernel_rfl, by kernel_rfl, by kernel_rfl⟩
theorem isx_sync_atomic_CompareAndSwapInt32 : IsX Try.prog N_sync_atomic_CompareAndSwapInt32 (Extern.Atomic.casT (.int .i32)) := ⟨_, Try.func35, by kernel_rfl, by kernel_rfl, by kernel_rfl, by kernel_rfl⟩
theorem isx_internal_race_Enable : IsX Try.prog N_internal_race_Enable (fun _ => do mark .enable; pure Extern.Race.none_) := ⟨_, Try.func36, by kernel_rfl, by kernel_rfl, by kernel_rfl, by kernel_rfl⟩
theorem isx_internal_race_Acquire : IsX Try.prog N_internal_race_Acquire (Extern.Race.marked .acquire) := ⟨_, Try.func37, by kernel_rfl, by kernel_rfl, by kernel_rfl, by kernel_rfl⟩
theorem isx_internal_race_ReleaseMerge : IsX Try.prog N_internal_race_ReleaseMerge (Extern.Race.marked .releaseMerge) := ⟨_, Try.func39, by kernel_rfl, by kernel_rfl, by kernel_rfl, by kernel_rfl⟩
theorem isx_sync_atomic_AddInt32 : IsX Try.prog N_sync_atomic_AddInt32 (Extern.Atomic.update (Op.intArith .add) .i32 true) := ⟨_, Try.func40, by kernel_rfl, by kernel_rfl, by kernel_rfl, by kernel_rfl⟩
theorem xl_ok : ∀ p ∈ XL, XSound Try.prog [] p.1 p.2 := by
  intro p hp
  simp only [XL, List.mem_cons, List.not_mem_nil, or_false] at hp
  rcases hp with rfl | rfl | rfl | rfl | rfl | rfl | rfl | rfl | rfl | rfl
  · exact xLoad_sound isx_sync_atomic_LoadInt64
  · exact xLoad_sound isx_sync_atomic_LoadUint32
  · exact xAdd_sound isx_sync_atomic_AddInt64
  · exact xStore_sound isx_sync_atomic_StoreUint32
  · exact xMark0_sound (m := .disable) isx_internal_race_Disable
  · exact xCas_sound isx_sync_atomic_CompareAndSwapInt32
  · exact xMark0_sound (m := .enable) isx_internal_race_Enable
  · exact xMarked_sound (m := .acquire) isx_internal_race_Acquire
  · exact xMarked_sound (m := .releaseMerge) isx_internal_race_ReleaseMerge
  · exact xAdd_sound isx_sync_atomic_AddInt32
theorem known_runs : (kcall Try.prog [] (ovOf XL) 14 N_runglaw2_known [] AH.empty).map (·.1) = some (.bool true) := by
  obtain ⟨r, h, e, rfl⟩ := known_holds (ov := ovOf XL) ({ p := fun f hf => ovOf_none fun hm => hf ((show ∀ x ∈ XL.map (·.1), x ∈ OVS by decide) f hm), sync_atomic_LoadInt64 := rfl, sync_atomic_LoadUint32 := rfl, sync_atomic_AddInt64 := rfl, sync_atomic_StoreUint32 := rfl, internal_race_Disable := rfl, sync_atomic_CompareAndSwapInt32 := rfl, internal_race_Enable := rfl, internal_race_Acquire := rfl, internal_race_ReleaseMerge := rfl, sync_atomic_AddInt32 := rfl }) rfl 6 wf_empty
  rw [e]; rfl
def OV : AOver := ovK N_runglaw2_known XL
theorem ov_ok : OvSound Try.prog [] OV := ovK_sound (progOk_spec prog_ok) xl_ok (by kernel_rfl) known_runs
theorem ov_k : OV N_runglaw2_known = some knownYes := by unfold OV ovK; rw [if_pos rfl]
theorem ov_x : Xs OV where
  p := ovK_none (by decide) (by decide)
  sync_atomic_LoadInt64 := rfl
  sync_atomic_LoadUint32 := rfl
  sync_atomic_AddInt64 := rfl
  sync_atomic_StoreUint32 := rfl
  internal_race_Disable := rfl
  sync_atomic_CompareAndSwapInt32 := rfl
  internal_race_Enable := rfl
  internal_race_Acquire := rfl
  internal_race_ReleaseMerge := rfl
  sync_atomic_AddInt32 := rfl

theorem abs_bytes {H : Type} {k : Nat} : Abs Try.prog H (k + 2) 22 (rSl rU8 1) := abs_slice (e := 5) (by kernel_rfl) (by kernel_rfl) (by kernel_rfl) (by omega) (by kernel_rfl) (abs_u8 (by kernel_rfl) (by kernel_rfl))
theorem abs_texts {H : Type} {k : Nat} : Abs Try.prog H (k + 3) 52 (rSl (rSl rU8 1) 1) := abs_slice (e := 22) (by kernel_rfl) (by kernel_rfl) (by kernel_rfl) (by omega) (by kernel_rfl) abs_bytes
theorem abs_bools {H : Type} {k : Nat} : Abs Try.prog H (k + 2) 53 (rSl rBool 1) := abs_slice (e := 4) (by kernel_rfl) (by kernel_rfl) (by kernel_rfl) (by omega) (by kernel_rfl) (abs_bool (by kernel_rfl) (by kernel_rfl))
theorem abs_int64 {H : Type} {k : Nat} : Abs Try.prog H (k + 1) 3 (rInt .i64) := abs_int (by kernel_rfl) (by kernel_rfl)
theorem abs_u16 {H : Type} {k : Nat} : Abs Try.prog H (k + 1) 43 (rInt .u16) := abs_int (by kernel_rfl) (by kernel_rfl)
end Go.Proofs.Ytfikmcfiojpilaa
