/- Chapter 24: the program is as the machine wants it; the chapter's example holds. -/
import Derived.Test.YtfppdfmffdkogaaQueueB
import Derived.Test.YtfppdfmffdkogaaAiRowD
import Derived.Test.YtfppdfmffdkogaaRows
import Derived.WalkKit
import Derived.ProofKit
import Derived.OpenShut
import Derived.ShutString
import Derived.ChangeOld
import Derived.Below
import Derived.SizedLaws
namespace Go.Proofs.Ytfppdfmffdkogaa
open Go Go.ChangeShapes Go.WideShapes Go.ChangeAt Go.RowKit Go.Proofs.Ytfppdfmffdkogaa.AI
set_option linter.unusedVariables false
theorem own : ownKnob Try.prog.godebug = none := by kernel_rfl
theorem prog_ok : progOk Try.prog = true := by kernel_rfl
def XL : List (Nat × (List AVal → AH → Ans)) := [(N_sync_atomic_AddUint64, (xAdd .u64)), (N_sync_atomic_LoadUint64, (xLoad .u64)), (N_sync_atomic_LoadUint32, (xLoad .u32)), (N_internal_race_Disable, xMark0), (N_sync_atomic_CompareAndSwapInt32, (xCas .i32)), (N_internal_race_Enable, xMark0), (N_internal_race_Acquire, xMarked), (N_internal_race_ReleaseMerge, xMarked), (N_sync_atomic_AddInt32, (xAdd .i32)), (N_sync_atomic_StoreUint32, (xStore .u32))]
theorem isx_sync_atomic_AddUint64 : IsX Try.prog N_sync_atomic_AddUint64 (Extern.Atomic.update (Op.intArith .add) .u64 true) := ⟨_, Try.func44, by kernel_rfl, by kernel_rfl, by kernel_rfl, by kernel_rfl⟩
theorem isx_sync_atomic_LoadUint64 : IsX Try.prog N_sync_atomic_LoadUint64 (Extern.Atomic.loadT (.int .u64)) := ⟨_, Try.func45, by kernel_rfl, by kernel_rfl, by kernel_rfl, by kernel_rfl⟩
theorem isx_sync_atomic_LoadUint32 : IsX Try.prog N_sync_atomic_LoadUint32 (Extern.Atomic.loadT (.int .u32)) := ⟨_, Try.func46, by kernel_rfl, by kernel_rfl, by kernel_rfl, by kernel_rfl⟩
theorem isx_internal_race_Disable : IsX Try.prog N_internal_race_Disable (fun _ => do mark .disable; pure Extern.Race.none_) := ⟨_, Try.func48, by kernel_rfl, by kernel_rfl, by kernel_rfl, by kernel_rfl⟩
theorem isx_sync_atomic_CompareAndSwapInt32 : IsX Try.prog N_sync_atomic_CompareAndSwapInt32 (Extern.Atomic.casT (.int .i32)) := ⟨_, Try.func49, by kernel_rfl, by kernel_rfl, by kernel_rfl, by kernel_rfl⟩
theorem isx_internal_race_Enable : IsX Try.prog N_internal_race_Enable (fun _ => do mark .enable; pure Extern.Race.none_) := ⟨_, Try.func50, by kernel_rfl, by kernel_rfl, by kernel_rfl, by kernel_rfl⟩
theorem isx_internal_race_Acquire : IsX Try.prog N_internal_race_Acquire (Extern.Race.marked .acquire) := ⟨_, Try.func51, by kernel_rfl, by kernel_rfl, by kernel_rfl, by kernel_rfl⟩
theorem isx_internal_race_ReleaseMerge : IsX Try.prog N_internal_race_ReleaseMerge (Extern.Race.marked .releaseMerge) := ⟨_, Try.func53, by kernel_rfl, by kernel_rfl, by kernel_rfl, by kernel_rfl⟩
theorem isx_sync_atomic_AddInt32 : IsX Try.prog N_sync_atomic_AddInt32 (Extern.Atomic.update (Op.intArith .add) .i32 true) := ⟨_, Try.func54, by kernel_rfl, by kernel_rfl, by kernel_rfl, by kernel_rfl⟩
theorem isx_sync_atomic_StoreUint32 : IsX Try.prog N_sync_atomic_StoreUint32 Extern.Atomic.storeT := ⟨_, Try.func56, by kernel_rfl, by kernel_rfl, by kernel_rfl, by kernel_rfl⟩
theorem xl_ok : ∀ p ∈ XL, XSound Try.prog [] p.1 p.2 := by
  intro p hp
  simp only [XL, List.mem_cons, List.not_mem_nil, or_false] at hp
  rcases hp with rfl | rfl | rfl | rfl | rfl | rfl | rfl | rfl | rfl | rfl
  · exact xAdd_sound isx_sync_atomic_AddUint64
  · exact xLoad_sound isx_sync_atomic_LoadUint64
  · exact xLoad_sound isx_sync_atomic_LoadUint32
  · exact xMark0_sound (m := .disable) isx_internal_race_Disable
  · exact xCas_sound isx_sync_atomic_CompareAndSwapInt32
  · exact xMark0_sound (m := .enable) isx_internal_race_Enable
  · exact xMarked_sound (m := .acquire) isx_internal_race_Acquire
  · exact xMarked_sound (m := .releaseMerge) isx_internal_race_ReleaseMerge
  · exact xAdd_sound isx_sync_atomic_AddInt32
  · exact xStore_sound isx_sync_atomic_StoreUint32
theorem known_runs : (kcall Try.prog [] (ovOf XL) 16 N_runglaw24_known [] AH.empty).map (·.1) = some (.bool true) := by kernel_rfl
def OV : AOver := ovK N_runglaw24_known XL
theorem ov_ok : OvSound Try.prog [] OV := ovK_sound (progOk_spec prog_ok) xl_ok (by kernel_rfl) known_runs
theorem ov_k : OV N_runglaw24_known = some knownYes := by unfold OV ovK; rw [if_pos rfl]
theorem ov_x : Xs OV where
  p := ovK_none (by decide) (by decide)
  sync_atomic_AddUint64 := rfl
  sync_atomic_LoadUint64 := rfl
  sync_atomic_LoadUint32 := rfl
  internal_race_Disable := rfl
  sync_atomic_CompareAndSwapInt32 := rfl
  internal_race_Enable := rfl
  internal_race_Acquire := rfl
  internal_race_ReleaseMerge := rfl
  sync_atomic_AddInt32 := rfl
  sync_atomic_StoreUint32 := rfl

theorem abs_int64 {H : Type} {k : Nat} : Abs Try.prog H (k + 1) 3 (rInt .i64) := abs_int (by kernel_rfl) (by kernel_rfl)
abbrev rStep := rCons 1 (rInt .i64) (rCons 1 (rInt .i64) rUnit)
theorem abs_steps {H : Type} {k : Nat} : Abs Try.prog H (k + 4) 22 (rSl rStep 2) :=
  abs_slice (e := 29) (by kernel_rfl) (by kernel_rfl) (by kernel_rfl) (by omega) (by kernel_rfl)
    (abs_struct' (hu := Try.underlying29) (by kernel_rfl) (absF_cons rfl (by kernel_rfl) abs_int64 (absF_cons rfl (by kernel_rfl) abs_int64 absF_nil)))
theorem steps_at {h : AH} {cs : List AVal} {xs : List (Int × Int × Unit)} (p : ∀ (i : Nat) x, xs[i]? = some x → rStep h ((cs.drop (i * 2)).take 2) x) :
    ∀ (i : Nat) x, (xs.map fun x => (x.1, x.2.1))[i]? = some x → cs[i * 2]? = some (.int .i64 x.1) ∧ cs[i * 2 + 1]? = some (.int .i64 x.2) := by
  intro i x hx
  rw [List.getElem?_map] at hx
  obtain ⟨y, hy, rfl⟩ := Option.map_eq_some_iff.1 hx
  obtain ⟨⟨h1, a0, a1⟩, ⟨h2, b0, b1⟩, h7⟩ := p i y hy
  have g : ∀ k, k < 2 → cs[i * 2 + k]? = ((cs.drop (i * 2)).take 2)[k]? := fun k hk => by rw [List.getElem?_take_of_lt hk, List.getElem?_drop]
  refine ⟨?_, ?_⟩
  · have := congrArg (fun x => x[0]?) h1
    have e := g 0 (by omega)
    rw [Nat.add_zero] at e
    rw [e]
    simpa using this
  · have := congrArg (fun x => x[0]?) h2
    rw [g 1 (by omega)]
    simpa using this
end Go.Proofs.Ytfppdfmffdkogaa
