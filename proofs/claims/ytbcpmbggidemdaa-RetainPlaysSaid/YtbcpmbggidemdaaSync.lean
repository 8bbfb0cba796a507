/- sync: Once, Mutex, of one goroutine. -/
import Derived.Test.YtbcpmbggidemdaaF
namespace Go.Proofs.Ytbcpmbggidemdaa.AI
open Go
set_option linter.unusedSimpArgs false
set_option linter.unusedVariables false
variable {ov : AOver} {h : AH} {v : AVal} {md : AMode} {p off : Nat} {cs : List AVal} {t : TypeId} {ob : Bool} {par : List Nat}

structure Xs (ov : AOver) : Prop where
  p : Plain ov
  sync_atomic_AddUint64 : ov N_sync_atomic_AddUint64 = some (xAdd .u64)
  sync_atomic_LoadUint64 : ov N_sync_atomic_LoadUint64 = some (xLoad .u64)

theorem ov_call {f n : Nat} {g : List AVal → AH → Ans} (e : ov f = some g) (args : List AVal) : kc ov (n + 1) f args h = g args h := by
  unfold kc; simp only [kcall, e]
theorem kd_eq (n : Nat) (f : Nat) (args : List AVal) : kd ov n f args h = kFunc Try.prog [] (kc ov n) (fun _ _ _ => none) f args h := rfl
theorem rUnsafe_eq (g : h.get p = some ⟨.row cs t ob, .rw, par⟩) (hl : off < cs.length) : rUnsafe (.ptr (some (p, off))) h = some (.ptr (some (p, off))) := by
  unfold rUnsafe; simp only [row_rw g, Option.bind_some, if_pos hl]
end Go.Proofs.Ytbcpmbggidemdaa.AI
