/- Helps for the rows. -/
import Derived.Test.YtbcpmbggidemdaaAiArgs
import Derived.ChangeOld
namespace Go.Proofs.Ytbcpmbggidemdaa.AI
open Go Go.RowKit
variable {P : Program} {H : Type} {k : Nat}
theorem tds1 {t : TypeId} {ds : List (DataW H)} (h : TDs P k [t] ds) : ∃ a, ds = [a] := by
  match ds, h with
  | [a], _ => exact ⟨a, rfl⟩
theorem tds2 {t u : TypeId} {ds : List (DataW H)} (h : TDs P k [t, u] ds) : ∃ a b, ds = [a, b] := by
  match ds, h with
  | [a, b], _ => exact ⟨a, b, rfl⟩
  | [_], h => exact h.2.elim
theorem tds3 {t u v : TypeId} {ds : List (DataW H)} (h : TDs P k [t, u, v] ds) : ∃ a b c, ds = [a, b, c] := by
  match ds, h with
  | [a, b, c], _ => exact ⟨a, b, c, rfl⟩
  | [_], h => exact h.2.elim
  | [_, _], h => exact h.2.2.elim
theorem tds4 {t u v w : TypeId} {ds : List (DataW H)} (h : TDs P k [t, u, v, w] ds) : ∃ a b c d, ds = [a, b, c, d] := by
  match ds, h with
  | [a, b, c, d], _ => exact ⟨a, b, c, d, rfl⟩
  | [_], h => exact h.2.elim
  | [_, _], h => exact h.2.2.elim
  | [_, _, _], h => exact h.2.2.2.elim
theorem tds5 {t u v w x : TypeId} {ds : List (DataW H)} (h : TDs P k [t, u, v, w, x] ds) : ∃ a b c d e, ds = [a, b, c, d, e] := by
  match ds, h with
  | [a, b, c, d, e], _ => exact ⟨a, b, c, d, e, rfl⟩
  | [_], h => exact h.2.elim
  | [_, _], h => exact h.2.2.elim
  | [_, _, _], h => exact h.2.2.2.elim
  | [_, _, _, _], h => exact h.2.2.2.2.elim
theorem tds6 {t u v w x y : TypeId} {ds : List (DataW H)} (h : TDs P k [t, u, v, w, x, y] ds) : ∃ a b c d e f, ds = [a, b, c, d, e, f] := by
  match ds, h with
  | [a, b, c, d, e, f], _ => exact ⟨a, b, c, d, e, f, rfl⟩
  | [_], h => exact h.2.elim
  | [_, _], h => exact h.2.2.elim
  | [_, _, _], h => exact h.2.2.2.elim
  | [_, _, _, _], h => exact h.2.2.2.2.elim
  | [_, _, _, _, _], h => exact h.2.2.2.2.2.elim
/-- Who stands in for nobody is right. -/
theorem ovNone {P : Program} : OvSound P [] (fun _ => none) := fun f g h => by cases h
/-- A law that is true of all arguments that read so: it returns true, and nothing is turned. -/
theorem law_returns {α : Type} (hP : ProgOk P) {F : Nat} (hen : entersB P F = true) {ov : AOver} (hov : OvSound P [] ov) {enc : TypeId × Value → H} {W : World} {n base : Nat} {ts : List TypeId} {args : Array Value} {ds : List (DataW H)} {p : List MemPlace}
    (hok : ∀ (j : Nat) (t : TypeId) (v : Value), ts[j]? = some t → args.toList[j]? = some v → Value.okWide P W .any base t v)
    (hA : DataW.TrodAll enc P W 0 (fun _ => true) true ts args.toList ds p) (hz : (DataW.weightsEach P ts ds).all (· ≤ reachBytes) = true) {R : AH → List AVal → α → Prop} (ha : AbsAs P H ts R)
    (law : ∀ (h : AH) (as : List AVal) (x : α), Ro h → R h as x → Wp (kcall P [] ov n F as h) fun r _ => r = .bool true) :
    Calls P F args W fun e W' => e = .returned (.bool true) ∧ Below W.heap.size W W' := by
  obtain ⟨as, h1, x, ea, ro, _, hr⟩ := ha.2 ds AH.empty Ro.empty (tws_of (tds_of_trodAll 20 hA) (by simpa using hz))
  obtain ⟨r, h', ec, rfl⟩ := law h1 as x ro hr
  exact law_kcalls hP hen hov hok hA ea ec
end Go.Proofs.Ytbcpmbggidemdaa.AI
