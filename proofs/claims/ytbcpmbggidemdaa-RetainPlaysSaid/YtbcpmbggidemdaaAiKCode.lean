/- The machine once more, what comes next handed on: statements. -/
import Derived.Test.YtbcpmbggidemdaaAiKDraw
namespace Go.Proofs.Ytbcpmbggidemdaa.AI
open Go
set_option linter.unusedSimpArgs false

variable {P : Program} {gl : List Nat} {call : ACall}

/-- Numbers as a mask of bits. -/
def maskOf (l : List Nat) : Nat := l.foldr (fun i m => m ||| (1 <<< i)) 0
theorem maskOf_mem {i : Nat} : ∀ {l : List Nat}, i ∈ l → (maskOf l).testBit i = true
  | j :: l, h => by
      simp only [maskOf, List.foldr_cons, Nat.testBit_or, Bool.or_eq_true]
      rcases List.mem_cons.1 h with rfl | h
      · right; simp [Nat.testBit_shiftLeft]
      · left; exact maskOf_mem h
def AgreeM (M : Nat) (t t' : List AVal) : Prop := t'.length = t.length ∧ ∀ i, M.testBit i = false → t'[i]? = t[i]?
theorem AgreeM.refl (M : Nat) (t : List AVal) : AgreeM M t t := ⟨rfl, fun _ _ => rfl⟩
theorem AgreeM.trans {M : Nat} {a b c : List AVal} (h : AgreeM M a b) (k : AgreeM M b c) : AgreeM M a c := ⟨k.1.trans h.1, fun i hi => (k.2 i hi).trans (h.2 i hi)⟩
theorem AgreeM.left {M N : Nat} {a b : List AVal} (h : AgreeM M a b) : AgreeM (M ||| N) a b := ⟨h.1, fun i hi => h.2 i (by simp [Nat.testBit_or] at hi; exact hi.1)⟩
theorem AgreeM.right {M N : Nat} {a b : List AVal} (h : AgreeM N a b) : AgreeM (M ||| N) a b := ⟨h.1, fun i hi => h.2 i (by simp [Nat.testBit_or] at hi; exact hi.2)⟩
theorem Agree.mask {D : List Nat} {a b : List AVal} (h : Agree D a b) : AgreeM (maskOf D) a b :=
  ⟨h.1, fun i hi => h.2 i fun hm => by rw [maskOf_mem hm] at hi; cases hi⟩

/-- The registers that a statement writes. -/
def codeMask : Code → Nat
  | .region _ ops _ => maskOf (opsDefs ops)
  | .seq a b => codeMask a ||| codeMask b
  | .cond _ a b => codeMask a ||| codeMask b
  | .block _ a => codeMask a
  | .loop a => codeMask a
  | _ => 0
def noDefer : Code → Bool
  | .region _ ops _ => ops.toList.all fun o => match o.op with | .defer _ => false | _ => true
  | .seq a b => noDefer a && noDefer b
  | .cond _ a b => noDefer a && noDefer b
  | .block _ a => noDefer a
  | .loop a => noDefer a
  | _ => true
def exitsTo (id : Nat) : Code → Nat
  | .seq a b => exitsTo id a + exitsTo id b
  | .cond _ a b => exitsTo id a + exitsTo id b
  | .block _ a => exitsTo id a
  | .loop a => exitsTo id a
  | .exit j => match j == id with
    | true => 1
    | false => 0
  | _ => 0
/-- Does it come to its end? -/
def ends : Code → Bool
  | .skip => true
  | .region _ _ _ => true
  | .seq a b => ends a && ends b
  | .cond _ a b => ends a || ends b
  | .block id a => ends a || !(exitsTo id a == 0)
  | _ => false

def bitOff (m : Nat) (d : Option Nat) : Nat := match d with
  | some d => match m.testBit d with
    | true => m ^^^ (1 <<< d)
    | false => m
  | none => m
def lvOps (ops : Array Oper) (L : Nat) : Nat := ops.toList.foldr (fun o m => bitOff m o.dst ||| maskOf (slots ops o)) L
def useOf : Operand → Nat
  | .tmp i => 1 <<< i
  | _ => 0
def lookX (id : Nat) : List (Nat × Nat) → Nat
  | [] => 0
  | (i, m) :: l => match i == id with
    | true => m
    | false => lookX id l
/-- The registers that are looked at later on. (It need not be right: what it leaves out is taken for unknown.) -/
def lv : Code → Nat → List (Nat × Nat) → Nat → Nat
  | .skip, L, _, _ => L
  | .region _ ops _, L, _, _ => lvOps ops L
  | .seq a b, L, X, R => lv a (lv b L X R) X R
  | .cond c a b, L, X, R => useOf c ||| lv a L X R ||| lv b L X R
  | .block id a, L, X, R => lv a L ((id, L) :: X) R
  | .loop a, _, X, R => lv a (lv a (lv a 0 X R) X R) X R
  | .exit id, _, X, _ => lookX id X
  | .ret, _, _, R => R
  | _, _, _, _ => 0

def getMany (t : List AVal) (ms : List Nat) : List AVal := ms.map fun i => t.getD i (.tuple [])
def gd (vs : List AVal) (j : Nat) : AVal := vs.getD j (.tuple [])
def posOf (i : Nat) : List Nat → Nat → Option Nat
  | [], _ => none
  | m :: l, j => match m == i with
    | true => some j
    | false => posOf i l (j + 1)
def mixAt (D : Nat) (ms : List Nat) (vs : List AVal) (i : Nat) (x : AVal) : AVal := match posOf i ms 0 with
  | some j => gd vs j
  | none => match D.testBit i with
    | true => .any
    | false => x
/-- The registers of 'ms' out of 'vs'; others of 'D': unknown. -/
def mix (D : Nat) (ms : List Nat) (vs : List AVal) : Nat → List AVal → List AVal
  | _, [] => []
  | i, x :: l => mixAt D ms vs i x :: mix D ms vs (i + 1) l
def msOf (D L : Nat) (t : List AVal) : List Nat := (List.range t.length).filter fun i => (D &&& L).testBit i

theorem posOf_get {i : Nat} : ∀ {l : List Nat} {k j : Nat}, posOf i l k = some j → k ≤ j ∧ l[j - k]? = some i
  | [], _, _, h => by simp [posOf] at h
  | m :: l, k, j, h => by
      simp only [posOf] at h
      split at h
      · rename_i hm
        simp only [Option.some.injEq] at h
        subst h
        simp at hm
        simp [hm]
      · obtain ⟨h1, h2⟩ := posOf_get h
        refine ⟨by omega, ?_⟩
        rw [show j - k = (j - (k + 1)) + 1 by omega]
        simpa using h2
theorem mix_get (D : Nat) (ms : List Nat) (vs : List AVal) : ∀ (t : List AVal) (k i : Nat), (mix D ms vs k t)[i]? = t[i]?.map (mixAt D ms vs (k + i))
  | [], k, i => by simp [mix]
  | x :: l, k, 0 => by simp [mix]
  | x :: l, k, i + 1 => by simp [mix, mix_get D ms vs l (k + 1) i, Nat.add_assoc, Nat.add_comm 1 i]
theorem mix_length (D : Nat) (ms : List Nat) (vs : List AVal) : ∀ (t : List AVal) (k : Nat), (mix D ms vs k t).length = t.length
  | [], _ => rfl
  | _ :: l, k => by simp [mix, mix_length D ms vs l]
theorem VRs.at {μ : Mu} {a : List AVal} {v : List Value} (h : VRs μ a v) {i : Nat} {x : AVal} {y : Value} (hx : a[i]? = some x) (hy : v[i]? = some y) : VR μ x y := by
  obtain ⟨y', h1, h2⟩ := h.get hx
  rw [hy] at h1
  simp only [Option.some.injEq] at h1
  rw [h1]; exact h2

theorem mix_good {μ : Mu} {D : Nat} {ms : List Nat} {t t' : List AVal} {v : List Value} (h : VRs μ t' v) (ha : AgreeM D t t') : VRs μ (mix D ms (getMany t' ms) 0 t) v := by
  have hl := h.length
  refine VRs.of_get (by rw [mix_length]; rw [← hl, ha.1]) fun i x y hx hy => ?_
  rw [mix_get, Nat.zero_add] at hx
  simp only [Option.map_eq_some_iff] at hx
  obtain ⟨x0, hx0, rfl⟩ := hx
  unfold mixAt
  have hi : i < t.length := (List.getElem?_eq_some_iff.1 hx0).1
  have hi' : i < t'.length := by rw [ha.1]; exact hi
  split
  · rename_i j hj
    obtain ⟨_, h2⟩ := posOf_get hj
    have hm : (getMany t' ms)[j]? = some (t'.getD i (.tuple [])) := by
      unfold getMany
      rw [List.getElem?_map]
      have : ms[j]? = some i := by simpa using h2
      rw [this]; rfl
    have ht' : t'[i]? = some (t'.getD i (.tuple [])) := by simp [hi']
    unfold gd
    rw [List.getD_eq_getElem?_getD, hm]
    exact h.at ht' hy
  · split
    · exact .any y
    · rename_i hD
      exact h.at ((ha.2 i hD).trans hx0) hy
theorem mix_agree (D : Nat) (ms : List Nat) (vs : List AVal) (hms : ∀ i ∈ ms, D.testBit i = true) (t : List AVal) : AgreeM D t (mix D ms vs 0 t) := by
  refine ⟨mix_length _ _ _ _ _, fun i hi => ?_⟩
  rw [mix_get, Nat.zero_add]
  cases hx : t[i]? with
  | none => rfl
  | some x =>
    simp only [Option.map_some, Option.some.injEq]
    unfold mixAt
    split
    · rename_i j hj
      obtain ⟨_, h2⟩ := posOf_get hj
      have := hms i (List.mem_of_getElem? h2)
      rw [hi] at this; cases this
    · rw [hi]
theorem msOf_mem (D L : Nat) (t : List AVal) : ∀ i ∈ msOf D L t, D.testBit i = true := by
  intro i hi
  unfold msOf at hi
  rw [List.mem_filter] at hi
  have := hi.2
  rw [Nat.testBit_and, Bool.and_eq_true] at this
  exact this.1

/-- What is there behind two ways. -/
def kJ (J : List AVal → AH → Ans) (B : (List AVal → AH → Ans) → Ans) : Ans := B J
def kLoop (B : (List AVal → AH → Ans) → List AVal → AH → Ans) : Nat → List AVal → AH → Ans
  | 0, _, _ => none
  | n + 1, vs, h => B (kLoop B n) vs h

abbrev KN := List AVal → List ADef → AH → Ans
def kCode (P : Program) (gl : List Nat) (call : ACall) : Code → Nat → List (Nat × Nat) → Nat → List AVal → List ADef → AH → KN → (Nat → KN) → KN → Ans
  | .skip, _, _, _, t, d, h, kn, _, _ => kn t d h
  | .region _ ops false, _, _, _, t, d, h, kn, _, _ => kRun P gl call ops (List.range ops.size) t d h kn
  | .region _ ops true, _, _, _, t, d, h, kn, _, _ => kDrawGo P gl call ops (ancTab ops) (asap P ops) t h [] fun t' h' => kn t' d h'
  | .seq a b, L, X, R, t, d, h, kn, kx, kr => kCode P gl call a (lv b L X R) X R t d h (fun t d h => kCode P gl call b L X R t d h kn kx kr) kx kr
  | .cond c a b, L, X, R, t, d, h, kn, kx, kr =>
    match ends a && ends b && noDefer a && noDefer b with
    | true => kJ (fun vs h => kn (mix (codeMask a ||| codeMask b) (msOf (codeMask a ||| codeMask b) L t) vs 0 t) d h) fun j =>
        kIf (aEval gl t c) (kCode P gl call a L X R t d h (fun t' _ h' => j (getMany t' (msOf (codeMask a ||| codeMask b) L t)) h') kx kr)
          (kCode P gl call b L X R t d h (fun t' _ h' => j (getMany t' (msOf (codeMask a ||| codeMask b) L t)) h') kx kr)
    | false => kIf (aEval gl t c) (kCode P gl call a L X R t d h kn kx kr) (kCode P gl call b L X R t d h kn kx kr)
  | .block id a, L, X, R, t, d, h, kn, kx, kr =>
    match (match ends a with | true => !(exitsTo id a == 0) | false => !(exitsTo id a == 0) && !(exitsTo id a == 1)) && noDefer a with
    | true => kJ (fun vs h => kn (mix (codeMask a) (msOf (codeMask a) L t) vs 0 t) d h) fun j =>
        kCode P gl call a L ((id, L) :: X) R t d h (fun t' _ h' => j (getMany t' (msOf (codeMask a) L t)) h')
          (fun i t' d' h' => match i == id with | true => j (getMany t' (msOf (codeMask a) L t)) h' | false => kx i t' d' h') kr
    | false => kCode P gl call a L ((id, L) :: X) R t d h kn (fun i t' d' h' => match i == id with | true => kn t' d' h' | false => kx i t' d' h') kr
  | .loop a, _, X, R, t, d, h, _, kx, kr =>
    match noDefer a with
    | true => kLoop (fun next vs h => kCode P gl call a (lv (.loop a) 0 X R) X R (mix (codeMask a) (msOf (codeMask a) (lv (.loop a) 0 X R) t) vs 0 t) d h
          (fun t' _ h' => next (getMany t' (msOf (codeMask a) (lv (.loop a) 0 X R) t)) h') kx kr) rounds (getMany t (msOf (codeMask a) (lv (.loop a) 0 X R) t)) h
    | false => none
  | .exit id, _, _, _, t, d, h, _, kx, _ => kx id t d h
  | .ret, _, _, _, t, d, h, _, _, kr => kr t d h
  | _, _, _, _, _, _, _, _, _, _ => none
end Go.Proofs.Ytbcpmbggidemdaa.AI
