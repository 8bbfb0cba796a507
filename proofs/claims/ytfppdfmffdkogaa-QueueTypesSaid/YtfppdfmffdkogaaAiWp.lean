/- What comes of an answer: stepping by what is wanted. -/
import Derived.Test.YtfppdfmffdkogaaAiSim

namespace Go.Proofs.Ytfppdfmffdkogaa.AI
open Go
set_option linter.unusedSimpArgs false

/-- The answer comes, and is as Q says. -/
def Wp (x : Ans) (Q : AVal → AH → Prop) : Prop := ∃ r h', x = some (r, h') ∧ Q r h'
variable {Q : AVal → AH → Prop}
theorem Wp.ret {r : AVal} {h : AH} (q : Q r h) : Wp (some (r, h)) Q := ⟨r, h, rfl, q⟩
theorem wp_some {r : AVal} {h : AH} : Wp (some (r, h)) Q = Q r h := by
  apply propext
  constructor
  · rintro ⟨_, _, e, q⟩
    simp only [Option.some.injEq, Prod.mk.injEq] at e
    obtain ⟨rfl, rfl⟩ := e
    exact q
  · exact Wp.ret
theorem Wp.mono {Q' : AVal → AH → Prop} {x : Ans} (w : Wp x Q') (m : ∀ r h, Q' r h → Q r h) : Wp x Q := by
  obtain ⟨r, h', e, q⟩ := w
  exact ⟨r, h', e, m _ _ q⟩
theorem Wp.out {x : Ans} (w : Wp x Q) : ∃ r h', x = some (r, h') ∧ Q r h' := w
theorem wp_ite {p : Prop} [Decidable p] {A B : Ans} (a : p → Wp A Q) (b : ¬ p → Wp B Q) : Wp (if p then A else B) Q := by
  split <;> rename_i h
  · exact a h
  · exact b h
theorem wp_kIf {b : Bool} {A B : Ans} (x : b = true → Wp A Q) (y : b = false → Wp B Q) : Wp (kIf (.bool b) A B) Q := by
  cases b
  · exact y rfl
  · exact x rfl

/-! Parts that are joined. -/
/- (In layers: so that the kernel opens them ahead of what they hold.) -/
def kT0 (J : AVal → Ans) (B : (AVal → Ans) → Ans) : Ans := B J
def kT1 (J : AVal → Ans) (B : (AVal → Ans) → Ans) : Ans := kT0 J B
def kT2 (J : AVal → Ans) (B : (AVal → Ans) → Ans) : Ans := kT1 J B
def kT3 (J : AVal → Ans) (B : (AVal → Ans) → Ans) : Ans := kT2 J B
def kT4 (J : AVal → Ans) (B : (AVal → Ans) → Ans) : Ans := kT3 J B
def kT5 (J : AVal → Ans) (B : (AVal → Ans) → Ans) : Ans := kT4 J B
def kT6 (J : AVal → Ans) (B : (AVal → Ans) → Ans) : Ans := kT5 J B
def kT7 (J : AVal → Ans) (B : (AVal → Ans) → Ans) : Ans := kT6 J B
def kT (J : AVal → Ans) (B : (AVal → Ans) → Ans) : Ans := kT7 J B
def kTh0 (J : AVal → AH → Ans) (B : (AVal → AH → Ans) → Ans) : Ans := B J
def kTh1 (J : AVal → AH → Ans) (B : (AVal → AH → Ans) → Ans) : Ans := kTh0 J B
def kTh2 (J : AVal → AH → Ans) (B : (AVal → AH → Ans) → Ans) : Ans := kTh1 J B
def kTh3 (J : AVal → AH → Ans) (B : (AVal → AH → Ans) → Ans) : Ans := kTh2 J B
def kTh4 (J : AVal → AH → Ans) (B : (AVal → AH → Ans) → Ans) : Ans := kTh3 J B
def kTh5 (J : AVal → AH → Ans) (B : (AVal → AH → Ans) → Ans) : Ans := kTh4 J B
def kTh6 (J : AVal → AH → Ans) (B : (AVal → AH → Ans) → Ans) : Ans := kTh5 J B
def kTh7 (J : AVal → AH → Ans) (B : (AVal → AH → Ans) → Ans) : Ans := kTh6 J B
def kTh (J : AVal → AH → Ans) (B : (AVal → AH → Ans) → Ans) : Ans := kTh7 J B
/-! What comes next is kept from simp (an argument's type names it): the same steps under other names. -/
abbrev Tag {α : Type} (_ : α) : Type := Unit
def kq (x : Option AVal) (K : AVal → Ans) (_ : Tag K := ()) : Ans := kQ x K
def km (x : Option APlan) (h : AH) (K : AVal → AH → Ans) (_ : Tag K := ()) : Ans := kM x h K
def ke (x : Option (AVal × AH)) (K : AVal → AH → Ans) (_ : Tag K := ()) : Ans := kE x K
def kgq (g : AVal) (w : Bool) (A : (AVal → Ans) → Ans) (K : AVal → Ans) (_ : Tag K := ()) : Ans := kGq g w A K
def kgh (g : AVal) (w : Bool) (h : AH) (A : (AVal → AH → Ans) → Ans) (K : AVal → AH → Ans) (_ : Tag K := ()) : Ans := kG g w h A K
def kt (J : AVal → Ans) (B : (AVal → Ans) → Ans) (_ : Tag J := ()) (_ : Tag B := ()) : Ans := (fun _ => B J) @kFunc
def kth (J : AVal → AH → Ans) (B : (AVal → AH → Ans) → Ans) (_ : Tag J := ()) (_ : Tag B := ()) : Ans := (fun _ => B J) @kFunc
def kj (J : List AVal → AH → Ans) (B : (List AVal → AH → Ans) → Ans) (_ : Tag J := ()) (_ : Tag B := ()) : Ans := kJ J B
theorem kq_some (v : AVal) (K : AVal → Ans) : kq (some v) K = K v := rfl
theorem km_some (p : APlan) (h : AH) (K : AVal → AH → Ans) : km (some p) h K = K (p.2 h.n) (h.push p.1) := rfl
theorem ke_some (v : AVal) (h : AH) (K : AVal → AH → Ans) : ke (some (v, h)) K = K v h := rfl
theorem kgq_on (b : Bool) (A : (AVal → Ans) → Ans) (K : AVal → Ans) : kgq (.bool b) b A K = A K := kGq_on b A K
theorem kgq_tf (A : (AVal → Ans) → Ans) (K : AVal → Ans) : kgq (.bool true) false A K = K (.tuple []) := rfl
theorem kgq_ft (A : (AVal → Ans) → Ans) (K : AVal → Ans) : kgq (.bool false) true A K = K (.tuple []) := rfl
theorem kgh_on (b : Bool) (h : AH) (A : (AVal → AH → Ans) → Ans) (K : AVal → AH → Ans) : kgh (.bool b) b h A K = A K := kG_on b h A K
theorem kgh_tf (h : AH) (A : (AVal → AH → Ans) → Ans) (K : AVal → AH → Ans) : kgh (.bool true) false h A K = K (.tuple []) h := rfl
theorem kgh_ft (h : AH) (A : (AVal → AH → Ans) → Ans) (K : AVal → AH → Ans) : kgh (.bool false) true h A K = K (.tuple []) h := rfl
theorem kgq_skip (w : Bool) (A : (AVal → Ans) → Ans) (K : AVal → Ans) : kgq (.tuple []) w A K = K (.tuple []) := rfl
theorem kgh_skip (w : Bool) (h : AH) (A : (AVal → AH → Ans) → Ans) (K : AVal → AH → Ans) : kgh (.tuple []) w h A K = K (.tuple []) h := rfl
theorem kj_eq (J : List AVal → AH → Ans) (B : (List AVal → AH → Ans) → Ans) : kj J B = B J := rfl
/-- What an operation, or a call, comes to; and then what comes next. -/
theorem Wp.bind {Q' : AVal → AH → Prop} {x : Ans} {K : AVal → AH → Ans} (w : Wp x Q') (k : ∀ v h, Q' v h → Wp (K v h) Q) : Wp (ke x K) Q := by
  obtain ⟨r, h', rfl, q⟩ := w
  exact k _ _ q
/-- A condition's parts: what it comes to. -/
theorem wp_kT (v : AVal) {J : AVal → Ans} {B : (AVal → Ans) → Ans} (hB : ∀ j : AVal → Ans, Wp (j v) Q → Wp (B j) Q) (hJ : Wp (J v) Q) : Wp (kt J B) Q := hB J hJ
theorem wp_kTp (R : AVal → Prop) {J : AVal → Ans} {B : (AVal → Ans) → Ans} (hB : ∀ j : AVal → Ans, (∀ v, R v → Wp (j v) Q) → Wp (B j) Q) (hJ : ∀ v, R v → Wp (J v) Q) : Wp (kt J B) Q := hB J hJ
theorem wp_kTh (R : AVal → AH → Prop) {J : AVal → AH → Ans} {B : (AVal → AH → Ans) → Ans} (hB : ∀ j : AVal → AH → Ans, (∀ v h, R v h → Wp (j v h) Q) → Wp (B j) Q) (hJ : ∀ v h, R v h → Wp (J v h) Q) : Wp (kth J B) Q := hB J hJ
theorem wp_kJ (R : List AVal → AH → Prop) {J : List AVal → AH → Ans} {B : (List AVal → AH → Ans) → Ans} (hB : ∀ j : List AVal → AH → Ans, (∀ l h, R l h → Wp (j l h) Q) → Wp (B j) Q) (hJ : ∀ l h, R l h → Wp (J l h) Q) : Wp (kj J B) Q := hB J hJ
/-- A loop: what holds at each round's head; a number that falls. -/
theorem wp_loopN {B : (List AVal → AH → Ans) → List AVal → AH → Ans} (I : Nat → List AVal → AH → Prop)
    (step : ∀ m l h (j : List AVal → AH → Ans), I m l h → (∀ m' l' h', m' < m → I m' l' h' → Wp (j l' h') Q) → Wp (B j l h) Q) :
    ∀ (n m : Nat) (l : List AVal) (h : AH), m < n → I m l h → Wp (kLoop B n l h) Q
  | 0, m, l, h, hm, _ => by omega
  | n + 1, m, l, h, hm, i => by
      simp only [kLoop]
      exact step m l h _ i fun m' l' h' hlt i' => wp_loopN I step n m' l' h' (by omega) i'
theorem rounds_big {m : Nat} (h : m < 2 ^ 63) : m < rounds := by unfold rounds; omega
theorem wp_loop {B : (List AVal → AH → Ans) → List AVal → AH → Ans} (I : Nat → List AVal → AH → Prop) (m : Nat) {l : List AVal} {h : AH} (hm : m < 2 ^ 63) (i : I m l h)
    (step : ∀ m l h (j : List AVal → AH → Ans), I m l h → (∀ m' l' h', m' < m → I m' l' h' → Wp (j l' h') Q) → Wp (B j l h) Q) : Wp (kLoop B rounds l h) Q :=
  wp_loopN I step rounds m l h (rounds_big hm) i

/-! What simp looks at: the head alone. -/
@[congr] theorem kq_congr {x y : Option AVal} {K : AVal → Ans} (e : x = y) : kq x K = kq y K := by rw [e]
@[congr] theorem km_congr {x y : Option APlan} {h : AH} {K : AVal → AH → Ans} (e : x = y) : km x h K = km y h K := by rw [e]
@[congr] theorem ke_congr {x y : Option (AVal × AH)} {K : AVal → AH → Ans} (e : x = y) : ke x K = ke y K := by rw [e]
@[congr] theorem kIf_congr {x y : AVal} {A B : Ans} (e : x = y) : kIf x A B = kIf y A B := by rw [e]
@[congr] theorem kgq_congr {x y : AVal} {w : Bool} {A : (AVal → Ans) → Ans} {K : AVal → Ans} (e : x = y) : kgq x w A K = kgq y w A K := by rw [e]
@[congr] theorem kgh_congr {x y : AVal} {w : Bool} {h : AH} {A : (AVal → AH → Ans) → Ans} {K : AVal → AH → Ans} (e : x = y) : kgh x w h A K = kgh y w h A K := by rw [e]
@[congr] theorem kChk_congr {x y : Bool} {A : Ans} (e : x = y) : kChk x A = kChk y A := by rw [e]
@[congr] theorem kLoop_congr {B : (List AVal → AH → Ans) → List AVal → AH → Ans} {n : Nat} {l l' : List AVal} {h : AH} (e : l = l') : kLoop B n l h = kLoop B n l' h := by rw [e]
@[congr] theorem Wp_congr {x y : Ans} (e : x = y) : Wp x Q = Wp y Q := by rw [e]
@[congr] theorem ite_head {p q : Prop} [Decidable p] [Decidable q] {A B : Ans} (e : p = q) : (if p then A else B) = (if q then A else B) := by
  subst e; congr

theorem kGq_not (b : Bool) (A : (AVal → Ans) → Ans) (K : AVal → Ans) : kGq (.bool b) (!b) A K = K (.tuple []) := by cases b <;> rfl
theorem decide_not' (p : Prop) [Decidable p] : (!decide p) = decide (¬ p) := by simp
end Go.Proofs.Ytfppdfmffdkogaa.AI
