/- num.Apply, by its operators. -/
import Derived.Test.YtijdkjngbogegaaNum
namespace Go.Proofs.Ytijdkjngbogegaa.AI
open Go
set_option linter.unusedSimpArgs false
set_option linter.unusedVariables false
variable {ov : AOver} {h : AH}
def I64 (x : Int) : Prop := -9223372036854775808 ≤ x ∧ x < 9223372036854775808
theorem wrapM_I64 (k x : Int) : I64 (wrapM k x) := by have := wrapM_big k x; unfold I64; omega
theorem wrap_I64 (x : Int) : I64 (IntKind.wrap .i64 x) := by rw [IntKind.wrap_i64]; unfold I64; omega
theorem aUn_neg (k : IntKind) (x : Int) : aUn .neg (.int k x) = some (.int k (k.wrap (0 - x))) := rfl
theorem aUn_xor64 (x : Int) : aUn .xor (.int .i64 x) = some (.int .i64 (iXor .i64 (-1) x)) := rfl
theorem ok_of {k : Int} (hk : 1 ≤ k ∧ k ≤ 11) : (kdM k).ok = true := by rw [kdM_ok, decide_eq_true hk]
theorem wp_kq1 {q : Option AVal} {v : AVal} {K : AVal → Ans} {Q : AVal → AH → Prop} (e : q = some v) (w : Wp (K v) Q) : Wp (kq q K) Q := by subst e; exact w
theorem tdivB (k a b : Int) : -4294967296 ≤ (wrapM k a).tdiv (wrapM k b) ∧ (wrapM k a).tdiv (wrapM k b) ≤ 4294967296 := by
  have hA := wrapM_big k a
  have h1 : ((wrapM k a).tdiv (wrapM k b)).natAbs = (wrapM k a).natAbs / (wrapM k b).natAbs := Int.natAbs_tdiv _ _
  have h2 := Nat.div_le_self (wrapM k a).natAbs (wrapM k b).natAbs
  generalize (wrapM k a).natAbs / (wrapM k b).natAbs = z at h1 h2
  omega
theorem tmodB (k a b : Int) : -4294967296 ≤ (wrapM k a).tmod (wrapM k b) ∧ (wrapM k a).tmod (wrapM k b) ≤ 4294967296 := by
  have hA := wrapM_big k a
  have h1 : ((wrapM k a).tmod (wrapM k b)).natAbs = (wrapM k a).natAbs % (wrapM k b).natAbs := Int.natAbs_tmod _ _
  have h2 := Nat.mod_le (wrapM k a).natAbs (wrapM k b).natAbs
  generalize (wrapM k a).natAbs % (wrapM k b).natAbs = z at h1 h2
  omega
/-- What an operator of two numbers comes to. -/
def ApQ (h h' : AH) (r : AVal) (x e : Int) : Prop := Kp h h' ∧ r = .tuple [.int .i64 x, .int .i64 e]
theorem apply_add (H : Plain ov) (n : Nat) (w : Wf h) {k a b : Int} (hk : 1 ≤ k ∧ k ≤ 11) (ha : I64 a) (hb : I64 b) :
    Wp (kc ov (n + 3) N_num_Apply [.int .i64 8, .int .i64 k, .int .i64 a, .int .i64 b] h) fun r h' => ApQ h h' r (wrapM k (wrapM k a + wrapM k b)) (0) := by
  rw [C_num_Apply H]; unfold F_num_Apply
  refine Wp.bind (scalar_spec H n w k) fun v1 h1 ⟨k1, e1⟩ => ?_
  subst e1
  rw [ok_of hk]
  refine Wp.bind (wrap_spec H n k1.w' k a ha) fun v2 h2 ⟨k2, e2⟩ => ?_
  subst e2
  refine Wp.bind (wrap_spec H n k2.w' k b hb) fun v3 h3 ⟨k3, e3⟩ => ?_
  subst e3
  have K3 := (k1.trans k2).trans k3
  have hA := wrapM_big k a
  have hB := wrapM_big k b
  refine Wp.bind (wrap_spec H n k3.w' k (IntKind.wrap .i64 (wrapM k a + wrapM k b)) (wrap_I64 _)) fun v4 h4 ⟨k4, e4⟩ => ?_
  subst e4
  rw [wr_i64 (n := wrapM k a + wrapM k b) (by omega) (by omega)]
  exact Wp.ret ⟨K3.trans k4, rfl⟩
theorem apply_sub (H : Plain ov) (n : Nat) (w : Wf h) {k a b : Int} (hk : 1 ≤ k ∧ k ≤ 11) (ha : I64 a) (hb : I64 b) :
    Wp (kc ov (n + 3) N_num_Apply [.int .i64 9, .int .i64 k, .int .i64 a, .int .i64 b] h) fun r h' => ApQ h h' r (wrapM k (wrapM k a - wrapM k b)) (0) := by
  rw [C_num_Apply H]; unfold F_num_Apply
  refine Wp.bind (scalar_spec H n w k) fun v1 h1 ⟨k1, e1⟩ => ?_
  subst e1
  rw [ok_of hk]
  refine Wp.bind (wrap_spec H n k1.w' k a ha) fun v2 h2 ⟨k2, e2⟩ => ?_
  subst e2
  refine Wp.bind (wrap_spec H n k2.w' k b hb) fun v3 h3 ⟨k3, e3⟩ => ?_
  subst e3
  have K3 := (k1.trans k2).trans k3
  have hA := wrapM_big k a
  have hB := wrapM_big k b
  refine Wp.bind (wrap_spec H n k3.w' k (IntKind.wrap .i64 (wrapM k a + IntKind.wrap .i64 (0 - wrapM k b))) (wrap_I64 _)) fun v4 h4 ⟨k4, e4⟩ => ?_
  subst e4
  rw [wr_i64 (n := 0 - wrapM k b) (by omega) (by omega), wr_i64 (n := wrapM k a + (0 - wrapM k b)) (by omega) (by omega), show wrapM k a + (0 - wrapM k b) = wrapM k a - wrapM k b by omega]
  exact Wp.ret ⟨K3.trans k4, rfl⟩
theorem apply_mul (H : Plain ov) (n : Nat) (w : Wf h) {k a b : Int} (hk : 1 ≤ k ∧ k ≤ 11) (ha : I64 a) (hb : I64 b) :
    Wp (kc ov (n + 3) N_num_Apply [.int .i64 5, .int .i64 k, .int .i64 a, .int .i64 b] h) fun r h' => ApQ h h' r (wrapM k (IntKind.wrap .i64 (wrapM k a * wrapM k b))) (0) := by
  rw [C_num_Apply H]; unfold F_num_Apply
  refine Wp.bind (scalar_spec H n w k) fun v1 h1 ⟨k1, e1⟩ => ?_
  subst e1
  rw [ok_of hk]
  refine Wp.bind (wrap_spec H n k1.w' k a ha) fun v2 h2 ⟨k2, e2⟩ => ?_
  subst e2
  refine Wp.bind (wrap_spec H n k2.w' k b hb) fun v3 h3 ⟨k3, e3⟩ => ?_
  subst e3
  have K3 := (k1.trans k2).trans k3
  have hA := wrapM_big k a
  have hB := wrapM_big k b
  refine Wp.bind (wrap_spec H n k3.w' k (IntKind.wrap .i64 (wrapM k a * wrapM k b)) (wrap_I64 _)) fun v4 h4 ⟨k4, e4⟩ => ?_
  subst e4
  skip
  exact Wp.ret ⟨K3.trans k4, rfl⟩
theorem apply_and (H : Plain ov) (n : Nat) (w : Wf h) {k a b : Int} (hk : 1 ≤ k ∧ k ≤ 11) (ha : I64 a) (hb : I64 b) :
    Wp (kc ov (n + 3) N_num_Apply [.int .i64 16, .int .i64 k, .int .i64 a, .int .i64 b] h) fun r h' => ApQ h h' r (wrapM k (iAnd .i64 (wrapM k a) (wrapM k b))) (0) := by
  rw [C_num_Apply H]; unfold F_num_Apply
  refine Wp.bind (scalar_spec H n w k) fun v1 h1 ⟨k1, e1⟩ => ?_
  subst e1
  rw [ok_of hk]
  refine Wp.bind (wrap_spec H n k1.w' k a ha) fun v2 h2 ⟨k2, e2⟩ => ?_
  subst e2
  refine Wp.bind (wrap_spec H n k2.w' k b hb) fun v3 h3 ⟨k3, e3⟩ => ?_
  subst e3
  have K3 := (k1.trans k2).trans k3
  have hA := wrapM_big k a
  have hB := wrapM_big k b
  refine Wp.bind (wrap_spec H n k3.w' k (iAnd .i64 (wrapM k a) (wrapM k b)) (wrap_I64 _)) fun v4 h4 ⟨k4, e4⟩ => ?_
  subst e4
  skip
  exact Wp.ret ⟨K3.trans k4, rfl⟩
theorem apply_or (H : Plain ov) (n : Nat) (w : Wf h) {k a b : Int} (hk : 1 ≤ k ∧ k ≤ 11) (ha : I64 a) (hb : I64 b) :
    Wp (kc ov (n + 3) N_num_Apply [.int .i64 18, .int .i64 k, .int .i64 a, .int .i64 b] h) fun r h' => ApQ h h' r (wrapM k (iOr .i64 (wrapM k a) (wrapM k b))) (0) := by
  rw [C_num_Apply H]; unfold F_num_Apply
  refine Wp.bind (scalar_spec H n w k) fun v1 h1 ⟨k1, e1⟩ => ?_
  subst e1
  rw [ok_of hk]
  refine Wp.bind (wrap_spec H n k1.w' k a ha) fun v2 h2 ⟨k2, e2⟩ => ?_
  subst e2
  refine Wp.bind (wrap_spec H n k2.w' k b hb) fun v3 h3 ⟨k3, e3⟩ => ?_
  subst e3
  have K3 := (k1.trans k2).trans k3
  have hA := wrapM_big k a
  have hB := wrapM_big k b
  refine Wp.bind (wrap_spec H n k3.w' k (iOr .i64 (wrapM k a) (wrapM k b)) (wrap_I64 _)) fun v4 h4 ⟨k4, e4⟩ => ?_
  subst e4
  skip
  exact Wp.ret ⟨K3.trans k4, rfl⟩
theorem apply_xor (H : Plain ov) (n : Nat) (w : Wf h) {k a b : Int} (hk : 1 ≤ k ∧ k ≤ 11) (ha : I64 a) (hb : I64 b) :
    Wp (kc ov (n + 3) N_num_Apply [.int .i64 17, .int .i64 k, .int .i64 a, .int .i64 b] h) fun r h' => ApQ h h' r (wrapM k (iXor .i64 (wrapM k a) (wrapM k b))) (0) := by
  rw [C_num_Apply H]; unfold F_num_Apply
  refine Wp.bind (scalar_spec H n w k) fun v1 h1 ⟨k1, e1⟩ => ?_
  subst e1
  rw [ok_of hk]
  refine Wp.bind (wrap_spec H n k1.w' k a ha) fun v2 h2 ⟨k2, e2⟩ => ?_
  subst e2
  refine Wp.bind (wrap_spec H n k2.w' k b hb) fun v3 h3 ⟨k3, e3⟩ => ?_
  subst e3
  have K3 := (k1.trans k2).trans k3
  have hA := wrapM_big k a
  have hB := wrapM_big k b
  refine Wp.bind (wrap_spec H n k3.w' k (iXor .i64 (wrapM k a) (wrapM k b)) (wrap_I64 _)) fun v4 h4 ⟨k4, e4⟩ => ?_
  subst e4
  skip
  exact Wp.ret ⟨K3.trans k4, rfl⟩
theorem apply_div (H : Plain ov) (n : Nat) (w : Wf h) {k a b : Int} (hk : 1 ≤ k ∧ k ≤ 11) (ha : I64 a) (hb : I64 b) :
    Wp (kc ov (n + 3) N_num_Apply [.int .i64 6, .int .i64 k, .int .i64 a, .int .i64 b] h) fun r h' => ApQ h h' r (if wrapM k b = 0 then 0 else wrapM k ((wrapM k a).tdiv (wrapM k b))) (if wrapM k b = 0 then 1 else 0) := by
  rw [C_num_Apply H]; unfold F_num_Apply
  refine Wp.bind (scalar_spec H n w k) fun v1 h1 ⟨k1, e1⟩ => ?_
  subst e1
  rw [ok_of hk]
  refine Wp.bind (wrap_spec H n k1.w' k a ha) fun v2 h2 ⟨k2, e2⟩ => ?_
  subst e2
  refine Wp.bind (wrap_spec H n k2.w' k b hb) fun v3 h3 ⟨k3, e3⟩ => ?_
  subst e3
  have K3 := (k1.trans k2).trans k3
  have hA := wrapM_big k a
  have hB := wrapM_big k b
  refine wp_kIf (b := decide (wrapM k b = 0)) (fun c => ?_) (fun c => ?_)
  · have c := of_decide_eq_true c
    rw [if_pos c, if_pos c]
    exact Wp.ret ⟨K3, rfl⟩
  · have c := of_decide_eq_false c
    have hq := tdivB k a b
    have hv := rBin_quo .no false .i64 (wrapM k a) (wrapM k b) c
    rw [wr_i64 (n := (wrapM k a).tdiv (wrapM k b)) (by omega) (by omega)] at hv
    refine wp_kq1 rfl (wp_kq1 rfl (wp_kq1 hv ?_))
    refine Wp.bind (wrap_spec H n k3.w' k ((wrapM k a).tdiv (wrapM k b)) (by omega)) fun v4 h4 ⟨k4, e4⟩ => ?_
    subst e4
    rw [if_neg c, if_neg c]
    exact Wp.ret ⟨K3.trans k4, rfl⟩
theorem apply_mod (H : Plain ov) (n : Nat) (w : Wf h) {k a b : Int} (hk : 1 ≤ k ∧ k ≤ 11) (ha : I64 a) (hb : I64 b) :
    Wp (kc ov (n + 3) N_num_Apply [.int .i64 7, .int .i64 k, .int .i64 a, .int .i64 b] h) fun r h' => ApQ h h' r (if wrapM k b = 0 then 0 else wrapM k ((wrapM k a).tmod (wrapM k b))) (if wrapM k b = 0 then 1 else 0) := by
  rw [C_num_Apply H]; unfold F_num_Apply
  refine Wp.bind (scalar_spec H n w k) fun v1 h1 ⟨k1, e1⟩ => ?_
  subst e1
  rw [ok_of hk]
  refine Wp.bind (wrap_spec H n k1.w' k a ha) fun v2 h2 ⟨k2, e2⟩ => ?_
  subst e2
  refine Wp.bind (wrap_spec H n k2.w' k b hb) fun v3 h3 ⟨k3, e3⟩ => ?_
  subst e3
  have K3 := (k1.trans k2).trans k3
  have hA := wrapM_big k a
  have hB := wrapM_big k b
  refine wp_kIf (b := decide (wrapM k b = 0)) (fun c => ?_) (fun c => ?_)
  · have c := of_decide_eq_true c
    rw [if_pos c, if_pos c]
    exact Wp.ret ⟨K3, rfl⟩
  · have c := of_decide_eq_false c
    have hq := tdivB k a b
    have hq2 := tmodB k a b
    have hv := rBin_quo .no false .i64 (wrapM k a) (wrapM k b) c
    rw [wr_i64 (n := (wrapM k a).tdiv (wrapM k b)) (by omega) (by omega)] at hv
    have hr := rBin_rem .no false .i64 (wrapM k a) (wrapM k b) c
    refine wp_kq1 rfl (wp_kq1 rfl (wp_kq1 hv ?_))
    refine wp_kq1 rfl (wp_kq1 rfl (wp_kq1 rfl ?_))
    refine wp_kJ (fun l h => l = [.int .i64 ((wrapM k a).tmod (wrapM k b))] ∧ h = h3) (fun j hj => ?_) ?_
    · refine wp_kIf (b := ((7 : Int) == 7)) (fun _ => ?_) (fun hf => by cases hf)
      refine wp_kq1 rfl (wp_kq1 rfl (wp_kq1 hr ?_))
      exact hj _ _ ⟨rfl, rfl⟩
    · rintro l h ⟨rfl, rfl⟩
      refine Wp.bind (wrap_spec H n k3.w' k ((wrapM k a).tmod (wrapM k b)) (by omega)) fun v4 h4 ⟨k4, e4⟩ => ?_
      subst e4
      rw [if_neg c, if_neg c]
      exact Wp.ret ⟨K3.trans k4, rfl⟩
def trM (b : Bool) : Int := if b then 1 else 0
def CmQ (h h' : AH) (r : AVal) (b : Bool) : Prop := h' = h ∧ r = .int .i64 (trM b)
theorem cmp_ge (H : Plain ov) (n : Nat) (a b : Int) : Wp (kc ov (n + 2) N_num_compare [.int .i64 13, .int .i64 a, .int .i64 b] h) fun r h' => CmQ h h' r (!decide (a < b)) := by
  rw [C_num_compare H]; unfold F_num_compare
  refine Wp.bind (Q' := fun r h' => h' = h ∧ r = .int .i64 (trM (!(decide (a < b) == true)))) ⟨_, _, truth_spec H n (!(decide (a < b) == true)), rfl, rfl⟩ fun v h1 ⟨e1, e2⟩ => ?_
  subst e1 e2
  rw [show (!(decide (a < b) == true)) = (!decide (a < b)) by cases decide (a < b) <;> rfl]
  exact Wp.ret ⟨rfl, rfl⟩
theorem apply_ge (H : Plain ov) (n : Nat) (w : Wf h) {k a b : Int} (hk : 1 ≤ k ∧ k ≤ 11) (ha : I64 a) (hb : I64 b) :
    Wp (kc ov (n + 3) N_num_Apply [.int .i64 13, .int .i64 k, .int .i64 a, .int .i64 b] h) fun r h' => ApQ h h' r (trM (!decide (wrapM k a < wrapM k b))) 0 := by
  rw [C_num_Apply H]; unfold F_num_Apply
  refine Wp.bind (scalar_spec H n w k) fun v1 h1 ⟨k1, e1⟩ => ?_
  subst e1
  rw [ok_of hk]
  refine Wp.bind (wrap_spec H n k1.w' k a ha) fun v2 h2 ⟨k2, e2⟩ => ?_
  subst e2
  refine Wp.bind (wrap_spec H n k2.w' k b hb) fun v3 h3 ⟨k3, e3⟩ => ?_
  subst e3
  have K3 := (k1.trans k2).trans k3
  refine Wp.bind (cmp_ge H n (wrapM k a) (wrapM k b)) fun v4 h4 ⟨e4, e5⟩ => ?_
  subst e4 e5
  exact Wp.ret ⟨K3, rfl⟩
theorem cmp_lt (H : Plain ov) (n : Nat) (a b : Int) : Wp (kc ov (n + 2) N_num_compare [.int .i64 10, .int .i64 a, .int .i64 b] h) fun r h' => CmQ h h' r (decide (a < b)) := by
  rw [C_num_compare H]; unfold F_num_compare
  refine Wp.bind (Q' := fun r h' => h' = h ∧ r = .int .i64 (trM (!(decide (a < b) == false)))) ⟨_, _, truth_spec H n (!(decide (a < b) == false)), rfl, rfl⟩ fun v h1 ⟨e1, e2⟩ => ?_
  subst e1 e2
  rw [show (!(decide (a < b) == false)) = (decide (a < b)) by cases decide (a < b) <;> rfl]
  exact Wp.ret ⟨rfl, rfl⟩
theorem apply_lt (H : Plain ov) (n : Nat) (w : Wf h) {k a b : Int} (hk : 1 ≤ k ∧ k ≤ 11) (ha : I64 a) (hb : I64 b) :
    Wp (kc ov (n + 3) N_num_Apply [.int .i64 10, .int .i64 k, .int .i64 a, .int .i64 b] h) fun r h' => ApQ h h' r (trM (decide (wrapM k a < wrapM k b))) 0 := by
  rw [C_num_Apply H]; unfold F_num_Apply
  refine Wp.bind (scalar_spec H n w k) fun v1 h1 ⟨k1, e1⟩ => ?_
  subst e1
  rw [ok_of hk]
  refine Wp.bind (wrap_spec H n k1.w' k a ha) fun v2 h2 ⟨k2, e2⟩ => ?_
  subst e2
  refine Wp.bind (wrap_spec H n k2.w' k b hb) fun v3 h3 ⟨k3, e3⟩ => ?_
  subst e3
  have K3 := (k1.trans k2).trans k3
  refine Wp.bind (cmp_lt H n (wrapM k a) (wrapM k b)) fun v4 h4 ⟨e4, e5⟩ => ?_
  subst e4 e5
  exact Wp.ret ⟨K3, rfl⟩
theorem cmp_le (H : Plain ov) (n : Nat) (a b : Int) : Wp (kc ov (n + 2) N_num_compare [.int .i64 12, .int .i64 a, .int .i64 b] h) fun r h' => CmQ h h' r (!decide (b < a)) := by
  rw [C_num_compare H]; unfold F_num_compare
  refine Wp.bind (Q' := fun r h' => h' = h ∧ r = .int .i64 (trM (!(decide (a > b) == true)))) ⟨_, _, truth_spec H n (!(decide (a > b) == true)), rfl, rfl⟩ fun v h1 ⟨e1, e2⟩ => ?_
  subst e1 e2
  rw [show (!(decide (a > b) == true)) = (!decide (b < a)) by cases decide (b < a) <;> rfl]
  exact Wp.ret ⟨rfl, rfl⟩
theorem apply_le (H : Plain ov) (n : Nat) (w : Wf h) {k a b : Int} (hk : 1 ≤ k ∧ k ≤ 11) (ha : I64 a) (hb : I64 b) :
    Wp (kc ov (n + 3) N_num_Apply [.int .i64 12, .int .i64 k, .int .i64 a, .int .i64 b] h) fun r h' => ApQ h h' r (trM (!decide (wrapM k b < wrapM k a))) 0 := by
  rw [C_num_Apply H]; unfold F_num_Apply
  refine Wp.bind (scalar_spec H n w k) fun v1 h1 ⟨k1, e1⟩ => ?_
  subst e1
  rw [ok_of hk]
  refine Wp.bind (wrap_spec H n k1.w' k a ha) fun v2 h2 ⟨k2, e2⟩ => ?_
  subst e2
  refine Wp.bind (wrap_spec H n k2.w' k b hb) fun v3 h3 ⟨k3, e3⟩ => ?_
  subst e3
  have K3 := (k1.trans k2).trans k3
  refine Wp.bind (cmp_le H n (wrapM k a) (wrapM k b)) fun v4 h4 ⟨e4, e5⟩ => ?_
  subst e4 e5
  exact Wp.ret ⟨K3, rfl⟩
theorem cmp_gt (H : Plain ov) (n : Nat) (a b : Int) : Wp (kc ov (n + 2) N_num_compare [.int .i64 11, .int .i64 a, .int .i64 b] h) fun r h' => CmQ h h' r (decide (b < a)) := by
  rw [C_num_compare H]; unfold F_num_compare
  refine Wp.bind (Q' := fun r h' => h' = h ∧ r = .int .i64 (trM (!(decide (a > b) == false)))) ⟨_, _, truth_spec H n (!(decide (a > b) == false)), rfl, rfl⟩ fun v h1 ⟨e1, e2⟩ => ?_
  subst e1 e2
  rw [show (!(decide (a > b) == false)) = (decide (b < a)) by cases decide (b < a) <;> rfl]
  exact Wp.ret ⟨rfl, rfl⟩
theorem apply_gt (H : Plain ov) (n : Nat) (w : Wf h) {k a b : Int} (hk : 1 ≤ k ∧ k ≤ 11) (ha : I64 a) (hb : I64 b) :
    Wp (kc ov (n + 3) N_num_Apply [.int .i64 11, .int .i64 k, .int .i64 a, .int .i64 b] h) fun r h' => ApQ h h' r (trM (decide (wrapM k b < wrapM k a))) 0 := by
  rw [C_num_Apply H]; unfold F_num_Apply
  refine Wp.bind (scalar_spec H n w k) fun v1 h1 ⟨k1, e1⟩ => ?_
  subst e1
  rw [ok_of hk]
  refine Wp.bind (wrap_spec H n k1.w' k a ha) fun v2 h2 ⟨k2, e2⟩ => ?_
  subst e2
  refine Wp.bind (wrap_spec H n k2.w' k b hb) fun v3 h3 ⟨k3, e3⟩ => ?_
  subst e3
  have K3 := (k1.trans k2).trans k3
  refine Wp.bind (cmp_gt H n (wrapM k a) (wrapM k b)) fun v4 h4 ⟨e4, e5⟩ => ?_
  subst e4 e5
  exact Wp.ret ⟨K3, rfl⟩
theorem cmp_ne (H : Plain ov) (n : Nat) (a b : Int) : Wp (kc ov (n + 2) N_num_compare [.int .i64 15, .int .i64 a, .int .i64 b] h) fun r h' => CmQ h h' r (!decide (a = b)) := by
  rw [C_num_compare H]; unfold F_num_compare
  refine Wp.bind (Q' := fun r h' => h' = h ∧ r = .int .i64 (trM (!(decide (a = b) == true)))) ⟨_, _, truth_spec H n (!(decide (a = b) == true)), rfl, rfl⟩ fun v h1 ⟨e1, e2⟩ => ?_
  subst e1 e2
  rw [show (!(decide (a = b) == true)) = (!decide (a = b)) by cases decide (a = b) <;> rfl]
  exact Wp.ret ⟨rfl, rfl⟩
theorem apply_ne (H : Plain ov) (n : Nat) (w : Wf h) {k a b : Int} (hk : 1 ≤ k ∧ k ≤ 11) (ha : I64 a) (hb : I64 b) :
    Wp (kc ov (n + 3) N_num_Apply [.int .i64 15, .int .i64 k, .int .i64 a, .int .i64 b] h) fun r h' => ApQ h h' r (trM (!decide (wrapM k a = wrapM k b))) 0 := by
  rw [C_num_Apply H]; unfold F_num_Apply
  refine Wp.bind (scalar_spec H n w k) fun v1 h1 ⟨k1, e1⟩ => ?_
  subst e1
  rw [ok_of hk]
  refine Wp.bind (wrap_spec H n k1.w' k a ha) fun v2 h2 ⟨k2, e2⟩ => ?_
  subst e2
  refine Wp.bind (wrap_spec H n k2.w' k b hb) fun v3 h3 ⟨k3, e3⟩ => ?_
  subst e3
  have K3 := (k1.trans k2).trans k3
  refine Wp.bind (cmp_ne H n (wrapM k a) (wrapM k b)) fun v4 h4 ⟨e4, e5⟩ => ?_
  subst e4 e5
  exact Wp.ret ⟨K3, rfl⟩
theorem cmp_eq (H : Plain ov) (n : Nat) (a b : Int) : Wp (kc ov (n + 2) N_num_compare [.int .i64 14, .int .i64 a, .int .i64 b] h) fun r h' => CmQ h h' r (decide (a = b)) := by
  rw [C_num_compare H]; unfold F_num_compare
  refine Wp.bind (Q' := fun r h' => h' = h ∧ r = .int .i64 (trM (!(decide (a = b) == false)))) ⟨_, _, truth_spec H n (!(decide (a = b) == false)), rfl, rfl⟩ fun v h1 ⟨e1, e2⟩ => ?_
  subst e1 e2
  rw [show (!(decide (a = b) == false)) = (decide (a = b)) by cases decide (a = b) <;> rfl]
  exact Wp.ret ⟨rfl, rfl⟩
theorem apply_eq (H : Plain ov) (n : Nat) (w : Wf h) {k a b : Int} (hk : 1 ≤ k ∧ k ≤ 11) (ha : I64 a) (hb : I64 b) :
    Wp (kc ov (n + 3) N_num_Apply [.int .i64 14, .int .i64 k, .int .i64 a, .int .i64 b] h) fun r h' => ApQ h h' r (trM (decide (wrapM k a = wrapM k b))) 0 := by
  rw [C_num_Apply H]; unfold F_num_Apply
  refine Wp.bind (scalar_spec H n w k) fun v1 h1 ⟨k1, e1⟩ => ?_
  subst e1
  rw [ok_of hk]
  refine Wp.bind (wrap_spec H n k1.w' k a ha) fun v2 h2 ⟨k2, e2⟩ => ?_
  subst e2
  refine Wp.bind (wrap_spec H n k2.w' k b hb) fun v3 h3 ⟨k3, e3⟩ => ?_
  subst e3
  have K3 := (k1.trans k2).trans k3
  refine Wp.bind (cmp_eq H n (wrapM k a) (wrapM k b)) fun v4 h4 ⟨e4, e5⟩ => ?_
  subst e4 e5
  exact Wp.ret ⟨K3, rfl⟩
theorem neg_spec (H : Plain ov) (n : Nat) (w : Wf h) {k a : Int} (ha : I64 a) : Wp (kc ov (n + 3) N_num_Neg [.int .i64 k, .int .i64 a] h) fun r h' => Kp h h' ∧ r = .int .i64 (wrapM k (-wrapM k a)) := by
  rw [C_num_Neg H]; unfold F_num_Neg
  (try simp -dsimp (disch := omega) only [↓pre, sp, sp2, wp_some, Int.cast_ofNat_Int, Nat.reduceAdd, Nat.reduceMul, Nat.reduceSub, Nat.reduceLeDiff, Nat.reduceEqDiff, Nat.reducePow, Int.reduceToNat, Int.reducePow, Int.reduceAdd, Int.reduceSub, Int.reduceMul, Int.reduceLT, Int.reduceLE, Int.reduceEq, Int.reduceNeg])
  refine Wp.bind (wrap_spec H n w k a ha) fun v1 h1 ⟨k1, e1⟩ => ?_
  subst e1
  have hA := wrapM_big k a
  have e0 : IntKind.wrap .i64 (0 - wrapM k a) = -wrapM k a := by rw [wr_i64 (by omega) (by omega)]; omega
  have e00 : 0 - wrapM k a = -wrapM k a := by omega
  (try simp -dsimp (disch := omega) only [↓pre, sp, sp2, wp_some, Int.cast_ofNat_Int, Nat.reduceAdd, Nat.reduceMul, Nat.reduceSub, Nat.reduceLeDiff, Nat.reduceEqDiff, Nat.reducePow, Int.reduceToNat, Int.reducePow, Int.reduceAdd, Int.reduceSub, Int.reduceMul, Int.reduceLT, Int.reduceLE, Int.reduceEq, Int.reduceNeg, aUn_neg, e0, e00])
  refine Wp.bind (wrap_spec H n k1.w' k _ (by omega)) fun v2 h2 ⟨k2, e2⟩ => ?_
  subst e2
  (try simp -dsimp (disch := omega) only [↓pre, sp, sp2, wp_some, Int.cast_ofNat_Int, Nat.reduceAdd, Nat.reduceMul, Nat.reduceSub, Nat.reduceLeDiff, Nat.reduceEqDiff, Nat.reducePow, Int.reduceToNat, Int.reducePow, Int.reduceAdd, Int.reduceSub, Int.reduceMul, Int.reduceLT, Int.reduceLE, Int.reduceEq, Int.reduceNeg])
  exact k1.trans k2
theorem not_spec (H : Plain ov) (n : Nat) (w : Wf h) {k a : Int} (ha : I64 a) : Wp (kc ov (n + 3) N_num_Not [.int .i64 k, .int .i64 a] h) fun r h' => Kp h h' ∧ r = .int .i64 (if k = 1 then (if a = 0 then 1 else 0) else wrapM k (iXor .i64 (-1) a)) := by
  rw [C_num_Not H]; unfold F_num_Not
  have ht := fun b => truth_spec (h := h) H (n + 1) b
  (try simp -dsimp (disch := omega) only [↓pre, sp, sp2, wp_some, Int.cast_ofNat_Int, Nat.reduceAdd, Nat.reduceMul, Nat.reduceSub, Nat.reduceLeDiff, Nat.reduceEqDiff, Nat.reducePow, Int.reduceToNat, Int.reducePow, Int.reduceAdd, Int.reduceSub, Int.reduceMul, Int.reduceLT, Int.reduceLE, Int.reduceEq, Int.reduceNeg])
  refine wp_ite (fun c => ?_) (fun c => ?_)
  · (try simp -dsimp (disch := omega) only [↓pre, sp, sp2, wp_some, Int.cast_ofNat_Int, Nat.reduceAdd, Nat.reduceMul, Nat.reduceSub, Nat.reduceLeDiff, Nat.reduceEqDiff, Nat.reducePow, Int.reduceToNat, Int.reducePow, Int.reduceAdd, Int.reduceSub, Int.reduceMul, Int.reduceLT, Int.reduceLE, Int.reduceEq, Int.reduceNeg, ht])
    rw [if_pos c]
    exact ⟨Ke.refl w, by by_cases c2 : a = 0 <;> simp [c2]⟩
  · (try simp -dsimp (disch := omega) only [↓pre, sp, sp2, wp_some, Int.cast_ofNat_Int, Nat.reduceAdd, Nat.reduceMul, Nat.reduceSub, Nat.reduceLeDiff, Nat.reduceEqDiff, Nat.reducePow, Int.reduceToNat, Int.reducePow, Int.reduceAdd, Int.reduceSub, Int.reduceMul, Int.reduceLT, Int.reduceLE, Int.reduceEq, Int.reduceNeg, aUn_xor64])
    refine Wp.bind (wrap_spec H n w k _ (by unfold iXor; exact wrap_I64 _)) fun v2 h2 ⟨k2, e2⟩ => ?_
    subst e2
    (try simp -dsimp (disch := omega) only [↓pre, sp, sp2, wp_some, Int.cast_ofNat_Int, Nat.reduceAdd, Nat.reduceMul, Nat.reduceSub, Nat.reduceLeDiff, Nat.reduceEqDiff, Nat.reducePow, Int.reduceToNat, Int.reducePow, Int.reduceAdd, Int.reduceSub, Int.reduceMul, Int.reduceLT, Int.reduceLE, Int.reduceEq, Int.reduceNeg])
    rw [if_neg c]
    exact ⟨k2, rfl⟩
end Go.Proofs.Ytijdkjngbogegaa.AI
