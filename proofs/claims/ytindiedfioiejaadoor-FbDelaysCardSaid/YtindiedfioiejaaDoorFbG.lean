/- Chapter 17: a block's numbers stay in their range. -/
import Derived.Test.YtindiedfioiejaaDoorShift1
import Derived.Test.YtindiedfioiejaaDoorAiFbLaw
namespace Go.Proofs.YtindiedfioiejaaDoor.AI
open Go
set_option linter.unusedSimpArgs false
set_option linter.unusedVariables false
/-- All numbers of a state fit. -/
structure Gd (s : Stt) : Prop where
  f : ∀ n, I64 (s.f n)
  k0 : I64 s.k0
  k1 : I64 s.k1
  k2 : I64 s.k2
  now : I64 s.now
instance (x : Int) : Decidable (I64 x) := inferInstanceAs (Decidable (_ ∧ _))
theorem tr_I (b : Bool) : I64 (tr b) := by cases b <;> (simp only [tr]; decide)
theorem c_I {x : Int} (h : -9223372036854775808 ≤ x ∧ x < 9223372036854775808) : I64 x := h
variable {s : Stt}
theorem Gd.put (g : Gd s) (n : Nm) {x : Int} (hx : I64 x) : Gd (s.put n x) := ⟨fun m => by
  simp only [Stt.put, upd]
  by_cases c : m = n
  · rw [if_pos c]; exact hx
  · rw [if_neg c]; exact g.f m, g.k0, g.k1, g.k2, g.now⟩
theorem Gd.set (g : Gd s) (n : Nm) (b : Bool) : Gd (s.set n b) := g.put n (tr_I b)
theorem Gd.keep (g : Gd s) (i : Nat) {x : Int} (hx : I64 x) : Gd (s.keep i x) := by
  unfold Stt.keep
  split
  · exact ⟨g.f, hx, g.k1, g.k2, g.now⟩
  · split
    · exact ⟨g.f, g.k0, hx, g.k2, g.now⟩
    · exact ⟨g.f, g.k0, g.k1, hx, g.now⟩
theorem Gd.risen (g : Gd s) (n : Nm) (i : Nat) : Gd (s.risen n i) := g.keep i (tr_I _)
theorem Gd.pt (g : Gd s) : I64 s.pt := by
  have := g.f pPT
  unfold I64 at this ⊢; unfold Stt.pt; omega
theorem Stt.since_I (s : Stt) : I64 s.since := by
  have := sinceM_range s.now s.k1
  unfold I64 Stt.since; omega
theorem Gd.elapsed (g : Gd s) : I64 s.elapsed := by
  have h1 := g.pt
  have h2 := s.since_I
  unfold I64 at *; unfold Stt.elapsed; omega
theorem Gd.iff {a b : Stt} {c : Prop} [Decidable c] (ga : Gd a) (gb : Gd b) : Gd (if c then a else b) := by split <;> assumption
theorem gd_edge (g : Gd s) (fl : Bool) : Gd (edgeM fl s) := (g.set _ _).keep _ (tr_I _)
theorem gd_latch (g : Gd s) (a : Bool) : Gd (latchM a s) := by unfold latchM; split <;> exact g.set _ _
theorem gd_ton (g : Gd s) : Gd (tonM s) := by
  unfold tonM
  have g2 : Gd (if s.rises pIN 0 then ((s.risen pIN 0).keep 1 s.now).keep 2 0 else s.risen pIN 0) := Gd.iff (((g.risen _ _).keep _ g.now).keep _ (tr_I false)) (g.risen _ _)
  simp only
  generalize (if s.rises pIN 0 then ((s.risen pIN 0).keep 1 s.now).keep 2 0 else s.risen pIN 0) = s2 at *
  refine Gd.iff (Gd.iff ((g2.put _ g2.pt).put _ (tr_I true)) ?_) (((g2.put _ (tr_I false)).put _ (tr_I false)).keep _ (tr_I false))
  have g4 := (g2.put pET g2.elapsed).set pQ (decide (s2.elapsed ≥ s2.pt))
  exact g4.keep _ (g4.f _)
theorem gd_tof (g : Gd s) : Gd (tofM s) := by
  unfold tofM
  have g1 : Gd (s.keep 0 (tr (s.is pIN))) := g.keep _ (tr_I _)
  simp only
  refine Gd.iff (((g1.put _ (tr_I true)).put _ (tr_I false)).keep _ (tr_I false)) ?_
  have g2 : Gd (if s.k0 ≠ 0 then ((s.keep 0 (tr (s.is pIN))).keep 1 s.now).keep 2 1 else s.keep 0 (tr (s.is pIN))) := Gd.iff ((g1.keep _ g.now).keep _ (tr_I true)) g1
  generalize (if s.k0 ≠ 0 then ((s.keep 0 (tr (s.is pIN))).keep 1 s.now).keep 2 1 else s.keep 0 (tr (s.is pIN))) = s2 at *
  refine Gd.iff (g2.put _ (tr_I false)) ?_
  have g3 := (g2.put pET g2.elapsed).set pQ (decide (s2.elapsed < s2.pt))
  exact Gd.iff g3 (g3.keep _ (tr_I false))
theorem gd_tp (g : Gd s) : Gd (tpM s) := by
  unfold tpM
  have g1 := g.risen pIN 0
  simp only
  have g2 : Gd (if s.k2 ≠ 1 ∧ s.rises pIN 0 = true then ((s.risen pIN 0).keep 1 s.now).keep 2 1 else s.risen pIN 0) := Gd.iff ((g1.keep _ g.now).keep _ (tr_I true)) g1
  generalize (if s.k2 ≠ 1 ∧ s.rises pIN 0 = true then ((s.risen pIN 0).keep 1 s.now).keep 2 1 else s.risen pIN 0) = s2 at *
  have g3' := (g2.put pET g2.elapsed).set pQ (decide (s2.elapsed < s2.pt))
  have g3 : Gd (if s2.k2 = 1 then (if s2.elapsed < s2.pt then (s2.put pET s2.elapsed).set pQ (decide (s2.elapsed < s2.pt)) else ((s2.put pET s2.elapsed).set pQ (decide (s2.elapsed < s2.pt))).keep 2 2) else s2.put pQ 0) :=
    Gd.iff (Gd.iff g3' (g3'.keep _ (by decide))) (g2.put _ (tr_I false))
  generalize (if s2.k2 = 1 then (if s2.elapsed < s2.pt then (s2.put pET s2.elapsed).set pQ (decide (s2.elapsed < s2.pt)) else ((s2.put pET s2.elapsed).set pQ (decide (s2.elapsed < s2.pt))).keep 2 2) else s2.put pQ 0) = s3 at *
  exact Gd.iff ((g3.put _ (tr_I false)).keep _ (tr_I false)) g3
theorem gd_count (g : Gd s) (up down reset load : Nm) : Gd (countM up down reset load s) := by
  unfold countM
  simp only
  have g1 : Gd (if up = [] then s else s.risen up 0) := Gd.iff g (g.risen _ _)
  generalize (if up = [] then s else s.risen up 0) = s1 at *
  generalize (decide (¬ up = []) && s.rises up 0) = u
  have g2 : Gd (if down = [] then s1 else s1.risen down (if up = [] then 0 else 1)) := Gd.iff g1 (g1.risen _ _)
  generalize (if down = [] then s1 else s1.risen down (if up = [] then 0 else 1)) = s2 at *
  generalize (decide (¬ down = []) && s1.rises down (if up = [] then 0 else 1)) = d
  have hm : I64 (if s2.is reset then 0 else if s2.is load then s2.f pPV else if u && !d then min (IntKind.wrap .i64 (s.f pCV + 1)) 32767 else if d && !u then max (IntKind.wrap .i64 (s.f pCV - 1)) (-32768) else s.f pCV) := by
    have w1 := wrap_I64 (s.f pCV + 1)
    have w2 := wrap_I64 (s.f pCV - 1)
    have w3 := g.f pCV
    have w4 := g2.f pPV
    unfold I64 at *
    repeat' split
    all_goals omega
  generalize (if s2.is reset then 0 else if s2.is load then s2.f pPV else if u && !d then min (IntKind.wrap .i64 (s.f pCV + 1)) 32767 else if d && !u then max (IntKind.wrap .i64 (s.f pCV - 1)) (-32768) else s.f pCV) = m at *
  have g3 := g2.put pCV hm
  generalize s2.put pCV m = s3 at *
  have g4 : Gd (if up = [] then s3 else s3.set (if down = [] then pQ else pQU) (decide (m ≥ s3.f pPV))) := Gd.iff g3 (g3.set _ _)
  exact Gd.iff g4 (g4.set _ _)
theorem gd_step (b : Bl) (g : Gd s) : Gd (b.step s) := by
  cases b
  · exact gd_ton g
  · exact gd_tof g
  · exact gd_tp g
  · exact gd_count g pCU [] pR []
  · exact gd_count g [] pCD [] pLD
  · exact gd_count g pCU pCD pR pLD
  · exact gd_edge g _
  · exact gd_edge g _
  · exact gd_latch g _
  · exact gd_latch g _
theorem gd_layF : ∀ (ns : List Nm) (l : List Int) (f : Nm → Int), (∀ n, I64 (f n)) → ∀ n, I64 (layF ns l f n)
  | [], l, f, h, n => by cases l <;> exact h n
  | m :: ns, [], f, h, n => h n
  | m :: ns, x :: l, f, h, n => gd_layF ns l _ (fun k => by
      simp only [upd]
      by_cases c : k = m
      · rw [if_pos c]; exact wrapM_I64 _ _
      · rw [if_neg c]; exact h k) n
theorem gd_start (b : Bl) (i o : List Int) (k0 k1 k2 now : Int) : Gd (startM b i o k0 k1 k2 now) :=
  ⟨gd_layF _ _ _ (gd_layF _ _ _ fun _ => tr_I false), wrapM_I64 4 k0, wrapM_I64 4 k1, wrapM_I64 4 k2, wrapM_I64 4 now⟩
end Go.Proofs.YtindiedfioiejaaDoor.AI
