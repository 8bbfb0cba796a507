/- The machine once more, what comes next handed on: what it says holds. -/
import Derived.Test.YtbcpmbggidemdaaAiKCode
namespace Go.Proofs.Ytbcpmbggidemdaa.AI
open Go
set_option linter.unusedSimpArgs false

variable {P : Program} {gl : List Nat} {call : ACall}

theorem aDefer_not {op : Op} (h : (match op with | .defer _ => false | _ => true) = true) : ∀ c, op ≠ .defer c := by
  rintro c rfl; simp at h

theorem kRun_nodefer {ops : Array Oper} (hn : ∀ (i : Nat) o, ops[i]? = some o → ∀ c, o.op ≠ .defer c) : ∀ (l : List Nat) (s s' : St), aRun P gl call ops l s = some s' → s'.d = s.d
  | [], s, s', h => by simp only [aRun, Option.some.injEq] at h; rw [← h]
  | i :: rest, s, s', h => by
      simp only [aRun] at h
      split at h
      · cases h
      rename_i o ho
      split at h
      · cases h
      · have := kRun_nodefer hn rest _ _ h; exact this
      · split at h
        · rename_i c e; exact absurd e (hn i o ho c)
        · split at h
          · have := kRun_nodefer hn rest _ _ h; exact this
          · cases h

theorem kCode_wp (hcall : CallSound P gl call) (hmix : P.follows .mixedOrders = true) {r : AVal × AH} {μ0 : Mu} {h0 : AH} {w0 : World} :
    ∀ (c : Code), regsOk (drawOk P) c = true → ∀ (Q : Exit → Act → World → Prop) (L : Nat) (X : List (Nat × Nat)) (R : Nat) (t : List AVal) (d : List ADef) (h : AH) (kn : KN) (kx : Nat → KN) (kr : KN), kCode P gl call c L X R t d h kn kx kr = some r →
      ∀ (μ : Mu) (a : Act) (w : World), SR gl μ ⟨t, d, h⟩ a w → Ext μ0 h0 w0 μ h w →
      (∀ t' d' h' μ' a' w', kn t' d' h' = some r → SR gl μ' ⟨t', d', h'⟩ a' w' → Ext μ0 h0 w0 μ' h' w' → AgreeM (codeMask c) t t' → (noDefer c = true → d' = d) → Q .normal a' w') →
      (∀ i t' d' h' μ' a' w', kx i t' d' h' = some r → SR gl μ' ⟨t', d', h'⟩ a' w' → Ext μ0 h0 w0 μ' h' w' → AgreeM (codeMask c) t t' → (noDefer c = true → d' = d) → Q (.exit i) a' w') →
      (∀ t' d' h' μ' a' w', kr t' d' h' = some r → SR gl μ' ⟨t', d', h'⟩ a' w' → Ext μ0 h0 w0 μ' h' w' → Q .ret a' w') → c.wp P Q a w := by
  intro c
  induction c with
  | skip =>
    intro _ Q L X R t d h kn kx kr hk μ a w hs he hn hx hr
    simp only [kCode] at hk
    exact wp_skip (hn t d h μ a w hk hs he (AgreeM.refl _ _) (fun _ => rfl))
  | region id ops dr =>
    intro hok Q L X R t d h kn kx kr hk μ a w hs he hn hx hr
    cases dr with
    | false =>
      simp only [kCode] at hk
      obtain ⟨s', h1, h2, h3⟩ := kRun_sound _ _ _ _ _ hk
      refine wp_region (aRun_wp hcall _ μ _ s' a w hs h1 fun a' w' μ' hs' he' => ?_)
      refine hn s'.t s'.d s'.h μ' a' w' h2 hs' (he.trans he') h3.mask fun hnd => ?_
      refine kRun_nodefer (fun i o ho => ?_) _ ⟨t, d, h⟩ s' h1
      simp only [noDefer, List.all_eq_true] at hnd
      exact aDefer_not (hnd o (by have := Array.mem_of_getElem? ho; simpa using this))
    | true =>
      simp only [kCode] at hk
      obtain ⟨t', h', h1, h2, h3⟩ := kDrawGo_sound _ _ _ [] (fun k hk => by cases hk) hk
      have hd := aDraw_sound (gl := gl) hcall hmix ops ⟨t, d, h⟩ ⟨t', d, h'⟩ (by simpa [regsOk] using hok) (by
        unfold aDraw
        have : rsOf [] = [] := rfl
        rw [this] at h1
        rw [h1]; rfl) μ id a w hs
      refine wp_mono hd ?_
      rintro e a' w' ⟨hxx, μ', hs', he'⟩
      cases e <;> simp only [ExitR] at hxx
      exact hn t' d h' μ' a' w' h2 hs' (he.trans he') h3.mask fun _ => rfl
  | seq c1 c2 ih1 ih2 =>
    intro hok Q L X R t d h kn kx kr hk μ a w hs he hn hx hr
    simp only [regsOk, Bool.and_eq_true] at hok
    simp only [kCode] at hk
    refine wp_seq (ih1 hok.1 _ _ X R t d h _ kx kr hk μ a w hs he ?_ ?_ ?_)
    · intro t' d' h' μ' a' w' hk' hs' he' hag hd
      refine ih2 hok.2 Q L X R t' d' h' kn kx kr hk' μ' a' w' hs' he' ?_ ?_ ?_
      · intro t2 d2 h2 μ2 a2 w2 hk2 hs2 he2 hag2 hd2
        refine hn t2 d2 h2 μ2 a2 w2 hk2 hs2 he2 (hag.left.trans hag2.right) fun hnd => ?_
        simp only [noDefer, Bool.and_eq_true] at hnd
        rw [hd2 hnd.2, hd hnd.1]
      · intro i t2 d2 h2 μ2 a2 w2 hk2 hs2 he2 hag2 hd2
        refine hx i t2 d2 h2 μ2 a2 w2 hk2 hs2 he2 (hag.left.trans hag2.right) fun hnd => ?_
        simp only [noDefer, Bool.and_eq_true] at hnd
        rw [hd2 hnd.2, hd hnd.1]
      · exact hr
    · intro i t' d' h' μ' a' w' hk' hs' he' hag hd
      refine hx i t' d' h' μ' a' w' hk' hs' he' hag.left fun hnd => ?_
      simp only [noDefer, Bool.and_eq_true] at hnd
      exact hd hnd.1
    · exact hr
  | cond c a1 b1 ih1 ih2 =>
    intro hok Q L X R t d h kn kx kr hk μ a w hs he hn hx hr
    simp only [regsOk, Bool.and_eq_true] at hok
    simp only [kCode] at hk
    have hv := aEval_good hs.g hs.t c
    have hx1 : ∀ i t' d' h' μ' a' w', kx i t' d' h' = some r → SR gl μ' ⟨t', d', h'⟩ a' w' → Ext μ0 h0 w0 μ' h' w' → AgreeM (codeMask a1) t t' → (noDefer a1 = true → d' = d) → Q (.exit i) a' w' :=
      fun i t' d' h' μ' a' w' k1 k2 k3 k4 k5 => hx i t' d' h' μ' a' w' k1 k2 k3 k4.left fun hnd => by simp only [noDefer, Bool.and_eq_true] at hnd; exact k5 hnd.1
    have hx2 : ∀ i t' d' h' μ' a' w', kx i t' d' h' = some r → SR gl μ' ⟨t', d', h'⟩ a' w' → Ext μ0 h0 w0 μ' h' w' → AgreeM (codeMask b1) t t' → (noDefer b1 = true → d' = d) → Q (.exit i) a' w' :=
      fun i t' d' h' μ' a' w' k1 k2 k3 k4 k5 => hx i t' d' h' μ' a' w' k1 k2 k3 k4.right fun hnd => by simp only [noDefer, Bool.and_eq_true] at hnd; exact k5 hnd.2
    split at hk
    · rename_i hj
      simp only [Bool.and_eq_true] at hj
      unfold kJ kIf at hk
      have go : ∀ t' d' h' μ' a' w', kn (mix (codeMask a1 ||| codeMask b1) (msOf (codeMask a1 ||| codeMask b1) L t) (getMany t' (msOf (codeMask a1 ||| codeMask b1) L t)) 0 t) d h' = some r → SR gl μ' ⟨t', d', h'⟩ a' w' → Ext μ0 h0 w0 μ' h' w' →
          AgreeM (codeMask a1 ||| codeMask b1) t t' → d' = d → Q .normal a' w' := by
        intro t' d' h' μ' a' w' k1 k2 k3 k4 k5
        subst k5
        exact hn _ _ _ μ' a' w' k1 ⟨mix_good k2.t k4, k2.d, k2.r, k2.g⟩ k3 (mix_agree _ _ _ (msOf_mem _ _ _) _) fun _ => rfl
      split at hk
      · rename_i ht
        rw [ht] at hv
        exact wp_cond_true hv.bool_inv (ih1 hok.1 Q L X R t d h _ kx kr hk μ a w hs he (fun t' d' h' μ' a' w' k1 k2 k3 k4 k5 => go t' d' h' μ' a' w' k1 k2 k3 k4.left (k5 hj.1.2)) hx1 hr)
      · rename_i ht
        rw [ht] at hv
        exact wp_cond_false hv.bool_inv (ih2 hok.2 Q L X R t d h _ kx kr hk μ a w hs he (fun t' d' h' μ' a' w' k1 k2 k3 k4 k5 => go t' d' h' μ' a' w' k1 k2 k3 k4.right (k5 hj.2)) hx2 hr)
      · cases hk
    · unfold kIf at hk
      split at hk
      · rename_i ht
        rw [ht] at hv
        exact wp_cond_true hv.bool_inv (ih1 hok.1 Q L X R t d h _ kx kr hk μ a w hs he (fun t' d' h' μ' a' w' k1 k2 k3 k4 k5 => hn t' d' h' μ' a' w' k1 k2 k3 k4.left fun hnd => by
          simp only [noDefer, Bool.and_eq_true] at hnd; exact k5 hnd.1) hx1 hr)
      · rename_i ht
        rw [ht] at hv
        exact wp_cond_false hv.bool_inv (ih2 hok.2 Q L X R t d h _ kx kr hk μ a w hs he (fun t' d' h' μ' a' w' k1 k2 k3 k4 k5 => hn t' d' h' μ' a' w' k1 k2 k3 k4.right fun hnd => by
          simp only [noDefer, Bool.and_eq_true] at hnd; exact k5 hnd.2) hx2 hr)
      · cases hk
  | block id c ih =>
    intro hok Q L X R t d h kn kx kr hk μ a w hs he hn hx hr
    have ih := ih (by simpa [regsOk] using hok)
    simp only [kCode] at hk
    refine wp_block ?_
    split at hk
    · rename_i hj
      simp only [Bool.and_eq_true] at hj
      unfold kJ at hk
      have go : ∀ t' d' h' μ' a' w', kn (mix (codeMask c) (msOf (codeMask c) L t) (getMany t' (msOf (codeMask c) L t)) 0 t) d h' = some r → SR gl μ' ⟨t', d', h'⟩ a' w' → Ext μ0 h0 w0 μ' h' w' →
          AgreeM (codeMask c) t t' → d' = d → Q .normal a' w' := by
        intro t' d' h' μ' a' w' k1 k2 k3 k4 k5
        subst k5
        exact hn _ _ _ μ' a' w' k1 ⟨mix_good k2.t k4, k2.d, k2.r, k2.g⟩ k3 (mix_agree _ _ _ (msOf_mem _ _ _) _) fun _ => rfl
      refine ih _ L _ R t d h _ _ kr hk μ a w hs he ?_ ?_ ?_
      · intro t' d' h' μ' a' w' k1 k2 k3 k4 k5
        exact go t' d' h' μ' a' w' k1 k2 k3 k4 (k5 hj.2)
      · intro i t' d' h' μ' a' w' k1 k2 k3 k4 k5
        simp only [Exit.inBlock]
        split at k1
        · rename_i hi
          rw [if_pos (by simpa using hi)]
          exact go t' d' h' μ' a' w' k1 k2 k3 k4 (k5 hj.2)
        · rename_i hi
          rw [if_neg (by simpa using hi)]
          exact hx i t' d' h' μ' a' w' k1 k2 k3 k4 k5
      · exact hr
    · refine ih _ L _ R t d h _ _ kr hk μ a w hs he ?_ ?_ ?_
      · intro t' d' h' μ' a' w' k1 k2 k3 k4 k5
        exact hn t' d' h' μ' a' w' k1 k2 k3 k4 k5
      · intro i t' d' h' μ' a' w' k1 k2 k3 k4 k5
        simp only [Exit.inBlock]
        split at k1
        · rename_i hi
          rw [if_pos (by simpa using hi)]
          exact hn t' d' h' μ' a' w' k1 k2 k3 k4 k5
        · rename_i hi
          rw [if_neg (by simpa using hi)]
          exact hx i t' d' h' μ' a' w' k1 k2 k3 k4 k5
      · exact hr
  | loop c ih =>
    intro hok Q L X R t d h kn kx kr hk μ a w hs he hn hx hr
    have ih := ih (by simpa [regsOk] using hok)
    simp only [kCode] at hk
    split at hk
    · rename_i hnd
      generalize hLh : lv (.loop c) 0 X R = Lh at hk
      have key : ∀ (n : Nat) (vs : List AVal) (h : AH) (μ : Mu) (a : Act) (w : World),
          kLoop (fun next vs h => kCode P gl call c Lh X R (mix (codeMask c) (msOf (codeMask c) Lh t) vs 0 t) d h (fun t' _ h' => next (getMany t' (msOf (codeMask c) Lh t)) h') kx kr) n vs h = some r →
          SR gl μ ⟨mix (codeMask c) (msOf (codeMask c) Lh t) vs 0 t, d, h⟩ a w → Ext μ0 h0 w0 μ h w → Code.rounds P c Q n a w := by
        intro n
        induction n with
        | zero => intro vs h μ a w hk; simp [kLoop] at hk
        | succ n ihn =>
          intro vs h μ a w hk hs he
          rw [rounds_succ]
          simp only [kLoop] at hk
          refine ih _ Lh X R _ d h _ kx kr hk μ a w hs he ?_ ?_ ?_
          · intro t' d' h' μ' a' w' k1 k2 k3 k4 k5
            have hd := k5 hnd
            subst hd
            exact ihn _ h' μ' a' w' k1 ⟨mix_good k2.t ((mix_agree _ _ _ (msOf_mem _ _ _) _).trans k4), k2.d, k2.r, k2.g⟩ k3
          · intro i t' d' h' μ' a' w' k1 k2 k3 k4 k5
            exact hx i t' d' h' μ' a' w' k1 k2 k3 ((mix_agree _ _ _ (msOf_mem _ _ _) _).trans k4) k5
          · exact hr
      exact wp_loop_rounds _ (key _ _ h μ a w hk ⟨mix_good hs.t (AgreeM.refl _ _), hs.d, hs.r, hs.g⟩ he)
    · cases hk
  | exit id =>
    intro _ Q L X R t d h kn kx kr hk μ a w hs he hn hx hr
    simp only [kCode] at hk
    exact wp_exit (hx id t d h μ a w hk hs he (AgreeM.refl _ _) (fun _ => rfl))
  | ret =>
    intro _ Q L X R t d h kn kx kr hk μ a w hs he hn hx hr
    simp only [kCode] at hk
    exact wp_ret (hr t d h μ a w hk hs he)
  | _ => intro _ Q L X R t d h kn kx kr hk; simp [kCode] at hk
end Go.Proofs.Ytbcpmbggidemdaa.AI
