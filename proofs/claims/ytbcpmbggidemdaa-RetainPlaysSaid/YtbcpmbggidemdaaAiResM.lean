/- Operations that make memory, and those that write it, with all that the program says of types put in. -/
import Derived.Test.YtbcpmbggidemdaaAiRes
namespace Go.Proofs.Ytbcpmbggidemdaa.AI
open Go
set_option linter.unusedSimpArgs false

variable {P : Program}

def mBuildSl (e sz : Nat) (z : List AVal) (len : Nat) (parts : List (Nat × AVal)) : Option APlan :=
  if len * sz ≤ 2 ^ 24 ∧ z.length = sz ∧ 0 < sz then
    (aFill (fun i => some (i * sz, sz)) (manyT len z) parts).bind fun cs => rowPlan cs e false fun i => .slice (some (i, 0, sz)) len len
  else none
def mMakeSl (e sz by_ : Nat) (z : List AVal) (l c : AVal) : Option APlan :=
  match l, c with
  | .int _ l, .int _ c =>
      if 0 ≤ l ∧ l ≤ c ∧ c < 2 ^ 48 ∧ by_ * c ≤ 2 ^ 48 ∧ z.length = sz ∧ 0 < sz then
        rowPlan (manyT c.toNat z) e false fun i => .slice (some (i, 0, sz)) l.toNat c.toNat
      else none
  | _, _ => none
def mBytes (e : Nat) (x : AVal) : Option APlan :=
  match x with
  | .str s => if s.length ≤ 2 ^ 47 then rowPlan (bytesOf s) e true fun i => .slice (some (i, 0, 1)) s.length s.length else none
  | _ => none
def mOp (P : Program) (ρ : AEnv) (op : Op) : Option APlan :=
  match op with
  | .alloc e => match zeroT P e with
    | some z => pBox e z
    | none => none
  | .box e x => pBox e (ρ x)
  | .buildSlice t n ps => match P.underlying t with
    | some (.slice e) => match szT P e, zeroCellsT P e with
      | some sz, some z => mBuildSl e sz z n (aParts ρ ps)
      | _, _ => none
    | _ => none
  | .makeMap _ none => some pMap
  | .makeSlice t l c => match P.underlying t with
    | some (.slice e) => match szT P e, byT P e, zeroCellsT P e with
      | some sz, some by_, some z => mMakeSl e sz by_ z (ρ l) (ρ c)
      | _, _, _ => none
    | _ => none
  | .convert s d x => match P.underlying s, P.underlying d with
    | some .string, some (.slice e) => match P.underlying e with
      | some (.int .u8) => mBytes e (ρ x)
      | _ => none
    | _, _ => none
  | _ => none

theorem mOp_aM {ρ : AEnv} {op : Op} {p : APlan} (hq : mOp P ρ op = some p) : aM P ρ op = some p := by
  unfold mOp at hq
  unfold aM
  split at hq
  all_goals simp only
  · unfold pAlloc
    split at hq
    · rename_i z h1; simp only [h1, Option.bind_some]; exact hq
    · cases hq
  · exact hq
  · unfold pBuildSlice
    split at hq
    · rename_i e h1
      split at hq
      · rename_i sz z h2 h3; simp only [h1, h2, h3, Option.bind_some]; exact hq
      · cases hq
    · cases hq
  · exact hq
  · unfold pMakeSlice
    split at hq
    · rename_i e h1
      split at hq
      · rename_i sz b z h2 h3 h4
        unfold mMakeSl at hq
        split at hq
        · rename_i hl hc
          simp only [h1, hl, hc, h2, h3, h4, Option.bind_some]; exact hq
        · cases hq
      · cases hq
    · cases hq
  · unfold pConvert
    split at hq
    · rename_i e h1 h2
      split at hq
      · rename_i h3
        unfold mBytes at hq
        split at hq
        · rename_i hx
          simp only [h1, h2, hx, h3]; exact hq
        · cases hq
      · cases hq
    · cases hq
  · cases hq

def rStore (n : Nat) (a v : AVal) (h : AH) : Option AH :=
  match a, v.cells with
  | .ptr (some (i, off)), some cs => if cs.length = n then h.write i off cs else none
  | _, _ => none
def rAppendTo (e sz by_ : Nat) (s : AVal) (n : Nat) (xs : List AVal) (h : AH) : Option (AVal × AH) :=
  if n = 0 then
    match s with
    | .slice _ _ _ => some (s, h)
    | _ => none
  else
  match s with
  | .slice none 0 0 => if 0 < by_ ∧ 2 * n * by_ ≤ 2 ^ 48 then (h.newRow xs e true).map fun (i, h') => (.slice (some (i, 0, sz)) n n, h') else none
  | .slice (some (i, off, z)) len cap =>
    if z ≠ sz then none else
    if len + n ≤ cap then (h.write i (off + len * sz) xs).map fun h' => (.slice (some (i, off, sz)) (len + n) cap, h') else
    if 0 < by_ ∧ 2 * (len + n) * by_ ≤ 2 ^ 48 then
      match h.get i with
      | some ⟨.row cs el opn, md, par⟩ =>
        if md = .dead then none else
        if off + cap * sz < cs.length ∨ (opn = false ∧ off + cap * sz = cs.length) then
          (h.newRow ((cs.drop off).take (len * sz) ++ xs) e true).map fun (j, h') => (.slice (some (j, 0, sz)) (len + n) (len + n), h')
        else if md = .rw ∧ el = e ∧ off + cap * sz = cs.length ∧ xs.all AVal.isCell then
          let new := (cs.drop off).take (len * sz) ++ xs
          if len = cap then
            let h1 := h.set i ⟨.row cs el opn, .sup, par⟩
            some (.slice (some (h.n, 0, sz)) (len + n) (len + n), h1.push ⟨.row new e true, .rw, i :: par⟩)
          else
            let h1 := (h.kill par).kill1 i
            some (.slice (some (h.n, 0, sz)) (len + n) (len + n), h1.push ⟨.row new e true, .rw, []⟩)
        else none
      | _ => none
    else none
  | _ => none
theorem rAppendTo_eq {e sz by_ : Nat} (hb : byT P e = some by_) (s : AVal) (n : Nat) (xs : List AVal) (h : AH) : rAppendTo e sz by_ s n xs h = aAppendTo P e sz s n xs h := by
  unfold rAppendTo aAppendTo
  simp only [hb, Option.bind_some]
  rfl
def rAppend (e sz by_ : Nat) (s x : AVal) (h : AH) : Option (AVal × AH) := (aSource sz x h).bind fun (n, xs) => rAppendTo e sz by_ s n xs h
def rAppendN (e sz by_ : Nat) (z : List AVal) (s x : AVal) (h : AH) : Option (AVal × AH) :=
  match x with
  | .int _ n => if 0 ≤ n ∧ n < 2 ^ 48 ∧ by_ * n.toNat ≤ 2 ^ 48 then rAppendTo e sz by_ s n.toNat (manyT n.toNat z) h else none
  | _ => none
def rCopy (sz : Nat) (d x : AVal) (h : AH) : Option (AVal × AH) :=
  (aSource sz x h).bind fun (n, xs) =>
    match d with
    | .slice none _ _ => some (.int .i64 0, h)
    | .slice (some (i, off, z)) len _ =>
      let k := min n len
      if k = 0 then some (.int .i64 0, h) else
      if z = sz then (h.write i off (xs.take (k * sz))).map fun h' => (.int .i64 k, h') else none
    | _ => none
def rCallV (call : ACall) (f : AVal) (args : List AVal) (h : AH) : Option (AVal × AH) :=
  match f with
  | .func (.func g) first cap => call g (first ++ args ++ cap) h
  | _ => none

/-- Bytes turned into bytes. -/
def rConvB (x : AVal) (h : AH) : Option (AVal × AH) :=
  match x with
  | .slice (some (i, off, sz)) len cap => if 0 < len then match h.get i with
      | some ⟨.row cs el opn, .rw, par⟩ => some (.slice (some (i, off, sz)) len cap, h.set i ⟨.row cs el opn, .ro, par⟩)
      | _ => none
    else none
  | _ => none
/-- An operation that writes, or calls. -/
def eOp (P : Program) (call : ACall) (ρ : AEnv) (op : Op) (h : AH) : Option (AVal × AH) :=
  match op with
  | .store t a x => match szT P t with
    | some n => (rStore n (ρ a) (ρ x) h).map fun h' => (.tuple [], h')
    | none => none
  | .call { callee := .builtin b, args, argTypes } =>
    match b, args.toList.map ρ with
    | .append, [s, x] => match argTypes.toList with
      | st :: xt :: _ => match P.underlying st, isIntT P xt with
        | some (.slice e), some zs => match szT P e, zeroCellsT P e, byT P e with
          | some sz, some z, some by_ =>
            if sz = 0 ∨ z.length ≠ sz then none else
            if zs then rAppendN e sz by_ z s x h else rAppend e sz by_ s x h
          | _, _, _ => none
        | _, _ => none
      | _ => none
    | .copy, [d, x] => match argTypes.toList with
      | dt :: _ => match P.underlying dt with
        | some (.slice e) => match szT P e with
          | some sz => if sz = 0 then none else rCopy sz d x h
          | none => none
        | _ => none
      | _ => none
    | _, _ => none
  | .call { callee := .value f, args, .. } => rCallV call (ρ f) (args.toList.map ρ) h
  | .convert s d x => match P.underlying s, P.underlying d with
    | some (.slice _), some (.slice e) => match P.underlying e with
      | some (.int .u8) => if s = d then rConvB (ρ x) h else none
      | _ => none
    | _, _ => none
  | _ => none

theorem eOp_aE {call : ACall} {ρ : AEnv} {op : Op} {h : AH} {r : AVal × AH} (hq : eOp P call ρ op h = some r) : aE P call ρ op h = some r := by
  unfold eOp at hq
  unfold aE
  split at hq
  all_goals simp only
  · unfold aStore
    split at hq
    · rename_i n h1
      unfold rStore at hq
      split at hq
      · rename_i hx hv
        simp only [hx, hv, h1]; exact hq
      · cases hq
    · cases hq
  · split at hq
    · rename_i s x hb ha
      simp only [ha]
      unfold aAppend
      split at hq
      · rename_i st xt r ht
        split at hq
        · rename_i e zs h1 h2
          split at hq
          · rename_i sz z b h3 h4 h5
            simp only [ht, h1, h2, h3, h4, h5, Option.bind_some]
            split at hq
            · cases hq
            · rename_i hs
              simp only [if_neg hs]
              split at hq
              · rename_i hz
                simp only [if_pos hz]
                unfold rAppendN at hq
                simp only [rAppendTo_eq h5] at hq
                exact hq
              · rename_i hz
                simp only [if_neg hz]
                unfold rAppend at hq
                simp only [rAppendTo_eq h5] at hq
                exact hq
          · cases hq
        · cases hq
      · cases hq
    · rename_i d x hb ha
      simp only [ha]
      unfold aCopy
      split at hq
      · rename_i st r ht
        split at hq
        · rename_i e h1
          split at hq
          · rename_i sz h3
            simp only [ht, h1, h3, Option.bind_some]
            split at hq
            · cases hq
            · rename_i hs
              simp only [if_neg hs]
              exact hq
          · cases hq
        · cases hq
      · cases hq
    · cases hq
  · unfold rCallV at hq
    exact hq
  · split at hq
    · rename_i e0 e h1 h2
      split at hq
      · rename_i h3
        split at hq
        · rename_i hsd
          unfold rConvB at hq
          split at hq
          · rename_i hx
            split at hq
            · rename_i hl
              subst hsd
              rw [h1] at h2
              simp only [Option.some.injEq, TypeDesc.slice.injEq] at h2
              subst h2
              simp only [hx, aConvB, h1, h3, hl, and_self, if_true]
              exact hq
            · cases hq
          · cases hq
        · cases hq
      · cases hq
    · cases hq
  · cases hq
end Go.Proofs.Ytbcpmbggidemdaa.AI
