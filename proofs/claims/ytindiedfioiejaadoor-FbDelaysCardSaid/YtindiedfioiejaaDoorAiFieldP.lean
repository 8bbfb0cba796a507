/- strings.Fields: what it comes to, on plain text. -/
import Derived.Test.YtindiedfioiejaaDoorAiLib5
namespace Go.Proofs.YtindiedfioiejaaDoor.AI
open Go
set_option linter.unusedSimpArgs false
set_option linter.unusedVariables false
variable {h : AH}
def isSp (b : UInt8) : Bool := decide (b = 9) || decide (b = 10) || decide (b = 11) || decide (b = 12) || decide (b = 13) || decide (b = 32)
def spN (b : Bool) : Int := if b then 1 else 0
/-- Which bytes are space. -/
def spaces : List Int := (List.range 256).map fun i => if i = 9 ∨ i = 10 ∨ i = 11 ∨ i = 12 ∨ i = 13 ∨ i = 32 then 1 else 0
def tabC : List AVal := spaces.map (AVal.int .u8)
theorem tab_at (b : UInt8) : tabC[b.toNat]? = some (.int .u8 (spN (isSp b))) := by
  have : ∀ i : Fin 256, spaces[i.val]? = some (spN (isSp (UInt8.ofNat i.val))) := by decide +kernel
  have h := this ⟨b.toNat, UInt8.toNat_lt _⟩
  simp only [UInt8.ofNat_toNat] at h
  simp only [tabC, List.getElem?_map, h, Option.map_some]
theorem tab_len : tabC.length = 256 := by simp [tabC, spaces]
/-- The table lies in block 0. -/
def Tb (h : AH) : Prop := ∃ e, h.get 0 = some ⟨.row tabC e false, .ro, []⟩
theorem Tb.ke {S : Nat → Prop} {h' : AH} (t : Tb h) (k : Ke S h h') : Tb h' := let ⟨e, g⟩ := t; ⟨e, k.get 0 _ g (.inl rfl)⟩
theorem Tb.ld (t : Tb h) (b : UInt8) : rLoad (.ptr (some (0, b.toNat))) h = some (.int .u8 (spN (isSp b))) := by
  obtain ⟨e, g⟩ := t
  rw [rLoad_ptr, row_ro g, Option.bind_some, tab_at]
theorem sp_at (S : List UInt8) (i : Nat) : rAtArr 256 1 (.ptr (some (0, 0))) (.int .u8 (gb S i)) = some (.ptr (some (0, (S.getD i 0).toNat))) := by
  rw [rAtArr_ptr (by omega) (by have := gb_lt S i; omega)]
  simp [gb]
theorem idxS {S : List UInt8} {i : Nat} (hi : i < S.length) : rIndexS (.str S) (.int .i64 (i : Int)) = some (.int .u8 (gb S i)) := by
  simp [rIndexS, gb, hi]
theorem cutS {S : List UInt8} {a b : Nat} (hab : a ≤ b) (hb : b ≤ S.length) : rCutS (.str S) (some (.int .i64 (a : Int))) (some (.int .i64 (b : Int))) = some (.str ((S.take b).drop a)) := by
  simp only [rCutS]
  rw [aBound_int (by omega) (by omega), Option.bind_some, aBound_int (by omega) (by omega), Option.bind_some]
  simp
theorem cutSn {S : List UInt8} {a : Nat} (ha : a ≤ S.length) : rCutS (.str S) (some (.int .i64 (a : Int))) none = some (.str (S.drop a)) := by
  simp only [rCutS]
  rw [aBound_none, Option.bind_some, aBound_int (by omega) (by omega), Option.bind_some]
  simp
def cntF : List UInt8 → Bool → Nat
  | [], _ => 0
  | c :: s, was => (if was && !isSp c then 1 else 0) + cntF s (isSp c)
def flF : Nat → List UInt8 → List UInt8 → List (List UInt8)
  | 0, _, _ => []
  | _ + 1, cur, [] => if cur = [] then [] else [cur]
  | k + 1, cur, c :: s => if isSp c then cur :: flF k [] (s.dropWhile isSp) else flF k (cur ++ [c]) s
def fieldsL (S : List UInt8) : List (List UInt8) := flF (S.length + 1) [] (S.dropWhile isSp)
theorem flF_more : ∀ (k m : Nat) (cur s : List UInt8), s.length < k → s.length < m → flF k cur s = flF m cur s
  | 0, m, cur, s, h, _ => by omega
  | k + 1, 0, cur, s, _, h => by omega
  | k + 1, m + 1, cur, [], _, _ => rfl
  | k + 1, m + 1, cur, c :: s, h1, h2 => by
      simp only [List.length_cons] at h1 h2
      simp only [flF]
      have hd : (s.dropWhile isSp).length ≤ s.length := (List.dropWhile_suffix _).length_le
      rw [flF_more k m [] _ (by omega) (by omega), flF_more k m (cur ++ [c]) s (by omega) (by omega)]
theorem spN_cases (b : Bool) : spN b = 0 ∨ spN b = 1 := by cases b <;> simp [spN]
theorem sp_and (a b : Bool) : iAnd .i64 (spN a) (iXor .i64 (-1) (spN b)) = if a && !b then 1 else 0 := by cases a <;> cases b <;> decide
theorem or_small {x y : Nat} (hx : x < 128) (hy : y < 128) : ∃ z : Nat, z < 128 ∧ iOr .u8 (x : Int) (y : Int) = (z : Int) := by
  refine ⟨x ||| y, Nat.or_lt_two_pow (n := 7) hx hy, ?_⟩
  have : ∀ a b : Fin 128, iOr .u8 ((a.val : Nat) : Int) ((b.val : Nat) : Int) = (((a.val ||| b.val : Nat)) : Int) := by
    intro a b
    have h1 : iOr .u8 ((a.val : Nat) : Int) ((b.val : Nat) : Int) = IntKind.wrap .u8 (((BitVec.ofInt 8 (a.val : Int) ||| BitVec.ofInt 8 (b.val : Int)).toNat : Nat) : Int) := rfl
    rw [h1, BitVec.toNat_or, BitVec.toNat_ofInt, BitVec.toNat_ofInt]
    have e1 : ((a.val : Int) % ((2 ^ 8 : Nat) : Int)).toNat = a.val := by have := a.isLt; simp; omega
    have e2 : ((b.val : Int) % ((2 ^ 8 : Nat) : Int)).toNat = b.val := by have := b.isLt; simp; omega
    rw [e1, e2]
    have := Nat.or_lt_two_pow (n := 7) a.isLt b.isLt
    exact wr_u8 (by omega) (by omega)
  exact this ⟨x, hx⟩ ⟨y, hy⟩
end Go.Proofs.YtindiedfioiejaaDoor.AI
