/- The abstract machine: values, heap, and how they stand to the model's. -/
import Derived.Calls
import Derived.Laws.Sem
import Derived.Laws.World
namespace Go.Proofs.Ytfppdfmffdkogaa.AI
open Go

/-- Abstract values: addresses are (block, offset) of the abstract heap; 'any': not known. -/
inductive AVal where
  | any
  | bool (b : Bool)
  | int (k : IntKind) (n : Int)
  | str (s : List UInt8)
  | ptr (a : Option (Nat × Nat))
  | slice (a : Option (Nat × Nat × Nat)) (len cap : Nat)
  | map (r : Option Nat)
  | func (fn : Fn) (first captured : List AVal)
  | nilFunc
  | iface (t : TypeId) (v : AVal)
  | nilIface
  | agg (cells : List AVal)
  | tuple (vs : List AVal)
  deriving Inhabited

mutual
def AVal.same : AVal → AVal → Bool
  | .any, .any => true
  | .bool a, .bool b => a == b
  | .int k a, .int l b => decide (k = l) && decide (a = b)
  | .str a, .str b => decide (a = b)
  | .ptr a, .ptr b => decide (a = b)
  | .slice a l c, .slice b m d => decide (a = b) && decide (l = m) && decide (c = d)
  | .map a, .map b => decide (a = b)
  | .func f a b, .func g c d => decide (f = g) && AVal.sames a c && AVal.sames b d
  | .nilFunc, .nilFunc => true
  | .iface t a, .iface u b => decide (t = u) && AVal.same a b
  | .nilIface, .nilIface => true
  | .agg a, .agg b => AVal.sames a b
  | .tuple a, .tuple b => AVal.sames a b
  | _, _ => false
def AVal.sames : List AVal → List AVal → Bool
  | [], [] => true
  | a :: l, b :: m => AVal.same a b && AVal.sames l m
  | _, _ => false
end

mutual
theorem AVal.eq_of_same : ∀ (a b : AVal), AVal.same a b = true → a = b
  | .any, b, h => by cases b <;> simp [AVal.same] at h ⊢
  | .bool a, b, h => by cases b <;> simp [AVal.same] at h ⊢; exact h
  | .int k a, b, h => by cases b <;> simp [AVal.same] at h ⊢; exact h
  | .str a, b, h => by cases b <;> simp [AVal.same] at h ⊢; exact h
  | .ptr a, b, h => by cases b <;> simp [AVal.same] at h ⊢; exact h
  | .slice a l c, b, h => by cases b <;> simp [AVal.same] at h ⊢; exact ⟨h.1.1, h.1.2, h.2⟩
  | .map a, b, h => by cases b <;> simp [AVal.same] at h ⊢; exact h
  | .func f a c, b, h => by
      cases b <;> simp [AVal.same] at h ⊢
      exact ⟨h.1.1, AVal.eq_of_sames _ _ h.1.2, AVal.eq_of_sames _ _ h.2⟩
  | .nilFunc, b, h => by cases b <;> simp [AVal.same] at h ⊢
  | .iface t a, b, h => by
      cases b <;> simp [AVal.same] at h ⊢
      exact ⟨h.1, AVal.eq_of_same _ _ h.2⟩
  | .nilIface, b, h => by cases b <;> simp [AVal.same] at h ⊢
  | .agg a, b, h => by
      cases b <;> simp [AVal.same] at h ⊢
      exact AVal.eq_of_sames _ _ h
  | .tuple a, b, h => by
      cases b <;> simp [AVal.same] at h ⊢
      exact AVal.eq_of_sames _ _ h
theorem AVal.eq_of_sames : ∀ (a b : List AVal), AVal.sames a b = true → a = b
  | [], b, h => by cases b <;> simp [AVal.sames] at h ⊢
  | x :: l, b, h => by
      cases b <;> simp [AVal.sames] at h ⊢
      exact ⟨AVal.eq_of_same _ _ h.1, AVal.eq_of_sames _ _ h.2⟩
end
mutual
theorem AVal.same_refl : ∀ a : AVal, AVal.same a a = true
  | .any | .nilFunc | .nilIface => by simp [AVal.same]
  | .bool _ | .int .. | .str _ | .ptr _ | .slice .. | .map _ => by simp [AVal.same]
  | .func _ a b => by simp [AVal.same, AVal.sames_refl a, AVal.sames_refl b]
  | .iface _ a => by simp [AVal.same, AVal.same_refl a]
  | .agg a | .tuple a => by simp [AVal.same, AVal.sames_refl a]
theorem AVal.sames_refl : ∀ a : List AVal, AVal.sames a a = true
  | [] => by simp [AVal.sames]
  | x :: l => by simp [AVal.sames, AVal.same_refl x, AVal.sames_refl l]
end

/-- A binary trie: numbers to things. -/
inductive Tr (α : Type) where
  | lf
  | nd (v : Option α) (l r : Tr α)
  deriving Inhabited

variable {α : Type}
def Tr.get : Tr α → Nat → Option α
  | .lf, _ => none
  | .nd v _ _, 0 => v
  | .nd _ l r, n + 1 => if n % 2 = 0 then l.get (n / 2) else r.get (n / 2)
def Tr.setF : Nat → Tr α → Nat → α → Tr α
  | 0, t, _, _ => t
  | _ + 1, .lf, 0, a => .nd (some a) .lf .lf
  | _ + 1, .nd _ l r, 0, a => .nd (some a) l r
  | f + 1, .lf, n + 1, a => if n % 2 = 0 then .nd none (Tr.setF f .lf (n / 2) a) .lf else .nd none .lf (Tr.setF f .lf (n / 2) a)
  | f + 1, .nd v l r, n + 1, a => if n % 2 = 0 then .nd v (Tr.setF f l (n / 2) a) r else .nd v l (Tr.setF f r (n / 2) a)
def Tr.set (t : Tr α) (i : Nat) (a : α) : Tr α := Tr.setF (i + 1) t i a

theorem Tr.get_setF : ∀ (f : Nat) (t : Tr α) (i j : Nat) (a : α), i < f → (Tr.setF f t i a).get j = if j = i then some a else t.get j := by
  intro f
  induction f with
  | zero => intro t i j a h; omega
  | succ f ih =>
    intro t i j a h
    cases t with
    | lf =>
      cases i with
      | zero => cases j <;> simp [Tr.setF, Tr.get]
      | succ i =>
        cases j with
        | zero => simp only [Tr.setF]; split <;> simp [Tr.get]
        | succ j =>
          simp only [Tr.setF]
          split <;> rename_i hi <;> simp only [Tr.get] <;> split <;> rename_i hj
          · rw [ih _ _ _ _ (by omega)]
            by_cases e : j = i
            · subst e; simp
            · rw [if_neg (by omega), if_neg (by omega)]; rfl
          · rw [if_neg (by omega)]
          · rw [if_neg (by omega)]
          · rw [ih _ _ _ _ (by omega)]
            by_cases e : j = i
            · subst e; simp
            · rw [if_neg (by omega), if_neg (by omega)]; rfl
    | nd v l r =>
      cases i with
      | zero => cases j <;> simp [Tr.setF, Tr.get]
      | succ i =>
        cases j with
        | zero => simp only [Tr.setF]; split <;> simp [Tr.get]
        | succ j =>
          simp only [Tr.setF]
          split <;> rename_i hi <;> simp only [Tr.get] <;> split <;> rename_i hj
          · rw [ih _ _ _ _ (by omega)]
            by_cases e : j = i
            · subst e; simp
            · rw [if_neg (by omega), if_neg (by omega)]
          · rw [if_neg (by omega)]
          · rw [if_neg (by omega)]
          · rw [ih _ _ _ _ (by omega)]
            by_cases e : j = i
            · subst e; simp
            · rw [if_neg (by omega), if_neg (by omega)]

/-- ro: read alone · rw: written, too · sup: an append may lie behind it in the same memory: read alone · dead: neither. -/
inductive AMode where
  | ro | rw | sup | dead
  deriving DecidableEq, Inhabited

inductive AObj where
  | row (cells : List AVal) (elem : TypeId) (opn : Bool)
  | map (es : List (AVal × AVal))
  | iter (s : List UInt8) (pos : Nat)
  deriving Inhabited

structure ABlk where
  obj : AObj
  mode : AMode
  par : List Nat
  deriving Inhabited

structure AH where
  n : Nat
  t : Tr ABlk
  deriving Inhabited

def AH.get (h : AH) (i : Nat) : Option ABlk := h.t.get i
def AH.set (h : AH) (i : Nat) (b : ABlk) : AH := { h with t := h.t.set i b }
def AH.push (h : AH) (b : ABlk) : AH := { n := h.n + 1, t := h.t.set h.n b }

@[simp] theorem AH.get_set (h : AH) (i j : Nat) (b : ABlk) : (h.set i b).get j = if j = i then some b else h.get j := by
  simp only [AH.get, AH.set, Tr.set]
  exact Tr.get_setF _ _ _ _ _ (by omega)
@[simp] theorem AH.n_set (h : AH) (i : Nat) (b : ABlk) : (h.set i b).n = h.n := rfl
@[simp] theorem AH.get_push (h : AH) (j : Nat) (b : ABlk) : (h.push b).get j = if j = h.n then some b else h.get j := by
  simp only [AH.get, AH.push, Tr.set]
  exact Tr.get_setF _ _ _ _ _ (by omega)
@[simp] theorem AH.n_push (h : AH) (b : ABlk) : (h.push b).n = h.n + 1 := rfl

/-! ### The relation -/

/-- Where an abstract block lies: the model's block, its first cell, how many cells the abstract block has, how many may be reached, whether more may be reached than are known. -/
structure MuAt where
  cb : Nat
  base : Nat
  len : Nat
  room : Nat
  opn : Bool
abbrev Mu := Nat → Option MuAt

mutual
inductive VR (μ : Mu) : AVal → Value → Prop
  | any (v : Value) : VR μ .any v
  | bool (b : Bool) : VR μ (.bool b) (.bool b)
  | int (k : IntKind) (n : Int) : VR μ (.int k n) (.int k n)
  | str (s : List UInt8) : VR μ (.str s) (.string ⟨s.toArray⟩)
  | ptr0 : VR μ (.ptr none) (.pointer none)
  | ptr {i off : Nat} {m : MuAt} (hm : μ i = some m) : VR μ (.ptr (some (i, off))) (.pointer (some ⟨m.cb, m.base + off, none⟩))
  | slice0 : VR μ (.slice none 0 0) (.slice none 0 0)
  | slice {i off sz len cap cap' : Nat} {m : MuAt} (hm : μ i = some m) (hz : 0 < sz) (hl : len ≤ cap) (hc : off + cap * sz ≤ m.len)
      (hcap : cap' = cap ∨ (m.opn = true ∧ off + cap * sz = m.len ∧ cap ≤ cap')) (hr : off + cap' * sz ≤ m.room) :
      VR μ (.slice (some (i, off, sz)) len cap) (.slice (some ⟨m.cb, m.base + off, none⟩) len cap')
  | sliceE (i off sz : Nat) (a : Addr) (hm : sz = 0 ∨ ∃ m, μ i = some m) : VR μ (.slice (some (i, off, sz)) 0 0) (.slice (some a) 0 0)
  | map0 : VR μ (.map none) (.map none)
  | map {i : Nat} {m : MuAt} (hm : μ i = some m) (hb : m.base = 0) : VR μ (.map (some i)) (.map (some m.cb))
  | func (fn : Fn) {a b : List AVal} {a' b' : Array Value} (ha : VRs μ a a'.toList) (hb : VRs μ b b'.toList) : VR μ (.func fn a b) (.func fn a' b')
  | nilFunc : VR μ .nilFunc .nilFunc
  | iface (t : TypeId) {v : AVal} {v' : Value} (h : VR μ v v') : VR μ (.iface t v) (.iface t v')
  | nilIface : VR μ .nilIface .nilIface
  | agg {a : List AVal} {a' : Array Value} (h : VRs μ a a'.toList) : VR μ (.agg a) (.agg a')
  | tuple {a : List AVal} {a' : Array Value} (h : VRs μ a a'.toList) : VR μ (.tuple a) (.tuple a')
inductive VRs (μ : Mu) : List AVal → List Value → Prop
  | nil : VRs μ [] []
  | cons {a : AVal} {v : Value} {l : List AVal} {l' : List Value} (h : VR μ a v) (hl : VRs μ l l') : VRs μ (a :: l) (v :: l')
end

/-- μ' says what μ says, and more. -/
def Mu.le (μ μ' : Mu) : Prop := ∀ i m, μ i = some m → μ' i = some m
theorem Mu.le_refl (μ : Mu) : μ.le μ := fun _ _ h => h
theorem Mu.le_trans {a b c : Mu} (h : a.le b) (k : b.le c) : a.le c := fun i m e => k i m (h i m e)

mutual
theorem VR.mono {μ μ' : Mu} (hμ : μ.le μ') : ∀ {a : AVal} {v : Value}, VR μ a v → VR μ' a v
  | _, _, .any v => .any v
  | _, _, .bool b => .bool b
  | _, _, .int k n => .int k n
  | _, _, .str s => .str s
  | _, _, .ptr0 => .ptr0
  | _, _, .ptr hm => .ptr (hμ _ _ hm)
  | _, _, .slice0 => .slice0
  | _, _, .slice hm hz hl hc hcap hr => .slice (hμ _ _ hm) hz hl hc hcap hr
  | _, _, .sliceE i off sz a hm => .sliceE i off sz a (hm.imp id fun ⟨m, e⟩ => ⟨m, hμ _ _ e⟩)
  | _, _, .map0 => .map0
  | _, _, .map hm hb => .map (hμ _ _ hm) hb
  | _, _, .func fn ha hb => .func fn (VRs.mono hμ ha) (VRs.mono hμ hb)
  | _, _, .nilFunc => .nilFunc
  | _, _, .iface t h => .iface t (VR.mono hμ h)
  | _, _, .nilIface => .nilIface
  | _, _, .agg h => .agg (VRs.mono hμ h)
  | _, _, .tuple h => .tuple (VRs.mono hμ h)
theorem VRs.mono {μ μ' : Mu} (hμ : μ.le μ') : ∀ {a : List AVal} {v : List Value}, VRs μ a v → VRs μ' a v
  | _, _, .nil => .nil
  | _, _, .cons h hl => .cons (VR.mono hμ h) (VRs.mono hμ hl)
end

theorem VRs.length {μ : Mu} : ∀ {a : List AVal} {v : List Value}, VRs μ a v → a.length = v.length
  | _, _, .nil => rfl
  | _, _, .cons _ hl => by simp [hl.length]
theorem VRs.get {μ : Mu} : ∀ {a : List AVal} {v : List Value}, VRs μ a v → ∀ {i : Nat} {x : AVal}, a[i]? = some x → ∃ y, v[i]? = some y ∧ VR μ x y
  | _, _, .nil, i, x, h => by simp at h
  | _, _, .cons h hl, 0, x, e => by simp at e; subst e; exact ⟨_, by simp, h⟩
  | _, _, .cons h hl, i + 1, x, e => by simpa using hl.get (by simpa using e)
theorem VRs.append {μ : Mu} : ∀ {a b : List AVal} {v w : List Value}, VRs μ a v → VRs μ b w → VRs μ (a ++ b) (v ++ w)
  | _, _, _, _, .nil, h => h
  | _, _, _, _, .cons h hl, k => .cons h (hl.append k)
theorem VRs.take {μ : Mu} : ∀ {a : List AVal} {v : List Value} (n : Nat), VRs μ a v → VRs μ (a.take n) (v.take n)
  | _, _, 0, _ => by simp; exact .nil
  | _, _, _ + 1, .nil => by simp; exact .nil
  | _, _, n + 1, .cons h hl => by simpa using .cons h (hl.take n)
theorem VRs.drop {μ : Mu} : ∀ {a : List AVal} {v : List Value} (n : Nat), VRs μ a v → VRs μ (a.drop n) (v.drop n)
  | _, _, 0, h => by simpa using h
  | _, _, _ + 1, .nil => by simp; exact .nil
  | _, _, n + 1, .cons h hl => by simpa using hl.drop n
theorem VRs.set {μ : Mu} : ∀ {a : List AVal} {v : List Value} (i : Nat) {x : AVal} {y : Value}, VRs μ a v → VR μ x y → VRs μ (a.set i x) (v.set i y)
  | _, _, _, _, _, .nil, _ => by simp; exact .nil
  | _, _, 0, _, _, .cons h hl, k => by simpa using .cons k hl
  | _, _, i + 1, _, _, .cons h hl, k => by simpa using .cons h (hl.set i k)
theorem VRs.replicate {μ : Mu} (n : Nat) {x : AVal} {y : Value} (h : VR μ x y) : VRs μ (List.replicate n x) (List.replicate n y) := by
  induction n with
  | zero => exact .nil
  | succ n ih => simpa [List.replicate_succ] using .cons h ih
theorem VRs.of_get {μ : Mu} : ∀ {a : List AVal} {v : List Value}, a.length = v.length → (∀ (i : Nat) (x : AVal) (y : Value), a[i]? = some x → v[i]? = some y → VR μ x y) → VRs μ a v
  | [], [], _, _ => .nil
  | [], _ :: _, h, _ => by simp at h
  | _ :: _, [], h, _ => by simp at h
  | x :: l, y :: m, h, k => .cons (k 0 x y (by simp) (by simp)) (VRs.of_get (by simpa using h) fun i a b ha hb => k (i + 1) a b (by simpa using ha) (by simpa using hb))

/-- How an abstract block stands to the model's world. -/
def Lies (μ : Mu) (H : Array Obj) (m : MuAt) (b : ABlk) : Prop :=
  match b.obj with
  | .row cells elem opn => m.len = cells.length ∧ m.opn = opn ∧ m.len ≤ m.room ∧ (opn = false → m.room = m.len) ∧
      ∃ C e fr, H[m.cb]? = some (.cells C e fr) ∧ m.base + m.room ≤ C.size ∧ VRs μ cells ((C.toList.drop m.base).take cells.length) ∧
        (b.mode ≠ .ro → e = elem) ∧ (b.mode = .rw → ∀ o, m.base ≤ o → o < m.base + m.room → ¬ (fr.1 ≤ o ∧ o < fr.2))
  | .map es => m.base = 0 ∧ ∃ E : Array MapEntry, H[m.cb]? = some (.map E E.size) ∧ VRs μ (es.map (·.1)) (E.toList.map (·.key)) ∧ VRs μ (es.map (·.2)) (E.toList.map (·.val)) ∧
      ∀ (i : Nat) (e : MapEntry), E[i]? = some e → e.born = i
  | .iter s pos => m.base = 0 ∧ H[m.cb]? = some (.stringIter ⟨s.toArray⟩ pos)

structure Rel (μ : Mu) (h : AH) (w : World) : Prop where
  dom : ∀ i m, μ i = some m → i < h.n
  hi : ∀ i m, μ i = some m → m.cb < w.heap.size
  has : ∀ i m, μ i = some m → ∃ b, h.get i = some b
  lies : ∀ i m b, μ i = some m → h.get i = some b → b.mode ≠ .dead → Lies μ w.heap m b
  excl : ∀ i j mi mj bi bj, i ≠ j → μ i = some mi → μ j = some mj → mi.cb = mj.cb → h.get i = some bi → h.get j = some bj →
    bi.mode = .rw → bj.mode ≠ .dead → j ∈ bi.par ∧ bj.mode = .sup
  par : ∀ i m b, μ i = some m → h.get i = some b → ∀ p ∈ b.par, ∃ m', μ p = some m' ∧ (m'.cb = m.cb → m'.base + m'.len ≤ m.base + m.len)

/-- The model's block is that of an abstract one that may be written. -/
def RW (μ : Mu) (h : AH) (cb : Nat) : Prop := ∃ i m b, μ i = some m ∧ m.cb = cb ∧ h.get i = some b ∧ b.mode = .rw

structure Ext (μ : Mu) (h : AH) (w : World) (μ' : Mu) (h' : AH) (w' : World) : Prop where
  n_le : h.n ≤ h'.n
  mu : ∀ i, i < h.n → μ' i = μ i
  ghost : ∀ i, i < h.n → μ i = none → h'.get i = h.get i
  os : w'.os = w.os
  tape : w'.tape = w.tape
  output : w'.output = w.output
  size : w.heap.size ≤ w'.heap.size
  keep : ∀ cb, cb < w.heap.size → ¬ RW μ h cb → w'.heap[cb]? = w.heap[cb]?
  rw : ∀ cb, cb < w.heap.size → RW μ' h' cb → RW μ h cb

theorem Ext.refl (μ : Mu) (h : AH) (w : World) : Ext μ h w μ h w :=
  ⟨Nat.le_refl _, fun _ _ => rfl, fun _ _ _ => rfl, rfl, rfl, rfl, Nat.le_refl _, fun _ _ _ => rfl, fun _ _ h => h⟩
theorem Ext.le {μ μ' : Mu} {h h' : AH} {w w' : World} (r : Rel μ h w) (e : Ext μ h w μ' h' w') : μ.le μ' :=
  fun i m hi => by rw [e.mu i (r.dom i m hi)]; exact hi
theorem Ext.trans {μ μ1 μ2 : Mu} {h h1 h2 : AH} {w w1 w2 : World} (a : Ext μ h w μ1 h1 w1) (b : Ext μ1 h1 w1 μ2 h2 w2) : Ext μ h w μ2 h2 w2 where
  n_le := Nat.le_trans a.n_le b.n_le
  mu := fun i hi => (b.mu i (Nat.lt_of_lt_of_le hi a.n_le)).trans (a.mu i hi)
  ghost := fun i hi e => (b.ghost i (Nat.lt_of_lt_of_le hi a.n_le) ((a.mu i hi).trans e)).trans (a.ghost i hi e)
  os := b.os.trans a.os
  tape := b.tape.trans a.tape
  output := b.output.trans a.output
  size := Nat.le_trans a.size b.size
  keep := fun cb hc hn => (b.keep cb (Nat.lt_of_lt_of_le hc a.size) fun k => hn (a.rw cb hc k)).trans (a.keep cb hc hn)
  rw := fun cb hc k => a.rw cb hc (b.rw cb (Nat.lt_of_lt_of_le hc a.size) k)

/-- A draw turns nothing. -/
theorem Rel.drew {μ : Mu} {h : AH} {w : World} (r : Rel μ h w) (n : Nat) : Rel μ h { w with drawn := n } :=
  ⟨r.dom, r.hi, r.has, r.lies, r.excl, r.par⟩
theorem Ext.drew {μ : Mu} {h : AH} {w : World} (n : Nat) : Ext μ h w μ h { w with drawn := n } :=
  ⟨Nat.le_refl _, fun _ _ => rfl, fun _ _ _ => rfl, rfl, rfl, rfl, Nat.le_refl _, fun _ _ _ => rfl, fun _ _ h => h⟩
end Go.Proofs.Ytfppdfmffdkogaa.AI
