/- queue, of things of four cells: its memory. -/
import Derived.Test.YtfppdfmffdkogaaQueueB
namespace Go.Proofs.Ytfppdfmffdkogaa.AI
open Go
set_option linter.unusedSimpArgs false
set_option linter.unusedVariables false
variable {ov : AOver} {h : AH} {p off : Nat} {cs : List AVal} {t : TypeId} {ob : Bool} {par : List Nat} {s : QSt}
/-- Four cells are set; the others stay. -/
theorem splice4_at {ring zs : List AVal} {a n : Nat} (ha : a < n) (hl : ring.length = n * 4) (hz : zs.length = 4) : ((splice ring (a * 4) zs).drop (a * 4)).take 4 = zs := by
  rw [splice_def]
  have h1 : (ring.take (a * 4)).length = a * 4 := by rw [List.length_take]; omega
  rw [List.append_assoc, List.drop_left' h1, List.take_left' hz]
theorem splice4_ne {ring zs : List AVal} {a b n : Nat} (ha : a < n) (hb : b < n) (hab : b ≠ a) (hl : ring.length = n * 4) (hz : zs.length = 4) : ((splice ring (a * 4) zs).drop (b * 4)).take 4 = (ring.drop (b * 4)).take 4 := by
  rw [splice_def]
  have h1 : (ring.take (a * 4)).length = a * 4 := by rw [List.length_take]; omega
  apply List.ext_getElem?
  intro i
  by_cases hi : i < 4
  · rw [List.getElem?_take_of_lt hi, List.getElem?_take_of_lt hi, List.getElem?_drop, List.getElem?_drop]
    by_cases c : b < a
    · rw [List.getElem?_append_left (by simp; omega), List.getElem?_append_left (by omega), List.getElem?_take_of_lt (by omega)]
    · rw [List.getElem?_append_right (by simp; omega), List.getElem?_drop]
      congr 1
      simp
      omega
  · rw [List.getElem?_eq_none (by simp; omega), List.getElem?_eq_none (by simp; omega)]
theorem splice4_len {ring zs : List AVal} {a n : Nat} (ha : a < n) (hl : ring.length = n * 4) (hz : zs.length = 4) : (splice ring (a * 4) zs).length = n * 4 := by
  rw [splice_def]; simp; omega
theorem take4_len {ring : List AVal} {a n : Nat} (ha : a < n) (hl : ring.length = n * 4) : ((ring.drop (a * 4)).take 4).length = 4 := by simp; omega
/-- Its memory, all of it in F; lk: the lock. -/
structure QC4 (tq te : TypeId) (h : AH) (p : Nat) (s : QSt) (lk : Int) (F : Nat → Prop) (cs : List AVal) : Prop where
  g : ∃ par, h.get p = some ⟨.row cs tq false, .rw, par⟩
  l : cs.length = 12
  c0 : cs[0]? = some (.int .i32 lk)
  c2 : cs[2]? = some (.int .u32 (if s.made then 1 else 0))
  c3 : cs[3]? = some (.int .i32 0)
  c5 : cs[5]? = some (.int .i64 s.most)
  c7 : cs[7]? = some (.int .i64 s.at_)
  c8 : cs[8]? = some (.int .i64 s.w.length)
  c9 : cs[9]? = some (.int .u64 s.put)
  c10 : cs[10]? = some (.int .u64 s.ref)
  c11 : cs[11]? = some (.int .u64 s.tak)
  m1 : 1 ≤ s.most
  m64 : s.most ≤ 64
  at_ : s.at_ < s.most
  n : s.w.length ≤ s.most
  nm : s.made = false → s.w = []
  r : s.made = true → ∃ v ring, cs[6]? = some v ∧ Ow h v te 4 s.most ring ∧ (∀ i, isBk v i → i ≠ p ∧ F i) ∧ ∀ (k : Nat) y, s.w[k]? = some y → y = .agg ((ring.drop (((s.at_ + k) % s.most) * 4)).take 4)
  fp : F p
  fl : ∀ i, F i → i < h.n
def Qu4 (tq te : TypeId) (h : AH) (p : Nat) (s : QSt) (lk : Int) (F : Nat → Prop) : Prop := ∃ cs, QC4 tq te h p s lk F cs
variable {tq te : TypeId} {s : QSt} {lk : Int} {F : Nat → Prop}
theorem Qu4.ke {S : Nat → Prop} {h' : AH} (L : Qu4 tq te h p s lk F) (k : Ke S h h') (hS : ∀ i, S i → ¬ F i) : Qu4 tq te h' p s lk F := by
  obtain ⟨cs, ⟨par, g⟩, l, c0, c2, c3, c5, c7, c8, c9, c10, c11, m1, m64, at_, n, nm, r, fp, fl⟩ := L
  refine ⟨cs, ⟨par, k.gt g fun hh => hS p hh fp⟩, l, c0, c2, c3, c5, c7, c8, c9, c10, c11, m1, m64, at_, n, nm, fun hm => ?_, fp, fun i hi => Nat.lt_of_lt_of_le (fl i hi) k.n⟩
  obtain ⟨v, ring, e, o, f, rg⟩ := r hm
  exact ⟨v, ring, e, o.ke k fun i hi hh => hS i hh (f i hi).2, f, rg⟩
theorem Qu4.grow {G : Nat → Prop} (L : Qu4 tq te h p s lk F) (hG : ∀ i, F i → G i) (hl : ∀ i, G i → i < h.n) : Qu4 tq te h p s lk G := by
  obtain ⟨cs, g, l, c0, c2, c3, c5, c7, c8, c9, c10, c11, m1, m64, at_, n, nm, r, fp, fl⟩ := L
  refine ⟨cs, g, l, c0, c2, c3, c5, c7, c8, c9, c10, c11, m1, m64, at_, n, nm, fun hm => ?_, hG p fp, hl⟩
  obtain ⟨v, ring, e, o, f, rg⟩ := r hm
  exact ⟨v, ring, e, o, fun i hi => ⟨(f i hi).1, hG i (f i hi).2⟩, rg⟩
/-- The lock is taken, or given back. -/
theorem Qu4.lock {lk' : Int} {h' : AH} (L : Qu4 tq te h p s lk F) (k : Ke (· = p) h h') (g' : ∀ cs par, h.get p = some ⟨.row cs tq false, .rw, par⟩ → ∃ par', h'.get p = some ⟨.row (cs.set 0 (.int .i32 lk')) tq false, .rw, par'⟩) : Qu4 tq te h' p s lk' F := by
  obtain ⟨cs, ⟨par, g⟩, l, c0, c2, c3, c5, c7, c8, c9, c10, c11, m1, m64, at_, n, nm, r, fp, fl⟩ := L
  obtain ⟨par', g2⟩ := g' cs par g
  refine ⟨_, ⟨par', g2⟩, by rw [List.length_set]; exact l, ?_, ?_, ?_, ?_, ?_, ?_, ?_, ?_, ?_, m1, m64, at_, n, nm, fun hm => ?_, fp, fun i hi => Nat.lt_of_lt_of_le (fl i hi) k.n⟩
  · rw [List.getElem?_set, if_pos rfl, if_pos (by omega)]
  · rw [List.getElem?_set_ne (by omega)]; exact c2
  · rw [List.getElem?_set_ne (by omega)]; exact c3
  · rw [List.getElem?_set_ne (by omega)]; exact c5
  · rw [List.getElem?_set_ne (by omega)]; exact c7
  · rw [List.getElem?_set_ne (by omega)]; exact c8
  · rw [List.getElem?_set_ne (by omega)]; exact c9
  · rw [List.getElem?_set_ne (by omega)]; exact c10
  · rw [List.getElem?_set_ne (by omega)]; exact c11
  · obtain ⟨v, ring, e, o, f, rg⟩ := r hm
    exact ⟨v, ring, by rw [List.getElem?_set_ne (by omega)]; exact e, o.ke k fun i hi hh => (f i hi).1 hh, f, rg⟩
theorem Qu4.dolock (X : Xs ov) (n : Nat) (w : Wf h) (L : Qu4 tq te h p s 0 F) : Wp (kc ov (n + 3) N_sync_Mutex_Lock [.ptr (some (p, 0))] h) fun r h' => Ke F h h' ∧ h'.n = h.n ∧ Qu4 tq te h' p s 1 F := by
  obtain ⟨cs, C⟩ := id L
  obtain ⟨par, g⟩ := C.g
  refine (lock_spec X n w g C.c0).mono ?_
  rintro r h' ⟨e, k, hn, g'⟩
  rw [splice_one _ _ _ (by rw [C.l]; omega)] at g'
  exact ⟨k.mono fun i hi => by subst hi; exact C.fp, hn, L.lock k fun cs2 par2 g2 => by rw [g] at g2; cases g2; exact ⟨_, g'⟩⟩
theorem Qu4.unlock (X : Xs ov) (n : Nat) (w : Wf h) (L : Qu4 tq te h p s 1 F) : Wp (kd ov (n + 2) N_sync_Mutex_Unlock [.ptr (some (p, 0))] h) fun r h' => Ke F h h' ∧ h'.n = h.n ∧ Qu4 tq te h' p s 0 F := by
  obtain ⟨cs, C⟩ := id L
  obtain ⟨par, g⟩ := C.g
  refine (unlock_specD X n w g C.c0).mono ?_
  rintro r h' ⟨e, k, hn, g'⟩
  rw [splice_one _ _ _ (by rw [C.l]; omega)] at g'
  exact ⟨k.mono fun i hi => by subst hi; exact C.fp, hn, L.lock k fun cs2 par2 g2 => by rw [g] at g2; cases g2; exact ⟨_, g'⟩⟩
end Go.Proofs.Ytfppdfmffdkogaa.AI
