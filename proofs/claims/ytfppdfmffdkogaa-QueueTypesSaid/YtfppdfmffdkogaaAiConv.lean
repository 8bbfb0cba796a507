/- Conversions. -/
import Derived.Test.YtfppdfmffdkogaaAiOpsM
import Derived.Laws.BytesArg
import Derived.Laws.LoneSync
namespace Go.Proofs.Ytfppdfmffdkogaa.AI
open Go
set_option linter.unusedSimpArgs false

variable {P : Program} {μ : Mu} {h : AH} {w : World}

theorem toBytes_nums : ∀ {cs : List AVal} {s : List UInt8}, toBytes cs = some s → ∃ ns : List Int, s = ns.map (fun n => UInt8.ofNat n.toNat) ∧ ∀ {l : List Value}, VRs μ cs l → l = ns.map (Value.int .u8)
  | [], s, h => by
      simp only [toBytes, Option.some.injEq] at h
      subst h
      exact ⟨[], rfl, fun hl => by cases hl; rfl⟩
  | c :: cs, s, h => by
      cases c <;> try (simp [toBytes] at h; done)
      rename_i k n
      cases k <;> try (simp [toBytes] at h; done)
      simp only [toBytes, Option.map_eq_some_iff] at h
      obtain ⟨r, hr, rfl⟩ := h
      obtain ⟨ns, rfl, hns⟩ := toBytes_nums hr
      exact ⟨n :: ns, rfl, fun hl => by
        cases hl with
        | cons hc hl => cases hc; rw [hns hl]; rfl⟩

theorem aConvert_good (r : Rel μ h w) {src dst : TypeId} {x v : AVal} {h' : AH} (hc : aConvert P src dst x h = some (v, h')) {xv : Value} (hx : VR μ x xv) : GoodH P μ h w (convert src dst xv) v h' := by
  unfold aConvert at hc
  split at hc
  · rename_i d k k2 n hs hd
    simp only [Option.some.injEq, Prod.mk.injEq] at hc
    obtain ⟨rfl, rfl⟩ := hc
    cases hx
    exact ⟨_, w, μ, by simp [convert, und_run src hs, und_run dst hd, Conv.intToInt], .int _ _, r, Ext.refl _ _ _⟩
  · rename_i d s hs hd
    simp only [Option.some.injEq, Prod.mk.injEq] at hc
    obtain ⟨rfl, rfl⟩ := hc
    cases hx
    exact ⟨_, w, μ, by simp [convert, und_run src hs, und_run dst hd], .str _, r, Ext.refl _ _ _⟩
  · rename_i d e s hs hd
    split at hc
    · rename_i he
      split at hc
      · rename_i hl
        simp only [Option.map_eq_some_iff, Prod.exists, Prod.mk.injEq] at hc
        obtain ⟨i, h1, hn, rfl, rfl⟩ := hc
        cases hx
        obtain ⟨nc, hnc⟩ : ∃ nc, nc = (Question.appendCap s.length 0 e).cut (w.tape w.drawn (.appendCap s.length 0 e)) := ⟨_, rfl⟩
        have hge : s.length ≤ nc := by rw [hnc]; exact cut_ge _ _ _ _
        obtain ⟨C, hC⟩ : ∃ C : Array Value, C = (s.toArray.map fun b => Value.int .u8 b.toNat) ++ Array.replicate (nc - s.length) (.int .u8 0) := ⟨_, rfl⟩
        have hCs : C.size = nc := by rw [hC]; simp; omega
        have hbl : (bytesOf s).length = s.length := by simp [bytesOf]
        obtain ⟨rfl, hrel, hext⟩ := newRow_make r hn (C := C) (fr := (nc, nc + 1))
          (by
            rw [hbl, hC]
            simp only [Array.toList_append]
            rw [List.take_append_of_le_length (by simp), List.take_of_length_le (by simp)]
            simpa using bytesOf_VRs s) (by omega) (by simp) (by intro o ho; simp only; omega) (w.drawn + 1)
        refine ⟨.slice (some ⟨w.heap.size, 0, none⟩) s.length nc, _, _, ?_, .slice (m := ⟨w.heap.size, 0, (bytesOf s).length, C.size, true⟩) (by simp [muNew]) (by omega) (Nat.le_refl _) (by show 0 + s.length * 1 ≤ (bytesOf s).length; omega)
          (.inr ⟨rfl, by show 0 + s.length * 1 = (bytesOf s).length; omega, hge⟩) (by show 0 + nc * 1 ≤ C.size; omega), hrel, hext⟩
        have hcv : (convert src dst (.string ⟨s.toArray⟩)).run P w = (Conv.stringToBytes e ⟨s.toArray⟩).run P w := by
          simp only [convert, Sem.run_bind, und_run src hs, und_run dst hd, Result.andThen_ok, und_run e he]
        rw [hcv]
        simp only [Conv.stringToBytes, size_mk, Sem.run_bind, run_choose, Question.forced, Bool.false_eq_true, if_false, Result.andThen_ok, ← hnc]
        simp only [newRow, Sem.run_bind, run_newObj, Result.andThen_ok, Sem.run_pure, ← hC]
        have hsh : ({ w with heap := w.heap.push (Obj.cells C e), drawn := w.drawn + 1 } : World).shape? w.heap.size = some (e, nc) := by
          simp [World.shape?, hCs]
        simp only [markStringish, Sem.run_bind, run_shape, Result.andThen_ok, hsh, run_freeze]
        congr 1
        simp only [World.freeze]
        rw [if_neg (by omega)]
        simp only [World.mk.injEq, and_true]
        apply Array.ext_getElem?
        intro q
        rw [Array.getElem?_modify]
        by_cases hq : w.heap.size = q
        · subst hq; simp
        · rw [if_neg hq, Array.getElem?_push, Array.getElem?_push, if_neg (Ne.symm hq), if_neg (Ne.symm hq)]
      · cases hc
    · cases hc
  · rename_i e a len cap hs hd
    split at hc
    · rename_i he
      simp only [Option.some.injEq, Prod.mk.injEq] at hc
      obtain ⟨rfl, rfl⟩ := hc
      cases hx
      exact ⟨.string .empty, w, μ, by simp [convert, und_run src hs, und_run dst hd, und_run e he, Conv.bytesToString], .str [], r, Ext.refl _ _ _⟩
    · rename_i i off z he
      have go : ∀ (a : Addr) (l c : Nat) (C : Array Value) (s : List UInt8) (cs : List AVal), (loadCells a l).run P w = .ok C w → VRs μ cs C.toList → toBytes cs = some s →
          (convert src dst (.slice (some a) l c)).run P w = .ok (.string ⟨s.toArray⟩) w := by
        intro a l c C s cs hl hC hs2
        obtain ⟨ns, rfl, hns⟩ := toBytes_nums (μ := μ) hs2
        have hCe : C = (ns.map (Value.int .u8)).toArray := by rw [← hns hC]
        rw [hCe] at hl
        rw [run_convert_bytes_string w src dst e _ l c hs he hd, run_bytesToString w a l c ns hl, foldl_push_bytes]
        congr 2
        apply ByteArray.ext
        simp
      split at hc
      · rename_i h0
        subst h0
        simp only [Option.some.injEq, Prod.mk.injEq] at hc
        obtain ⟨rfl, rfl⟩ := hc
        have : ∀ (a : Addr) (c : Nat), (convert src dst (.slice (some a) 0 c)).run P w = .ok (.string ⟨([] : List UInt8).toArray⟩) w := fun a c =>
          go a 0 c #[] [] [] (by simp [loadCells, loadCellsFrom]) .nil rfl
        cases hx with
        | slice => exact ⟨_, w, μ, this _ _, .str [], r, Ext.refl _ _ _⟩
        | sliceE => exact ⟨_, w, μ, this _ _, .str [], r, Ext.refl _ _ _⟩
      · rename_i h0
        split at hc
        · rename_i hz
          subst hz
          simp only [Option.map_eq_some_iff, Option.bind_eq_some_iff, Prod.mk.injEq] at hc
          obtain ⟨s, ⟨cs, hrd, hs2⟩, rfl, rfl⟩ := hc
          cases hx with
          | slice hm hz hle hcc hcap hr =>
            rename_i cap' m
            unfold AH.read at hrd
            simp only [Option.bind_eq_some_iff] at hrd
            obtain ⟨row, hrow, hrd⟩ := hrd
            split at hrd
            · rename_i hb
              simp only [Option.some.injEq] at hrd
              subst hrd
              obtain ⟨g1, g2, C, e2, fr, g3, g4, g5⟩ := r.row hm hrow
              refine ⟨_, w, μ, go _ _ _ _ s _ (loadCells_run g3 (show m.base + off + len ≤ C.size by omega)) ?_ hs2, .str s, r, Ext.refl _ _ _⟩
              rw [Array.toList_extract, List.extract_eq_take_drop, show m.base + off + len - (m.base + off) = len by omega]
              have := (g5.drop off).take len
              rw [List.drop_take, List.drop_drop, List.take_take, Nat.min_eq_left (by omega)] at this
              exact this
            · cases hrd
          | sliceE => exact absurd rfl h0
        · cases hc
    · cases hc
  · rename_i t i off hs hd
    split at hc
    · rename_i n hn
      simp only [Option.bind_eq_some_iff] at hc
      obtain ⟨cs, hrow, hc⟩ := hc
      split at hc
      · rename_i hlt
        simp only [Option.some.injEq, Prod.mk.injEq] at hc
        obtain ⟨rfl, rfl⟩ := hc
        cases hx with
        | ptr hm =>
          rename_i m
          obtain ⟨hl, hroom, C, e, fr, hb, hsz, hC⟩ := r.row hm hrow
          have hcell : ∃ y, w.cell? ⟨m.cb, m.base + off, none⟩ = some y := by
            unfold World.cell?
            simp only [hb]
            exact ⟨_, Array.getElem?_eq_getElem (show m.base + off < C.size by omega)⟩
          obtain ⟨y, hy⟩ := hcell
          unfold szT at hn
          obtain ⟨inf, h1, h2⟩ := Option.map_eq_some_iff.1 hn
          have hrun := run_convert_to_unsafe hs hd (by rw [h1]; simp [h2]) hy
          exact ⟨_, w, μ, hrun, .ptr hm, r, Ext.refl _ _ _⟩
      · cases hc
    · cases hc
  · cases hc
theorem aConvertQ_good (r : Rel μ h w) {src dst : TypeId} (hns : ∀ e, P.underlying dst ≠ some (.slice e)) {x v : AVal} {h' : AH} (hc : aConvert P src dst x h = some (v, h')) {xv : Value} (hx : VR μ x xv) : Good P μ w (convert src dst xv) v := by
  unfold aConvert at hc
  split at hc
  · rename_i d k k2 n hs hd
    simp only [Option.some.injEq, Prod.mk.injEq] at hc
    obtain ⟨rfl, rfl⟩ := hc
    cases hx
    exact ⟨_, by simp [convert, und_run src hs, und_run dst hd, Conv.intToInt], .int _ _⟩
  · rename_i d s hs hd
    simp only [Option.some.injEq, Prod.mk.injEq] at hc
    obtain ⟨rfl, rfl⟩ := hc
    cases hx
    exact ⟨_, by simp [convert, und_run src hs, und_run dst hd], .str _⟩
  · rename_i d e s hs hd; exact absurd hd (hns _)
  · rename_i e a len cap hs hd
    split at hc
    · rename_i he
      simp only [Option.some.injEq, Prod.mk.injEq] at hc
      obtain ⟨rfl, rfl⟩ := hc
      cases hx
      exact ⟨.string .empty, by simp [convert, und_run src hs, und_run dst hd, und_run e he, Conv.bytesToString], .str []⟩
    · rename_i i off z he
      have go : ∀ (a : Addr) (l c : Nat) (C : Array Value) (s : List UInt8) (cs : List AVal), (loadCells a l).run P w = .ok C w → VRs μ cs C.toList → toBytes cs = some s →
          (convert src dst (.slice (some a) l c)).run P w = .ok (.string ⟨s.toArray⟩) w := by
        intro a l c C s cs hl hC hs2
        obtain ⟨ns, rfl, hns⟩ := toBytes_nums (μ := μ) hs2
        have hCe : C = (ns.map (Value.int .u8)).toArray := by rw [← hns hC]
        rw [hCe] at hl
        rw [run_convert_bytes_string w src dst e _ l c hs he hd, run_bytesToString w a l c ns hl, foldl_push_bytes]
        congr 2
        apply ByteArray.ext
        simp
      split at hc
      · rename_i h0
        subst h0
        simp only [Option.some.injEq, Prod.mk.injEq] at hc
        obtain ⟨rfl, rfl⟩ := hc
        have : ∀ (a : Addr) (c : Nat), (convert src dst (.slice (some a) 0 c)).run P w = .ok (.string ⟨([] : List UInt8).toArray⟩) w := fun a c =>
          go a 0 c #[] [] [] (by simp [loadCells, loadCellsFrom]) .nil rfl
        cases hx with
        | slice => exact ⟨_, this _ _, .str []⟩
        | sliceE => exact ⟨_, this _ _, .str []⟩
      · rename_i h0
        split at hc
        · rename_i hz
          subst hz
          simp only [Option.map_eq_some_iff, Option.bind_eq_some_iff, Prod.mk.injEq] at hc
          obtain ⟨s, ⟨cs, hrd, hs2⟩, rfl, rfl⟩ := hc
          cases hx with
          | slice hm hz hle hcc hcap hr =>
            rename_i cap' m
            unfold AH.read at hrd
            simp only [Option.bind_eq_some_iff] at hrd
            obtain ⟨row, hrow, hrd⟩ := hrd
            split at hrd
            · rename_i hb
              simp only [Option.some.injEq] at hrd
              subst hrd
              obtain ⟨g1, g2, C, e2, fr, g3, g4, g5⟩ := r.row hm hrow
              refine ⟨_, go _ _ _ _ s _ (loadCells_run g3 (show m.base + off + len ≤ C.size by omega)) ?_ hs2, .str s⟩
              rw [Array.toList_extract, List.extract_eq_take_drop, show m.base + off + len - (m.base + off) = len by omega]
              have := (g5.drop off).take len
              rw [List.drop_take, List.drop_drop, List.take_take, Nat.min_eq_left (by omega)] at this
              exact this
            · cases hrd
          | sliceE => exact absurd rfl h0
        · cases hc
    · cases hc
  · rename_i t i off hs hd
    split at hc
    · rename_i n hn
      simp only [Option.bind_eq_some_iff] at hc
      obtain ⟨cs, hrow, hc⟩ := hc
      split at hc
      · rename_i hlt
        simp only [Option.some.injEq, Prod.mk.injEq] at hc
        obtain ⟨rfl, rfl⟩ := hc
        cases hx with
        | ptr hm =>
          rename_i m
          obtain ⟨hl, hroom, C, e, fr, hb, hsz, hC⟩ := r.row hm hrow
          have hcell : ∃ y, w.cell? ⟨m.cb, m.base + off, none⟩ = some y := by
            unfold World.cell?
            simp only [hb]
            exact ⟨_, Array.getElem?_eq_getElem (show m.base + off < C.size by omega)⟩
          obtain ⟨y, hy⟩ := hcell
          unfold szT at hn
          obtain ⟨inf, h1, h2⟩ := Option.map_eq_some_iff.1 hn
          have hrun := run_convert_to_unsafe hs hd (by rw [h1]; simp [h2]) hy
          exact ⟨_, hrun, .ptr hm⟩
      · cases hc
    · cases hc
  · cases hc

/-- Bytes turned into bytes: the same ones; from then on they are read alone. -/
def aConvB (P : Program) (src dst : TypeId) (x : AVal) (h : AH) : Option (AVal × AH) :=
  match P.underlying src, P.underlying dst, x with
  | some (.slice _), some (.slice e), .slice (some (i, off, sz)) len cap =>
    match P.underlying e with
    | some (.int .u8) => if src = dst ∧ 0 < len then match h.get i with
        | some ⟨.row cs el opn, .rw, par⟩ => some (.slice (some (i, off, sz)) len cap, h.set i ⟨.row cs el opn, .ro, par⟩)
        | _ => none
      else none
    | _ => none
  | _, _, _ => none
theorem aConvB_good (r : Rel μ h w) {src dst : TypeId} {x v : AVal} {h' : AH} (hc : aConvB P src dst x h = some (v, h')) {xv : Value} (hx : VR μ x xv) : GoodH P μ h w (convert src dst xv) v h' := by
  unfold aConvB at hc
  split at hc
  · rename_i e0 e i off sz len cap hs hd
    split at hc
    · rename_i he
      split at hc
      · rename_i hl
        obtain ⟨rfl, hlen⟩ := hl
        split at hc
        · rename_i cs el opn par hg
          simp only [Option.some.injEq, Prod.mk.injEq] at hc
          obtain ⟨rfl, rfl⟩ := hc
          have hx0 := hx
          cases hx with
          | sliceE => exact absurd hlen (Nat.lt_irrefl 0)
          | slice hm hz hle hcc hcap hr =>
            rename_i cap' m
            obtain ⟨h1, h2, h3, h4, C, e1, fr, hb, hsz, hC, hel, hfr⟩ := r.lies i m _ hm hg (by simp)
            simp only at hel
            have hcb := r.hi i m hm
            obtain ⟨lo, hi⟩ := fr
            obtain ⟨fr', hfr'⟩ : ∃ fr', fr' = (if lo == hi then (C.size, C.size + 1) else (min lo C.size, max hi (C.size + 1))) := ⟨_, rfl⟩
            have hsh : w.shape? m.cb = some (e1, C.size) := by simp [World.shape?, hb]
            have hrun : (convert src src (.slice (some ⟨m.cb, m.base + off, none⟩) len cap')).run P w = .ok (.slice (some ⟨m.cb, m.base + off, none⟩) len cap') (put w m.cb (.cells C e1 fr')) := by
              have hee : e0 = e := by rw [hs] at hd; simpa using hd
              subst hee
              simp only [convert, Sem.run_bind, und_run src hs, Result.andThen_ok, und_run e0 he, beq_self_eq_true, markStringish, run_shape, hsh, run_freeze, Sem.run_pure]
              congr 1
              simp only [World.freeze, put]
              rw [if_neg (by omega)]
              simp only [World.mk.injEq, and_true]
              apply Array.ext_getElem?
              intro q
              rw [Array.getElem?_modify, Array.getElem?_setIfInBounds]
              by_cases hq : m.cb = q
              · subst hq
                rw [if_pos rfl, if_pos rfl, hb]
                simp [hcb, hfr']
              · rw [if_neg hq, if_neg hq]
            refine ⟨_, _, μ, hrun, hx0, ?_, ?_⟩
            · -- how the heaps stand to one another
              have hget : ∀ j, (h.set i ⟨.row cs el opn, .ro, par⟩).get j = if j = i then some ⟨.row cs el opn, .ro, par⟩ else h.get j := fun j => AH.get_set h i j _
              have hput := fun k => put_heap w m.cb (.cells C e1 fr') k hcb
              refine ⟨fun j mj e => by simpa using r.dom j mj e, fun j mj e => by rw [put_size]; exact r.hi j mj e, fun j mj e => ?_, fun j mj b hmj hgj hdead => ?_, fun a b ma mb ba bb hab hma hmb hcbe hga hgb hrw hnd => ?_, fun j mj b hmj hgj p hp => ?_⟩
              · rw [hget]
                split
                · exact ⟨_, rfl⟩
                · exact r.has j mj e
              · rw [hget] at hgj
                by_cases c : mj.cb = m.cb
                · have key : ∀ b', h.get j = some b' → b'.mode ≠ .dead → b'.mode ≠ .rw ∨ j = i := by
                    intro b' hb' hd'
                    by_cases cj : j = i
                    · exact .inr cj
                    · left
                      intro hrw
                      have := (r.excl i j m mj _ b' (Ne.symm cj) hm hmj c.symm hg hb' rfl hd').2
                      rw [hrw] at this; cases this
                  split at hgj
                  · rename_i cj
                    subst cj
                    rw [hm] at hmj
                    simp only [Option.some.injEq] at hmj hgj
                    subst hmj hgj
                    exact ⟨h1, h2, h3, h4, C, e1, fr', by rw [hput, if_pos rfl], hsz, hC, fun hh => absurd rfl hh, fun hh => by cases hh⟩
                  · rename_i cj
                    have hj := r.lies j mj b hmj hgj hdead
                    have hnrw := (key b hgj hdead).resolve_right cj
                    unfold Lies at hj ⊢
                    split at hj
                    · rename_i cells elem opn' hbo
                      obtain ⟨g1, g2, g3, g4, C', e', fr2, g5, g6, g7, g8, g9⟩ := hj
                      rw [c, hb] at g5
                      simp only [Option.some.injEq, Obj.cells.injEq] at g5
                      obtain ⟨rfl, rfl, rfl⟩ := g5
                      exact ⟨g1, g2, g3, g4, C, e1, fr', by rw [hput, if_pos c], g6, g7, g8, fun hh => absurd hh hnrw⟩
                    · rename_i es hbo
                      obtain ⟨_, E, g5, _⟩ := hj
                      rw [c, hb] at g5
                      cases g5
                    · rename_i s pos hbo
                      obtain ⟨_, g5⟩ := hj
                      rw [c, hb] at g5
                      cases g5
                · have hj : Lies μ w.heap mj b := by
                    split at hgj
                    · rename_i cj
                      subst cj
                      rw [hm] at hmj
                      simp only [Option.some.injEq] at hmj
                      subst hmj
                      exact absurd rfl c
                    · exact r.lies j mj b hmj hgj hdead
                  exact hj.mono (Mu.le_refl _) (by rw [hput, if_neg c])
              · rw [hget] at hga hgb
                split at hga
                · simp only [Option.some.injEq] at hga
                  subst hga
                  cases hrw
                · split at hgb
                  · rename_i ca cb
                    subst cb
                    simp only [Option.some.injEq] at hgb
                    subst hgb
                    have := (r.excl a b ma m ba _ hab hma hm (by rw [hmb] at hm; simp only [Option.some.injEq] at hm; rw [← hm]; exact hcbe) hga hg hrw (by simp)).2
                    cases this
                  · exact r.excl a b ma mb ba bb hab hma hmb hcbe hga hgb hrw hnd
              · rw [hget] at hgj
                split at hgj
                · rename_i cj
                  subst cj
                  simp only [Option.some.injEq] at hgj
                  subst hgj
                  exact r.par j mj _ hmj hg p hp
                · exact r.par j mj b hmj hgj p hp
            · refine ⟨by simp, fun _ _ => rfl, fun j hj e => ?_, rfl, rfl, rfl, by rw [put_size]; exact Nat.le_refl _, fun cb hcb' hn => ?_, fun cb hcb' hrw => ?_⟩
              · rw [AH.get_set, if_neg]
                rintro rfl
                rw [hm] at e; cases e
              · rw [put_heap _ _ _ _ hcb, if_neg]
                rintro rfl
                exact hn ⟨i, m, _, hm, rfl, hg, rfl⟩
              · obtain ⟨j, mj, b, e1', e2', e3', e4'⟩ := hrw
                rw [AH.get_set] at e3'
                split at e3'
                · simp only [Option.some.injEq] at e3'
                  subst e3'
                  cases e4'
                · exact ⟨j, mj, b, e1', e2', e3', e4'⟩
        · cases hc
      · cases hc
    · cases hc
  · cases hc
end Go.Proofs.Ytfppdfmffdkogaa.AI
