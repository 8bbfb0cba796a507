/- FbP, FbLaw of the machine, joined. -/
import Derived.Test.YtindiedfioiejaaDoorAiNumP
import Derived.Test.YtindiedfioiejaaDoorAiLib5
namespace Go.Proofs.YtindiedfioiejaaDoor.AI
open Go
set_option linter.unusedSimpArgs false
set_option linter.unusedVariables false
inductive Bl | ton | tof | tp | ctu | ctd | ctud | rt | ft | sr | rs
  deriving DecidableEq
abbrev Nm := List UInt8
def pIN : Nm := [73, 78]
def pPT : Nm := [80, 84]
def pQ : Nm := [81]
def pET : Nm := [69, 84]
def pCU : Nm := [67, 85]
def pCD : Nm := [67, 68]
def pR : Nm := [82]
def pLD : Nm := [76, 68]
def pPV : Nm := [80, 86]
def pCV : Nm := [67, 86]
def pQU : Nm := [81, 85]
def pQD : Nm := [81, 68]
def pCLK : Nm := [67, 76, 75]
def pS1 : Nm := [83, 49]
def pS : Nm := [83]
def pR1 : Nm := [82, 49]
def pQ1 : Nm := [81, 49]
def Bl.nm : Bl → Nm
  | .ton => [84, 79, 78] | .tof => [84, 79, 70] | .tp => [84, 80] | .ctu => [67, 84, 85] | .ctd => [67, 84, 68] | .ctud => [67, 84, 85, 68]
  | .rt => [82, 95, 84, 82, 73, 71] | .ft => [70, 95, 84, 82, 73, 71] | .sr => [83, 82] | .rs => [82, 83]
def Bl.ins : Bl → List Nm
  | .ton => [pIN, pPT] | .tof => [pIN, pPT] | .tp => [pIN, pPT] | .ctu => [pCU, pR, pPV] | .ctd => [pCD, pLD, pPV] | .ctud => [pCU, pCD, pR, pLD, pPV]
  | .rt => [pCLK] | .ft => [pCLK] | .sr => [pS1, pR] | .rs => [pS, pR1]
def Bl.outs : Bl → List Nm
  | .ton => [pQ, pET] | .tof => [pQ, pET] | .tp => [pQ, pET] | .ctu => [pQ, pCV] | .ctd => [pQ, pCV] | .ctud => [pQU, pQD, pCV]
  | .rt => [pQ] | .ft => [pQ] | .sr => [pQ1] | .rs => [pQ1]
/-- A pin's kind. -/
def kdN (n : Nm) : Int := if n = pPT ∨ n = pET then 11 else if n = pPV ∨ n = pCV then 3 else 1
structure Stt where
  f : Nm → Int
  k0 : Int
  k1 : Int
  k2 : Int
  now : Int
def tr (b : Bool) : Int := if b then 1 else 0
def Stt.is (s : Stt) (n : Nm) : Bool := decide (s.f n ≠ 0)
def Stt.put (s : Stt) (n : Nm) (x : Int) : Stt := { s with f := upd s.f n x }
def Stt.set (s : Stt) (n : Nm) (b : Bool) : Stt := s.put n (tr b)
def Stt.kp (s : Stt) (i : Nat) : Int := if i = 0 then s.k0 else if i = 1 then s.k1 else s.k2
def Stt.keep (s : Stt) (i : Nat) (x : Int) : Stt := if i = 0 then { s with k0 := x } else if i = 1 then { s with k1 := x } else { s with k2 := x }
def sinceM (now k1 : Int) : Int := max (wrapM 4 (IntKind.wrap .i64 (now - k1))) 0
def Stt.pt (s : Stt) : Int := max (s.f pPT) 0
def Stt.since (s : Stt) : Int := sinceM s.now s.k1
def Stt.elapsed (s : Stt) : Int := min s.since s.pt
def Stt.risen (s : Stt) (n : Nm) (i : Nat) : Stt := s.keep i (tr (s.is n))
def Stt.rises (s : Stt) (n : Nm) (i : Nat) : Bool := s.is n && !decide (s.kp i ≠ 0)
def edgeM (falls : Bool) (s : Stt) : Stt :=
  (s.set pQ (!(s.is pCLK == decide (s.k0 ≠ 0)) && !(s.is pCLK == falls))).keep 0 (tr (s.is pCLK))
def latchM (a : Bool) (s : Stt) : Stt :=
  if a then s.set pQ1 (s.is pS1 || s.is pQ1 && !s.is pR) else s.set pQ1 (!s.is pR1 && (s.is pS || s.is pQ1))
def tonM (s : Stt) : Stt :=
  let s1 := s.risen pIN 0
  let s2 := if s.rises pIN 0 then (s1.keep 1 s.now).keep 2 0 else s1
  if s2.is pIN then
    if s2.k2 = 1 then (s2.put pET s2.pt).put pQ 1
    else let s3 := s2.put pET s2.elapsed
         let s4 := s3.set pQ (decide (s2.elapsed ≥ s2.pt))
         s4.keep 2 (s4.f pQ)
  else ((s2.put pET 0).put pQ 0).keep 2 0
def tofM (s : Stt) : Stt :=
  let s1 := s.keep 0 (tr (s.is pIN))
  if s.is pIN then ((s1.put pQ 1).put pET 0).keep 2 0
  else
    let s2 := if s.k0 ≠ 0 then (s1.keep 1 s.now).keep 2 1 else s1
    if s2.k2 = 0 then s2.put pQ 0
    else
      let s3 := (s2.put pET s2.elapsed).set pQ (decide (s2.elapsed < s2.pt))
      if s2.elapsed < s2.pt then s3 else s3.keep 2 0
def tpM (s : Stt) : Stt :=
  let s1 := s.risen pIN 0
  let s2 := if s.k2 ≠ 1 ∧ s.rises pIN 0 = true then (s1.keep 1 s.now).keep 2 1 else s1
  let s3 := if s2.k2 = 1 then
      (let s3 := (s2.put pET s2.elapsed).set pQ (decide (s2.elapsed < s2.pt))
       if s2.elapsed < s2.pt then s3 else s3.keep 2 2)
    else s2.put pQ 0
  if s3.k2 ≠ 1 ∧ s3.is pIN = false then (s3.put pET 0).keep 2 0 else s3
def countM (up down reset load : Nm) (s : Stt) : Stt :=
  let n := s.f pCV
  let u := decide (¬ up = []) && s.rises up 0
  let s1 := if up = [] then s else s.risen up 0
  let k : Nat := if up = [] then 0 else 1
  let d := decide (¬ down = []) && s1.rises down k
  let s2 := if down = [] then s1 else s1.risen down k
  let m := if s2.is reset then 0 else if s2.is load then s2.f pPV else if u && !d then min (IntKind.wrap .i64 (n + 1)) 32767 else if d && !u then max (IntKind.wrap .i64 (n - 1)) (-32768) else n
  let s3 := s2.put pCV m
  let s4 := if up = [] then s3 else s3.set (if down = [] then pQ else pQU) (decide (m ≥ s3.f pPV))
  if down = [] then s4 else s4.set (if up = [] then pQ else pQD) (decide (m ≤ 0))
def Bl.step : Bl → Stt → Stt
  | .ton => tonM | .tof => tofM | .tp => tpM | .ctu => countM pCU [] pR [] | .ctd => countM [] pCD [] pLD | .ctud => countM pCU pCD pR pLD
  | .rt => edgeM false | .ft => edgeM true | .sr => latchM true | .rs => latchM false
def layF : List Nm → List Int → (Nm → Int) → (Nm → Int)
  | n :: ns, x :: l, f => layF ns l (upd f n (wrapM (kdN n) x))
  | _, _, f => f
/-- What is told, what is kept. -/
structure Told where
  out : List Int
  k0 : Int
  k1 : Int
  k2 : Int
def startM (b : Bl) (i o : List Int) (k0 k1 k2 now : Int) : Stt := ⟨layF b.outs o (layF b.ins i fun _ => 0), wrapM 4 k0, wrapM 4 k1, wrapM 4 k2, wrapM 4 now⟩
def progM (b : Bl) (i o : List Int) (k0 k1 k2 now : Int) : Told :=
  let s := b.step (startM b i o k0 k1 k2 now)
  ⟨b.outs.map fun n => wrapM (kdN n) (s.f n), s.k0, s.k1, s.k2⟩
/-- The document's. -/
def timerM (b : Bl) (a : Bool) (pt : Int) (k0 k1 k2 o0 o1 now : Int) : Told :=
  let et := wrapM 11 o1
  let edge := a && decide (k0 = 0)
  let fall := !a && decide (k0 ≠ 0)
  match b with
  | .ton =>
    let k1' := if edge then now else k1
    let k2' := if edge then 0 else k2
    if a then
      if k2' = 1 then ⟨[1, pt], tr a, k1', k2'⟩
      else let e := min (sinceM now k1') pt
           ⟨[tr (decide (e ≥ pt)), e], tr a, k1', tr (decide (e ≥ pt))⟩
    else ⟨[0, 0], tr a, k1', 0⟩
  | .tof =>
    if a then ⟨[1, 0], tr a, k1, 0⟩
    else
      let k1' := if fall then now else k1
      let k2' := if fall then 1 else k2
      if k2' ≠ 0 then
        let e := min (sinceM now k1') pt
        ⟨[tr (decide (e < pt)), e], tr a, k1', if e < pt then k2' else 0⟩
      else ⟨[0, et], tr a, k1', k2'⟩
  | _ =>
    let st := decide (k2 ≠ 1) && edge
    let k1' := if st then now else k1
    let k2' := if st then 1 else k2
    let e := min (sinceM now k1') pt
    let q := decide (k2' = 1) && decide (e < pt)
    let et' := if k2' = 1 then e else et
    let k2'' := if k2' = 1 then (if e < pt then 1 else 2) else k2'
    if k2'' ≠ 1 ∧ a = false then ⟨[tr q, 0], tr a, k1', 0⟩ else ⟨[tr q, et'], tr a, k1', k2''⟩
def gi (l : List Int) (n : Nat) : Int := l.getD n 0
def refM (b : Bl) (i o : List Int) (c0 c1 c2 now0 : Int) : Told :=
  let now := wrapM 4 now0
  let k0 := wrapM 4 c0
  let k1 := wrapM 4 c1
  let k2 := wrapM 4 c2
  let a := decide (gi i 0 ≠ 0)
  let bb := decide (gi i 1 ≠ 0)
  match b with
  | .rt => ⟨[tr (a && decide (k0 = 0))], tr a, k1, k2⟩
  | .ft => ⟨[tr (!a && decide (k0 ≠ 0))], tr a, k1, k2⟩
  | .sr => ⟨[tr (a || decide (gi o 0 ≠ 0) && !bb)], k0, k1, k2⟩
  | .rs => ⟨[tr (!bb && (a || decide (gi o 0 ≠ 0)))], k0, k1, k2⟩
  | .ctu =>
    let pv := wrapM 3 (gi i 2)
    let cv := wrapM 3 (gi o 1)
    let c := if bb then 0 else if a && decide (k0 = 0) && decide (cv < 32767) then IntKind.wrap .i64 (cv + 1) else cv
    ⟨[tr (decide (c ≥ pv)), c], tr a, k1, k2⟩
  | .ctd =>
    let pv := wrapM 3 (gi i 2)
    let cv := wrapM 3 (gi o 1)
    let c := if bb then pv else if a && decide (k0 = 0) && decide (cv > -32768) then IntKind.wrap .i64 (cv - 1) else cv
    ⟨[tr (decide (c ≤ 0)), c], tr a, k1, k2⟩
  | .ctud =>
    let pv := wrapM 3 (gi i 4)
    let cv := wrapM 3 (gi o 2)
    let up := a && decide (k0 = 0)
    let dn := bb && decide (k1 = 0)
    let c := if gi i 2 ≠ 0 then 0 else if gi i 3 ≠ 0 then pv else if up && !dn && decide (cv < 32767) then IntKind.wrap .i64 (cv + 1) else if dn && !up && decide (cv > -32768) then IntKind.wrap .i64 (cv - 1) else cv
    ⟨[tr (decide (c ≥ pv)), tr (decide (c ≤ 0)), c], tr a, tr bb, k2⟩
  | t => timerM t a (max (wrapM 11 (gi i 1)) 0) k0 k1 k2 (gi o 0) (gi o 1) now
theorem layF_ne {n : Nm} : ∀ (ns : List Nm) (l : List Int) (f : Nm → Int), n ∉ ns → layF ns l f n = f n
  | [], l, f, _ => by cases l <;> rfl
  | m :: ns, [], f, _ => rfl
  | m :: ns, x :: l, f, h => by
      simp only [List.mem_cons, not_or] at h
      simp only [layF]
      rw [layF_ne ns l _ h.2]
      simp [upd, h.1]
theorem wrapM_zero (k : Int) : wrapM k 0 = 0 := by unfold wrapM; split <;> (try rfl) <;> repeat' split <;> (try rfl) <;> (try simp)
theorem layF_at {n : Nm} : ∀ (ns : List Nm) (l : List Int) (f : Nm → Int) (j : Nat), ns.Nodup → ns[j]? = some n → f n = 0 → layF ns l f n = wrapM (kdN n) (gi l j)
  | [], l, f, j, _, hj, _ => by simp at hj
  | m :: ns, [], f, j, _, hj, hf => by simp [layF, gi, hf, wrapM_zero]
  | m :: ns, x :: l, f, 0, hd, hj, hf => by
      simp only [List.getElem?_cons_zero, Option.some.injEq] at hj
      subst hj
      simp only [layF]
      rw [layF_ne _ _ _ (List.nodup_cons.1 hd).1]
      simp [upd, gi]
  | m :: ns, x :: l, f, j + 1, hd, hj, hf => by
      simp only [List.getElem?_cons_succ] at hj
      have hne : n ≠ m := fun e => (List.nodup_cons.1 hd).1 (e ▸ List.mem_of_getElem? hj)
      simp only [layF]
      rw [layF_at ns l _ j (List.nodup_cons.1 hd).2 hj (by simp [upd, hne, hf])]
      simp [gi]
theorem ins_outs (b : Bl) : (∀ n ∈ b.ins, n ∉ b.outs) ∧ (∀ n ∈ b.outs, n ∉ b.ins) := by cases b <;> decide
theorem start_in (b : Bl) (i o : List Int) (k0 k1 k2 now : Int) {n : Nm} {j : Nat} (hj : b.ins[j]? = some n) : (startM b i o k0 k1 k2 now).f n = wrapM (kdN n) (gi i j) := by
  have hm := List.mem_of_getElem? hj
  have hn := (ins_outs b).1 n hm
  simp only [startM]
  rw [layF_ne _ _ _ hn]
  exact layF_at _ _ _ _ (by cases b <;> decide) hj rfl
theorem start_out (b : Bl) (i o : List Int) (k0 k1 k2 now : Int) {n : Nm} {j : Nat} (hj : b.outs[j]? = some n) : (startM b i o k0 k1 k2 now).f n = wrapM (kdN n) (gi o j) := by
  have hm := List.mem_of_getElem? hj
  have hn := (ins_outs b).2 n hm
  simp only [startM]
  refine layF_at _ _ _ _ (by cases b <;> decide) hj ?_
  rw [layF_ne _ _ _ hn]
theorem w1 (x : Int) : wrapM 1 x = if x = 0 then 0 else 1 := rfl
theorem w3 (x : Int) : wrapM 3 x = (x + 32768) % 65536 - 32768 := rfl
theorem w4 (x : Int) : wrapM 4 x = (x + 2147483648) % 4294967296 - 2147483648 := rfl
theorem w11 (x : Int) : wrapM 11 x = (x + 2147483648) % 4294967296 - 2147483648 := rfl
theorem tr_t : tr true = 1 := rfl
theorem tr_f : tr false = 0 := rfl
theorem w1_tr (b : Bool) : wrapM 1 (tr b) = tr b := by cases b <;> rfl
theorem w1_ne (x : Int) : decide (wrapM 1 x ≠ 0) = decide (x ≠ 0) := by rw [w1]; split <;> simp_all
theorem tr_ne (b : Bool) : decide (tr b ≠ 0) = b := by cases b <;> rfl
theorem sinceM_range (now k1 : Int) : 0 ≤ sinceM now k1 ∧ sinceM now k1 ≤ 2147483647 := by unfold sinceM; rw [w4]; omega
theorem start_no (b : Bl) (i o : List Int) (k0 k1 k2 now : Int) {n : Nm} (h1 : n ∉ b.ins) (h2 : n ∉ b.outs) : (startM b i o k0 k1 k2 now).f n = 0 := by
  simp only [startM]
  rw [layF_ne _ _ _ h2, layF_ne _ _ _ h1]
theorem w11_id {x : Int} (h0 : 0 ≤ x) (h1 : x ≤ 2147483647) : wrapM 11 x = x := by rw [w11]; omega
theorem w11_el (n k p : Int) : wrapM 11 (min (sinceM n k) (max (wrapM 11 p) 0)) = min (sinceM n k) (max (wrapM 11 p) 0) := by
  have h1 := sinceM_range n k
  have h2 : 0 ≤ max (wrapM 11 p) 0 := by omega
  exact w11_id (by omega) (by omega)
theorem w11_pt (p : Int) : wrapM 11 (max (wrapM 11 p) 0) = max (wrapM 11 p) 0 := by
  refine w11_id (by omega) ?_
  rw [w11]; omega
theorem w11_w (p : Int) : wrapM 11 (wrapM 11 p) = wrapM 11 p := by simp only [w11]; omega
theorem w3_w (p : Int) : wrapM 3 (wrapM 3 p) = wrapM 3 p := by simp only [w3]; omega
theorem w1_z (x : Int) : (wrapM 1 x = 0) = (x = 0) := by rw [w1]; split <;> simp_all
theorem w3_up (p : Int) : min (IntKind.wrap .i64 (wrapM 3 p + 1)) 32767 = (if wrapM 3 p < 32767 then IntKind.wrap .i64 (wrapM 3 p + 1) else wrapM 3 p) := by
  have h : -32768 ≤ wrapM 3 p ∧ wrapM 3 p ≤ 32767 := by rw [w3]; omega
  generalize wrapM 3 p = x at h
  rw [wr_i64 (by omega) (by omega)]
  split <;> omega
theorem w3_up' (p : Int) : wrapM 3 (if wrapM 3 p < 32767 then IntKind.wrap .i64 (wrapM 3 p + 1) else wrapM 3 p) = (if wrapM 3 p < 32767 then IntKind.wrap .i64 (wrapM 3 p + 1) else wrapM 3 p) := by
  have h : -32768 ≤ wrapM 3 p ∧ wrapM 3 p ≤ 32767 := by rw [w3]; omega
  generalize wrapM 3 p = x at h
  rw [wr_i64 (by omega) (by omega), w3]
  split <;> omega
theorem w3_dn (p : Int) : max (IntKind.wrap .i64 (wrapM 3 p - 1)) (-32768) = (if -32768 < wrapM 3 p then IntKind.wrap .i64 (wrapM 3 p - 1) else wrapM 3 p) := by
  have h : -32768 ≤ wrapM 3 p ∧ wrapM 3 p ≤ 32767 := by rw [w3]; omega
  generalize wrapM 3 p = x at h
  rw [wr_i64 (by omega) (by omega)]
  split <;> omega
theorem w3_dn' (p : Int) : wrapM 3 (if -32768 < wrapM 3 p then IntKind.wrap .i64 (wrapM 3 p - 1) else wrapM 3 p) = (if -32768 < wrapM 3 p then IntKind.wrap .i64 (wrapM 3 p - 1) else wrapM 3 p) := by
  have h : -32768 ≤ wrapM 3 p ∧ wrapM 3 p ≤ 32767 := by rw [w3]; omega
  generalize wrapM 3 p = x at h
  rw [wr_i64 (by omega) (by omega), w3]
  split <;> omega
theorem prog_ref (b : Bl) (i o : List Int) (k0 k1 k2 now : Int) : progM b i o k0 k1 k2 now = refM b i o k0 k1 k2 now := by
  have si := @start_in b i o k0 k1 k2 now
  have so := @start_out b i o k0 k1 k2 now
  have sn := @start_no b i o k0 k1 k2 now
  have e0 : (startM b i o k0 k1 k2 now).k0 = wrapM 4 k0 := rfl
  have e1 : (startM b i o k0 k1 k2 now).k1 = wrapM 4 k1 := rfl
  have e2 : (startM b i o k0 k1 k2 now).k2 = wrapM 4 k2 := rfl
  have e3 : (startM b i o k0 k1 k2 now).now = wrapM 4 now := rfl
  simp only [progM]
  generalize startM b i o k0 k1 k2 now = s at *
  obtain ⟨f, c0, c1, c2, nw⟩ := s
  simp only at e0 e1 e2 e3 si so
  subst e0 e1 e2 e3
  have z3 : wrapM 3 0 = 0 := rfl
  have z11 : wrapM 11 0 = 0 := rfl
  cases b
  case rt =>
    have a := si (n := pCLK) (j := 0) rfl
    simp (decide := true) only [Bl.step, edgeM, Stt.is, Stt.put, Stt.set, Stt.keep, upd, Bl.outs, List.map, if_true, if_false, refM, kdN, w1_tr, a, w1_ne]
    congr 1
    cases decide (gi i 0 ≠ 0) <;> by_cases c : wrapM 4 k0 = 0 <;> simp [c, tr]
  case ft =>
    have a := si (n := pCLK) (j := 0) rfl
    simp (decide := true) only [Bl.step, edgeM, Stt.is, Stt.put, Stt.set, Stt.keep, upd, Bl.outs, List.map, if_true, if_false, refM, kdN, w1_tr, a, w1_ne]
    congr 1
    cases decide (gi i 0 ≠ 0) <;> by_cases c : wrapM 4 k0 = 0 <;> simp [c, tr]
  case sr =>
    have a := si (n := pS1) (j := 0) rfl
    have b := si (n := pR) (j := 1) rfl
    have c := so (n := pQ1) (j := 0) rfl
    simp (decide := true) only [Bl.step, latchM, Stt.is, Stt.put, Stt.set, Stt.keep, upd, Bl.outs, List.map, if_true, if_false, refM, kdN, w1_tr, a, b, c, w1_ne]
  case rs =>
    have a := si (n := pS) (j := 0) rfl
    have b := si (n := pR1) (j := 1) rfl
    have c := so (n := pQ1) (j := 0) rfl
    simp (decide := true) only [Bl.step, latchM, Stt.is, Stt.put, Stt.set, Stt.keep, upd, Bl.outs, List.map, if_true, if_false, refM, kdN, w1_tr, a, b, c, w1_ne]
  case ctu =>
    have a := si (n := pCU) (j := 0) rfl
    have b := si (n := pR) (j := 1) rfl
    have c := si (n := pPV) (j := 2) rfl
    have d := so (n := pCV) (j := 1) rfl
    have e := sn (n := []) (by decide) (by decide)
    simp (decide := true) only [Bl.step, countM, Stt.is, Stt.put, Stt.set, Stt.keep, Stt.rises, Stt.risen, Stt.kp, upd, Bl.outs, List.map, if_true, if_false, refM, kdN, w1_tr, a, b, c, d, w1_ne, e]
    by_cases g0 : gi i 0 = 0 <;> by_cases g1 : gi i 1 = 0 <;> by_cases q : wrapM 4 k0 = 0 <;> simp [g0, g1, q, z3, w3_w, w3_up, w3_up']
  case ctd =>
    have a := si (n := pCD) (j := 0) rfl
    have b := si (n := pLD) (j := 1) rfl
    have c := si (n := pPV) (j := 2) rfl
    have d := so (n := pCV) (j := 1) rfl
    have e := sn (n := []) (by decide) (by decide)
    simp (decide := true) only [Bl.step, countM, Stt.is, Stt.put, Stt.set, Stt.keep, Stt.rises, Stt.risen, Stt.kp, upd, Bl.outs, List.map, if_true, if_false, refM, kdN, w1_tr, a, b, c, d, w1_ne, e]
    by_cases g0 : gi i 0 = 0 <;> by_cases g1 : gi i 1 = 0 <;> by_cases q : wrapM 4 k0 = 0 <;> simp [g0, g1, q, z3, w3_w, w3_dn, w3_dn']
  case ctud =>
    have a := si (n := pCU) (j := 0) rfl
    have a1 := si (n := pCD) (j := 1) rfl
    have a2 := si (n := pR) (j := 2) rfl
    have b := si (n := pLD) (j := 3) rfl
    have c := si (n := pPV) (j := 4) rfl
    have d := so (n := pCV) (j := 2) rfl
    simp (decide := true) only [Bl.step, countM, Stt.is, Stt.put, Stt.set, Stt.keep, Stt.rises, Stt.risen, Stt.kp, upd, Bl.outs, List.map, if_true, if_false, refM, kdN, w1_tr, a, a1, a2, b, c, d, w1_ne]
    by_cases g2 : gi i 2 = 0 <;> by_cases g3 : gi i 3 = 0
    · by_cases g0 : gi i 0 = 0 <;> by_cases g1 : gi i 1 = 0 <;> by_cases q : wrapM 4 k0 = 0 <;> by_cases q1 : wrapM 4 k1 = 0 <;> simp [g0, g1, g2, g3, q, q1, z3, w3_w, w3_dn, w3_up, w3_dn', w3_up']
    all_goals simp [g2, g3, z3, w3_w, w3_dn, w3_up, w3_dn', w3_up']
  all_goals
    have a := si (n := pIN) (j := 0) rfl
    have b := si (n := pPT) (j := 1) rfl
    have c := so (n := pQ) (j := 0) rfl
    have d := so (n := pET) (j := 1) rfl
    have a' : f pIN = wrapM 1 (gi i 0) := a
    have b' : f pPT = wrapM 11 (gi i 1) := b
    have d' : f pET = wrapM 11 (gi o 1) := d
    have u0 : wrapM 1 0 = 0 := rfl
    have u1 : wrapM 1 1 = 1 := rfl
    clear si so sn a b c d
  case ton =>
    by_cases g0 : gi i 0 = 0 <;> by_cases q : wrapM 4 k0 = 0 <;> by_cases q2 : wrapM 4 k2 = 1 <;>
    simp (decide := true) [Bl.step, tonM, Stt.is, Stt.put, Stt.set, Stt.keep, Stt.rises, Stt.risen, Stt.kp, Stt.pt, Stt.since, Stt.elapsed, upd, Bl.outs, refM, timerM, kdN, w1_tr, a', b', w1_z, z11, w11_pt, w11_el, g0, q, q2, u0, u1]
  case tof =>
    by_cases g0 : gi i 0 = 0 <;> by_cases q : wrapM 4 k0 = 0 <;> by_cases q2 : wrapM 4 k2 = 0 <;>
    simp (decide := true) [Bl.step, tofM, Stt.is, Stt.put, Stt.set, Stt.keep, Stt.rises, Stt.risen, Stt.kp, Stt.pt, Stt.since, Stt.elapsed, upd, Bl.outs, refM, timerM, kdN, w1_tr, a', b', d', w1_z, z11, w11_pt, w11_el, w11_w, g0, q, q2, u0, u1]
    all_goals split <;> simp (decide := true) [upd, w1_tr, w11_el, *]
  case tp =>
    by_cases g0 : gi i 0 = 0 <;> by_cases q : wrapM 4 k0 = 0 <;> by_cases q2 : wrapM 4 k2 = 1 <;>
    simp (decide := true) [Bl.step, tpM, Stt.is, Stt.put, Stt.set, Stt.keep, Stt.rises, Stt.risen, Stt.kp, Stt.pt, Stt.since, Stt.elapsed, upd, Bl.outs, refM, timerM, kdN, w1_tr, a', b', d', w1_z, z11, w11_pt, w11_el, w11_w, g0, q, q2, u0, u1]
    all_goals split <;> simp (decide := true) [upd, w1_tr, w11_el, w1_z, g0, u0, u1, *]
end Go.Proofs.YtindiedfioiejaaDoor.AI
namespace Go.Proofs.YtindiedfioiejaaDoor.AI
open Go
set_option linter.unusedSimpArgs false
set_option linter.unusedVariables false
def allBl : List Bl := [.ton, .tof, .tp, .ctu, .ctd, .ctud, .rt, .ft, .sr, .rs]
/-- The block of a name. -/
def bl? (n : Nm) : Option Bl := allBl.find? fun b => decide (b.nm = n)
theorem bl?_nm (b : Bl) : bl? b.nm = some b := by cases b <;> decide
theorem bl?_some {n : Nm} {b : Bl} (e : bl? n = some b) : n = b.nm := by
  have := List.find?_some e
  simpa using (of_decide_eq_true this).symm
theorem mem_allBl (b : Bl) : b ∈ allBl := by cases b <;> decide
theorem bl?_none {n : Nm} (e : bl? n = none) (b : Bl) : ¬ n = b.nm := by
  have := List.find?_eq_none.1 e b (mem_allBl b)
  intro h; exact this (decide_eq_true h.symm)
def noTold : Told := ⟨[], 0, 0, 0⟩
/-- What a step tells, of any name. -/
def toldS (n : Nm) (i o : List Int) (k0 k1 k2 now : Int) : Told := match bl? n with | some b => refM b i o k0 k1 k2 now | none => noTold
theorem toldS_nm (b : Bl) (i o : List Int) (k0 k1 k2 now : Int) : toldS b.nm i o k0 k1 k2 now = refM b i o k0 k1 k2 now := by unfold toldS; rw [bl?_nm]
/-- Where a block's life stands behind so many steps. -/
def sts (b : Bl) (L : List (List Int)) (T : List Int) : Nat → Told
  | 0 => noTold
  | i + 1 => refM b (L.getD i []) (sts b L T i).out (sts b L T i).k0 (sts b L T i).k1 (sts b L T i).k2 (T.getD i 0)
def livesM (b : Bl) (L : List (List Int)) (T : List Int) : List (List Int) := (List.range (min L.length T.length)).map fun i => (sts b L T (i + 1)).out
theorem livesM_len (b : Bl) (L : List (List Int)) (T : List Int) : (livesM b L T).length = min L.length T.length := by simp [livesM]
theorem livesM_at (b : Bl) (L : List (List Int)) (T : List Int) {i : Nat} (hi : i < min L.length T.length) : (livesM b L T).getD i [] = (sts b L T (i + 1)).out := by
  simp only [livesM, List.getD_eq_getElem?_getD, List.getElem?_map, List.getElem?_range hi, Option.map_some, Option.getD_some]

theorem wr64_small {x : Int} (h : -9223372036854775808 ≤ x ∧ x < 9223372036854775808) : IntKind.wrap .i64 x = x := wr_i64 h.1 h.2
theorem since_eq {n k m l : Int} (e : (n - k - (m - l)) % 4294967296 = 0) : sinceM (wrapM 4 n) (wrapM 4 k) = sinceM (wrapM 4 m) (wrapM 4 l) := by
  unfold sinceM
  simp only [w4]
  rw [wr64_small (by omega), wr64_small (by omega)]
  omega
theorem since_small {n k : Int} (h0 : 0 ≤ k) (h1 : k ≤ n) (h2 : n ≤ 2147483647) : sinceM (wrapM 4 n) (wrapM 4 k) = n - k := by
  unfold sinceM
  simp only [w4]
  rw [wr64_small (by omega)]
  omega
theorem w4_id {n : Int} (h0 : -2147483648 ≤ n) (h2 : n ≤ 2147483647) : wrapM 4 n = n := by rw [w4]; omega
theorem w4_w (n : Int) : wrapM 4 (wrapM 4 n) = wrapM 4 n := by simp only [w4]; omega

/-! Timers: their own time alone. -/
def isTm : Bl → Prop
  | .ton => True | .tof => True | .tp => True | _ => False
def liveT (b : Bl) (t : Told) : Prop := match b with | .ton => wrapM 4 t.k0 ≠ 0 | .tof => wrapM 4 t.k2 ≠ 0 | _ => wrapM 4 t.k2 = 1
/-- The same, but for the clock's number. -/
structure SameT (b : Bl) (t u : Told) (x y : Int) : Prop where
  o : t.out = u.out
  k0 : wrapM 4 t.k0 = wrapM 4 u.k0
  k2 : wrapM 4 t.k2 = wrapM 4 u.k2
  k1 : liveT b t → (x - t.k1 - (y - u.k1)) % 4294967296 = 0
theorem w4_tr (b : Bool) : wrapM 4 (tr b) = tr b := by cases b <;> rfl
theorem w4_0 : wrapM 4 0 = 0 := rfl
theorem w4_1 : wrapM 4 1 = 1 := rfl
theorem w4_2 : wrapM 4 2 = 2 := rfl
theorem same_step {b : Bl} (hb : isTm b) {t u : Told} {x y x' y' : Int} (s : SameT b t u x y) (i : List Int) (hx : (x' - x - (y' - y)) % 4294967296 = 0) :
    SameT b (refM b i t.out t.k0 t.k1 t.k2 x') (refM b i u.out u.k0 u.k1 u.k2 y') x' y' := by
  obtain ⟨o, k0, k2, k1⟩ := s
  have hnow : (wrapM 4 x' - wrapM 4 x' - (wrapM 4 y' - wrapM 4 y')) % 4294967296 = 0 := by omega
  have e0 : sinceM (wrapM 4 x') (wrapM 4 x') = sinceM (wrapM 4 y') (wrapM 4 y') := since_eq (by omega)
  have hk : liveT b t → sinceM (wrapM 4 x') (wrapM 4 t.k1) = sinceM (wrapM 4 y') (wrapM 4 u.k1) := fun h => since_eq (by have := k1 h; omega)
  have hk' : liveT b t → (x' - wrapM 4 t.k1 - (y' - wrapM 4 u.k1)) % 4294967296 = 0 := fun h => by have := k1 h; simp only [w4]; omega
  have hn' : (x' - wrapM 4 x' - (y' - wrapM 4 y')) % 4294967296 = 0 := by simp only [w4]; omega
  clear k1 hx
  rw [← o]
  cases b <;> try exact hb.elim
  · simp only [refM, timerM, ← k0, ← k2, liveT] at *
    generalize decide (gi i 0 ≠ 0) = a
    cases a
    · exact ⟨by simp, by simp, by simp, by simp [liveT, tr_f, w4_0]⟩
    · by_cases c : wrapM 4 t.k0 = 0
      · simp only [c, decide_true, Bool.true_and, if_true, e0]
        exact ⟨by simp, by simp, by simp, by simp [liveT, hn']⟩
      · simp only [c, decide_false, Bool.true_and, Bool.false_and, Bool.and_false, if_true, if_false, hk c, Bool.false_eq_true]
        split
        · exact ⟨by simp, by simp, by simp, by simp [liveT, hk' c]⟩
        · exact ⟨by simp, by simp, by simp, by simp [liveT, hk' c]⟩
  · simp only [refM, timerM, ← k0, ← k2, liveT] at *
    generalize decide (gi i 0 ≠ 0) = a
    cases a
    · by_cases c : wrapM 4 t.k0 = 0
      · simp only [c, Bool.not_false, Bool.true_and, decide_true, decide_false, not_true, ne_eq, Bool.false_eq_true, if_false]
        by_cases d : wrapM 4 t.k2 = 0
        · simp only [d, not_true, if_false]
          exact ⟨by simp, by simp, by simp, by simp [liveT, w4_0]⟩
        · simp only [d, not_false_eq_true, if_true, hk d]
          exact ⟨by simp, by simp, by simp, fun _ => hk' d⟩
      · simp only [c, Bool.not_false, Bool.true_and, decide_true, decide_false, not_false_eq_true, ne_eq, if_true, e0, Bool.false_eq_true, if_false]
        simp only [show ¬ ((1 : Int) = 0) by decide, not_false_eq_true, if_true]
        exact ⟨by simp, by simp, by simp, fun _ => hn'⟩
    · simp only [if_true]
      exact ⟨by simp, by simp, by simp, by simp [liveT, w4_0]⟩
  · simp only [refM, timerM, ← k0, ← k2, liveT] at *
    generalize decide (gi i 0 ≠ 0) = a
    by_cases d : wrapM 4 t.k2 = 1
    · simp only [d, ne_eq, not_true, decide_false, decide_true, Bool.false_and, if_true, if_false, Bool.true_and, Bool.false_eq_true, hk d]
      split
      · exact ⟨by simp, by simp, by simp, fun _ => by simpa using hk' d⟩
      · cases a <;> exact ⟨by simp, by simp, by simp, by simp [liveT, w4_0, w4_2]⟩
    · by_cases c : (a && decide (wrapM 4 t.k0 = 0)) = true
      · simp only [d, c, ne_eq, not_false_eq_true, decide_true, Bool.true_and, if_true, e0]
        split
        · exact ⟨by simp, by simp, by simp, fun _ => by simpa using hn'⟩
        · cases a <;> exact ⟨by simp, by simp, by simp, by simp [liveT, w4_0, w4_2]⟩
      · simp only [d, c, ne_eq, not_false_eq_true, decide_true, decide_false, Bool.true_and, Bool.and_true, Bool.false_and, if_true, if_false, Bool.false_eq_true]
        split
        · exact ⟨by simp, by simp, by simp, by simp [liveT, w4_0]⟩
        · refine ⟨by simp, by simp, by simp, fun h => ?_⟩
          simp only [liveT, w4_w] at h
          exact absurd h d
theorem sts_same {b : Bl} (hb : isTm b) (L : List (List Int)) {A B : List Int} {x y : Int} (h0 : ∀ i, (A.getD i 0 - x - (B.getD i 0 - y)) % 4294967296 = 0) : ∀ i, SameT b (sts b L A i) (sts b L B i) (if i = 0 then x else A.getD (i - 1) 0) (if i = 0 then y else B.getD (i - 1) 0)
  | 0 => ⟨rfl, rfl, rfl, fun h => by cases b <;> simp [liveT, sts, noTold, w4_0] at h⟩
  | i + 1 => by
    have ih := sts_same hb L h0 i
    have := same_step hb (x' := A.getD i 0) (y' := B.getD i 0) ih (L.getD i []) (by
      have e1 := h0 i
      have e2 := h0 (i - 1)
      by_cases hi : i = 0
      · simp only [hi, if_true] at *; exact e1
      · simp only [hi, if_false]; omega)
    simpa [sts] using this
end Go.Proofs.YtindiedfioiejaaDoor.AI
