/- Parts of a proof: Da Db Dc Dd De Df Dg. -/
import Derived.Test.YtikgokpbhldlnaaGreatDoorYMf
import Derived.Test.YtikgokpbhldlnaaGreatDoorYQa
set_option linter.unusedVariables false
set_option linter.unusedSimpArgs false
set_option linter.unusedSectionVars false
section
/- The parser, as a function: what parse.Parse computes. -/
namespace Go.Proofs.YtikgokpbhldlnaaGreatDoor
open Go Go.Ab
/-- The nodes so far, and the place among the tokens. -/
structure PS where
  t : List Nd
  p : Nat
abbrev Er := Int × Int
abbrev Out (α : Type) := Except Er (α × PS)
abbrev Pr (α : Type) := PS → Out α
def bindP {α β : Type} (m : Out α) (f : α → PS → Out β) : Out β := match m with
  | .error e => .error e
  | .ok (a, st) => f a st
def adv (st : PS) : PS := ⟨st.t, st.p + 1⟩
def ik (l : List Nat) : List Int := l.map fun n : Nat => (n : Int)
def putP (op : Int) (tx : List UInt8) (kids : List Nat) (st : PS) : Out Nat := .ok (st.t.length, ⟨st.t ++ [⟨op, ofL tx, 0, ik kids⟩], st.p⟩)
section
variable (l : List Tok) (en : Nat)
def kindP (p : Nat) : Int := match l[p]? with
  | some k => k.kind
  | none => 0
def textP (p : Nat) : List UInt8 := match l[p]? with
  | some k => k.text
  | none => []
def isP (p : Nat) (tx : List UInt8) : Bool := match l[p]? with
  | some k => decide (6 ≤ k.kind) && decide (k.text = tx)
  | none => false
def failP (e : Int) (st : PS) : Er := (match l[st.p]? with
  | some k => k.pos
  | none => en, e)
def takeP (tx : List UInt8) (st : PS) : Out Unit := if isP l st.p tx = true then .ok ((), adv st) else .error (failP l en 8 st)
def nameP (k : Int) (st : PS) : Out (List UInt8) := if kindP l st.p = k then .ok (textP l st.p, adv st) else .error (failP l en 8 st)
def isVarP (p : Nat) : Bool := decide (kindP l p = 1)
def typedP (p : Nat) : Bool := ((decide (kindP l p = 2) || isVarP l p) || isP l p [40]) || isP l p [91]
def beginsP (p : Nat) : Bool := (((decide (1 ≤ kindP l p) && decide (kindP l p ≤ 5)) || isP l p [40]) || isP l p [91]) || isP l p [95]
def atomicP (p : Nat) : Bool := beginsP l p && !isP l p [95]
def opP (p : Nat) : Option (List UInt8 × Int × Int) := opList.find? fun o => decide (kindP l p = 8) && isP l p o.1
def manyF (B : Nat → Bool) (one : Pr Nat) : Nat → List Nat → Pr (List Nat)
  | 0, kids, st => .ok (kids, st)
  | f + 1, kids, st => if B st.p = true then (if kids.length = 8 then .error (failP l en 11 st) else bindP (one st) fun k st => manyF B one f (kids ++ [k]) st) else .ok (kids, st)
def commasF (one : Pr Nat) (fin : List UInt8) (most : Nat) : Nat → List Nat → Pr (List Nat)
  | 0, kids, st => .ok (kids, st)
  | f + 1, kids, st => if isP l st.p [44] = true then (if kids.length = most then .error (failP l en 11 st) else bindP (one (adv st)) fun k st => commasF one fin most f (kids ++ [k]) st)
    else bindP (takeP l en fin st) fun _ st => .ok (kids, st)
def commasP (one : Pr Nat) (fin : List UInt8) (most : Nat) (st : PS) : Out (List Nat) := bindP (one st) fun k st => commasF l en one fin most (l.length + 1) [k] st
def semisF (B : Nat → Bool) (one : Pr Nat) : Nat → List Nat → Pr (List Nat)
  | 0, kids, st => .ok (kids, st)
  | f + 1, kids, st => bindP (if B st.p = true then bindP (one st) fun k st => .ok (kids ++ [k], st) else .ok (kids, st)) fun kids st => if isP l st.p [59] = true then semisF B one f kids (adv st) else .ok (kids, st)
def leafP (ops : List Int) (st : PS) : Out Nat := match l[st.p]? with
  | some k => .ok (st.t.length, ⟨st.t ++ [⟨ops.getD (k.kind - 1).toNat 0, ofL k.text, k.num, []⟩], st.p + 1⟩)
  | none => .error (0, 0)
def bracketsP (one : Pr Nat) (lst tup unt : Int) (st : PS) : Out Nat :=
  if isP l st.p [91] = true then
    (if isP l (st.p + 1) [93] = true then putP lst [] [] (adv (adv st)) else bindP (commasP l en one [93] 0 (adv st)) fun kids st => putP lst [] kids st)
  else bindP (takeP l en [40] st) fun _ st =>
    if isP l st.p [41] = true then putP unt [40, 41] [] (adv st) else
    bindP (commasP l en one [41] 8 st) fun kids st => if kids.length = 1 then .ok (kids.getD 0 0, st) else putP tup [] kids st
def exprF (E : Int → Pr Nat) (lv : Int) : Nat → Nat → Pr Nat
  | 0, a, st => .ok (a, st)
  | f + 1, a, st => match opP l st.p with
    | none => .ok (a, st)
    | some o => if o.2.1 < lv then .ok (a, st) else
      bindP (E (if o.2.2 = 1 then o.2.1 else o.2.1 + 1) (adv st)) fun b st => bindP (putP 13 o.1 [a, b] st) fun c st =>
      if o.2.2 = 2 ∧ (opP l st.p).map (·.2.1) = some o.2.1 then .error (failP l en 8 st) else exprF E lv f c st
inductive Sym where
  | expr (lv : Int) | operand | cases | atom | pat | apat | whole | atype | clause | rhs (sep : List UInt8) | decls | data
def guardB (kids : List Nat) (st : PS) : Bool := decide (kids.length = 0) || (isP l st.p [124] && decide ((st.t.getD (kids.getD 0 0) ⟨0, ⟨#[]⟩, 0, []⟩).op = 16))
def guardF (E : Pr Nat) (sep : List UInt8) : Nat → List Nat → Pr (List Nat)
  | 0, kids, st => .ok (kids, st)
  | f + 1, kids, st => if guardB l kids st = true then
      bindP (takeP l en [124] st) fun _ st => bindP (E st) fun a st => bindP (takeP l en sep st) fun _ st => bindP (E st) fun b st => bindP (putP 16 [] [a, b] st) fun g st => guardF E sep f (kids ++ [g]) st
    else .ok (kids, st)
def conF (atype : Pr Nat) (name : List UInt8) : Nat → List Nat → Pr Nat
  | 0, _, _ => .error (0, 0)
  | f + 1, kids, st => bindP (nameP l en 2 st) fun con st => bindP (manyF l en (typedP l) atype 9 [] st) fun ks st => bindP (putP 22 con ks st) fun c st =>
    if isP l st.p [124] = true then conF atype name f (kids ++ [c]) (adv st) else putP 21 name (kids ++ [c]) st
def varF (st : PS) : Out Nat := bindP (nameP l en 1 st) fun nm st => putP 23 nm [] st
def altF (rec : Sym → Pr Nat) (st : PS) : Out Nat := bindP (rec .pat st) fun a st => bindP (rec (.rhs [45, 62]) st) fun r st => putP 14 [] [a, r] st
def tupleName (n : Nat) : List UInt8 := [40] ++ List.replicate (n - 1) 44 ++ [41]
def body (rec : Sym → Pr Nat) : Sym → Pr Nat
  | .expr lv => fun st => bindP (rec .operand st) fun a st => exprF l en (fun v => rec (.expr v)) lv (l.length + 1) a st
  | .operand => fun st =>
    if isP l st.p [92] = true then
      bindP (rec .apat (adv st)) fun a st => bindP (manyF l en (beginsP l) (rec .apat) 8 [a] st) fun kids st => bindP (takeP l en [45, 62] st) fun _ st => bindP (rec (.expr 0) st) fun e st => putP 7 [] (kids ++ [e]) st
    else if isP l st.p [108, 101, 116] = true then
      bindP (rec .decls (adv st)) fun a st => bindP (takeP l en [105, 110] st) fun _ st => bindP (rec (.expr 0) st) fun e st => putP 8 [] [a, e] st
    else if isP l st.p [105, 102] = true then
      bindP (rec (.expr 0) (adv st)) fun a st => bindP (takeP l en [116, 104, 101, 110] st) fun _ st => bindP (rec (.expr 0) st) fun b st => bindP (takeP l en [101, 108, 115, 101] st) fun _ st => bindP (rec (.expr 0) st) fun c st => putP 9 [] [a, b, c] st
    else if isP l st.p [99, 97, 115, 101] = true then rec .cases (adv st)
    else bindP (rec .atom st) fun a st => bindP (manyF l en (atomicP l) (rec .atom) 9 [] st) fun ks st => if ks.length = 0 then .ok (a, st) else putP 6 [] (a :: ks) st
  | .cases => fun st => bindP (rec (.expr 0) st) fun e st => bindP (takeP l en [111, 102] st) fun _ st => bindP (takeP l en [123] st) fun _ st => bindP (semisF l (beginsP l) (altF rec) (l.length + 1) [] st) fun alts st =>
    if alts.length = 0 then .error (failP l en 8 st) else bindP (takeP l en [125] st) fun _ st => putP 10 [] (e :: alts) st
  | .atom => fun st => if ((atomicP l st.p && !isP l st.p [40]) && !isP l st.p [91]) = true then leafP l [1, 2, 3, 4, 5] st else bracketsP l en (rec (.expr 0)) 12 11 2 st
  | .pat => fun st => bindP (if kindP l st.p = 2 then bindP (nameP l en 2 st) fun con st => bindP (manyF l en (beginsP l) (rec .apat) 9 [] st) fun ks st => putP 30 con ks st else rec .apat st) fun a st =>
    if isP l st.p [58] = true then bindP (rec .pat (adv st)) fun b st => putP 30 [58] [a, b] st else .ok (a, st)
  | .apat => fun st => if isP l st.p [95] = true then putP 26 [] [] (adv st)
    else if kindP l st.p = 5 ∧ 64 < (textP l st.p).length then .error (failP l en 11 st)
    else if ((atomicP l st.p && !isP l st.p [40]) && !isP l st.p [91]) = true then leafP l [25, 30, 27, 28, 29] st else bracketsP l en (rec .pat) 32 31 30 st
  | .whole => fun st => bindP (if kindP l st.p = 2 then bindP (nameP l en 2 st) fun con st => bindP (manyF l en (typedP l) (rec .atype) 9 [] st) fun ks st => putP 24 con ks st else rec .atype st) fun a st =>
    if isP l st.p [45, 62] = true then bindP (rec .whole (adv st)) fun b st => putP 24 [45, 62] [a, b] st else .ok (a, st)
  | .atype => fun st => if kindP l st.p = 2 then bindP (nameP l en 2 st) fun nm st => putP 24 nm [] st
    else if isVarP l st.p = true then varF l en st
    else if isP l st.p [91] = true then bindP (rec .whole (adv st)) fun a st => bindP (takeP l en [93] st) fun _ st => putP 24 [91, 93] [a] st
    else bindP (takeP l en [40] st) fun _ st => if isP l st.p [41] = true then putP 24 [40, 41] [] (adv st) else
      bindP (commasP l en (rec .whole) [41] 8 st) fun kids st => if kids.length = 1 then .ok (kids.getD 0 0, st) else putP 24 (tupleName kids.length) kids st
  | .clause => fun st => bindP (nameP l en 1 st) fun nm st => bindP (manyF l en (beginsP l) (rec .apat) 9 [] st) fun kids st => bindP (rec (.rhs [61]) st) fun r st => putP 19 nm (kids ++ [r]) st
  | .rhs sep => fun st => bindP (if isP l st.p [124] = true then .ok ([], st) else bindP (takeP l en sep st) fun _ st => bindP (rec (.expr 0) st) fun e st => bindP (putP 17 [] [e] st) fun g st => .ok ([g], st)) fun kids st =>
    bindP (guardF l en (rec (.expr 0)) sep (l.length + 1) kids st) fun kids st => bindP (if isP l st.p [119, 104, 101, 114, 101] = true then rec .decls (adv st) else putP 18 [] [] st) fun d st => putP 15 [] (kids ++ [d]) st
  | .decls => fun st => bindP (takeP l en [123] st) fun _ st => bindP (semisF l (isVarP l) (rec .clause) (l.length + 1) [] st) fun kids st => bindP (takeP l en [125] st) fun _ st => putP 18 [] kids st
  | .data => fun st => bindP (nameP l en 2 (adv st)) fun nm st => bindP (manyF l en (isVarP l) (varF l en) 9 [] st) fun kids st => bindP (takeP l en [61] st) fun _ st => conF l en (rec .atype) nm (l.length + 1) kids st
def parseN : Nat → Sym → Pr Nat
  | 0, _, _ => .error (0, 0)
  | n + 1, s, st => body l en (parseN n) s st
def topF (rec : Sym → Pr Nat) (st : PS) : Out Nat := if isP l st.p [100, 97, 116, 97] = true then rec .data st else rec .clause st
def programF (rec : Sym → Pr Nat) (st : PS) : Out Nat := bindP (semisF l (fun p => isP l p [100, 97, 116, 97] || isVarP l p) (topF l rec) (l.length + 1) [] st) fun kids st =>
  if st.p < l.length then .error (failP l en 8 st) else putP 20 [] kids st
/-- How far a call is from its end: what it reads, then what it calls without reading. -/
def rankS : Sym → Nat
  | .expr _ => 7 | .operand => 6 | .cases => 9 | .atom => 5 | .pat => 7 | .apat => 6 | .whole => 7 | .atype => 6 | .clause => 9 | .rhs _ => 9 | .decls => 9 | .data => 9
def measS (s : Sym) (p : Nat) : Nat := (l.length - p) * 16 + rankS s
end
end Go.Proofs.YtikgokpbhldlnaaGreatDoor
end
section
/- The parser goes forward, and lays few nodes. -/
namespace Go.Proofs.YtikgokpbhldlnaaGreatDoor
open Go Go.Ab
/-- Four for each token that was read, less the nodes. -/
def wS (st : PS) : Int := 4 * st.p - st.t.length
/-- From st to st': k tokens at least, c more of wS. -/
structure Gr (l : List Tok) (k : Nat) (c : Int) (st st' : PS) : Prop where
  p : st.p + k ≤ st'.p
  e : st'.p ≤ l.length
  pre : st.t <+: st'.t
  w : wS st + c ≤ wS st'
theorem Gr.trans {l : List Tok} {k k' : Nat} {c c' : Int} {a b d : PS} (h : Gr l k c a b) (h' : Gr l k' c' b d) : Gr l (k + k') (c + c') a d :=
  ⟨by have := h.p; have := h'.p; omega, h'.e, h.pre.trans h'.pre, by have := h.w; have := h'.w; omega⟩
theorem Gr.wk {l : List Tok} {k k' : Nat} {c c' : Int} {a b : PS} (h : Gr l k c a b) (hk : k' ≤ k) (hc : c' ≤ c) : Gr l k' c' a b :=
  ⟨by have := h.p; omega, h.e, h.pre, by have := h.w; omega⟩
theorem Gr.refl {l : List Tok} {st : PS} (h : st.p ≤ l.length) : Gr l 0 0 st st := ⟨Nat.le_refl _, h, List.prefix_refl _, by omega⟩
theorem Gr.len {l : List Tok} {k : Nat} {c : Int} {a b : PS} (h : Gr l k c a b) : a.t.length ≤ b.t.length := h.pre.length_le
theorem bind_ok {α β : Type} {m : Out α} {f : α → PS → Out β} {b : β} {st' : PS} (h : bindP m f = .ok (b, st')) : ∃ a st, m = .ok (a, st) ∧ f a st = .ok (b, st') := by
  unfold bindP at h
  split at h
  · cases h
  · rename_i a st
    exact ⟨a, st, rfl, h⟩
theorem isP_lt {l : List Tok} {p : Nat} {tx : List UInt8} (h : isP l p tx = true) : p < l.length := by
  unfold isP at h
  split at h
  · rename_i k hk; exact (List.getElem?_eq_some_iff.1 hk).1
  · cases h
theorem kindP_lt {l : List Tok} {p : Nat} (h : kindP l p ≠ 0) : p < l.length := by
  unfold kindP at h
  split at h
  · rename_i k hk; exact (List.getElem?_eq_some_iff.1 hk).1
  · exact absurd rfl h
section
variable {l : List Tok} {en : Nat}
theorem adv_gr {st : PS} (h : st.p < l.length) : Gr l 1 4 st (adv st) := ⟨Nat.le_refl _, h, List.prefix_refl _, by unfold wS adv; simp only []; omega⟩
theorem put_gr {op : Int} {tx : List UInt8} {kids : List Nat} {st st' : PS} {a : Nat} (hp : st.p ≤ l.length) (h : putP op tx kids st = .ok (a, st')) : Gr l 0 (-1) st st' ∧ a < st'.t.length := by
  unfold putP at h
  simp only [Except.ok.injEq, Prod.mk.injEq] at h
  obtain ⟨rfl, rfl⟩ := h
  exact ⟨⟨Nat.le_refl _, hp, List.prefix_append _ _, by unfold wS; simp; omega⟩, by simp⟩
theorem take_gr {tx : List UInt8} {st st' : PS} {u : Unit} (h : takeP l en tx st = .ok (u, st')) : Gr l 1 4 st st' := by
  unfold takeP at h
  split at h
  · rename_i hi
    simp only [Except.ok.injEq, Prod.mk.injEq, true_and] at h
    subst h
    exact adv_gr (isP_lt hi)
  · cases h
theorem name_gr {k : Int} {st st' : PS} {nm : List UInt8} (hk : k ≠ 0) (h : nameP l en k st = .ok (nm, st')) : Gr l 1 4 st st' := by
  unfold nameP at h
  split at h
  · rename_i hi
    simp only [Except.ok.injEq, Prod.mk.injEq] at h
    obtain ⟨_, rfl⟩ := h
    exact adv_gr (kindP_lt (by rw [hi]; exact hk))
  · cases h
/-- A parser of one node. -/
def One (l : List Tok) (one : Pr Nat) : Prop := ∀ st a st', st.p ≤ l.length → one st = .ok (a, st') → Gr l 1 3 st st' ∧ a < st'.t.length
/-- Nodes that lie there. -/
def Ins (kids : List Nat) (st : PS) : Prop := ∀ k ∈ kids, k < st.t.length
theorem Ins.wk {kids : List Nat} {st st' : PS} (h : Ins kids st) (hl : st.t.length ≤ st'.t.length) : Ins kids st' := fun k hk => by have := h k hk; omega
theorem Ins.snoc {kids : List Nat} {k : Nat} {st : PS} (h : Ins kids st) (hk : k < st.t.length) : Ins (kids ++ [k]) st := fun x hx => by
  rcases List.mem_append.1 hx with q | q
  · exact h x q
  · obtain rfl : x = k := by simpa using q
    exact hk
theorem Ins.one {k : Nat} {st : PS} (hk : k < st.t.length) : Ins [k] st := fun x hx => by
  obtain rfl : x = k := by simpa using hx
  exact hk
theorem Ins.nil {st : PS} : Ins [] st := fun _ h => by cases h
theorem many_gr {B : Nat → Bool} {one : Pr Nat} (h1 : One l one) : ∀ (f : Nat) (kids : List Nat) (st : PS) (ks : List Nat) (st' : PS), st.p ≤ l.length → Ins kids st → manyF l en B one f kids st = .ok (ks, st') →
    ∃ m, ks.length = kids.length + m ∧ Gr l m (3 * m) st st' ∧ Ins ks st'
  | 0, kids, st, ks, st', hp, hi, h => by
    simp only [manyF, Except.ok.injEq, Prod.mk.injEq] at h
    obtain ⟨rfl, rfl⟩ := h
    exact ⟨0, rfl, Gr.refl hp, hi⟩
  | f + 1, kids, st, ks, st', hp, hi, h => by
    rw [manyF] at h
    split at h
    · split at h
      · cases h
      · obtain ⟨a, st1, e1, e2⟩ := bind_ok h
        obtain ⟨g1, g2⟩ := h1 st a st1 hp e1
        obtain ⟨m, q1, q2, q3⟩ := many_gr h1 f _ st1 ks st' g1.e ((hi.wk g1.len).snoc g2) e2
        exact ⟨m + 1, by rw [q1]; simp; omega, (g1.trans q2).wk (by omega) (by omega), q3⟩
    · simp only [Except.ok.injEq, Prod.mk.injEq] at h
      obtain ⟨rfl, rfl⟩ := h
      exact ⟨0, rfl, Gr.refl hp, hi⟩
theorem commasF_gr {one : Pr Nat} (h1 : One l one) {fin : List UInt8} {most : Nat} : ∀ (f : Nat) (kids : List Nat) (st : PS) (ks : List Nat) (st' : PS), st.p ≤ l.length → Ins kids st → commasF l en one fin most f kids st = .ok (ks, st') →
    ∃ m, ks.length = kids.length + m ∧ Gr l m (3 * m) st st' ∧ Ins ks st'
  | 0, kids, st, ks, st', hp, hi, h => by
    simp only [commasF, Except.ok.injEq, Prod.mk.injEq] at h
    obtain ⟨rfl, rfl⟩ := h
    exact ⟨0, rfl, Gr.refl hp, hi⟩
  | f + 1, kids, st, ks, st', hp, hi, h => by
    rw [commasF] at h
    split at h
    · rename_i hb
      split at h
      · cases h
      · obtain ⟨a, st1, e1, e2⟩ := bind_ok h
        have ga := adv_gr (isP_lt hb)
        obtain ⟨g1, g2⟩ := h1 _ a st1 ga.e e1
        obtain ⟨m, q1, q2, q3⟩ := commasF_gr h1 f _ st1 ks st' g1.e ((hi.wk (ga.trans g1).len).snoc g2) e2
        exact ⟨m + 1, by rw [q1]; simp; omega, ((ga.trans g1).trans q2).wk (by omega) (by omega), q3⟩
    · obtain ⟨u, st1, e1, e2⟩ := bind_ok h
      simp only [Except.ok.injEq, Prod.mk.injEq] at e2
      obtain ⟨rfl, rfl⟩ := e2
      have g := take_gr e1
      exact ⟨0, rfl, g.wk (by omega) (by omega), hi.wk g.len⟩
theorem commas_gr {one : Pr Nat} (h1 : One l one) {fin : List UInt8} {most : Nat} {st : PS} {ks : List Nat} {st' : PS} (hp : st.p ≤ l.length) (h : commasP l en one fin most st = .ok (ks, st')) :
    ∃ m, ks.length = m + 1 ∧ Gr l (m + 1) (3 * (m + 1)) st st' ∧ Ins ks st' := by
  unfold commasP at h
  obtain ⟨a, st1, e1, e2⟩ := bind_ok h
  obtain ⟨g1, g2⟩ := h1 st a st1 hp e1
  obtain ⟨m, q1, q2, q3⟩ := commasF_gr h1 _ _ st1 ks st' g1.e (Ins.one g2) e2
  exact ⟨m, by rw [q1]; simp; omega, (g1.trans q2).wk (by omega) (by omega), q3⟩
theorem semis_gr {B : Nat → Bool} {one : Pr Nat} (h1 : One l one) : ∀ (f : Nat) (kids : List Nat) (st : PS) (ks : List Nat) (st' : PS), st.p ≤ l.length → Ins kids st → semisF l B one f kids st = .ok (ks, st') →
    ∃ m, ks.length = kids.length + m ∧ Gr l m (3 * m) st st' ∧ Ins ks st'
  | 0, kids, st, ks, st', hp, hi, h => by
    simp only [semisF, Except.ok.injEq, Prod.mk.injEq] at h
    obtain ⟨rfl, rfl⟩ := h
    exact ⟨0, rfl, Gr.refl hp, hi⟩
  | f + 1, kids, st, ks, st', hp, hi, h => by
    rw [semisF] at h
    obtain ⟨k1, st1, e1, e2⟩ := bind_ok h
    have h2 : ∃ m, k1.length = kids.length + m ∧ Gr l m (3 * m) st st1 ∧ Ins k1 st1 := by
      split at e1
      · obtain ⟨a, st2, q1, q2⟩ := bind_ok e1
        obtain ⟨g1, g2⟩ := h1 st a st2 hp q1
        simp only [Except.ok.injEq, Prod.mk.injEq] at q2
        obtain ⟨rfl, rfl⟩ := q2
        exact ⟨1, by simp, g1, (hi.wk g1.len).snoc g2⟩
      · simp only [Except.ok.injEq, Prod.mk.injEq] at e1
        obtain ⟨rfl, rfl⟩ := e1
        exact ⟨0, rfl, Gr.refl hp, hi⟩
    obtain ⟨m, q1, q2, q3⟩ := h2
    split at e2
    · rename_i hb
      have ga := adv_gr (isP_lt hb)
      obtain ⟨m2, r1, r2, r3⟩ := semis_gr h1 f _ _ ks st' ga.e (q3.wk ga.len) e2
      exact ⟨m + m2, by omega, ((q2.trans ga).trans r2).wk (by omega) (by omega), r3⟩
    · simp only [Except.ok.injEq, Prod.mk.injEq] at e2
      obtain ⟨rfl, rfl⟩ := e2
      exact ⟨m, q1, q2, q3⟩
theorem leaf_gr {ops : List Int} : One l (leafP l ops) := fun st a st' hp h => by
  unfold leafP at h
  split at h
  · rename_i k hk
    have hlt := (List.getElem?_eq_some_iff.1 hk).1
    simp only [Except.ok.injEq, Prod.mk.injEq] at h
    obtain ⟨rfl, rfl⟩ := h
    exact ⟨⟨Nat.le_refl _, hlt, List.prefix_append _ _, by unfold wS; simp; omega⟩, by simp⟩
  · cases h
end
end Go.Proofs.YtikgokpbhldlnaaGreatDoor
end
section
/- The parser goes forward: all of it. -/
namespace Go.Proofs.YtikgokpbhldlnaaGreatDoor
open Go Go.Ab
section
variable {l : List Tok} {en : Nat}
theorem ok_inj {α : Type} {a b : α} {st st' : PS} (h : (Except.ok (a, st) : Out α) = .ok (b, st')) : a = b ∧ st = st' := by
  simpa using h
theorem brackets_gr {one : Pr Nat} (h1 : One l one) {x y z : Int} : One l (bracketsP l en one x y z) := fun st a st' hp h => by
  unfold bracketsP at h
  split at h
  · rename_i hb
    have g1 := adv_gr (isP_lt hb)
    split at h
    · rename_i hb2
      have g2 : Gr l 1 4 (adv st) (adv (adv st)) := adv_gr (isP_lt hb2)
      obtain ⟨g3, g4⟩ := put_gr g2.e h
      exact ⟨((g1.trans g2).trans g3).wk (by omega) (by omega), g4⟩
    · obtain ⟨ks, st1, e1, e2⟩ := bind_ok h
      obtain ⟨m, q1, q2, q3⟩ := commas_gr h1 g1.e e1
      obtain ⟨g3, g4⟩ := put_gr q2.e e2
      exact ⟨((g1.trans q2).trans g3).wk (by omega) (by omega), g4⟩
  · obtain ⟨u, st1, e1, e2⟩ := bind_ok h
    have g1 := take_gr e1
    split at e2
    · rename_i hb2
      have g2 := adv_gr (isP_lt hb2)
      obtain ⟨g3, g4⟩ := put_gr g2.e e2
      exact ⟨((g1.trans g2).trans g3).wk (by omega) (by omega), g4⟩
    · obtain ⟨ks, st2, e3, e4⟩ := bind_ok e2
      obtain ⟨m, q1, q2, q3⟩ := commas_gr h1 g1.e e3
      split at e4
      · rename_i hk
        obtain ⟨rfl, rfl⟩ := ok_inj e4
        refine ⟨(g1.trans q2).wk (by omega) (by omega), q3 _ ?_⟩
        obtain ⟨x, rfl⟩ := List.length_eq_one_iff.1 hk
        simp
      · obtain ⟨g3, g4⟩ := put_gr q2.e e4
        exact ⟨((g1.trans q2).trans g3).wk (by omega) (by omega), g4⟩
theorem expr_gr {E : Int → Pr Nat} (h1 : ∀ v, One l (E v)) {lv : Int} : ∀ (f a : Nat) (st : PS) (b : Nat) (st' : PS), st.p ≤ l.length → a < st.t.length → exprF l en E lv f a st = .ok (b, st') → Gr l 0 0 st st' ∧ b < st'.t.length
  | 0, a, st, b, st', hp, ha, h => by
    rw [exprF] at h
    obtain ⟨rfl, rfl⟩ := ok_inj h
    exact ⟨Gr.refl hp, ha⟩
  | f + 1, a, st, b, st', hp, ha, h => by
    rw [exprF] at h
    split at h
    · obtain ⟨rfl, rfl⟩ := ok_inj h
      exact ⟨Gr.refl hp, ha⟩
    · rename_i o ho
      split at h
      · obtain ⟨rfl, rfl⟩ := ok_inj h
        exact ⟨Gr.refl hp, ha⟩
      · have hlt : st.p < l.length := by
          unfold opP at ho
          have := List.find?_some ho
          rw [Bool.and_eq_true] at this
          exact isP_lt this.2
        have g0 := adv_gr hlt
        obtain ⟨x, st1, e1, e2⟩ := bind_ok h
        obtain ⟨g1, _⟩ := h1 _ _ _ _ g0.e e1
        obtain ⟨c, st2, e3, e4⟩ := bind_ok e2
        obtain ⟨g2, g3⟩ := put_gr g1.e e3
        split at e4
        · cases e4
        · obtain ⟨g4, g5⟩ := expr_gr h1 f c st2 b st' g2.e g3 e4
          exact ⟨(((g0.trans g1).trans g2).trans g4).wk (by omega) (by omega), g5⟩
theorem guard_gr {E : Pr Nat} (h1 : One l E) {sep : List UInt8} : ∀ (f : Nat) (kids : List Nat) (st : PS) (ks : List Nat) (st' : PS), st.p ≤ l.length → Ins kids st → guardF l en E sep f kids st = .ok (ks, st') →
    ∃ m, ks.length = kids.length + m ∧ Gr l (4 * m) (9 * m) st st' ∧ Ins ks st'
  | 0, kids, st, ks, st', hp, hi, h => by
    rw [guardF] at h
    obtain ⟨rfl, rfl⟩ := ok_inj h
    exact ⟨0, rfl, Gr.refl hp, hi⟩
  | f + 1, kids, st, ks, st', hp, hi, h => by
    rw [guardF] at h
    split at h
    · obtain ⟨_, s1, e1, h⟩ := bind_ok h
      obtain ⟨a, s2, e2, h⟩ := bind_ok h
      obtain ⟨_, s3, e3, h⟩ := bind_ok h
      obtain ⟨b, s4, e4, h⟩ := bind_ok h
      obtain ⟨g, s5, e5, h⟩ := bind_ok h
      have g1 := take_gr e1
      obtain ⟨g2, _⟩ := h1 _ _ _ g1.e e2
      have g3 := take_gr e3
      obtain ⟨g4, _⟩ := h1 _ _ _ g3.e e4
      obtain ⟨g5, q5⟩ := put_gr g4.e e5
      have gg := (((g1.trans g2).trans g3).trans g4).trans g5
      obtain ⟨m, r1, r2, r3⟩ := guard_gr h1 f _ s5 ks st' g5.e ((hi.wk gg.len).snoc q5) h
      exact ⟨m + 1, by rw [r1]; simp; omega, (gg.trans r2).wk (by omega) (by omega), r3⟩
    · obtain ⟨rfl, rfl⟩ := ok_inj h
      exact ⟨0, rfl, Gr.refl hp, hi⟩
theorem var_gr : One l (varF l en) := fun st a st' hp h => by
  unfold varF at h
  obtain ⟨nm, s1, e1, h⟩ := bind_ok h
  have g1 := name_gr (by decide) e1
  obtain ⟨g2, q2⟩ := put_gr g1.e h
  exact ⟨(g1.trans g2).wk (by omega) (by omega), q2⟩
theorem con_gr {atype : Pr Nat} (h1 : One l atype) {name : List UInt8} : ∀ (f : Nat) (kids : List Nat) (st : PS) (a : Nat) (st' : PS), st.p ≤ l.length → Ins kids st → conF l en atype name f kids st = .ok (a, st') → Gr l 1 2 st st' ∧ a < st'.t.length
  | 0, kids, st, a, st', _, _, h => by rw [conF] at h; cases h
  | f + 1, kids, st, a, st', hp, hi, h => by
    rw [conF] at h
    obtain ⟨con, s1, e1, h⟩ := bind_ok h
    obtain ⟨ks, s2, e2, h⟩ := bind_ok h
    obtain ⟨c, s3, e3, h⟩ := bind_ok h
    have g1 := name_gr (by decide) e1
    obtain ⟨m, _, g2, _⟩ := many_gr h1 _ _ _ _ _ g1.e (fun k hk => by cases hk) e2
    obtain ⟨g3, q3⟩ := put_gr g2.e e3
    have gg := (g1.trans g2).trans g3
    split at h
    · rename_i hb
      have ga := adv_gr (isP_lt hb)
      obtain ⟨g4, q4⟩ := con_gr h1 f _ (adv s3) a st' ga.e (((hi.wk gg.len).snoc q3).wk ga.len) h
      exact ⟨((gg.trans ga).trans g4).wk (by omega) (by omega), q4⟩
    · obtain ⟨g4, q4⟩ := put_gr g3.e h
      exact ⟨(gg.trans g4).wk (by omega) (by omega), q4⟩
theorem alt_gr {rec : Sym → Pr Nat} (h1 : ∀ s, One l (rec s)) : One l (altF rec) := fun st a st' hp h => by
  unfold altF at h
  obtain ⟨x, s1, e1, h⟩ := bind_ok h
  obtain ⟨y, s2, e2, h⟩ := bind_ok h
  obtain ⟨g1, _⟩ := h1 _ _ _ _ hp e1
  obtain ⟨g2, _⟩ := h1 _ _ _ _ g1.e e2
  obtain ⟨g3, q3⟩ := put_gr g2.e h
  exact ⟨((g1.trans g2).trans g3).wk (by omega) (by omega), q3⟩
theorem body_gr {rec : Sym → Pr Nat} (h1 : ∀ s, One l (rec s)) : ∀ s, One l (body l en rec s)
  | .expr lv => fun st a st' hp h => by
    simp only [body] at h
    obtain ⟨x, s1, e1, h⟩ := bind_ok h
    obtain ⟨g1, q1⟩ := h1 _ _ _ _ hp e1
    obtain ⟨g2, q2⟩ := expr_gr (fun v => h1 (.expr v)) _ _ _ _ _ g1.e q1 h
    exact ⟨(g1.trans g2).wk (by omega) (by omega), q2⟩
  | .operand => fun st a st' hp h => by
    simp only [body] at h
    split at h
    · rename_i hb
      have g0 := adv_gr (isP_lt hb)
      obtain ⟨x, s1, e1, h⟩ := bind_ok h
      obtain ⟨ks, s2, e2, h⟩ := bind_ok h
      obtain ⟨_, s3, e3, h⟩ := bind_ok h
      obtain ⟨y, s4, e4, h⟩ := bind_ok h
      obtain ⟨g1, q1⟩ := h1 _ _ _ _ g0.e e1
      obtain ⟨m, _, g2, _⟩ := many_gr (h1 .apat) _ _ _ _ _ g1.e (Ins.one q1) e2
      have g3 := take_gr e3
      obtain ⟨g4, _⟩ := h1 _ _ _ _ g3.e e4
      obtain ⟨g5, q5⟩ := put_gr g4.e h
      exact ⟨(((((g0.trans g1).trans g2).trans g3).trans g4).trans g5).wk (by omega) (by omega), q5⟩
    split at h
    · rename_i hb
      have g0 := adv_gr (isP_lt hb)
      obtain ⟨x, s1, e1, h⟩ := bind_ok h
      obtain ⟨_, s2, e2, h⟩ := bind_ok h
      obtain ⟨y, s3, e3, h⟩ := bind_ok h
      obtain ⟨g1, _⟩ := h1 _ _ _ _ g0.e e1
      have g2 := take_gr e2
      obtain ⟨g3, _⟩ := h1 _ _ _ _ g2.e e3
      obtain ⟨g4, q4⟩ := put_gr g3.e h
      exact ⟨((((g0.trans g1).trans g2).trans g3).trans g4).wk (by omega) (by omega), q4⟩
    split at h
    · rename_i hb
      have g0 := adv_gr (isP_lt hb)
      obtain ⟨x, s1, e1, h⟩ := bind_ok h
      obtain ⟨_, s2, e2, h⟩ := bind_ok h
      obtain ⟨y, s3, e3, h⟩ := bind_ok h
      obtain ⟨_, s4, e4, h⟩ := bind_ok h
      obtain ⟨z, s5, e5, h⟩ := bind_ok h
      obtain ⟨g1, _⟩ := h1 _ _ _ _ g0.e e1
      have g2 := take_gr e2
      obtain ⟨g3, _⟩ := h1 _ _ _ _ g2.e e3
      have g4 := take_gr e4
      obtain ⟨g5, _⟩ := h1 _ _ _ _ g4.e e5
      obtain ⟨g6, q6⟩ := put_gr g5.e h
      exact ⟨((((((g0.trans g1).trans g2).trans g3).trans g4).trans g5).trans g6).wk (by omega) (by omega), q6⟩
    split at h
    · rename_i hb
      have g0 := adv_gr (isP_lt hb)
      obtain ⟨g1, q1⟩ := h1 _ _ _ _ g0.e h
      exact ⟨(g0.trans g1).wk (by omega) (by omega), q1⟩
    · obtain ⟨x, s1, e1, h⟩ := bind_ok h
      obtain ⟨ks, s2, e2, h⟩ := bind_ok h
      obtain ⟨g1, q1⟩ := h1 _ _ _ _ hp e1
      obtain ⟨m, r1, g2, _⟩ := many_gr (h1 .atom) _ _ _ _ _ g1.e (fun k hk => by cases hk) e2
      split at h
      · obtain ⟨rfl, rfl⟩ := ok_inj h
        exact ⟨(g1.trans g2).wk (by omega) (by omega), by have := g2.len; omega⟩
      · rename_i hk
        obtain ⟨g3, q3⟩ := put_gr g2.e h
        simp only [List.length_nil, Nat.zero_add] at r1
        exact ⟨((g1.trans g2).trans g3).wk (by omega) (by omega), q3⟩
  | .cases => fun st a st' hp h => by
    simp only [body] at h
    obtain ⟨x, s1, e1, h⟩ := bind_ok h
    obtain ⟨_, s2, e2, h⟩ := bind_ok h
    obtain ⟨_, s3, e3, h⟩ := bind_ok h
    obtain ⟨ks, s4, e4, h⟩ := bind_ok h
    obtain ⟨g1, _⟩ := h1 _ _ _ _ hp e1
    have g2 := take_gr e2
    have g3 := take_gr e3
    obtain ⟨m, r1, g4, _⟩ := semis_gr (alt_gr h1) _ _ _ _ _ g3.e (fun k hk => by cases hk) e4
    split at h
    · cases h
    · obtain ⟨_, s5, e5, h⟩ := bind_ok h
      have g5 := take_gr e5
      obtain ⟨g6, q6⟩ := put_gr g5.e h
      exact ⟨(((((g1.trans g2).trans g3).trans g4).trans g5).trans g6).wk (by omega) (by omega), q6⟩
  | .atom => fun st a st' hp h => by
    simp only [body] at h
    split at h
    · exact leaf_gr _ _ _ hp h
    · exact brackets_gr (h1 (.expr 0)) _ _ _ hp h
  | .pat => fun st a st' hp h => by
    simp only [body] at h
    obtain ⟨x, s1, e1, h⟩ := bind_ok h
    have g1 : Gr l 1 3 st s1 ∧ x < s1.t.length := by
      split at e1
      · obtain ⟨con, t1, f1, e1⟩ := bind_ok e1
        obtain ⟨ks, t2, f2, e1⟩ := bind_ok e1
        have k1 := name_gr (by decide) f1
        obtain ⟨m, _, k2, _⟩ := many_gr (h1 .apat) _ _ _ _ _ k1.e (fun k hk => by cases hk) f2
        obtain ⟨k3, q3⟩ := put_gr k2.e e1
        exact ⟨((k1.trans k2).trans k3).wk (by omega) (by omega), q3⟩
      · exact h1 _ _ _ _ hp e1
    split at h
    · rename_i hb
      have ga := adv_gr (isP_lt hb)
      obtain ⟨y, s2, e2, h⟩ := bind_ok h
      obtain ⟨g2, _⟩ := h1 _ _ _ _ ga.e e2
      obtain ⟨g3, q3⟩ := put_gr g2.e h
      exact ⟨(((g1.1.trans ga).trans g2).trans g3).wk (by omega) (by omega), q3⟩
    · obtain ⟨rfl, rfl⟩ := ok_inj h
      exact g1
  | .apat => fun st a st' hp h => by
    simp only [body] at h
    split at h
    · rename_i hb
      have g0 := adv_gr (isP_lt hb)
      obtain ⟨g1, q1⟩ := put_gr g0.e h
      exact ⟨(g0.trans g1).wk (by omega) (by omega), q1⟩
    split at h
    · cases h
    split at h
    · exact leaf_gr _ _ _ hp h
    · exact brackets_gr (h1 .pat) _ _ _ hp h
  | .whole => fun st a st' hp h => by
    simp only [body] at h
    obtain ⟨x, s1, e1, h⟩ := bind_ok h
    have g1 : Gr l 1 3 st s1 ∧ x < s1.t.length := by
      split at e1
      · obtain ⟨con, t1, f1, e1⟩ := bind_ok e1
        obtain ⟨ks, t2, f2, e1⟩ := bind_ok e1
        have k1 := name_gr (by decide) f1
        obtain ⟨m, _, k2, _⟩ := many_gr (h1 .atype) _ _ _ _ _ k1.e (fun k hk => by cases hk) f2
        obtain ⟨k3, q3⟩ := put_gr k2.e e1
        exact ⟨((k1.trans k2).trans k3).wk (by omega) (by omega), q3⟩
      · exact h1 _ _ _ _ hp e1
    split at h
    · rename_i hb
      have ga := adv_gr (isP_lt hb)
      obtain ⟨y, s2, e2, h⟩ := bind_ok h
      obtain ⟨g2, _⟩ := h1 _ _ _ _ ga.e e2
      obtain ⟨g3, q3⟩ := put_gr g2.e h
      exact ⟨(((g1.1.trans ga).trans g2).trans g3).wk (by omega) (by omega), q3⟩
    · obtain ⟨rfl, rfl⟩ := ok_inj h
      exact g1
  | .atype => fun st a st' hp h => by
    simp only [body] at h
    split at h
    · obtain ⟨nm, s1, e1, h⟩ := bind_ok h
      have g1 := name_gr (by decide) e1
      obtain ⟨g2, q2⟩ := put_gr g1.e h
      exact ⟨(g1.trans g2).wk (by omega) (by omega), q2⟩
    split at h
    · exact var_gr _ _ _ hp h
    split at h
    · rename_i hb
      have g0 := adv_gr (isP_lt hb)
      obtain ⟨x, s1, e1, h⟩ := bind_ok h
      obtain ⟨_, s2, e2, h⟩ := bind_ok h
      obtain ⟨g1, _⟩ := h1 _ _ _ _ g0.e e1
      have g2 := take_gr e2
      obtain ⟨g3, q3⟩ := put_gr g2.e h
      exact ⟨(((g0.trans g1).trans g2).trans g3).wk (by omega) (by omega), q3⟩
    · obtain ⟨_, s1, e1, h⟩ := bind_ok h
      have g1 := take_gr e1
      split at h
      · rename_i hb
        have ga := adv_gr (isP_lt hb)
        obtain ⟨g2, q2⟩ := put_gr ga.e h
        exact ⟨((g1.trans ga).trans g2).wk (by omega) (by omega), q2⟩
      · obtain ⟨ks, s2, e2, h⟩ := bind_ok h
        obtain ⟨m, r1, g2, r3⟩ := commas_gr (h1 .whole) g1.e e2
        split at h
        · rename_i hk
          obtain ⟨rfl, rfl⟩ := ok_inj h
          refine ⟨(g1.trans g2).wk (by omega) (by omega), r3 _ ?_⟩
          obtain ⟨x, rfl⟩ := List.length_eq_one_iff.1 hk
          simp
        · obtain ⟨g3, q3⟩ := put_gr g2.e h
          exact ⟨((g1.trans g2).trans g3).wk (by omega) (by omega), q3⟩
  | .clause => fun st a st' hp h => by
    simp only [body] at h
    obtain ⟨nm, s1, e1, h⟩ := bind_ok h
    obtain ⟨ks, s2, e2, h⟩ := bind_ok h
    obtain ⟨r, s3, e3, h⟩ := bind_ok h
    have g1 := name_gr (by decide) e1
    obtain ⟨m, _, g2, _⟩ := many_gr (h1 .apat) _ _ _ _ _ g1.e (fun k hk => by cases hk) e2
    obtain ⟨g3, _⟩ := h1 _ _ _ _ g2.e e3
    obtain ⟨g4, q4⟩ := put_gr g3.e h
    exact ⟨(((g1.trans g2).trans g3).trans g4).wk (by omega) (by omega), q4⟩
  | .rhs sep => fun st a st' hp h => by
    simp only [body] at h
    obtain ⟨ks, s1, e1, h⟩ := bind_ok h
    obtain ⟨ks2, s2, e2, h⟩ := bind_ok h
    obtain ⟨d, s3, e3, h⟩ := bind_ok h
    have g1 : (ks = [] ∧ s1 = st ∧ isP l st.p [124] = true) ∨ (Gr l 2 6 st s1 ∧ Ins ks s1) := by
      split at e1
      · rename_i hb
        obtain ⟨rfl, rfl⟩ := ok_inj e1
        exact .inl ⟨rfl, rfl, hb⟩
      · obtain ⟨_, t1, f1, e1⟩ := bind_ok e1
        obtain ⟨x, t2, f2, e1⟩ := bind_ok e1
        obtain ⟨g, t3, f3, e1⟩ := bind_ok e1
        obtain ⟨rfl, rfl⟩ := ok_inj e1
        have k1 := take_gr f1
        obtain ⟨k2, _⟩ := h1 _ _ _ _ k1.e f2
        obtain ⟨k3, q3⟩ := put_gr k2.e f3
        exact .inr ⟨((k1.trans k2).trans k3).wk (by omega) (by omega), Ins.one q3⟩
    have g2 : Gr l 2 6 st s2 := by
      rcases g1 with ⟨rfl, rfl, hb⟩ | ⟨g1, hi⟩
      · obtain ⟨m, r1, r2, _⟩ := guard_gr (h1 (.expr 0)) _ _ _ _ _ hp (fun k hk => by cases hk) e2
        have hm : 1 ≤ m := by
          rcases Nat.eq_zero_or_pos m with rfl | q
          · rw [guardF, if_pos (by unfold guardB; rfl)] at e2
            obtain ⟨_, t1, f1, e2⟩ := bind_ok e2
            have k1 := take_gr f1
            obtain ⟨x, t2, f2, e2⟩ := bind_ok e2
            obtain ⟨k2, _⟩ := h1 _ _ _ _ k1.e f2
            obtain ⟨_, t3, f3, e2⟩ := bind_ok e2
            have k3 := take_gr f3
            obtain ⟨y, t4, f4, e2⟩ := bind_ok e2
            obtain ⟨k4, _⟩ := h1 _ _ _ _ k3.e f4
            obtain ⟨g, t5, f5, e2⟩ := bind_ok e2
            obtain ⟨k5, q5⟩ := put_gr k4.e f5
            obtain ⟨m2, w1, _⟩ := guard_gr (h1 (.expr 0)) _ _ _ _ _ k5.e (Ins.one q5) e2
            simp only [List.length_append, List.length_nil, List.length_cons] at w1 r1
            omega
          · exact q
        exact r2.wk (by omega) (by omega)
      · obtain ⟨m, _, r2, _⟩ := guard_gr (h1 (.expr 0)) _ _ _ _ _ g1.e hi e2
        exact (g1.trans r2).wk (by omega) (by omega)
    have g3 : Gr l 0 (-1) s2 s3 := by
      split at e3
      · rename_i hb
        have ga := adv_gr (isP_lt hb)
        obtain ⟨k1, _⟩ := h1 _ _ _ _ ga.e e3
        exact (ga.trans k1).wk (by omega) (by omega)
      · exact (put_gr g2.e e3).1
    obtain ⟨g4, q4⟩ := put_gr g3.e h
    exact ⟨((g2.trans g3).trans g4).wk (by omega) (by omega), q4⟩
  | .decls => fun st a st' hp h => by
    simp only [body] at h
    obtain ⟨_, s1, e1, h⟩ := bind_ok h
    obtain ⟨ks, s2, e2, h⟩ := bind_ok h
    obtain ⟨_, s3, e3, h⟩ := bind_ok h
    have g1 := take_gr e1
    obtain ⟨m, _, g2, _⟩ := semis_gr (h1 .clause) _ _ _ _ _ g1.e (fun k hk => by cases hk) e2
    have g3 := take_gr e3
    obtain ⟨g4, q4⟩ := put_gr g3.e h
    exact ⟨(((g1.trans g2).trans g3).trans g4).wk (by omega) (by omega), q4⟩
  | .data => fun st a st' hp h => by
    simp only [body] at h
    obtain ⟨nm, s1, e1, h⟩ := bind_ok h
    obtain ⟨ks, s2, e2, h⟩ := bind_ok h
    obtain ⟨_, s3, e3, h⟩ := bind_ok h
    have hlt : st.p + 1 < l.length := by
      unfold nameP at e1
      split at e1
      · rename_i hk
        exact kindP_lt (p := (adv st).p) (by rw [hk]; decide)
      · cases e1
    have g0 := adv_gr (show st.p < l.length by omega)
    have g1 := name_gr (by decide) e1
    obtain ⟨m, _, g2, hi⟩ := many_gr (var_gr) _ _ _ _ _ g1.e (fun k hk => by cases hk) e2
    have g3 := take_gr e3
    obtain ⟨g4, q4⟩ := con_gr (h1 .atype) _ _ _ _ _ g3.e (hi.wk g3.len) h
    exact ⟨((((g0.trans g1).trans g2).trans g3).trans g4).wk (by omega) (by omega), q4⟩
theorem parse_gr : ∀ (n : Nat) (s : Sym), One l (parseN l en n s)
  | 0, _ => fun _ _ _ _ h => by cases h
  | n + 1, s => body_gr (parse_gr n) s
end
end Go.Proofs.YtikgokpbhldlnaaGreatDoor
end
section
/- The parser's walk: what lies in memory; looking at tokens. -/
namespace Go.Proofs.YtikgokpbhldlnaaGreatDoor
open Go Go.Ab
attribute [local irreducible] Wp WpO Qt OpT Ct Ent
/-- The parts' lists of nodes, the last node's first. -/
def kidsA (t : List Nd) (ks : List (Option Addr × Nat)) : List Assn := (t.zip ks).reverse.map fun x => ownA 3 1 x.2.1 x.2.2 (ints x.1.kids)
def kidsP (t : List Nd) (ks : List (Option Addr × Nat)) : Assn := pkgA (fun M => M = kidsA t ks)
def ndRows (t : List Nd) (ks : List (Option Addr × Nat)) : List (List Value) := List.zipWith ndRow t ks
@[reducible] def prow (l : List Tok) (en : Nat) (st : PS) (q tq : Option Addr × Nat) : List Value := [.slice q.1 st.t.length q.2, .slice tq.1 l.length tq.2, .int .i64 st.p, .int .i64 en]
@[reducible] def pM (b : Nat) (l : List Tok) (en : Nat) (st : PS) (q tq : Option Addr × Nat) (ks : List (Option Addr × Nat)) (L : List Assn) : List Assn :=
  ptA b 72 (prow l en st q tq) :: ownA 36 4 q.1 q.2 (ndRows st.t ks) :: ownA 48 4 tq.1 tq.2 (l.map tokRow) :: kidsP st.t ks :: L
/-- The parser, with all that is its own. -/
def pA (b : Nat) (l : List Tok) (en : Nat) (st : PS) : Assn := pkgA fun M => ∃ q tq ks, ks.length = st.t.length ∧ M = pM b l en st q tq ks []
theorem kidsP_snoc {t : List Nd} {ks : List (Option Addr × Nat)} {nd : Nd} {k : Option Addr × Nat} {L : List Assn} (h : ks.length = t.length) : LeL (ownA 3 1 k.1 k.2 (ints nd.kids) :: kidsP t ks :: L) (kidsP (t ++ [nd]) (ks ++ [k]) :: L) := fun q s => by
  refine Sat.closeP (M := kidsA (t ++ [nd]) (ks ++ [k])) rfl ?_
  have : kidsA (t ++ [nd]) (ks ++ [k]) = ownA 3 1 k.1 k.2 (ints nd.kids) :: kidsA t ks := by
    unfold kidsA
    rw [List.zip_append h.symm]; simp
  rw [this, List.cons_append]
  refine Sat.cons_mono (fun k' s' => ?_) s
  obtain ⟨M, hM, hs⟩ := Sat.openP s'
  subst hM; exact hs
theorem kidsP_nil {L : List Assn} : LeL L (kidsP [] [] :: L) := fun _ s => Sat.closeP (M := []) rfl s
section
variable {b : Nat} {l : List Tok} {en : Nat} {st : PS} {L : List Assn}
theorem Ct.openPA {f : FuncId} {args : Array Value} {R : Ending → List Assn → Prop} (h : ∀ q tq ks, ks.length = st.t.length → Ct Tryz.prog f args (pM b l en st q tq ks L) R) : Ct Tryz.prog f args (pA b l en st :: L) R :=
  Ct.openP 0 rfl fun M ⟨q, tq, ks, hk, e⟩ => by subst e; exact h q tq ks hk
theorem WpO.openPA {n : Nat} {ops : Array Oper} {Q : Post} {E : Env} {D : List Deferred} {o : List Oper} (i : Nat) (hi : L[i]? = some (pA b l en st)) (h : ∀ q tq ks, ks.length = st.t.length → WpO Tryz.prog n ops Q .seq o E D (pM b l en st q tq ks (L.eraseIdx i))) : WpO Tryz.prog n ops Q .seq o E D L :=
  WpO.openP i hi fun M ⟨q, tq, ks, hk, e⟩ => by subst e; exact h q tq ks hk
theorem Wp.openPA {n : Nat} {c : Code} {Q : Post} {E : Env} {D : List Deferred} (i : Nat) (hi : L[i]? = some (pA b l en st)) (h : ∀ q tq ks, ks.length = st.t.length → Wp Tryz.prog n c Q E D (pM b l en st q tq ks (L.eraseIdx i))) : Wp Tryz.prog n c Q E D L :=
  Wp.openP i hi fun M ⟨q, tq, ks, hk, e⟩ => by subst e; exact h q tq ks hk
theorem closePA {q tq : Option Addr × Nat} {ks : List (Option Addr × Nat)} (hk : ks.length = st.t.length) : LeL (pM b l en st q tq ks L) (pA b l en st :: L) := LeL.closeP (M := pM b l en st q tq ks []) ⟨q, tq, ks, hk, rfl⟩
/-- Of a contract on the first part that leaves memory as it is, one on the part wherever it stands. -/
theorem Ct.atq {f : FuncId} {args : Array Value} {A : Assn} {x : Value} (i : Nat) (hi : L[i]? = some A) (h : Ct Tryz.prog f args (A :: L.eraseIdx i) (ret fun v L' => v = x ∧ L' = A :: L.eraseIdx i)) : Ct Tryz.prog f args L (ret fun v L' => v = x ∧ L' = L) :=
  Ct.wkR (Ct.pull i hi h) fun e L' hR => by
    cases e with
    | returned v =>
      obtain ⟨e1, e2⟩ := hR
      subst e2
      refine ⟨L, ?_, e1, rfl⟩
      intro k s
      have := LeL.set (A' := A) i hi k s
      rwa [show L.set i A = L from by
        apply List.ext_getElem?; intro j
        rw [List.getElem?_set]
        split
        · rename_i hj; subst hj
          split
          · exact hi.symm
          · rename_i hn; rw [List.getElem?_eq_none (by omega)]
        · rfl] at this
    | panicked c => exact hR.elim
    | outgrown => exact hR.elim
/-- A token, if one comes. -/
theorem tokG {tq : Option Addr × Nat} (i : Nat) (hi : L[i]? = some (ownA 48 4 tq.1 tq.2 (l.map tokRow))) (hk : (l.map tokRow).length ≤ tq.2 ∧ (∀ r ∈ l.map tokRow, r.length = 4) ∧ ((tq.1 = none ∧ tq.2 = 0 ∧ l.map tokRow = []) ∨ ∃ b o, tq.1 = some ⟨b, o, none⟩)) (p : Nat) :
    ∃ b2 o2 k, p < l.length → l[p]? = some k ∧ tq.1 = some ⟨b2, o2, none⟩ ∧ Ent L (CellsAt b2 (o2 + p * 4) (tokRow k)) := by
  rcases Nat.lt_or_ge p l.length with h | h
  · have hg := List.getElem?_eq_getElem h
    obtain ⟨b2, o2, e1, _, e3⟩ := (Sl.own i hi hk).at (i := p) (r := tokRow l[p]) (by rw [List.getElem?_map, hg]; rfl)
    exact ⟨b2, o2, l[p], fun _ => ⟨hg, e1, e3⟩⟩
  · exact ⟨0, 0, tok0, fun q => by omega⟩
theorem lenI (a c : Nat) : decide ((a : Int) < (c : Int)) = decide (a < c) := decide_eq_decide.2 (by omega)
end
section
variable (b : Nat) (l : List Tok) (en : Nat) (st : PS)
set_option maxHeartbeats 2000000 in
theorem is_ct0 (tx : ByteArray) (M : List Assn) (q tq : Option Addr × Nat) (ks : List (Option Addr × Nat)) : Ct Tryz.prog 71 #[.pointer (some ⟨b, 0, none⟩), .string tx] (pM b l en st q tq ks M) (ret fun v L' => v = .bool (isP l st.p (bs tx)) ∧ L' = pM b l en st q tq ks M) := by
  refine Ct.body Tryz.func71 rfl Tryz.ntmps71 Tryz.results71 rfl ?_
  refine Wp.know (fun k hs => own_know 2 rfl hs) fun hkn => ?_
  obtain ⟨b2, o2, k, hA⟩ := tokG (L := pM b l en st q tq ks M) 2 rfl hkn st.p
  refine pur ?_
  refine Wp.draw rfl [0,1,2,3,4,5,6,7,8,9,10,11,12,13,14,15,16,17,18,19,20,21,22,23,24,25,26,27,28,29,30,31,32,33,34,35,36,37,38,39] 40 40 _ rfl (by decide +kernel) (fun _ h => h) ?_
  refine pur ?_
  rw [lenI]
  refine G.idxO (b := b2) (o := o2) st.p rfl rfl rfl (by infer_instance) rfl (by infer_instance) (fun h => ⟨(hA (of_decide_eq_true h)).2.1, rfl, of_decide_eq_true h⟩) ?_
  refine pur ?_
  refine G.loadIf (v := .int .i64 k.kind) rfl rfl rfl (by infer_instance) (by infer_instance) (fun h => Ent.sub 1 (hA (of_decide_eq_true h)).2.2 rfl) ?_
  refine pur ?_
  have hB : (decide (st.p < l.length) && decide ((6 : Int) ≤ k.kind)) = true → st.p < l.length := fun h => by rw [Bool.and_eq_true] at h; exact of_decide_eq_true h.1
  refine G.idxO (b := b2) (o := o2) st.p rfl rfl rfl (by infer_instance) rfl (by infer_instance) (fun h => ⟨(hA (hB h)).2.1, rfl, hB h⟩) ?_
  refine pur ?_
  refine G.loadIf (v := .string (ofL k.text)) rfl rfl rfl (by infer_instance) (by infer_instance) (fun h => Ent.sub 1 (hA (hB h)).2.2 rfl) ?_
  refine pur ?_
  refine Wp.ret (Ret 0 rfl ⟨?_, rfl⟩)
  rw [bs_ofL]
  unfold isP
  rcases Nat.lt_or_ge st.p l.length with h | h
  · rw [(hA h).1, decide_eq_true h]; simp
  · rw [List.getElem?_eq_none h, decide_eq_false (by omega)]; simp
theorem is_ct (tx : ByteArray) (M : List Assn) : Ct Tryz.prog 71 #[.pointer (some ⟨b, 0, none⟩), .string tx] (pA b l en st :: M) (ret fun v L' => v = .bool (isP l st.p (bs tx)) ∧ L' = pA b l en st :: M) :=
  Ct.openPA fun q tq ks hk => Ct.wkR (is_ct0 b l en st tx M q tq ks) fun e L' hR => by
    cases e with
    | returned v =>
      obtain ⟨e1, e2⟩ := hR
      subst e2
      exact ⟨_, closePA hk, e1, rfl⟩
    | panicked c => exact hR.elim
    | outgrown => exact hR.elim
set_option maxHeartbeats 2000000 in
theorem kind_ct0 (hp : st.p ≤ l.length) (M : List Assn) (q tq : Option Addr × Nat) (ks : List (Option Addr × Nat)) : Ct Tryz.prog 131 #[.pointer (some ⟨b, 0, none⟩)] (pM b l en st q tq ks M) (ret fun v L' => v = .int .i64 (kindP l st.p) ∧ L' = pM b l en st q tq ks M) := by
  refine Ct.body Tryz.func131 rfl Tryz.ntmps131 Tryz.results131 rfl ?_
  refine Wp.know (fun k hs => own_know 2 rfl hs) fun hkn => ?_
  obtain ⟨b2, o2, k, hA⟩ := tokG (L := pM b l en st q tq ks M) 2 rfl hkn st.p
  refine pur ?_
  refine Wp.draw rfl [0,1,2,3,4,5,6,7,8,9] 10 10 _ rfl (by decide +kernel) (fun _ h => h) ?_
  refine pur ?_
  refine Wp.branch rfl (fun h => ?_) (fun h => ?_)
  · have he : st.p = l.length := by have := of_decide_eq_true h; omega
    refine pur ?_
    refine Wp.ret (Ret 0 rfl ⟨?_, rfl⟩)
    unfold kindP
    rw [List.getElem?_eq_none (by omega)]
  · have hlt : st.p < l.length := by have := of_decide_eq_false h; omega
    obtain ⟨h1, h2, h3⟩ := hA hlt
    obtain ⟨ta, tc⟩ := tq
    simp only [] at h2
    subst h2
    refine pur ?_
    refine Wp.draw rfl [0,1,2,3,4,5,6,7,8,9,10,11] 12 12 _ rfl (by decide +kernel) (fun _ h => h) ?_
    refine pur ?_
    refine S.idx st.p rfl rfl rfl rfl hlt ?_
    have h3' := Ent.sub (j := 0) 1 h3 rfl
    refine pur ?_
    refine Wp.ret (Ret 0 rfl ⟨?_, rfl⟩)
    unfold kindP
    rw [h1]
theorem kind_ct (hp : st.p ≤ l.length) (M : List Assn) : Ct Tryz.prog 131 #[.pointer (some ⟨b, 0, none⟩)] (pA b l en st :: M) (ret fun v L' => v = .int .i64 (kindP l st.p) ∧ L' = pA b l en st :: M) :=
  Ct.openPA fun q tq ks hk => Ct.wkR (kind_ct0 b l en st hp M q tq ks) fun e L' hR => by
    cases e with
    | returned v =>
      obtain ⟨e1, e2⟩ := hR
      subst e2
      exact ⟨_, closePA hk, e1, rfl⟩
    | panicked c => exact hR.elim
    | outgrown => exact hR.elim
theorem isVar_ct (hp : st.p ≤ l.length) (M : List Assn) : Ct Tryz.prog 72 #[.pointer (some ⟨b, 0, none⟩)] (pA b l en st :: M) (ret fun v L' => v = .bool (isVarP l st.p) ∧ L' = pA b l en st :: M) := by
  refine Ct.body Tryz.func72 rfl Tryz.ntmps72 Tryz.results72 rfl ?_
  refine pur ?_
  refine WpO.callq Tryz.call131 rfl rfl (kind_ct b l en st hp M) Keeps.none ?_
  refine pur ?_
  exact Wp.ret (Ret 0 rfl ⟨rfl, rfl⟩)
set_option maxHeartbeats 1000000 in
theorem typed_ct (hp : st.p ≤ l.length) (M : List Assn) : Ct Tryz.prog 136 #[.pointer (some ⟨b, 0, none⟩)] (pA b l en st :: M) (ret fun v L' => v = .bool (typedP l st.p) ∧ L' = pA b l en st :: M) := by
  refine Ct.body Tryz.func136 rfl Tryz.ntmps136 Tryz.results136 rfl ?_
  refine pur ?_
  refine WpO.callq Tryz.call131 rfl rfl (kind_ct b l en st hp M) Keeps.none ?_
  refine pur ?_
  refine WpO.callqg Tryz.call72 rfl rfl (.cons rfl (by infer_instance) .nil) (fun _ => isVar_ct b l en st hp M) Keeps.none ?_
  refine pur ?_
  refine WpO.callqg Tryz.call71 rfl rfl (.cons rfl (by infer_instance) (.cons rfl (by infer_instance) .nil)) (fun _ => is_ct b l en st ⟨#[40]⟩ M) Keeps.none ?_
  refine pur ?_
  refine WpO.callqg Tryz.call71 rfl rfl (.cons rfl (by infer_instance) (.cons rfl (by infer_instance) .nil)) (fun _ => is_ct b l en st ⟨#[91]⟩ M) Keeps.none ?_
  refine pur ?_
  exact Wp.ret (Ret 0 rfl ⟨rfl, rfl⟩)
set_option maxHeartbeats 1000000 in
theorem begins_ct (hp : st.p ≤ l.length) (M : List Assn) : Ct Tryz.prog 138 #[.pointer (some ⟨b, 0, none⟩)] (pA b l en st :: M) (ret fun v L' => v = .bool (beginsP l st.p) ∧ L' = pA b l en st :: M) := by
  refine Ct.body Tryz.func138 rfl Tryz.ntmps138 Tryz.results138 rfl ?_
  refine pur ?_
  refine WpO.callq Tryz.call131 rfl rfl (kind_ct b l en st hp M) Keeps.none ?_
  refine pur ?_
  refine WpO.callqg Tryz.call71 rfl rfl (.cons rfl (by infer_instance) (.cons rfl (by infer_instance) .nil)) (fun _ => is_ct b l en st ⟨#[40]⟩ M) Keeps.none ?_
  refine pur ?_
  refine WpO.callqg Tryz.call71 rfl rfl (.cons rfl (by infer_instance) (.cons rfl (by infer_instance) .nil)) (fun _ => is_ct b l en st ⟨#[91]⟩ M) Keeps.none ?_
  refine pur ?_
  refine WpO.callqg Tryz.call71 rfl rfl (.cons rfl (by infer_instance) (.cons rfl (by infer_instance) .nil)) (fun _ => is_ct b l en st ⟨#[95]⟩ M) Keeps.none ?_
  refine pur ?_
  exact Wp.ret (Ret 0 rfl ⟨rfl, rfl⟩)
theorem atomic_ct (hp : st.p ≤ l.length) (M : List Assn) : Ct Tryz.prog 183 #[.pointer (some ⟨b, 0, none⟩)] (pA b l en st :: M) (ret fun v L' => v = .bool (atomicP l st.p) ∧ L' = pA b l en st :: M) := by
  refine Ct.body Tryz.func183 rfl Tryz.ntmps183 Tryz.results183 rfl ?_
  refine pur ?_
  refine WpO.callq Tryz.call138 rfl rfl (begins_ct b l en st hp M) Keeps.none ?_
  refine pur ?_
  refine WpO.callqg Tryz.call71 rfl rfl (.cons rfl (by infer_instance) (.cons rfl (by infer_instance) .nil)) (fun _ => is_ct b l en st ⟨#[95]⟩ M) Keeps.none ?_
  refine pur ?_
  exact Wp.ret (Ret 0 rfl ⟨rfl, rfl⟩)
end
end Go.Proofs.YtikgokpbhldlnaaGreatDoor
end
section
/- The parser's walk: faults, marks, names, nodes. -/
namespace Go.Proofs.YtikgokpbhldlnaaGreatDoor
open Go Go.Ab
attribute [local irreducible] Wp WpO Qt OpT Ct Ent
def faultV (e : Er) : Value := .iface 69 (.agg #[.int .i64 e.1, .int .i64 e.2])
/-- It answers, or gives up with a fault. -/
@[reducible] def RG {α : Type} (m : Out α) (φ : α → PS → Value → List Assn → Prop) (M : List Assn) : Ending → List Assn → Prop :=
  retP (fun v L' => ∃ a st', m = .ok (a, st') ∧ φ a st' v L') (fun v L' => ∃ e, m = .error e ∧ v = faultV e ∧ LeL L' M)
@[reducible] def vN (a : Nat) (v : Value) : Prop := v = .int .i64 (a : Nat)
@[reducible] def vU (_ : Unit) (_ : Value) : Prop := True
@[reducible] def vS (a : List UInt8) (v : Value) : Prop := v = .string (ofL a)
@[reducible] def RA {α : Type} (b : Nat) (l : List Tok) (en : Nat) (m : Out α) (ψ : α → Value → Prop) (M : List Assn) : Ending → List Assn → Prop :=
  RG m (fun a st' v L' => ψ a v ∧ L' = pA b l en st' :: M) M
section
variable {b : Nat} {l : List Tok} {en : Nat} {st : PS} {L M : List Assn}
/-- Of a contract on the first part, one on the part wherever it stands. -/
theorem Ct.atp {α : Type} {f : FuncId} {args : Array Value} {m : Out α} {ψ : α → Value → Prop} (i : Nat) (hi : L[i]? = some (pA b l en st)) (h : Ct Tryz.prog f args (pA b l en st :: L.eraseIdx i) (RA b l en m ψ (L.eraseIdx i))) :
    Ct Tryz.prog f args L (RG m (fun a st' v L' => ψ a v ∧ L' = L.set i (pA b l en st')) (L.eraseIdx i)) :=
  Ct.wkR (Ct.pull i hi h) fun e L' hR => by
    cases e with
    | returned v =>
      obtain ⟨a, st', e1, e2, e3⟩ := hR
      subst e3
      exact ⟨_, LeL.set i hi, a, st', e1, e2, rfl⟩
    | panicked c => exact ⟨L', LeL.refl _, hR⟩
    | outgrown => exact hR.elim
theorem perr {α β : Type} {mm : Out α} {f : α → PS → Out β} {R : Out β} {φ : β → PS → Value → List Assn → Prop} {v : Value} {L' M' : List Assn} (hR : bindP mm f = R) (h : ∃ e, mm = .error e ∧ v = faultV e ∧ LeL L' M') (hL : LeL M' M) :
    ([] : List Deferred) = [] ∧ RG R φ M (.panicked [{ v, recovered := false }]) L' := by
  obtain ⟨e, h1, h2, h3⟩ := h
  exact ⟨rfl, v, rfl, e, by rw [← hR, h1]; rfl, h2, h3.trans hL⟩
theorem perr0 {β : Type} {R : Out β} {φ : β → PS → Value → List Assn → Prop} {v : Value} {L' M' : List Assn} (h : ∃ e, R = .error e ∧ v = faultV e ∧ LeL L' M') (hL : LeL M' M) :
    ([] : List Deferred) = [] ∧ RG R φ M (.panicked [{ v, recovered := false }]) L' := by
  obtain ⟨e, h1, h2, h3⟩ := h
  exact ⟨rfl, v, rfl, e, h1, h2, h3.trans hL⟩
theorem pok {α β : Type} {mm : Out α} {f : α → PS → Out β} {R : Out β} {a : α} {st' : PS} (hR : bindP mm f = R) (e : mm = .ok (a, st')) : f a st' = R := by rw [e] at hR; exact hR
theorem concP : Tryz.prog.concrete 69 = true := by kernel_rfl
end
section
variable (b : Nat) (l : List Tok) (en : Nat) (st : PS)
set_option maxHeartbeats 1000000 in
theorem fail_ct (e : Int) (M : List Assn) : Ct Tryz.prog 76 #[.pointer (some ⟨b, 0, none⟩), .int .i64 e] (pA b l en st :: M) (retP (fun _ _ => False) (fun v L' => v = faultV (failP l en e st) ∧ LeL L' M)) := by
  refine Ct.openPA fun q tq ks hk => ?_
  refine Ct.body Tryz.func76 rfl Tryz.ntmps76 Tryz.results76 rfl ?_
  refine Wp.know (fun k hs => own_know 2 rfl hs) fun hkn => ?_
  obtain ⟨b2, o2, k, hA⟩ := tokG (L := pM b l en st q tq ks M) 2 rfl hkn st.p
  refine pur ?_
  refine Wp.draw rfl [0,1,2,3,4,5,6,7,8,9] 10 10 _ rfl (by decide +kernel) (fun _ h => h) ?_
  refine pur ?_
  refine Wp.branch rfl (fun h => ?_) (fun h => ?_)
  · have hlt : st.p < l.length := by have := of_decide_eq_true h; omega
    obtain ⟨h1, h2, h3⟩ := hA hlt
    obtain ⟨ta, tc⟩ := tq
    simp only [] at h2
    subst h2
    refine pur ?_
    refine Wp.draw rfl [0,1,2,3,4,5,6,7,8,9,10,11] 12 12 _ rfl (by decide +kernel) (fun _ h => h) ?_
    refine pur ?_
    refine S.idx st.p rfl rfl rfl rfl hlt ?_
    have h3' := Ent.sub (j := 3) 1 h3 rfl
    refine pur ?_
    refine S.build rfl rfl rfl ?_
    refine S.mkiface concP rfl rfl ?_
    refine WpO.panic rfl ⟨rfl, _, rfl, ?_, LeL.drop 4 _⟩
    unfold faultV failP
    rw [h1]; rfl
  · have hge : l.length ≤ st.p := by have := of_decide_eq_false h; omega
    refine pur ?_
    refine S.build rfl rfl rfl ?_
    refine S.mkiface concP rfl rfl ?_
    refine WpO.panic rfl ⟨rfl, _, rfl, ?_, LeL.drop 4 _⟩
    unfold faultV failP
    rw [List.getElem?_eq_none hge]; rfl
/-- To the next token. -/
theorem storeAdv {q tq : Option Addr × Nat} {ks : List (Option Addr × Nat)} (hk : ks.length = st.t.length) (M : List Assn) (x : Int) (hx : x = ((st.p + 1 : Nat) : Int)) :
    LeL (ptA b 72 [.slice q.1 st.t.length q.2, .slice tq.1 l.length tq.2, .int .i64 x, .int .i64 en] :: ownA 36 4 q.1 q.2 (ndRows st.t ks) :: ownA 48 4 tq.1 tq.2 (l.map tokRow) :: kidsP st.t ks :: M) (pA b l en (adv st) :: M) := by
  subst hx
  exact closePA (st := adv st) hk
set_option maxHeartbeats 1000000 in
theorem skip_ct2 (hl : l.length ≤ 8000) (tx : ByteArray) (M : List Assn) : Ct Tryz.prog 130 #[.pointer (some ⟨b, 0, none⟩), .string tx] (pA b l en st :: M) (ret fun v L' => v = .bool (isP l st.p (bs tx)) ∧ L' = pA b l en (if isP l st.p (bs tx) = true then adv st else st) :: M) := by
  refine Ct.body Tryz.func130 rfl Tryz.ntmps130 Tryz.results130 rfl ?_
  refine pur ?_
  refine WpO.callq Tryz.call71 rfl rfl (is_ct b l en st tx M) Keeps.none ?_
  refine pur ?_
  refine Wp.branch rfl (fun h => ?_) (fun h => ?_)
  · have h' : isP l st.p (bs tx) = false := by rwa [Bool.not_eq_true'] at h
    refine pur ?_
    refine Wp.ret (Ret 0 rfl ⟨by rw [h'], ?_⟩)
    rw [h']; rfl
  · have h' : isP l st.p (bs tx) = true := by rwa [Bool.not_eq_false'] at h
    have hlt := isP_lt h'
    refine pur ?_
    refine WpO.openPA 0 rfl fun q tq ks hk => ?_
    refine pur ?_
    refine Wp.ret (RetL rfl (storeAdv b l en st hk M _ (inc_v (by omega))) ⟨by rw [h'], ?_⟩)
    rw [h', if_pos rfl]
theorem take_ct (hl : l.length ≤ 8000) (tx : ByteArray) (M : List Assn) : Ct Tryz.prog 135 #[.pointer (some ⟨b, 0, none⟩), .string tx] (pA b l en st :: M) (RA b l en (takeP l en (bs tx) st) vU M) := by
  refine Ct.body Tryz.func135 rfl Tryz.ntmps135 Tryz.results135 rfl ?_
  refine pur ?_
  refine WpO.call Tryz.call130 rfl rfl (skip_ct2 b l en st hl tx M) fun v L' ⟨e1, e2⟩ => ⟨Keeps.none, ?_⟩
  subst e1; subst e2
  refine pur ?_
  refine Wp.branch rfl (fun h => ?_) (fun h => ?_)
  · have h' : isP l st.p (bs tx) = false := by rwa [Bool.not_eq_true'] at h
    rw [h']
    refine pur ?_
    refine WpO.callP Tryz.call76 rfl rfl (fail_ct b l en st 8 M) (fun v L' ⟨e1, e2⟩ => ?_) fun v L' e => e.elim
    exact ⟨rfl, v, rfl, _, by unfold takeP; rw [h']; rfl, e1, e2⟩
  · have h' : isP l st.p (bs tx) = true := by rwa [Bool.not_eq_false'] at h
    rw [h', if_pos rfl]
    refine pur ?_
    exact ⟨rfl, _, _, rfl, LeL.refl _, (), adv st, by unfold takeP; rw [if_pos h'], trivial, rfl⟩
set_option maxHeartbeats 1000000 in
theorem pname_ct (hl : l.length ≤ 8000) (hp : st.p ≤ l.length) (k : Int) (hk0 : k ≠ 0) (M : List Assn) : Ct Tryz.prog 132 #[.pointer (some ⟨b, 0, none⟩), .int .i64 k] (pA b l en st :: M) (RA b l en (nameP l en k st) vS M) := by
  refine Ct.body Tryz.func132 rfl Tryz.ntmps132 Tryz.results132 rfl ?_
  refine pur ?_
  refine WpO.callq Tryz.call131 rfl rfl (kind_ct b l en st hp M) Keeps.none ?_
  refine pur ?_
  refine Wp.branch rfl (fun h => ?_) (fun h => ?_)
  · have h' : ¬ kindP l st.p = k := by simpa using h
    refine pur ?_
    refine WpO.callP Tryz.call76 rfl rfl (fail_ct b l en st 8 M) (fun v L' ⟨e1, e2⟩ => ?_) fun v L' e => e.elim
    exact ⟨rfl, v, rfl, _, by unfold nameP; rw [if_neg h'], e1, e2⟩
  · have h' : kindP l st.p = k := by simpa using h
    have hlt := kindP_lt (l := l) (p := st.p) (by rw [h']; exact hk0)
    refine pur ?_
    refine WpO.openPA 0 rfl fun q tq ks hk => ?_
    refine WpO.know (fun k hs => own_know 2 rfl hs) fun hkn => ?_
    obtain ⟨b2, o2, kk, hA⟩ := tokG (L := ptA b 72 [.slice q.1 st.t.length q.2, .slice tq.1 l.length tq.2, .int .i64 ((st.p + 1 : Nat) : Int), .int .i64 en] :: ownA 36 4 q.1 q.2 (ndRows st.t ks) :: ownA 48 4 tq.1 tq.2 (l.map tokRow) :: kidsP st.t ks :: M) 2 rfl hkn st.p
    obtain ⟨h1, h2, h3⟩ := hA hlt
    obtain ⟨ta, tc⟩ := tq
    simp only [] at h2
    subst h2
    refine pur ?_
    rw [show IntKind.i64.wrap ((st.p : Int) + 1) = ((st.p + 1 : Nat) : Int) from inc_v (by omega)]
    refine Wp.draw rfl [0,1,2,3,4,5,6,7,8,9,10,11,12] 13 13 _ rfl (by decide +kernel) (fun _ h => h) ?_
    refine pur ?_
    rw [show IntKind.i64.wrap (((st.p + 1 : Nat) : Int) - 1) = ((st.p : Nat) : Int) from by rw [wrap_id (by omega) (by omega)]; omega]
    refine S.idx st.p rfl rfl rfl rfl hlt ?_
    have h3' := Ent.sub (j := 1) 1 h3 rfl
    refine pur ?_
    refine Wp.ret (RetL rfl (storeAdv (q := q) (tq := (some ⟨b2, o2, none⟩, tc)) b l en st hk M _ rfl) ⟨textP l st.p, adv st, by unfold nameP; rw [if_pos h'], ?_, rfl⟩)
    unfold textP
    rw [h1]
theorem ndRows_snoc {t : List Nd} {ks : List (Option Addr × Nat)} {nd : Nd} {k : Option Addr × Nat} (h : ks.length = t.length) : ndRows (t ++ [nd]) (ks ++ [k]) = ndRows t ks ++ [ndRow nd k] := by
  unfold ndRows
  rw [List.zipWith_append h.symm]; rfl
theorem ndRows_length {t : List Nd} {ks : List (Option Addr × Nat)} (h : ks.length = t.length) : (ndRows t ks).length = t.length := by
  unfold ndRows; rw [List.length_zipWith]; omega
theorem closePut {q tq k : Option Addr × Nat} {ks : List (Option Addr × Nat)} {nd : Nd} (hk : ks.length = st.t.length) (M : List Assn) (n : Nat) (hn : n = st.t.length + 1) :
    LeL (ptA b 72 [.slice q.1 n q.2, .slice tq.1 l.length tq.2, .int .i64 st.p, .int .i64 en] :: ownA 36 4 q.1 q.2 (ndRows st.t ks ++ [ndRow nd k]) :: ownA 48 4 tq.1 tq.2 (l.map tokRow) :: kidsP st.t ks :: ownA 3 1 k.1 k.2 (ints nd.kids) :: M) (pA b l en ⟨st.t ++ [nd], st.p⟩ :: M) := by
  subst hn
  rw [← ndRows_snoc hk]
  refine LeL.trans ?_ (closePA (st := ⟨st.t ++ [nd], st.p⟩) (q := q) (tq := tq) (ks := ks ++ [k]) (by simp [hk]))
  unfold pM prow
  rw [show (st.t ++ [nd]).length = st.t.length + 1 from by simp]
  exact LeL.cons (LeL.cons (LeL.cons (LeL.trans (fun _ s => s.swap) (kidsP_snoc hk))))
set_option maxHeartbeats 2000000 in
/-- A node is laid; the list of its parts becomes its own. -/
theorem put_ct2 (ht : st.t.length < 100000) (op : Int) (tx : ByteArray) (kids : List Nat) (k : Option Addr × Nat) (M : List Assn) :
    Ct Tryz.prog 77 #[.pointer (some ⟨b, 0, none⟩), .int .i64 op, .string tx, .slice k.1 kids.length k.2] (ownA 3 1 k.1 k.2 (ints (ik kids)) :: pA b l en st :: M)
      (ret fun v L' => v = .int .i64 ((st.t.length : Nat) : Int) ∧ L' = pA b l en ⟨st.t ++ [⟨op, tx, 0, ik kids⟩], st.p⟩ :: M) := by
  refine Ct.body Tryz.func77 rfl Tryz.ntmps77 Tryz.results77 rfl ?_
  refine Wp.openPA 1 rfl fun q tq ks hk => ?_
  show Wp _ _ _ _ _ _ (pM b l en st q tq ks (ownA 3 1 k.1 k.2 (ints (ik kids)) :: M))
  refine pur ?_
  refine S.build rfl rfl rfl ?_
  have hrow : ndRow ⟨op, tx, 0, ik kids⟩ k = [.int .i64 op, .string tx, .int .i64 0, .slice k.1 kids.length k.2] := by unfold ndRow ik; simp
  have hlen := ndRows_length hk
  refine WpO.buildSlice rfl rfl rfl rfl rfl rfl rfl (fun _ => Keeps.none) fun b6 => ?_
  refine WpO.appendLit 1 [ndRow ⟨op, tx, 0, ik kids⟩ k] rfl rfl rfl rfl hlen.symm rfl rfl (by rw [hrow]; rfl) rfl rfl rfl rfl (by simp [hlen]; omega) (fun _ _ => Keeps.none) fun a2 k2 => ?_
  rw [show (ndRows st.t ks ++ [ndRow ⟨op, tx, 0, ik kids⟩ k]).length = st.t.length + 1 from by simp [hlen]]
  refine pur ?_
  rw [show IntKind.i64.wrap (((st.t.length + 1 : Nat) : Int) - 1) = ((st.t.length : Nat) : Int) from by rw [wrap_id (by omega) (by omega)]; omega]
  exact Wp.ret (RetL rfl (closePut (q := (a2, k2)) b l en st hk M _ rfl) ⟨rfl, rfl⟩)
end
end Go.Proofs.YtikgokpbhldlnaaGreatDoor
end
section
/- The parser's walk: many; commas; semicolons. -/
namespace Go.Proofs.YtikgokpbhldlnaaGreatDoor
open Go Go.Ab
attribute [local irreducible] Wp WpO Qt OpT Ct Ent
/-- Where the parser may stand. -/
def Iv (l : List Tok) (st : PS) : Prop := st.p ≤ l.length ∧ st.t.length ≤ 4 * st.p
theorem Iv.gr {l : List Tok} {a c : PS} {k : Nat} {w : Int} (h : Iv l a) (g : Gr l k w a c) (hw : 0 ≤ w) : Iv l c := by
  have h1 := g.w
  have h2 := h.2
  unfold wS at h1
  exact ⟨g.e, by omega⟩
theorem Iv.bd {l : List Tok} {a c : PS} {k : Nat} {w : Int} (h : Iv l a) (hl : l.length ≤ 8000) (g : Gr l k w a c) (hw : -1000 ≤ w) : c.t.length < 100000 := by
  have h1 := g.w
  have h2 := h.2
  have h3 := g.e
  unfold wS at h1
  omega
theorem Iv.bd0 {l : List Tok} {a : PS} (h : Iv l a) (hl : l.length ≤ 8000) : a.t.length < 100000 := by
  have h2 := h.2
  have h3 := h.1
  omega
theorem bind_assoc {α β γ : Type} (m : Out α) (f : α → PS → Out β) (g : β → PS → Out γ) : bindP (bindP m f) g = bindP m fun a st => bindP (f a st) g := by
  unfold bindP
  cases m <;> rfl
theorem ints_snoc (ks : List Nat) (a : Nat) : ints (ik ks) ++ [[.int .i64 ((a : Nat) : Int)]] = ints (ik (ks ++ [a])) := by simp [ints, ik]
theorem ints_len (ks : List Nat) : (ints (ik ks)).length = ks.length := by simp [ints, ik]
@[reducible] def ownK (k : Option Addr × Nat) (ks : List Nat) : Assn := ownA 3 1 k.1 k.2 (ints (ik ks))
/-- A list of nodes, of its own. -/
@[reducible] def RKids (b : Nat) (l : List Tok) (en : Nat) (m : Out (List Nat)) (M : List Assn) : Ending → List Assn → Prop :=
  RG m (fun ks st' v L' => ∃ k : Option Addr × Nat, v = .slice k.1 ks.length k.2 ∧ L' = ownK k ks :: pA b l en st' :: M) M
/-- A function value that reads a node. -/
structure Fv (F : List Assn → Prop) where
  f : FuncId
  fst : Array Value
  cap : Array Value
  hc : ∀ (args : Array Value) (w : World), Sem.run Tryz.prog (callFunc f args) w = .ok (.enter f args) w
  hF : ∀ A M, F M → F (A :: M)
@[reducible] def Fv.val {F : List Assn → Prop} (x : Fv F) : Value := .func (.func x.f) x.fst x.cap
/-- It says whether B. -/
def FB (b : Nat) (l : List Tok) (en : Nat) {F : List Assn → Prop} (x : Fv F) (B : Nat → Bool) : Prop :=
  ∀ (st : PS) (M : List Assn), st.p ≤ l.length → F M → Ct Tryz.prog x.f (x.fst.toList ++ [] ++ x.cap.toList).toArray (pA b l en st :: M) (ret fun v L' => v = .bool (B st.p) ∧ L' = pA b l en st :: M)
/-- It reads one, from place p0 on. -/
def F1 (b : Nat) (l : List Tok) (en : Nat) {F : List Assn → Prop} (x : Fv F) (p0 : Nat) (one : Pr Nat) : Prop :=
  ∀ (st : PS) (M : List Assn), Iv l st → p0 ≤ st.p → F M → Ct Tryz.prog x.f (x.fst.toList ++ [] ++ x.cap.toList).toArray (pA b l en st :: M) (RA b l en (one st) vN M)
section
variable (b : Nat) (l : List Tok) (en : Nat) (st : PS) {F G : List Assn → Prop}
set_option maxHeartbeats 4000000 in
theorem many_ct (hl : l.length ≤ 8000) (hv : Iv l st) (x : Fv F) (y : Fv G) (B : Nat → Bool) (one : Pr Nat) (p0 : Nat) (hB : FB b l en x B) (h1 : F1 b l en y p0 one) (hO : One l one) (hp : p0 ≤ st.p) (M : List Assn) (hFM : F M) (hGM : G M) :
    Ct Tryz.prog 133 #[.pointer (some ⟨b, 0, none⟩), x.val, y.val] (pA b l en st :: M) (RKids b l en (manyF l en B one 9 [] st) M) := by
  generalize hR : manyF l en B one 9 [] st = R
  refine Ct.body Tryz.func133 rfl Tryz.ntmps133 Tryz.results133 rfl ?_
  refine pur ?_
  refine Wp.loopI (α := Nat × List Nat × PS × (Option Addr × Nat)) (9, [], st, (none, 0)) (fun z => [(0, .v (.pointer (some ⟨b, 0, none⟩))), (1, .v x.val), (2, .v y.val), (7, .v (.slice z.2.2.2.1 z.2.1.length z.2.2.2.2))])
    (fun z => ownK z.2.2.2 z.2.1 :: pA b l en z.2.2.1 :: M) (fun z => z.1) (fun z => Iv l z.2.2.1 ∧ p0 ≤ z.2.2.1.p ∧ z.2.1.length ≤ 8 ∧ z.1 + z.2.1.length = 9 ∧ manyF l en B one z.1 z.2.1 z.2.2.1 = R) ⟨hv, hp, by simp, by simp, hR⟩ ⟨rfl, rfl, rfl, rfl, trivial⟩ (fun _ s => Sat.ownNil s) ?_
  rintro ⟨f, kids, st1, k⟩ ⟨q1, q2, q3, q4, q5⟩
  simp only [] at q1 q2 q3 q4 q5
  obtain ⟨g, rfl⟩ : ∃ g, f = g + 1 := ⟨f - 1, by omega⟩
  rw [manyF] at q5
  refine pur ?_
  refine WpO.callm x.hc rfl rfl .nil (Ct.atq 1 rfl (hB st1 _ q1.1 (x.hF _ _ hFM))) fun v L' ⟨e1, e2⟩ => ⟨Keeps.none, ?_⟩
  subst e1; subst e2
  refine pur ?_
  refine Wp.branch rfl (fun h => ?_) (fun h => ?_)
  · rw [if_pos h] at q5
    refine pur ?_
    refine Wp.branch rfl (fun h8 => ?_) (fun h8 => ?_)
    · have h8' : kids.length = 8 := by have : ((kids.length : Nat) : Int) = 8 := of_decide_eq_true h8; omega
      rw [if_pos h8'] at q5
      refine pur ?_
      refine WpO.callP Tryz.call76 rfl rfl (Ct.pull 1 rfl (fail_ct b l en st1 11 _)) (fun v L' ⟨e1, e2⟩ => ?_) fun v L' e => e.elim
      exact perr0 (M' := ownK k kids :: M) ⟨_, q5.symm, e1, e2⟩ (LeL.drop 1 _)
    · have h8' : ¬ kids.length = 8 := by have : ¬ ((kids.length : Nat) : Int) = 8 := of_decide_eq_false h8; omega
      rw [if_neg h8'] at q5
      refine pur ?_
      refine WpO.callmP y.hc rfl rfl .nil (Ct.atp 1 rfl (h1 st1 _ q1 q2 (y.hF _ _ hGM))) (fun v L' e => perr q5 e (LeL.drop 1 _)) fun v L' ⟨a, st2, e1, e2, e3⟩ => ⟨Keeps.none, ?_⟩
      subst e2; subst e3
      have q6 := pok q5 e1
      have g1 := (hO st1 a st2 q1.1 e1).1
      dsimp only [List.set]
      refine WpO.buildSlice rfl rfl rfl rfl rfl rfl rfl (fun _ => Keeps.none) fun b6 => ?_
      refine WpO.appendLit 0 [[.int .i64 ((a : Nat) : Int)]] rfl rfl rfl rfl (ints_len kids).symm rfl rfl rfl rfl rfl rfl rfl (by rw [ints_len]; simp; omega) (fun _ _ => Keeps.none) fun a2 k2 => ?_
      rw [ints_snoc, ints_len]
      refine pur ?_
      exact Round.mk (g, kids ++ [a], st2, (a2, k2)) (Nat.lt_succ_self _) ⟨q1.gr g1 (by omega), by have := g1.p; simp only []; omega, by simp; omega, by simp; omega, q6⟩ ⟨rfl, rfl, rfl, rfl, trivial⟩ (LeL.refl _)
  · rw [if_neg (by rw [h]; decide)] at q5
    refine pur ?_
    exact Wp.ret (Ret 0 rfl ⟨kids, st1, q5.symm, k, rfl, rfl⟩)
set_option maxHeartbeats 4000000 in
theorem pcommas_ct (hl : l.length ≤ 8000) (hv : Iv l st) (y : Fv G) (fin : ByteArray) (most : Nat) (one : Pr Nat) (p0 : Nat) (h1 : F1 b l en y p0 one) (hO : One l one) (hp : p0 ≤ st.p) (M : List Assn) (hGM : G M) :
    Ct Tryz.prog 182 #[.pointer (some ⟨b, 0, none⟩), y.val, .string fin, .int .i64 most] (pA b l en st :: M) (RKids b l en (commasP l en one (bs fin) most st) M) := by
  generalize hR : commasP l en one (bs fin) most st = R
  unfold commasP at hR
  refine Ct.body Tryz.func182 rfl Tryz.ntmps182 Tryz.results182 rfl ?_
  refine pur ?_
  refine WpO.callmP y.hc rfl rfl .nil (h1 st _ hv hp hGM) (fun v L' e => perr hR e (LeL.refl _)) fun v L' ⟨a, st1, e1, e2, e3⟩ => ⟨Keeps.none, ?_⟩
  subst e2; subst e3
  replace hR := pok hR e1
  have g1 := (hO st a st1 hv.1 e1).1
  refine WpO.buildSlice rfl rfl rfl rfl rfl rfl rfl (fun _ => Keeps.none) fun b6 => ?_
  refine pur ?_
  refine Wp.loopI (α := Nat × List Nat × PS × (Option Addr × Nat)) (l.length + 1, [a], st1, (some ⟨b6, 0, none⟩, 1)) (fun z => [(0, .v (.pointer (some ⟨b, 0, none⟩))), (1, .v y.val), (2, .v (.string fin)), (3, .v (.int .i64 most)), (9, .v (.slice z.2.2.2.1 z.2.1.length z.2.2.2.2))])
    (fun z => ownK z.2.2.2 z.2.1 :: pA b l en z.2.2.1 :: M) (fun z => z.1) (fun z => Iv l z.2.2.1 ∧ p0 ≤ z.2.2.1.p ∧ z.2.1.length ≤ 1 + z.2.2.1.p ∧ l.length + 1 ≤ z.1 + z.2.2.1.p ∧ commasF l en one (bs fin) most z.1 z.2.1 z.2.2.1 = R) ⟨hv.gr g1 (by omega), by have := g1.p; simp only []; omega, by simp, by simp only []; omega, hR⟩ ⟨rfl, rfl, rfl, rfl, rfl, trivial⟩ (LeL.head fun k hk => ownA.ofPt rfl (by simp [ints, ik]) rfl hk) ?_
  rintro ⟨f, kids, st2, k⟩ ⟨q1, q2, q3, q4, q5⟩
  simp only [] at q1 q2 q3 q4 q5
  have q1p := q1.1
  obtain ⟨g, rfl⟩ : ∃ g, f = g + 1 := ⟨f - 1, by omega⟩
  rw [commasF] at q5
  refine pur ?_
  refine WpO.callq Tryz.call71 rfl rfl (Ct.atq 1 rfl (is_ct b l en st2 ⟨#[44]⟩ _)) Keeps.none ?_
  refine pur ?_
  refine Wp.branch rfl (fun h => ?_) (fun h => ?_)
  · rw [if_pos h] at q5
    have hlt := isP_lt h
    refine pur ?_
    refine Wp.branch rfl (fun h8 => ?_) (fun h8 => ?_)
    · have h8' : kids.length = most := by have : ((kids.length : Nat) : Int) = (most : Int) := of_decide_eq_true h8; omega
      rw [if_pos h8'] at q5
      refine pur ?_
      refine WpO.callP Tryz.call76 rfl rfl (Ct.pull 1 rfl (fail_ct b l en st2 11 _)) (fun v L' ⟨e1, e2⟩ => ?_) fun v L' e => e.elim
      exact perr0 (M' := ownK k kids :: M) ⟨_, q5.symm, e1, e2⟩ (LeL.drop 1 _)
    · have h8' : ¬ kids.length = most := by have : ¬ ((kids.length : Nat) : Int) = (most : Int) := of_decide_eq_false h8; omega
      rw [if_neg h8'] at q5
      have ga := adv_gr hlt
      have hva : Iv l (adv st2) := q1.gr ga (by omega)
      refine pur ?_
      refine WpO.openPA 1 rfl fun q tq ks hk => ?_
      refine pur ?_
      refine WpO.parts (L' := pA b l en (adv st2) :: ownK k kids :: M) (storeAdv b l en st2 hk _ _ (inc_v (show st2.p < 4611686018427387904 by omega))) ?_
      refine pur ?_
      refine WpO.callmP y.hc rfl rfl .nil (Ct.atp 0 rfl (h1 (adv st2) _ hva (by show p0 ≤ st2.p + 1; omega) (y.hF _ _ hGM))) (fun v L' e => perr q5 e (LeL.drop 1 _)) fun v L' ⟨a, st3, e1, e2, e3⟩ => ⟨Keeps.none, ?_⟩
      subst e2; subst e3
      have q6 := pok q5 e1
      have g2 := (hO (adv st2) a st3 hva.1 e1).1
      dsimp only [List.set]
      refine WpO.buildSlice rfl rfl rfl rfl rfl rfl rfl (fun _ => Keeps.none) fun b6 => ?_
      refine WpO.appendLit 1 [[.int .i64 ((a : Nat) : Int)]] rfl rfl rfl rfl (ints_len kids).symm rfl rfl rfl rfl rfl rfl rfl (by rw [ints_len]; simp; omega) (fun _ _ => Keeps.none) fun a2 k2 => ?_
      rw [ints_snoc, ints_len]
      refine pur ?_
      have hp2 := g2.p
      have hpa : (adv st2).p = st2.p + 1 := rfl
      exact Round.mk (g, kids ++ [a], st3, (a2, k2)) (Nat.lt_succ_self _) ⟨hva.gr g2 (by omega), by simp only []; omega, by simp; omega, by simp only []; omega, q6⟩ ⟨rfl, rfl, rfl, rfl, rfl, trivial⟩ (fun _ s => s.swap)
  · rw [if_neg (by rw [h]; decide)] at q5
    refine pur ?_
    refine WpO.callP Tryz.call135 rfl rfl (Ct.atp 1 rfl (take_ct b l en st2 hl fin _)) (fun v L' e => perr q5 e (LeL.drop 1 _)) fun v L' ⟨u, st3, e1, e2, e3⟩ => ⟨Keeps.none, ?_⟩
    subst e3
    have q6 := pok q5 e1
    dsimp only [List.set]
    refine pur ?_
    exact Wp.ret (Ret 0 rfl ⟨kids, st3, q6.symm, k, rfl, rfl⟩)
set_option maxHeartbeats 4000000 in
theorem semis_ct (hl : l.length ≤ 8000) (hv : Iv l st) (x : Fv F) (y : Fv G) (B : Nat → Bool) (one : Pr Nat) (p0 : Nat) (hB : FB b l en x B) (h1 : F1 b l en y p0 one) (hO : One l one) (hp : p0 ≤ st.p) (M : List Assn) (hFM : F M) (hGM : G M) :
    Ct Tryz.prog 69 #[.pointer (some ⟨b, 0, none⟩), x.val, y.val] (pA b l en st :: M) (RKids b l en (semisF l B one (l.length + 1) [] st) M) := by
  generalize hR : semisF l B one (l.length + 1) [] st = R
  refine Ct.body Tryz.func69 rfl Tryz.ntmps69 Tryz.results69 rfl ?_
  refine pur ?_
  refine Wp.loopI (α := Nat × List Nat × PS × (Option Addr × Nat)) (l.length + 1, [], st, (none, 0)) (fun z => [(0, .v (.pointer (some ⟨b, 0, none⟩))), (1, .v x.val), (2, .v y.val), (7, .v (.slice z.2.2.2.1 z.2.1.length z.2.2.2.2))])
    (fun z => ownK z.2.2.2 z.2.1 :: pA b l en z.2.2.1 :: M) (fun z => z.1) (fun z => Iv l z.2.2.1 ∧ p0 ≤ z.2.2.1.p ∧ z.2.1.length ≤ z.2.2.1.p ∧ l.length + 1 ≤ z.1 + z.2.2.1.p ∧ semisF l B one z.1 z.2.1 z.2.2.1 = R) ⟨hv, hp, Nat.zero_le _, by simp only []; omega, hR⟩ ⟨rfl, rfl, rfl, rfl, trivial⟩ (fun _ s => Sat.ownNil s) ?_
  rintro ⟨f, kids, st1, k⟩ ⟨q1, q2, q3, q4, q5⟩
  simp only [] at q1 q2 q3 q4 q5
  have q1p := q1.1
  obtain ⟨g, rfl⟩ : ∃ g, f = g + 1 := ⟨f - 1, by omega⟩
  rw [semisF] at q5
  refine Wp.block ?_
  refine Wp.cut (α := List Nat × PS × (Option Addr × Nat)) (fun z => [(0, .v (.pointer (some ⟨b, 0, none⟩))), (1, .v x.val), (2, .v y.val), (7, .v (.slice z.2.2.1 z.1.length z.2.2.2))]) (fun z => ownK z.2.2 z.1 :: pA b l en z.2.1 :: M)
    (fun z => Iv l z.2.1 ∧ st1.p ≤ z.2.1.p ∧ z.1.length ≤ z.2.1.p ∧ (if isP l z.2.1.p [59] = true then semisF l B one g z.1 (adv z.2.1) else .ok (z.1, z.2.1)) = R) ?_ ?_
  · refine pur ?_
    refine WpO.callm x.hc rfl rfl .nil (Ct.atq 1 rfl (hB st1 _ q1.1 (x.hF _ _ hFM))) fun v L' ⟨e1, e2⟩ => ⟨Keeps.none, ?_⟩
    subst e1; subst e2
    refine pur ?_
    refine Wp.branch rfl (fun h => ?_) (fun h => ?_)
    · rw [if_pos h, bind_assoc] at q5
      refine pur ?_
      refine WpO.callmP y.hc rfl rfl .nil (Ct.atp 1 rfl (h1 st1 _ q1 q2 (y.hF _ _ hGM))) (fun v L' e => perr q5 e (LeL.drop 1 _)) fun v L' ⟨a, st2, e1, e2, e3⟩ => ⟨Keeps.none, ?_⟩
      subst e2; subst e3
      have q6 := pok q5 e1
      have g1 := (hO st1 a st2 q1.1 e1).1
      have g1p := g1.p
      dsimp only [List.set]
      refine WpO.buildSlice rfl rfl rfl rfl rfl rfl rfl (fun _ => Keeps.none) fun b6 => ?_
      refine WpO.appendLit 0 [[.int .i64 ((a : Nat) : Int)]] rfl rfl rfl rfl (ints_len kids).symm rfl rfl rfl rfl rfl rfl rfl (by rw [ints_len]; simp; omega) (fun _ _ => Keeps.none) fun a2 k2 => ?_
      rw [ints_snoc, ints_len]
      refine pur ?_
      exact ⟨(kids ++ [a], st2, (a2, k2)), ⟨q1.gr g1 (by omega), by simp only []; omega, by simp; omega, q6⟩, ⟨rfl, rfl, rfl, rfl, trivial⟩, rfl, LeL.refl _⟩
    · rw [if_neg (by rw [h]; decide)] at q5
      refine pur ?_
      exact ⟨(kids, st1, k), ⟨q1, Nat.le_refl _, q3, q5⟩, ⟨rfl, rfl, rfl, rfl, trivial⟩, rfl, LeL.refl _⟩
  · rintro ⟨kids2, st2, k2⟩ ⟨r1, r2, r3, r4⟩
    simp only [] at r1 r2 r3 r4
    refine pur ?_
    refine WpO.call Tryz.call130 rfl rfl (Ct.pull 1 rfl (skip_ct2 b l en st2 hl ⟨#[59]⟩ _)) fun v L' ⟨e1, e2⟩ => ⟨Keeps.none, ?_⟩
    subst e1; subst e2
    refine pur ?_
    refine Wp.branch rfl (fun h => ?_) (fun h => ?_)
    · have h' : isP l st2.p [59] = false := by rwa [Bool.not_eq_true'] at h
      rw [if_neg (by rw [h']; decide)] at r4
      refine pur ?_
      refine Wp.ret (RetL (L' := ownK k2 kids2 :: pA b l en st2 :: M) rfl (fun _ s => ?_) ⟨kids2, st2, r4.symm, k2, rfl, rfl⟩)
      have s := s.swap
      rwa [show isP l st2.p (bs ⟨#[59]⟩) = false from h'] at s
    · have h' : isP l st2.p [59] = true := by rwa [Bool.not_eq_false'] at h
      rw [if_pos h'] at r4
      have ga := adv_gr (isP_lt h')
      refine pur ?_
      refine Round.mk (g, kids2, adv st2, k2) (Nat.lt_succ_self _) ⟨r1.gr ga (by omega), by show p0 ≤ st2.p + 1; omega, by show kids2.length ≤ st2.p + 1; omega, by show l.length + 1 ≤ g + (st2.p + 1); omega, r4⟩ ⟨rfl, rfl, rfl, rfl, trivial⟩ (fun _ s => ?_)
      have s := s.swap
      rwa [show isP l st2.p (bs ⟨#[59]⟩) = true from h', if_pos rfl] at s
end
end Go.Proofs.YtikgokpbhldlnaaGreatDoor
end
section
/- The parser's walk: a leaf; the operator that comes; brackets. -/
namespace Go.Proofs.YtikgokpbhldlnaaGreatDoor
open Go Go.Ab
attribute [local irreducible] Wp WpO Qt OpT Ct Ent
section
variable (b : Nat) (l : List Tok) (en : Nat) (st : PS)
theorem closeNum {q tq : Option Addr × Nat} {ks : List (Option Addr × Nat)} {t : List Nd} {nd : Nd} {p : Nat} {rows : List (List Value)} (n : Int) (M : List Assn) (hk : ks.length = (t ++ [nd]).length) (hr : rows = ndRows (t ++ [⟨nd.op, nd.text, n, nd.kids⟩]) ks) :
    LeL (ptA b 72 [.slice q.1 (t ++ [nd]).length q.2, .slice tq.1 l.length tq.2, .int .i64 p, .int .i64 en] :: ownA 36 4 q.1 q.2 rows :: ownA 48 4 tq.1 tq.2 (l.map tokRow) :: kidsP (t ++ [nd]) ks :: M) (pA b l en ⟨t ++ [⟨nd.op, nd.text, n, nd.kids⟩], p⟩ :: M) := by
  subst hr
  have h1 : kidsP (t ++ [nd]) ks = kidsP (t ++ [⟨nd.op, nd.text, n, nd.kids⟩]) ks := by
    rcases List.eq_nil_or_concat ks with rfl | ⟨ks', z, rfl⟩
    · simp at hk
    · rw [List.concat_eq_append] at hk ⊢
      have hk' : t.length = ks'.length := by simp at hk; omega
      have h2 : kidsA (t ++ [nd]) (ks' ++ [z]) = kidsA (t ++ [⟨nd.op, nd.text, n, nd.kids⟩]) (ks' ++ [z]) := by
        unfold kidsA
        rw [List.zip_append hk', List.zip_append hk']; simp
      unfold kidsP
      rw [h2]
  rw [h1, show (t ++ [nd]).length = (t ++ [(⟨nd.op, nd.text, n, nd.kids⟩ : Nd)]).length from by simp]
  exact closePA (st := ⟨t ++ [⟨nd.op, nd.text, n, nd.kids⟩], p⟩) (by rw [hk]; simp)
theorem LeL.down4 {X A B C D : Assn} (L : List Assn) : LeL (X :: A :: B :: C :: D :: L) (A :: B :: C :: D :: X :: L) := LeL.perm (List.perm_middle (l₁ := [A, B, C, D])).symm
set_option maxHeartbeats 4000000 in
theorem leaf_ct (hl : l.length ≤ 8000) (hv : Iv l st) (x0 x1 x2 x3 x4 : Int) (b2 : Nat) (k : Tok) (hk : l[st.p]? = some k) (hk1 : 1 ≤ k.kind ∧ k.kind ≤ 5) (M : List Assn) :
    Ct Tryz.prog 184 #[.pointer (some ⟨b, 0, none⟩), .slice (some ⟨b2, 0, none⟩) 5 5] (ptA b2 3 [.int .i64 x0, .int .i64 x1, .int .i64 x2, .int .i64 x3, .int .i64 x4] :: pA b l en st :: M) (RA b l en (leafP l [x0, x1, x2, x3, x4] st) vN M) := by
  have hlt := (List.getElem?_eq_some_iff.1 hk).1
  have ht := hv.bd0 hl
  refine Ct.body Tryz.func184 rfl Tryz.ntmps184 Tryz.results184 rfl ?_
  refine Wp.openPA 1 rfl fun q tq ks hks => ?_
  show Wp _ _ _ _ _ _ (pM b l en st q tq ks (ptA b2 3 [.int .i64 x0, .int .i64 x1, .int .i64 x2, .int .i64 x3, .int .i64 x4] :: M))
  refine Wp.know (fun k hs => own_know 2 rfl hs) fun hkn => ?_
  obtain ⟨b3, o3, kk, hA⟩ := tokG (L := pM b l en st q tq ks (ptA b2 3 [.int .i64 x0, .int .i64 x1, .int .i64 x2, .int .i64 x3, .int .i64 x4] :: M)) 2 rfl hkn st.p
  obtain ⟨h1, h2, h3⟩ := hA hlt
  rw [hk] at h1
  obtain rfl : k = kk := by simpa using h1
  obtain ⟨ta, tc⟩ := tq
  simp only [] at h2
  subst h2
  refine pur ?_
  refine Wp.draw rfl [0,1,2,3,4,5,6,7,8,9,10,11] 11 11 _ rfl (by decide +kernel) (fun _ h => h) ?_
  refine pur ?_
  refine S.idx st.p rfl rfl rfl rfl hlt ?_
  refine S.loadN rfl rfl h3 rfl ?_
  refine WpO.alloc rfl rfl (fun _ => Keeps.by fun _ h => h.tail) fun b5 => ?_
  refine pur ?_
  rw [show IntKind.i64.wrap ((st.p : Int) + 1) = ((st.p + 1 : Nat) : Int) from inc_v (by omega)]
  have hj : ((k.kind - 1).toNat : Int) = k.kind - 1 := by omega
  have hcell : ∃ x, [Value.int .i64 x0, .int .i64 x1, .int .i64 x2, .int .i64 x3, .int .i64 x4][(k.kind - 1).toNat]? = some (Value.int .i64 x) ∧ x = [x0, x1, x2, x3, x4].getD (k.kind - 1).toNat 0 := by
    have : (k.kind - 1).toNat < 5 := by omega
    generalize (k.kind - 1).toNat = j at this
    match j, this with
    | 0, _ => exact ⟨_, rfl, rfl⟩
    | 1, _ => exact ⟨_, rfl, rfl⟩
    | 2, _ => exact ⟨_, rfl, rfl⟩
    | 3, _ => exact ⟨_, rfl, rfl⟩
    | 4, _ => exact ⟨_, rfl, rfl⟩
  obtain ⟨xx, hx1, hx2⟩ := hcell
  refine Wp.draw rfl [0,1,2,3,4,5,6,7,8,9,10] 9 9 [ptA b5 48 (tokRow k), ptA b2 3 [.int .i64 x0, .int .i64 x1, .int .i64 x2, .int .i64 x3, .int .i64 x4]] rfl (by decide +kernel) (LeL.cons fun _ s => Sat.take (M := [_]) s.tail.tail.tail.tail) ?_
  refine pur ?_
  rw [show IntKind.i64.wrap (k.kind - 1) = (((k.kind - 1).toNat : Nat) : Int) from by rw [wrap_id (by omega) (by omega)]; omega]
  refine S.idx (k.kind - 1).toNat rfl rfl rfl rfl (by omega) ?_
  have hE : Ent [ptA b5 48 (tokRow k), ptA b2 3 [.int .i64 x0, .int .i64 x1, .int .i64 x2, .int .i64 x3, .int .i64 x4]] (CellsAt b2 (0 + (k.kind - 1).toNat * 1) [.int .i64 xx]) := by
    refine Ent.pt 1 1 rfl ?_
    rw [Nat.zero_add, Nat.mul_one, List.take_one, List.head?_drop, hx1]; rfl
  refine pur ?_
  refine WpO.parts (L' := ownA 3 1 none 0 (ints (ik [])) :: pA b l en (adv st) :: ptA b5 48 (tokRow k) :: M) (fun _ s => Sat.ownNil (storeAdv b l en st hks _ _ rfl _ (LeL.cons (LeL.cons (LeL.cons (LeL.cons (LeL.cons fun _ s => s.tail)))) _ (LeL.down4 _ _ s)))) ?_
  refine WpO.call Tryz.call77 rfl rfl (put_ct2 b l en (adv st) ht xx (ofL k.text) [] (none, 0) _) fun v L' ⟨e1, e2⟩ => ⟨Keeps.last, ?_⟩
  subst e1; subst e2
  refine pur ?_
  refine Wp.openPA 0 rfl fun q2 tq2 ks2 hks2 => ?_
  show Wp _ _ _ _ _ _ (pM b l en ⟨st.t ++ [⟨xx, ofL k.text, 0, ik []⟩], st.p + 1⟩ q2 tq2 ks2 (ptA b5 48 (tokRow k) :: M))
  refine Wp.know (fun k hs => own_know 1 rfl hs) fun hkn2 => ?_
  replace hks2 : ks2.length = (st.t ++ [(⟨xx, ofL k.text, 0, ik []⟩ : Nd)]).length := hks2
  have hnl : (ndRows (st.t ++ [⟨xx, ofL k.text, 0, ik []⟩]) ks2).length = (st.t ++ [(⟨xx, ofL k.text, 0, ik []⟩ : Nd)]).length := ndRows_length hks2
  replace hkn2 : (ndRows (st.t ++ [⟨xx, ofL k.text, 0, ik []⟩]) ks2).length ≤ q2.2 ∧ (∀ r ∈ ndRows (st.t ++ [⟨xx, ofL k.text, 0, ik []⟩]) ks2, r.length = 4) ∧ ((q2.1 = none ∧ q2.2 = 0 ∧ ndRows (st.t ++ [⟨xx, ofL k.text, 0, ik []⟩]) ks2 = []) ∨ ∃ b o, q2.1 = some ⟨b, o, none⟩) := hkn2
  have hlen : (st.t ++ [(⟨xx, ofL k.text, 0, ik []⟩ : Nd)]).length = st.t.length + 1 := by simp
  obtain ⟨bn, on, hbn⟩ : ∃ bn on, q2.1 = some ⟨bn, on, none⟩ := by
    rcases hkn2.2.2 with ⟨_, _, h⟩ | ⟨bn, on, h⟩
    · rw [h] at hnl; simp at hnl
    · exact ⟨bn, on, h⟩
  obtain ⟨qa, qc⟩ := q2
  simp only [] at hbn
  subst hbn
  refine Wp.draw rfl [0,1,2,3,4,5,6,7,8,9,10] 10 10 _ rfl (by decide +kernel) (fun _ h => h) ?_
  refine pur ?_
  refine S.idx st.t.length rfl rfl rfl rfl (by simp) ?_
  refine pur ?_
  obtain ⟨ks3, z, rfl⟩ : ∃ ks3 z, ks2 = ks3 ++ [z] := by
    rcases List.eq_nil_or_concat ks2 with rfl | ⟨ks3, z, rfl⟩
    · simp at hks2
    · exact ⟨ks3, z, List.concat_eq_append ..⟩
  have hk3 : ks3.length = st.t.length := by simpa using hks2
  have hrows := ndRows_snoc (nd := (⟨xx, ofL k.text, 0, ik []⟩ : Nd)) (k := z) hk3
  have hn3 := ndRows_length hk3
  refine WpO.storeRow (r := ndRow ⟨xx, ofL k.text, 0, ik []⟩ z) (ws := [.int .i64 k.num]) 1 st.t.length 2 rfl rfl rfl (by show (ndRows (st.t ++ _) (ks3 ++ [z]))[st.t.length]? = _; rw [hrows, ← hn3]; simp) rfl rfl rfl (by show 2 + 1 ≤ 4; decide) Keeps.last ?_
  dsimp only [List.set]
  refine pur ?_
  refine Wp.ret (RetL rfl (closeNum (nd := ⟨xx, ofL k.text, 0, ik []⟩) (q := (some ⟨bn, on, none⟩, qc)) b l en k.num (ptA b5 48 (tokRow k) :: M) hks2 ?_ |>.trans (LeL.cons fun _ s => s.tail)) ⟨st.t.length, ⟨st.t ++ [⟨xx, ofL k.text, k.num, []⟩], st.p + 1⟩, ?_, rfl, rfl⟩)
  · show (ndRows (st.t ++ _) (ks3 ++ [z])).set st.t.length _ = ndRows (st.t ++ _) (ks3 ++ [z])
    rw [hrows, ndRows_snoc hk3, ← hn3]
    simp [ndRow, lset]
  · unfold leafP
    rw [hk]
    simp only [hx2]
def opRow0 : Option (List UInt8 × Int × Int) → List Value
  | some o => opRow o
  | none => [.string ⟨#[]⟩, .int .i64 0, .int .i64 0]
set_option maxHeartbeats 4000000 in
theorem operator_ct2 (hp : st.p ≤ l.length) (M : List Assn) : Ct Tryz.prog 210 #[.pointer (some ⟨b, 0, none⟩)] (pA b l en st :: M) (ret fun v L' => v = .tuple #[.agg (opRow0 (opP l st.p)).toArray, .bool (opP l st.p).isSome] ∧ L' = pA b l en st :: M) := by
  generalize hR : opP l st.p = R
  refine Ct.bodyC Tryz.func210 rfl Tryz.ntmps210 Tryz.results210 rfl ?_
  refine pur ?_
  refine WpO.alloc rfl rfl (fun _ => Keeps.none) fun b2 => ?_
  refine pur ?_
  refine WpO.call Tryz.call85 rfl rfl (operators_ct _) fun v L' ⟨b6, e1, e2⟩ => ⟨Keeps.none, ?_⟩
  subst e1; subst e2
  refine pur ?_
  refine Wp.loopI (α := Nat) 0 (fun i => [(0, .v (.pointer (some ⟨b, 0, none⟩))), (2, .v (.pointer (some ⟨b2, 0, none⟩))), (6, .v (.slice (some ⟨b6, 0, none⟩) 14 14)), (7, .v (.int .i64 ((14 : Nat) : Int))), (8, .v (.int .i64 i))])
    (fun _ => ptA b6 118 (opList.map opRow).flatten :: ptA b2 118 [.string ⟨#[]⟩, .int .i64 0, .int .i64 0] :: pA b l en st :: M) (fun i => 14 - i) (fun i => i ≤ 14 ∧ (opList.drop i).find? (fun o => decide (kindP l st.p = 8) && isP l st.p o.1) = R) ⟨Nat.zero_le _, hR⟩ ⟨rfl, rfl, rfl, rfl, rfl, trivial⟩ (LeL.refl _) ?_
  rintro i ⟨hi, hf⟩
  refine pur ?_
  refine Wp.branch rfl (fun h => ?_) (fun h => ?_)
  · have hix : i < 14 := by have : ((i : Nat) : Int) < ((14 : Nat) : Int) := of_decide_eq_true h; omega
    have hixl : i < opList.length := hix
    have hd := List.drop_eq_getElem_cons hixl
    have hg := List.getElem?_eq_getElem hixl
    rw [hd] at hf
    have hn : 0 < opList[i].1.length := by
      have : ∀ o ∈ opList, 0 < o.1.length := by decide
      exact this _ (List.getElem_mem hixl)
    generalize opList[i] = o at hf hg
    have hE : Ent (ptA b6 118 (opList.map opRow).flatten :: ptA b2 118 [.string ⟨#[]⟩, .int .i64 0, .int .i64 0] :: pA b l en st :: M) (CellsAt b6 (0 + i * 3) (opRow o)) := by
      obtain ⟨b', o', e1, _, e3⟩ := (Sl.ofPt (L := ptA b6 118 (opList.map opRow).flatten :: ptA b2 118 [.string ⟨#[]⟩, .int .i64 0, .int .i64 0] :: pA b l en st :: M) (b := b6) (e := 118) (sz := 3) (c := 14) (rows := opList.map opRow) 0 rfl rfl (by intro r hr; obtain ⟨o, _, rfl⟩ := List.mem_map.1 hr; rfl) (Nat.le_refl 14)).at (i := i) (r := opRow o) (by rw [List.getElem?_map, hg]; rfl)
      simp only [Option.some.injEq, Addr.mk.injEq, and_true] at e1
      obtain ⟨rfl, rfl⟩ := e1
      exact e3
    refine pur ?_
    refine S.idx i rfl rfl rfl rfl hix ?_
    refine S.loadN rfl rfl hE rfl ?_
    refine WpO.alloc rfl rfl (fun _ => Keeps.none) fun b5 => ?_
    refine pur ?_
    refine WpO.callq Tryz.call131 rfl rfl (Ct.atq 3 rfl (kind_ct b l en st hp _)) Keeps.none ?_
    refine pur ?_
    refine WpO.callqg Tryz.call71 rfl rfl (.cons rfl (by infer_instance) (.cons rfl (by infer_instance) .nil)) (fun _ => Ct.atq 3 rfl (is_ct b l en st (ofL o.1) _)) Keeps.none ?_
    rw [bs_ofL]
    refine pur ?_
    refine Wp.branch rfl (fun h => ?_) (fun h => ?_)
    · rw [List.find?_cons, h] at hf
      replace hf : some o = R := hf
      subst hf
      refine pur ?_
      refine S.loadN (vs := opRow o) rfl rfl (Ent.pt 0 3 rfl rfl) rfl ?_
      refine WpO.store 2 rfl rfl rfl rfl rfl rfl rfl rfl Keeps.none ?_
      refine pur ?_
      exact Wp.ret (RetC 3 (.cons (.agg (vs := opRow o) rfl (by infer_instance) (Ent.pt 2 3 rfl rfl) rfl) (.cons (.tmp rfl) .nil)) ⟨rfl, rfl⟩)
    · rw [List.find?_cons, h] at hf
      replace hf : List.find? (fun o => decide (kindP l st.p = 8) && isP l st.p o.1) (List.drop (i + 1) opList) = R := hf
      refine pur ?_
      exact Round.mk (i + 1) (by omega) ⟨hix, hf⟩ ⟨rfl, rfl, rfl, rfl, inc_e (by omega), trivial⟩ (LeL.drop 1 _)
  · have hix : i = 14 := by have : ¬ ((i : Nat) : Int) < ((14 : Nat) : Int) := of_decide_eq_false h; omega
    subst hix
    have hf : none = R := hf
    subst hf
    refine pur ?_
    refine S.build rfl rfl rfl ?_
    refine pur ?_
    exact Wp.ret (RetC 2 (.cons (.agg (vs := opRow0 none) rfl (by infer_instance) (Ent.pt 1 3 rfl rfl) rfl) (.cons (.tmp rfl) .nil)) ⟨rfl, rfl⟩)
set_option maxHeartbeats 4000000 in
theorem brackets_ct {G : List Assn → Prop} (hl : l.length ≤ 8000) (hv : Iv l st) (y : Fv G) (x1 x2 x3 : Int) (one : Pr Nat) (p0 : Nat) (h1 : F1 b l en y p0 one) (hO : One l one) (hp : p0 ≤ st.p + 1) (M : List Assn) (hGM : G M) :
    Ct Tryz.prog 185 #[.pointer (some ⟨b, 0, none⟩), y.val, .int .i64 x1, .int .i64 x2, .int .i64 x3] (pA b l en st :: M) (RA b l en (bracketsP l en one x1 x2 x3 st) vN M) := by
  generalize hR : bracketsP l en one x1 x2 x3 st = R
  unfold bracketsP at hR
  have hb0 := hv.bd0 hl
  have hnil : ∀ {L : List Assn}, LeL L (ownK (none, 0) [] :: L) := fun _ s => Sat.ownNil s
  refine Ct.body Tryz.func185 rfl Tryz.ntmps185 Tryz.results185 rfl ?_
  refine pur ?_
  refine WpO.call Tryz.call130 rfl rfl (skip_ct2 b l en st hl ⟨#[91]⟩ _) fun v L' ⟨e1, e2⟩ => ⟨Keeps.none, ?_⟩
  subst e1; subst e2
  refine pur ?_
  refine Wp.branch rfl (fun h => ?_) (fun h => ?_)
  · replace h : isP l st.p [91] = true := h
    rw [if_pos h] at hR
    rw [show isP l st.p (bs ⟨#[91]⟩) = true from h, if_pos rfl]
    have ga := adv_gr (isP_lt h)
    have hva := hv.gr ga (by omega)
    refine pur ?_
    refine WpO.call Tryz.call130 rfl rfl (skip_ct2 b l en (adv st) hl ⟨#[93]⟩ _) fun v L' ⟨e1, e2⟩ => ⟨Keeps.none, ?_⟩
    subst e1; subst e2
    refine pur ?_
    refine Wp.branch rfl (fun h2 => ?_) (fun h2 => ?_)
    · replace h2 : isP l (st.p + 1) [93] = true := h2
      rw [if_pos h2] at hR
      rw [show isP l (adv st).p (bs ⟨#[93]⟩) = true from h2, if_pos rfl]
      refine pur ?_
      refine WpO.parts hnil ?_
      refine WpO.call Tryz.call77 rfl rfl (put_ct2 b l en (adv (adv st)) hb0 x1 ⟨#[]⟩ [] (none, 0) _) fun v L' ⟨e1, e2⟩ => ⟨Keeps.none, ?_⟩
      subst e1; subst e2
      refine pur ?_
      exact Wp.ret (Ret 0 rfl ⟨_, _, hR.symm, rfl, rfl⟩)
    · replace h2 : isP l (st.p + 1) [93] = false := h2
      rw [if_neg (by rw [h2]; decide)] at hR
      rw [show isP l (adv st).p (bs ⟨#[93]⟩) = false from h2, if_neg (by decide)]
      refine pur ?_
      refine WpO.callP Tryz.call182 rfl rfl (pcommas_ct b l en (adv st) hl hva y ⟨#[93]⟩ 0 one p0 h1 hO hp M hGM) (fun v L' e => perr hR e (LeL.refl _)) fun v L' ⟨ks, st1, e1, k, e2, e3⟩ => ⟨Keeps.none, ?_⟩
      subst e2; subst e3
      replace hR := pok hR e1
      obtain ⟨m, _, g1, _⟩ := commas_gr hO hva.1 e1
      refine WpO.call Tryz.call77 rfl rfl (put_ct2 b l en st1 (hva.bd hl g1 (by omega)) x1 ⟨#[]⟩ ks k _) fun v L' ⟨e1, e2⟩ => ⟨Keeps.none, ?_⟩
      subst e1; subst e2
      refine pur ?_
      exact Wp.ret (Ret 0 rfl ⟨_, _, hR.symm, rfl, rfl⟩)
  · replace h : isP l st.p [91] = false := h
    rw [if_neg (by rw [h]; decide)] at hR
    rw [show isP l st.p (bs ⟨#[91]⟩) = false from h, if_neg (by decide)]
    refine pur ?_
    refine WpO.callP Tryz.call135 rfl rfl (take_ct b l en st hl ⟨#[40]⟩ _) (fun v L' e => perr hR e (LeL.refl _)) fun v L' ⟨u, st1, e1, _, e3⟩ => ⟨Keeps.none, ?_⟩
    subst e3
    replace hR := pok hR e1
    have g1 := take_gr e1
    have hv1 := hv.gr g1 (by omega)
    have hp1 := g1.p
    refine pur ?_
    refine WpO.call Tryz.call130 rfl rfl (skip_ct2 b l en st1 hl ⟨#[41]⟩ _) fun v L' ⟨e1, e2⟩ => ⟨Keeps.none, ?_⟩
    subst e1; subst e2
    refine pur ?_
    refine Wp.branch rfl (fun h2 => ?_) (fun h2 => ?_)
    · replace h2 : isP l st1.p [41] = true := h2
      rw [if_pos h2] at hR
      rw [show isP l st1.p (bs ⟨#[41]⟩) = true from h2, if_pos rfl]
      refine pur ?_
      refine WpO.parts hnil ?_
      refine WpO.call Tryz.call77 rfl rfl (put_ct2 b l en (adv st1) (hv1.bd0 hl) x3 ⟨#[40, 41]⟩ [] (none, 0) _) fun v L' ⟨e1, e2⟩ => ⟨Keeps.none, ?_⟩
      subst e1; subst e2
      refine pur ?_
      exact Wp.ret (Ret 0 rfl ⟨_, _, hR.symm, rfl, rfl⟩)
    · replace h2 : isP l st1.p [41] = false := h2
      rw [if_neg (by rw [h2]; decide)] at hR
      rw [show isP l st1.p (bs ⟨#[41]⟩) = false from h2, if_neg (by decide)]
      refine pur ?_
      refine WpO.callP Tryz.call182 rfl rfl (pcommas_ct b l en st1 hl hv1 y ⟨#[41]⟩ 8 one p0 h1 hO (by omega) M hGM) (fun v L' e => perr hR e (LeL.refl _)) fun v L' ⟨ks, st2, e1, k, e2, e3⟩ => ⟨Keeps.none, ?_⟩
      subst e2; subst e3
      replace hR := pok hR e1
      obtain ⟨m, hm, g2, _⟩ := commas_gr hO hv1.1 e1
      refine pur ?_
      refine Wp.branch rfl (fun h3 => ?_) (fun h3 => ?_)
      · have h3' : ks.length = 1 := by have := of_decide_eq_true h3; omega
        rw [if_pos h3'] at hR
        obtain ⟨x, rfl⟩ := List.length_eq_one_iff.1 h3'
        refine Wp.know (fun k hs => own_know 0 rfl hs) fun hkn => ?_
        obtain ⟨bk, ok, hbk⟩ : ∃ bk ok, k.1 = some ⟨bk, ok, none⟩ := by
          rcases hkn.2.2 with ⟨_, _, h⟩ | ⟨bk, ok, h⟩
          · simp [ints, ik] at h
          · exact ⟨bk, ok, h⟩
        have hE := ((Sl.own (L := ownK k [x] :: pA b l en st2 :: M) 0 rfl hkn).at (i := 0) (r := [.int .i64 ((x : Nat) : Int)]) (by simp [ints, ik]))
        obtain ⟨bk2, ok2, hbk2, _, hE⟩ := hE
        obtain ⟨ka, kc⟩ := k
        simp only [] at hbk2
        subst hbk2
        refine pur ?_
        refine S.idx 0 rfl rfl rfl rfl (by simp) ?_
        refine pur ?_
        exact Wp.ret (Ret 1 rfl ⟨_, _, hR.symm, rfl, rfl⟩)
      · have h3' : ¬ ks.length = 1 := by have := of_decide_eq_false h3; omega
        rw [if_neg h3'] at hR
        refine pur ?_
        refine WpO.call Tryz.call77 rfl rfl (put_ct2 b l en st2 (hv1.bd hl g2 (by omega)) x2 ⟨#[]⟩ ks k _) fun v L' ⟨e1, e2⟩ => ⟨Keeps.none, ?_⟩
        subst e1; subst e2
        refine pur ?_
        exact Wp.ret (Ret 0 rfl ⟨_, _, hR.symm, rfl, rfl⟩)
end
end Go.Proofs.YtikgokpbhldlnaaGreatDoor
end
