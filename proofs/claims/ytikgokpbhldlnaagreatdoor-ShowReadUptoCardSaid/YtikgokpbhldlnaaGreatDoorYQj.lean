/- Parts of a proof: Nb Nc. -/
import Derived.Test.YtikgokpbhldlnaaGreatDoorYQg
set_option linter.unusedVariables false
set_option linter.unusedSimpArgs false
set_option linter.unusedSectionVars false
section
/- ParseSound. -/
namespace Go.Proofs.YtikgokpbhldlnaaGreatDoor
open Go Go.Ab
attribute [local irreducible] Wp WpO WpE Qt OpT Ct Ent
/-- What a fault of the parser may be. -/
def FaultOk (l : List Tok) (en : Nat) (e : Er) : Prop := (e.2 = 8 ∧ e.1 = en) ∨ ((e.2 = 8 ∨ e.2 = 11) ∧ ∃ k ∈ l, e.1 = k.pos)
theorem fail8 (l : List Tok) (en : Nat) (st : PS) : FaultOk l en (failP l en 8 st) := by
  unfold failP FaultOk
  cases h : l[st.p]? with
  | none => exact .inl ⟨rfl, rfl⟩
  | some k => exact .inr ⟨.inl rfl, k, List.mem_of_getElem? h, rfl⟩
theorem fail11 {l : List Tok} {en : Nat} {st : PS} (h : st.p < l.length) : FaultOk l en (failP l en 11 st) := by
  unfold failP FaultOk
  rw [List.getElem?_eq_getElem h]
  exact .inr ⟨.inr rfl, l[st.p], List.getElem_mem h, rfl⟩
/-- All faults are such. -/
def Flt {α : Type} (l : List Tok) (en : Nat) (m : Out α) : Prop := ∀ e, m = .error e → FaultOk l en e
theorem flt_ok {α : Type} {l : List Tok} {en : Nat} {a : α × PS} : Flt l en (.ok a : Out α) := nofun
theorem flt_err {α : Type} {l : List Tok} {en : Nat} {e : Er} (h : FaultOk l en e) : Flt l en (.error e : Out α) := fun _ q => by cases q; exact h
theorem flt_bind {α β : Type} {l : List Tok} {en : Nat} {m : Out α} {f : α → PS → Out β} (h : Flt l en m) (hf : ∀ a st, m = .ok (a, st) → Flt l en (f a st)) : Flt l en (bindP m f) := by
  intro e he
  unfold bindP at he
  split at he
  · rename_i e' ; cases he; exact h _ rfl
  · rename_i a st; exact hf a st rfl e he
theorem flt_put {l : List Tok} {en : Nat} {op : Int} {tx : List UInt8} {kids : List Nat} {st : PS} : Flt l en (putP op tx kids st) := nofun
section
variable {l : List Tok} {en p0 : Nat}
theorem flt_take {tx : List UInt8} {st : PS} : Flt l en (takeP l en tx st) := by
  unfold takeP
  split
  · exact flt_ok
  · exact flt_err (fail8 _ _ _)
theorem flt_name {k : Int} {st : PS} : Flt l en (nameP l en k st) := by
  unfold nameP
  split
  · exact flt_ok
  · exact flt_err (fail8 _ _ _)
def OneF (l : List Tok) (en p0 : Nat) (one : Pr Nat) : Prop := ∀ st, st.p ≤ l.length → p0 ≤ st.p → Flt l en (one st)
theorem flt_many {B : Nat → Bool} (hB : ∀ p, B p = true → p < l.length) {one : Pr Nat} (h1 : OneF l en p0 one) (hO : One l one) : ∀ (f : Nat) (kids : List Nat) (st : PS), st.p ≤ l.length → p0 ≤ st.p → Flt l en (manyF l en B one f kids st)
  | 0, _, _, _, _ => flt_ok
  | f + 1, kids, st, hp, hq => by
    rw [manyF]
    split
    · rename_i hb
      split
      · exact flt_err (fail11 (hB _ hb))
      · exact flt_bind (h1 st hp hq) fun a st1 e => flt_many hB h1 hO f _ st1 (hO st a st1 hp e).1.e (by have := (hO st a st1 hp e).1.p; omega)
    · exact flt_ok
theorem flt_commasF {one : Pr Nat} (h1 : OneF l en p0 one) (hO : One l one) {fin : List UInt8} {most : Nat} : ∀ (f : Nat) (kids : List Nat) (st : PS), st.p ≤ l.length → p0 ≤ st.p → Flt l en (commasF l en one fin most f kids st)
  | 0, _, _, _, _ => flt_ok
  | f + 1, kids, st, hp, hq => by
    rw [commasF]
    split
    · rename_i hb
      have ga := adv_gr (isP_lt hb)
      split
      · exact flt_err (fail11 (isP_lt hb))
      · exact flt_bind (h1 _ ga.e (by have := ga.p; omega)) fun a st1 e => flt_commasF h1 hO f _ st1 (hO _ a st1 ga.e e).1.e (by have := ga.p; have := (hO _ a st1 ga.e e).1.p; omega)
    · exact flt_bind flt_take fun _ _ _ => flt_ok
theorem flt_commas {one : Pr Nat} (h1 : OneF l en p0 one) (hO : One l one) {fin : List UInt8} {most : Nat} {st : PS} (hp : st.p ≤ l.length) (hq : p0 ≤ st.p) : Flt l en (commasP l en one fin most st) :=
  flt_bind (h1 st hp hq) fun a st1 e => flt_commasF h1 hO _ _ st1 (hO st a st1 hp e).1.e (by have := (hO st a st1 hp e).1.p; omega)
theorem flt_semis {B : Nat → Bool} {one : Pr Nat} (h1 : OneF l en p0 one) (hO : One l one) : ∀ (f : Nat) (kids : List Nat) (st : PS), st.p ≤ l.length → p0 ≤ st.p → Flt l en (semisF l B one f kids st)
  | 0, _, _, _, _ => flt_ok
  | f + 1, kids, st, hp, hq => by
    rw [semisF]
    refine flt_bind ?_ fun kids2 st1 e => ?_
    · split
      · exact flt_bind (h1 st hp hq) fun _ _ _ => flt_ok
      · exact flt_ok
    · split
      · rename_i hb
        refine flt_semis h1 hO f kids2 (adv st1) (adv_gr (isP_lt hb)).e ?_
        show p0 ≤ st1.p + 1
        split at e
        · obtain ⟨a, st2, q1, q2⟩ := bind_ok e
          have := (hO st a st2 hp q1).1.p
          obtain ⟨_, rfl⟩ := ok_inj q2
          omega
        · obtain ⟨_, rfl⟩ := ok_inj e
          omega
      · exact flt_ok
theorem flt_leaf {ops : List Int} {st : PS} (hk : ∃ k, l[st.p]? = some k ∧ 1 ≤ k.kind ∧ k.kind ≤ 5) : Flt l en (leafP l ops st) := by
  obtain ⟨k, hk, _⟩ := hk
  unfold leafP
  rw [hk]
  exact flt_ok
theorem flt_brackets {one : Pr Nat} (h1 : OneF l en p0 one) (hO : One l one) {x y z : Int} {st : PS} (hp : st.p ≤ l.length) (hq : p0 ≤ st.p + 1) : Flt l en (bracketsP l en one x y z st) := by
  unfold bracketsP
  split
  · rename_i hb
    have g1 := adv_gr (isP_lt hb)
    split
    · exact flt_put
    · exact flt_bind (flt_commas h1 hO g1.e hq) fun _ _ _ => flt_put
  · refine flt_bind flt_take fun _ st1 e => ?_
    have g1 := take_gr e
    split
    · exact flt_put
    · refine flt_bind (flt_commas h1 hO g1.e (by have := g1.p; omega)) fun ks st2 _ => ?_
      split
      · exact flt_ok
      · exact flt_put
theorem flt_expr {E : Int → Pr Nat} (h1 : ∀ v, OneF l en p0 (E v)) (hO : ∀ v, One l (E v)) {lv : Int} : ∀ (f a : Nat) (st : PS), st.p ≤ l.length → p0 ≤ st.p → Flt l en (exprF l en E lv f a st)
  | 0, _, _, _, _ => flt_ok
  | f + 1, a, st, hp, hq => by
    rw [exprF]
    split
    · exact flt_ok
    · rename_i o ho
      split
      · exact flt_ok
      · have hlt : st.p < l.length := by
          unfold opP at ho
          have := List.find?_some ho
          rw [Bool.and_eq_true] at this
          exact isP_lt this.2
        have g0 := adv_gr hlt
        refine flt_bind (h1 _ _ g0.e (by have := g0.p; omega)) fun b st1 e => ?_
        have g1 := (hO _ _ _ _ g0.e e).1
        refine flt_bind flt_put fun c st2 e2 => ?_
        have g2 := (put_gr g1.e e2).1
        split
        · exact flt_err (fail8 _ _ _)
        · exact flt_expr h1 hO f c st2 g2.e (by have := g0.p; have := g1.p; have := g2.p; omega)
theorem flt_guard {E : Pr Nat} (h1 : OneF l en p0 E) (hO : One l E) {sep : List UInt8} : ∀ (f : Nat) (kids : List Nat) (st : PS), st.p ≤ l.length → p0 ≤ st.p + 1 → Flt l en (guardF l en E sep f kids st)
  | 0, _, _, _, _ => flt_ok
  | f + 1, kids, st, hp, hq => by
    rw [guardF]
    split
    · refine flt_bind flt_take fun _ s1 e1 => ?_
      have g1 := take_gr e1
      have gp1 := g1.p
      refine flt_bind (h1 _ g1.e (by omega)) fun a s2 e2 => ?_
      have g2 := (hO _ _ _ g1.e e2).1
      have gp2 := g2.p
      refine flt_bind flt_take fun _ s3 e3 => ?_
      have g3 := take_gr e3
      have gp3 := g3.p
      refine flt_bind (h1 _ g3.e (by omega)) fun b s4 e4 => ?_
      have g4 := (hO _ _ _ g3.e e4).1
      have gp4 := g4.p
      refine flt_bind flt_put fun g s5 e5 => ?_
      exact flt_guard h1 hO f _ s5 (put_gr g4.e e5).1.e (by have := (put_gr g4.e e5).1.p; omega)
    · exact flt_ok
theorem flt_var : OneF l en p0 (varF l en) := fun st hp _ => flt_bind flt_name fun _ _ _ => flt_put
theorem flt_con {atype : Pr Nat} (hT : ∀ p, typedP l p = true → p < l.length) (h1 : OneF l en p0 atype) (hO : One l atype) {name : List UInt8} : ∀ (f : Nat) (kids : List Nat) (st : PS), st.p ≤ l.length → p0 ≤ st.p + 1 → l.length < f + st.p → Flt l en (conF l en atype name f kids st)
  | 0, _, _, hp, _, hf => by omega
  | f + 1, kids, st, hp, hq, hf => by
    rw [conF]
    refine flt_bind flt_name fun con s1 e1 => ?_
    have g1 := name_gr (by decide) e1
    refine flt_bind (flt_many hT h1 hO _ _ _ g1.e (by have := g1.p; omega)) fun ks s2 e2 => ?_
    obtain ⟨m, _, g2, _⟩ := many_gr hO _ _ _ _ _ g1.e (fun k hk => by cases hk) e2
    refine flt_bind flt_put fun c s3 e3 => ?_
    have g3 := (put_gr g2.e e3).1
    split
    · rename_i hb
      have ga := adv_gr (isP_lt hb)
      have := g1.p
      have := g2.p
      have := g3.p
      have : (adv s3).p = s3.p + 1 := rfl
      exact flt_con hT h1 hO f _ (adv s3) ga.e (by omega) (by omega)
    · exact flt_put
theorem begins_lt {p : Nat} (h : beginsP l p = true) : p < l.length := by
  unfold beginsP at h
  simp only [Bool.or_eq_true, Bool.and_eq_true, decide_eq_true_eq] at h
  rcases h with ((h | h) | h) | h
  · exact kindP_lt (by omega)
  · exact isP_lt h
  · exact isP_lt h
  · exact isP_lt h
theorem isVar_lt {p : Nat} (h : isVarP l p = true) : p < l.length := kindP_lt (by have := of_decide_eq_true h; omega)
theorem typed_lt {p : Nat} (h : typedP l p = true) : p < l.length := by
  unfold typedP at h
  simp only [Bool.or_eq_true, decide_eq_true_eq] at h
  rcases h with ((h | h) | h) | h
  · exact kindP_lt (by omega)
  · exact isVar_lt h
  · exact isP_lt h
  · exact isP_lt h
theorem atomic_lt {p : Nat} (h : atomicP l p = true) : p < l.length := by
  unfold atomicP at h
  rw [Bool.and_eq_true] at h
  exact begins_lt h.1
theorem flt_body {rec : Sym → Pr Nat} {m : Nat} (h1 : ∀ s st, st.p ≤ l.length → measS l s st.p < m → okD l s st.p → Flt l en (rec s st)) (hO : ∀ s, One l (rec s)) (s : Sym) (st : PS) (hp : st.p ≤ l.length) (hm : measS l s st.p < m + 1) (hd : okD l s st.p) : Flt l en (body l en rec s st) := by
  have hx : ∀ s', (∀ p, okD l s' p) → OneF l en (st.p + 1) (rec s') := fun s' hk st' hp' hq => h1 s' st' hp' (meas_lt hm hq hp') (hk _)
  have xE : ∀ v, OneF l en (st.p + 1) (rec (.expr v)) := fun v => hx _ (fun _ => trivial)
  have xAp := hx .apat (fun _ => trivial)
  have xAt := hx .atype (fun _ => trivial)
  have xAm := hx .atom (fun _ => trivial)
  have xP := hx .pat (fun _ => trivial)
  have xW := hx .whole (fun _ => trivial)
  have xC := hx .clause (fun _ => trivial)
  have xR : ∀ s, OneF l en (st.p + 1) (rec (.rhs s)) := fun v => hx _ (fun _ => trivial)
  have xD := hx .decls (fun _ => trivial)
  cases s with
  | expr lv =>
    simp only [body]
    refine flt_bind (h1 .operand st hp (meas_eq hm (by show 6 < 7; decide)) trivial) fun a s1 e1 => ?_
    have g1 := (hO _ _ _ _ hp e1).1
    exact flt_expr xE (fun v => hO (.expr v)) _ _ _ g1.e g1.p
  | operand =>
    simp only [body]
    split
    · rename_i hb
      have g0 := adv_gr (isP_lt hb)
      refine flt_bind (xAp _ g0.e g0.p) fun a s1 e1 => ?_
      have g1 := (hO _ _ _ _ g0.e e1).1
      have p1 : st.p + 1 ≤ s1.p := by have := g0.p; have := g1.p; omega
      refine flt_bind (flt_many (fun _ => begins_lt) xAp (hO .apat) _ _ _ g1.e p1) fun ks s2 e2 => ?_
      obtain ⟨m, _, g2, _⟩ := many_gr (hO .apat) _ _ _ _ _ g1.e (Ins.one (hO _ _ _ _ g0.e e1).2) e2
      refine flt_bind flt_take fun _ s3 e3 => ?_
      have g3 := take_gr e3
      exact flt_bind (xE 0 _ g3.e (by have := g2.p; have := g3.p; omega)) fun _ _ _ => flt_put
    split
    · rename_i hb
      have g0 := adv_gr (isP_lt hb)
      refine flt_bind (xD _ g0.e g0.p) fun a s1 e1 => ?_
      have g1 := (hO _ _ _ _ g0.e e1).1
      refine flt_bind flt_take fun _ s2 e2 => ?_
      have g2 := take_gr e2
      exact flt_bind (xE 0 _ g2.e (by have := g0.p; have := g1.p; have := g2.p; omega)) fun _ _ _ => flt_put
    split
    · rename_i hb
      have g0 := adv_gr (isP_lt hb)
      refine flt_bind (xE 0 _ g0.e g0.p) fun a s1 e1 => ?_
      have g1 := (hO _ _ _ _ g0.e e1).1
      refine flt_bind flt_take fun _ s2 e2 => ?_
      have g2 := take_gr e2
      have p2 : st.p + 1 ≤ s2.p := by have := g0.p; have := g1.p; have := g2.p; omega
      refine flt_bind (xE 0 _ g2.e p2) fun _ s3 e3 => ?_
      have g3 := (hO _ _ _ _ g2.e e3).1
      refine flt_bind flt_take fun _ s4 e4 => ?_
      have g4 := take_gr e4
      exact flt_bind (xE 0 _ g4.e (by have := g3.p; have := g4.p; omega)) fun _ _ _ => flt_put
    split
    · rename_i hb
      have g0 := adv_gr (isP_lt hb)
      exact hx .cases (fun _ => trivial) _ g0.e g0.p
    · refine flt_bind (h1 .atom st hp (meas_eq hm (by decide)) trivial) fun a s1 e1 => ?_
      have g1 := (hO _ _ _ _ hp e1).1
      refine flt_bind (flt_many (fun _ => atomic_lt) xAm (hO .atom) _ _ _ g1.e g1.p) fun ks s2 e2 => ?_
      split
      · exact flt_ok
      · exact flt_put
  | cases =>
    simp only [body]
    refine flt_bind (h1 (.expr 0) st hp (meas_eq hm (by decide)) trivial) fun a s1 e1 => ?_
    have g1 := (hO _ _ _ _ hp e1).1
    refine flt_bind flt_take fun _ s2 e2 => ?_
    have g2 := take_gr e2
    refine flt_bind flt_take fun _ s3 e3 => ?_
    have g3 := take_gr e3
    have p3 : st.p + 1 ≤ s3.p := by have := g1.p; have := g2.p; have := g3.p; omega
    have hA : OneF l en (st.p + 1) (altF rec) := fun st' hp' hq => by
      unfold altF
      refine flt_bind (xP _ hp' hq) fun a s1 e1 => ?_
      have g1 := (hO _ _ _ _ hp' e1).1
      exact flt_bind (xR _ _ g1.e (by have := g1.p; omega)) fun _ _ _ => flt_put
    refine flt_bind (flt_semis hA (alt_gr hO) _ _ _ g3.e p3) fun alts s4 e4 => ?_
    split
    · exact flt_err (fail8 _ _ _)
    · exact flt_bind flt_take fun _ _ _ => flt_put
  | atom =>
    simp only [body]
    split
    · rename_i hb
      exact flt_leaf (begin_tokP hb)
    · exact flt_brackets (xE 0) (hO (.expr 0)) hp (Nat.le_refl _)
  | pat =>
    simp only [body]
    have hh : ∀ a s1, (if kindP l st.p = 2 then bindP (nameP l en 2 st) fun con st => bindP (manyF l en (beginsP l) (rec .apat) 9 [] st) fun ks st => putP 30 con ks st else rec .apat st) = .ok (a, s1) → st.p + 1 ≤ s1.p ∧ s1.p ≤ l.length := fun a s1 e => by
      split at e
      · obtain ⟨con, t1, f1, e⟩ := bind_ok e
        obtain ⟨ks, t2, f2, e⟩ := bind_ok e
        have k1 := name_gr (by decide) f1
        obtain ⟨m, _, k2, _⟩ := many_gr (hO .apat) _ _ _ _ _ k1.e (fun k hk => by cases hk) f2
        have k3 := (put_gr k2.e e).1
        exact ⟨by have := k1.p; have := k2.p; have := k3.p; omega, k3.e⟩
      · have k1 := (hO .apat _ _ _ hp e).1
        exact ⟨k1.p, k1.e⟩
    refine flt_bind ?_ fun a s1 e1 => ?_
    · split
      · refine flt_bind flt_name fun con t1 f1 => ?_
        have k1 := name_gr (by decide) f1
        exact flt_bind (flt_many (fun _ => begins_lt) xAp (hO .apat) _ _ _ k1.e k1.p) fun _ _ _ => flt_put
      · exact h1 .apat st hp (meas_eq hm (by decide)) trivial
    · obtain ⟨p1, p2⟩ := hh a s1 e1
      split
      · rename_i hb
        have ga := adv_gr (isP_lt hb)
        exact flt_bind (xP _ ga.e (by have := ga.p; omega)) fun _ _ _ => flt_put
      · exact flt_ok
  | apat =>
    simp only [body]
    split
    · exact flt_put
    split
    · rename_i h5
      exact flt_err (fail11 (kindP_lt (by rw [h5.1]; decide)))
    split
    · rename_i hb
      exact flt_leaf (begin_tokP hb)
    · exact flt_brackets xP (hO .pat) hp (Nat.le_refl _)
  | whole =>
    simp only [body]
    have hh : ∀ a s1, (if kindP l st.p = 2 then bindP (nameP l en 2 st) fun con st => bindP (manyF l en (typedP l) (rec .atype) 9 [] st) fun ks st => putP 24 con ks st else rec .atype st) = .ok (a, s1) → st.p + 1 ≤ s1.p ∧ s1.p ≤ l.length := fun a s1 e => by
      split at e
      · obtain ⟨con, t1, f1, e⟩ := bind_ok e
        obtain ⟨ks, t2, f2, e⟩ := bind_ok e
        have k1 := name_gr (by decide) f1
        obtain ⟨m, _, k2, _⟩ := many_gr (hO .atype) _ _ _ _ _ k1.e (fun k hk => by cases hk) f2
        have k3 := (put_gr k2.e e).1
        exact ⟨by have := k1.p; have := k2.p; have := k3.p; omega, k3.e⟩
      · have k1 := (hO .atype _ _ _ hp e).1
        exact ⟨k1.p, k1.e⟩
    refine flt_bind ?_ fun a s1 e1 => ?_
    · split
      · refine flt_bind flt_name fun con t1 f1 => ?_
        have k1 := name_gr (by decide) f1
        exact flt_bind (flt_many (fun _ => typed_lt) xAt (hO .atype) _ _ _ k1.e k1.p) fun _ _ _ => flt_put
      · exact h1 .atype st hp (meas_eq hm (by decide)) trivial
    · obtain ⟨p1, p2⟩ := hh a s1 e1
      split
      · rename_i hb
        have ga := adv_gr (isP_lt hb)
        exact flt_bind (xW _ ga.e (by have := ga.p; omega)) fun _ _ _ => flt_put
      · exact flt_ok
  | atype =>
    simp only [body]
    split
    · exact flt_bind flt_name fun _ _ _ => flt_put
    split
    · exact flt_var (p0 := 0) _ hp (Nat.zero_le _)
    split
    · rename_i hb
      have g0 := adv_gr (isP_lt hb)
      exact flt_bind (xW _ g0.e g0.p) fun _ _ _ => flt_bind flt_take fun _ _ _ => flt_put
    · refine flt_bind flt_take fun _ s1 e1 => ?_
      have g1 := take_gr e1
      split
      · exact flt_put
      · refine flt_bind (flt_commas xW (hO .whole) g1.e g1.p) fun ks s2 _ => ?_
        split
        · exact flt_ok
        · exact flt_put
  | clause =>
    simp only [body]
    refine flt_bind flt_name fun nm s1 e1 => ?_
    have g1 := name_gr (by decide) e1
    refine flt_bind (flt_many (fun _ => begins_lt) xAp (hO .apat) _ _ _ g1.e g1.p) fun ks s2 e2 => ?_
    obtain ⟨m, _, g2, _⟩ := many_gr (hO .apat) _ _ _ _ _ g1.e (fun k hk => by cases hk) e2
    exact flt_bind (xR _ _ g2.e (by have := g1.p; have := g2.p; omega)) fun _ _ _ => flt_put
  | rhs sep =>
    simp only [body]
    refine flt_bind ?_ fun ks s1 e1 => ?_
    · split
      · exact flt_ok
      · refine flt_bind flt_take fun _ t1 f1 => ?_
        have k1 := take_gr f1
        exact flt_bind (xE 0 _ k1.e k1.p) fun _ _ _ => flt_bind flt_put fun _ _ _ => flt_ok
    · have hs1 : st.p ≤ s1.p ∧ s1.p ≤ l.length ∧ Ins ks s1 := by
        split at e1
        · obtain ⟨rfl, rfl⟩ := ok_inj e1
          exact ⟨Nat.le_refl _, hp, Ins.nil⟩
        · obtain ⟨_, t1, f1, e1⟩ := bind_ok e1
          obtain ⟨x, t2, f2, e1⟩ := bind_ok e1
          obtain ⟨g, t3, f3, e1⟩ := bind_ok e1
          obtain ⟨rfl, rfl⟩ := ok_inj e1
          have k1 := take_gr f1
          obtain ⟨k2, _⟩ := hO _ _ _ _ k1.e f2
          obtain ⟨k3, q3⟩ := put_gr k2.e f3
          exact ⟨by have := k1.p; have := k2.p; have := k3.p; omega, k3.e, Ins.one q3⟩
      refine flt_bind (flt_guard (xE 0) (hO (.expr 0)) _ _ _ hs1.2.1 (by omega)) fun kids s2 e2 => ?_
      obtain ⟨m2, _, g2, _⟩ := guard_gr (hO (.expr 0)) _ _ _ _ _ hs1.2.1 hs1.2.2 e2
      have gp2 := g2.p
      refine flt_bind ?_ fun _ _ _ => flt_put
      split
      · rename_i hb
        have ga := adv_gr (isP_lt hb)
        exact xD _ ga.e (by have := ga.p; omega)
      · exact flt_put
  | decls =>
    simp only [body]
    refine flt_bind flt_take fun _ s1 e1 => ?_
    have g1 := take_gr e1
    exact flt_bind (flt_semis xC (hO .clause) _ _ _ g1.e g1.p) fun _ _ _ => flt_bind flt_take fun _ _ _ => flt_put
  | data =>
    simp only [body]
    have g0 := adv_gr (show st.p < l.length from hd)
    refine flt_bind flt_name fun nm s1 e1 => ?_
    have g1 := name_gr (by decide) e1
    refine flt_bind (flt_many (p0 := 0) (fun _ => isVar_lt) flt_var var_gr _ _ _ g1.e (Nat.zero_le _)) fun ks s2 e2 => ?_
    obtain ⟨m, _, g2, _⟩ := many_gr (var_gr) _ _ _ _ _ g1.e (fun k hk => by cases hk) e2
    refine flt_bind flt_take fun _ s3 e3 => ?_
    have g3 := take_gr e3
    have := g0.p
    have := g1.p
    have := g2.p
    have := g3.p
    exact flt_con (fun _ => typed_lt) xAt (hO .atype) _ _ _ g3.e (by omega) (by omega)
theorem flt_parse : ∀ (n : Nat) (s : Sym) (st : PS), st.p ≤ l.length → measS l s st.p < n → okD l s st.p → Flt l en (parseN l en n s st)
  | 0, _, _, _, h, _ => absurd h (Nat.not_lt_zero _)
  | n + 1, s, st, hp, hm, hd => flt_body (flt_parse n) (parse_gr n) s st hp hm hd
theorem flt_program {n : Nat} (hn : l.length * 16 + 9 < n) : Flt l en (programF l en (parseN l en n) ⟨[], 0⟩) := by
  have hms : ∀ s p, measS l s p < n := fun s p => by have := rank_le s; unfold measS; omega
  have hT : OneF l en 0 (topF l (parseN l en n)) := fun st hp _ => by
    unfold topF
    split
    · rename_i hb
      exact flt_parse n .data st hp (hms _ _) (isP_lt hb)
    · exact flt_parse n .clause st hp (hms _ _) trivial
  unfold programF
  refine flt_bind (flt_semis hT (topF_gr n) _ _ _ (Nat.zero_le _) (Nat.zero_le _)) fun ks s1 _ => ?_
  split
  · exact flt_err (fail8 _ _ _)
  · exact flt_put
end
end Go.Proofs.YtikgokpbhldlnaaGreatDoor
end
section
/- ParseSound: the statement. -/
namespace Go.Proofs.YtikgokpbhldlnaaGreatDoor
open Go Go.Ab
attribute [local irreducible] Wp WpO WpE Qt OpT Ct Ent
theorem loopT_err {l : List UInt8} : ∀ (f a : Nat) (acc : List Tok), (loopT l f a acc).2.2 = 0 ∨ (loopT l f a acc).2.2 = 8
  | 0, _, _ => .inl rfl
  | f + 1, a, acc => by
    rw [loopT]
    split
    · exact .inl rfl
    split
    · exact loopT_err f _ _
    split
    · exact .inr rfl
    split
    · exact loopT_err f _ _
    split
    · exact .inr rfl
    · exact loopT_err f _ _
theorem tokens_err (l : List UInt8) : (tokensF l).2.2 = 0 ∨ (tokensF l).2.2 = 8 ∨ (tokensF l).2.2 = 11 := by
  unfold tokensF
  split
  · exact .inr (.inr rfl)
  · rcases loopT_err (l := l) l.length 0 [] with h | h
    · exact .inl h
    · exact .inr (.inl h)
/-- What Parse answers. -/
structure ParseOk (s : List UInt8) : Prop where
  ok : (parseF s).2.2 = 0 → checkF goodF (parseF s).1 = 0 ∧ Small (parseF s).1 ∧ (parseF s).2.1 = 0 ∧ 1 ≤ (parseF s).1.length
  er : (parseF s).2.2 ≠ 0 → (parseF s).1 = [] ∧ ((parseF s).2.2 = 8 ∨ (parseF s).2.2 = 11) ∧ ((tokensF s).2.2 ≠ 0 → (parseF s).2.1 = (tokensF s).2.1 ∧ (parseF s).2.2 = (tokensF s).2.2) ∧
    ((tokensF s).2.2 = 0 → ((parseF s).2.1 = s.length ∧ (parseF s).2.2 = 8) ∨ ((parseF s).2.1 = 0 ∧ (parseF s).2.2 = 11) ∨ ∃ k ∈ (tokensF s).1, (parseF s).2.1 = k.pos)
theorem parse_small {t : List Nd} {r : Nat} (h6 : t.length ≤ 6000) (h : runs goodS t t 0 [] = some [r]) : Small t := by
  have hk := kss_of (t := t) fun j nd hj => by
    obtain ⟨fs, w1, w2, w3⟩ := runs_kids t 0 [] [r] nofun h j nd hj
    exact ⟨fs, w1, fun k hk => by have := w2 k hk; omega, by simp only [List.length_nil] at w3; omega⟩
  have hg := runs_good t 0 [] [r] h
  have hS : ∀ nd ∈ t, (bs nd.text).length ≤ 8000 ∧ nd.num ≤ 9223372036854775807 := fun nd hnd => by
    obtain ⟨ops, hq⟩ := hg nd hnd
    unfold goodS at hq
    simp only [Bool.and_eq_true, decide_eq_true_eq] at hq
    exact hq.2
  exact ⟨by omega, fun nd hnd => by have := hk.2.2 nd hnd; omega, fun nd hnd => by have := (hS nd hnd).1; omega, fun nd hnd => (hS nd hnd).2⟩
theorem parse_all (s : List UInt8) : ParseOk s := by
  have hto := tokens_ok s
  have hte := tokens_err s
  constructor
  · intro h
    unfold parseF at h ⊢
    split at h
    · rename_i h1; exact absurd h h1
    · rename_i h1
      rw [if_neg h1]
      split at h
      · rename_i e he
        have := flt_program (l := (tokensF s).1) (en := s.length) (n := (tokensF s).1.length * 16 + 10) (by omega) e he
        simp only [] at h
        rcases this with ⟨q, _⟩ | ⟨q | q, _⟩ <;> rw [q] at h <;> cases h
      · rename_i a st he
        split at h
        · cases h
        · rename_i h2
          rw [if_neg h2]
          have h6 : st.t.length ≤ 6000 := by omega
          obtain ⟨p1, p2, r, p3⟩ := program_sound hto he h6
          have p4 := runs_imp (good' := goodF) (fun ops nd hq => by unfold goodS at hq; rw [Bool.and_eq_true] at hq; exact hq.1) st.t 0 [] [r] p3
          refine ⟨?_, parse_small h6 p3, rfl, p1⟩
          unfold checkF
          rw [if_pos ⟨p1, h6, p2⟩, p4]
          simp only []
          rw [if_pos ⟨rfl, by omega⟩]
  · intro h
    unfold parseF at h ⊢
    split at h
    · rename_i h1
      rw [if_pos h1]
      exact ⟨rfl, hte.resolve_left h1, fun _ => ⟨rfl, rfl⟩, fun q => absurd q h1⟩
    · rename_i h1
      rw [if_neg h1]
      have h1' : (tokensF s).2.2 = 0 := by omega
      split at h
      · rename_i e he
        have := flt_program (l := (tokensF s).1) (en := s.length) (n := (tokensF s).1.length * 16 + 10) (by omega) e he
        simp only []
        refine ⟨trivial, ?_, fun q => absurd h1' q, fun _ => ?_⟩
        · rcases this with ⟨q, _⟩ | ⟨q | q, _⟩
          · exact .inl q
          · exact .inl q
          · exact .inr q
        · rcases this with ⟨q1, q2⟩ | ⟨_, k, hk, hk2⟩
          · exact .inl ⟨q2, q1⟩
          · exact .inr (.inr ⟨k, hk, hk2⟩)
      · rename_i a st he
        split at h
        · rename_i h2
          rw [if_pos h2]
          exact ⟨rfl, .inr rfl, fun q => absurd h1' q, fun _ => .inr (.inl ⟨rfl, rfl⟩)⟩
        · exact absurd rfl h
end Go.Proofs.YtikgokpbhldlnaaGreatDoor
end
