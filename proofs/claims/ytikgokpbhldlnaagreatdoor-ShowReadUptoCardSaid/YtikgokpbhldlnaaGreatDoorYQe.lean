/- Parts of a proof: Dh Di Dj Dk Dl Dm. -/
import Derived.Test.YtikgokpbhldlnaaGreatDoorYQd
set_option linter.unusedVariables false
set_option linter.unusedSimpArgs false
set_option linter.unusedSectionVars false
section
/- The parser's walk: types, patterns, atoms, clauses. -/
namespace Go.Proofs.YtikgokpbhldlnaaGreatDoor
open Go Go.Ab
attribute [local irreducible] Wp WpO Qt OpT Ct Ent
def symF : Sym → FuncId
  | .expr _ => 187 | .operand => 209 | .cases => 227 | .atom => 228 | .pat => 186 | .apat => 139 | .whole => 181 | .atype => 137
  | .clause => 75 | .rhs _ => 140 | .decls => 188 | .data => 74
def symA (b : Nat) : Sym → Array Value
  | .expr lv => #[.pointer (some ⟨b, 0, none⟩), .int .i64 lv]
  | .rhs sep => #[.pointer (some ⟨b, 0, none⟩), .string (ofL sep)]
  | _ => #[.pointer (some ⟨b, 0, none⟩)]
/-- A data declaration is read only where one comes. -/
def okD (l : List Tok) : Sym → Nat → Prop
  | .data, p => p < l.length
  | _, _ => True
/-- What is known of the parser's functions, where they are called nearer the end than m. -/
structure Rec (b : Nat) (l : List Tok) (en : Nat) (m : Nat) (rec : Sym → Pr Nat) : Prop where
  one : ∀ s, One l (rec s)
  ct : ∀ (s : Sym) (st : PS) (M : List Assn), Iv l st → measS l s st.p < m → (hd : okD l s st.p := by exact trivial) → Ct Tryz.prog (symF s) (symA b s) (pA b l en st :: M) (RA b l en (rec s st) vN M)
theorem rank_le (s : Sym) : rankS s ≤ 9 := by cases s <;> simp [rankS]
theorem meas_lt {l : List Tok} {s s' : Sym} {p p' m : Nat} (hm : measS l s p < m + 1) (hp : p + 1 ≤ p') (hl : p' ≤ l.length) : measS l s' p' < m := by
  have := rank_le s'
  unfold measS at hm ⊢
  omega
theorem meas_eq {l : List Tok} {s s' : Sym} {p m : Nat} (hm : measS l s p < m + 1) (h : rankS s' < rankS s) : measS l s' p < m := by
  unfold measS at hm ⊢
  omega
@[reducible] def fvM (b : Nat) (f : FuncId) (hc : ∀ (args : Array Value) (w : World), Sem.run Tryz.prog (callFunc f args) w = .ok (.enter f args) w) : Fv (fun _ => True) := ⟨f, #[.pointer (some ⟨b, 0, none⟩)], #[], hc, fun _ _ _ => trivial⟩
@[reducible] def fvC (b b1 : Nat) (f : FuncId) (hc : ∀ (args : Array Value) (w : World), Sem.run Tryz.prog (callFunc f args) w = .ok (.enter f args) w) : Fv (fun M => Ent M (CellsAt b1 0 [.pointer (some ⟨b, 0, none⟩)])) := ⟨f, #[], #[.pointer (some ⟨b1, 0, none⟩)], hc, fun _ _ h => h.cons⟩
theorem own0 {L : List Assn} : LeL L (ownK (none, 0) [] :: L) := fun _ s => Sat.ownNil s
theorem ownOf {b6 : Nat} {vs : List Value} (ks : List Nat) (L : List Assn) (h : (ints (ik ks)).flatten = vs) : LeL (ptA b6 3 vs :: L) (ownK (some ⟨b6, 0, none⟩, ks.length) ks :: L) :=
  LeL.head fun _ hk => ownA.ofPt h (by simp [ints, ik]) (by rw [ints_len]) hk
section
variable (b : Nat) (l : List Tok) (en : Nat) (st : PS) {m : Nat} {rec : Sym → Pr Nat}
theorem fb_begins (b : Nat) : FB b l en (fvM b 138 Tryz.call138) (beginsP l) := fun st M hp _ => begins_ct b l en st hp M
theorem fb_typed : FB b l en (fvM b 136 Tryz.call136) (typedP l) := fun st M hp _ => typed_ct b l en st hp M
theorem fb_atomic : FB b l en (fvM b 183 Tryz.call183) (atomicP l) := fun st M hp _ => atomic_ct b l en st hp M
theorem fb_isVar : FB b l en (fvM b 72 Tryz.call72) (isVarP l) := fun st M hp _ => isVar_ct b l en st hp M
theorem f1_apat (hr : Rec b l en m rec) {s : Sym} {p : Nat} (hm : measS l s p < m + 1) : F1 b l en (fvM b 139 Tryz.call139) (p + 1) (rec .apat) := fun st M hv hp _ => hr.ct .apat st M hv (meas_lt hm hp hv.1)
theorem f1_atype (hr : Rec b l en m rec) {s : Sym} {p : Nat} (hm : measS l s p < m + 1) : F1 b l en (fvM b 137 Tryz.call137) (p + 1) (rec .atype) := fun st M hv hp _ => hr.ct .atype st M hv (meas_lt hm hp hv.1)
theorem f1_atom (hr : Rec b l en m rec) {s : Sym} {p : Nat} (hm : measS l s p < m + 1) : F1 b l en (fvM b 228 Tryz.call228) (p + 1) (rec .atom) := fun st M hv hp _ => hr.ct .atom st M hv (meas_lt hm hp hv.1)
theorem f1_pat (hr : Rec b l en m rec) {s : Sym} {p : Nat} (hm : measS l s p < m + 1) : F1 b l en (fvM b 186 Tryz.call186) (p + 1) (rec .pat) := fun st M hv hp _ => hr.ct .pat st M hv (meas_lt hm hp hv.1)
theorem f1_whole (hr : Rec b l en m rec) {s : Sym} {p : Nat} (hm : measS l s p < m + 1) : F1 b l en (fvM b 181 Tryz.call181) (p + 1) (rec .whole) := fun st M hv hp _ => hr.ct .whole st M hv (meas_lt hm hp hv.1)
theorem f1_clause (hr : Rec b l en m rec) {s : Sym} {p : Nat} (hm : measS l s p < m + 1) : F1 b l en (fvM b 75 Tryz.call75) (p + 1) (rec .clause) := fun st M hv hp _ => hr.ct .clause st M hv (meas_lt hm hp hv.1)
set_option maxHeartbeats 4000000 in
theorem pat_ct (hl : l.length ≤ 8000) (hr : Rec b l en m rec) (hv : Iv l st) (hm : measS l .pat st.p < m + 1) (M : List Assn) : Ct Tryz.prog 186 #[.pointer (some ⟨b, 0, none⟩)] (pA b l en st :: M) (RA b l en (body l en rec .pat st) vN M) := by
  generalize hR : body l en rec .pat st = R
  simp only [body] at hR
  refine Ct.body Tryz.func186 rfl Tryz.ntmps186 Tryz.results186 rfl ?_
  refine Wp.seq (Wp.region (S.assign rfl rfl (WpO.nil ?_)))
  refine Wp.seq (Wp.region (S.assign rfl rfl (WpO.nil ?_)))
  refine Wp.cut (α := Nat × PS) (fun z => [(0, .v (.pointer (some ⟨b, 0, none⟩))), (3, .v (.int .i64 (z.1 : Nat)))]) (fun z => pA b l en z.2 :: M)
    (fun z => Gr l 1 3 st z.2 ∧ (if isP l z.2.p [58] = true then bindP (rec .pat (adv z.2)) fun b st => putP 30 [58] [z.1, b] st else .ok (z.1, z.2)) = R) ?_ ?_
  · refine pur ?_
    refine WpO.callq Tryz.call131 rfl rfl (kind_ct b l en st hv.1 M) Keeps.none ?_
    refine pur ?_
    refine Wp.branch rfl (fun h => ?_) (fun h => ?_)
    · replace h : kindP l st.p = 2 := of_decide_eq_true h
      rw [if_pos h, bind_assoc] at hR
      refine pur ?_
      refine WpO.callP Tryz.call132 rfl rfl (pname_ct b l en st hl hv.1 2 (by decide) M) (fun v L' e => perr hR e (LeL.refl _)) fun v L' ⟨nm, st1, e1, e2, e3⟩ => ⟨Keeps.none, ?_⟩
      subst e2; subst e3
      replace hR := pok hR e1
      rw [bind_assoc] at hR
      have g1 := name_gr (by decide) e1
      have hv1 := hv.gr g1 (by omega)
      refine pur ?_
      refine S.makeFuncM rfl (.cons rfl (by infer_instance) .nil) .nil ?_
      refine pur ?_
      refine S.makeFuncM rfl (.cons rfl (by infer_instance) .nil) .nil ?_
      refine WpO.callP Tryz.call133 rfl rfl (many_ct b l en st1 hl hv1 (fvM b 138 Tryz.call138) (fvM b 139 Tryz.call139) _ _ (st.p + 1) (fb_begins l en b) (f1_apat b l en hr hm) (hr.one .apat) g1.p M trivial trivial) (fun v L' e => perr hR e (LeL.refl _)) fun v L' ⟨ks, st2, e1, k, e2, e3⟩ => ⟨Keeps.none, ?_⟩
      subst e2; subst e3
      replace hR := pok hR e1
      obtain ⟨mm, _, g2, _⟩ := many_gr (hr.one .apat) _ _ _ _ _ hv1.1 (fun k hk => by cases hk) e1
      refine pur ?_
      refine WpO.call Tryz.call77 rfl rfl (put_ct2 b l en st2 (hv1.bd hl g2 (by omega)) 30 (ofL nm) ks k M) fun v L' ⟨e1, e2⟩ => ⟨Keeps.none, ?_⟩
      subst e1; subst e2
      refine pur ?_
      exact ⟨(_, _), ⟨((g1.trans g2).trans (put_gr g2.e rfl).1).wk (by omega) (by omega), hR⟩, ⟨rfl, rfl, trivial⟩, rfl, LeL.refl _⟩
    · replace h : ¬ kindP l st.p = 2 := of_decide_eq_false h
      rw [if_neg h] at hR
      refine pur ?_
      refine WpO.callP Tryz.call139 rfl rfl (hr.ct .apat st M hv (meas_eq hm (by decide))) (fun v L' e => perr hR e (LeL.refl _)) fun v L' ⟨a, st1, e1, e2, e3⟩ => ⟨Keeps.none, ?_⟩
      subst e2; subst e3
      replace hR := pok hR e1
      refine pur ?_
      exact ⟨(a, st1), ⟨(hr.one .apat _ _ _ hv.1 e1).1, hR⟩, ⟨rfl, rfl, trivial⟩, rfl, LeL.refl _⟩
  · rintro ⟨a, st1⟩ ⟨g1, hR⟩
    simp only [] at g1 hR
    have hv1 := hv.gr g1 (by omega)
    have gp1 := g1.p
    refine pur ?_
    refine WpO.call Tryz.call130 rfl rfl (skip_ct2 b l en st1 hl ⟨#[58]⟩ _) fun v L' ⟨e1, e2⟩ => ⟨Keeps.none, ?_⟩
    subst e1; subst e2
    refine pur ?_
    refine Wp.branch rfl (fun h => ?_) (fun h => ?_)
    · replace h : isP l st1.p [58] = false := by rwa [Bool.not_eq_true'] at h
      rw [if_neg (by rw [h]; decide)] at hR
      rw [show isP l st1.p (bs ⟨#[58]⟩) = false from h, if_neg (by decide)]
      refine pur ?_
      exact Wp.ret (Ret 0 rfl ⟨_, _, hR.symm, rfl, rfl⟩)
    · replace h : isP l st1.p [58] = true := by rwa [Bool.not_eq_false'] at h
      rw [if_pos h] at hR
      rw [show isP l st1.p (bs ⟨#[58]⟩) = true from h, if_pos rfl]
      have ga := adv_gr (isP_lt h)
      have hva := hv1.gr ga (by omega)
      refine pur ?_
      refine WpO.callP Tryz.call186 rfl rfl (hr.ct .pat (adv st1) M hva (meas_lt hm (by show st.p + 1 ≤ st1.p + 1; omega) hva.1)) (fun v L' e => perr hR e (LeL.refl _)) fun v L' ⟨a2, st2, e1, e2, e3⟩ => ⟨Keeps.none, ?_⟩
      subst e2; subst e3
      replace hR := pok hR e1
      have g2 := (hr.one .pat _ _ _ hva.1 e1).1
      refine WpO.buildSlice rfl rfl rfl rfl rfl rfl rfl (fun _ => Keeps.none) fun b6 => ?_
      refine WpO.parts (ownOf [a, a2] _ rfl) ?_
      refine WpO.call Tryz.call77 rfl rfl (put_ct2 b l en st2 (hva.bd hl g2 (by omega)) 30 ⟨#[58]⟩ [a, a2] (some ⟨b6, 0, none⟩, 2) M) fun v L' ⟨e1, e2⟩ => ⟨Keeps.none, ?_⟩
      subst e1; subst e2
      refine pur ?_
      exact Wp.ret (Ret 0 rfl ⟨_, _, hR.symm, rfl, rfl⟩)
end
end Go.Proofs.YtikgokpbhldlnaaGreatDoor
end
section
/- The parser's walk: types, patterns, clauses. -/
namespace Go.Proofs.YtikgokpbhldlnaaGreatDoor
open Go Go.Ab
attribute [local irreducible] Wp WpO Qt OpT Ct Ent
section
variable (b : Nat) (l : List Tok) (en : Nat) (st : PS) {m : Nat} {rec : Sym → Pr Nat}
set_option maxHeartbeats 4000000 in
theorem whole_ct2 (hl : l.length ≤ 8000) (hr : Rec b l en m rec) (hv : Iv l st) (hm : measS l .whole st.p < m + 1) (M : List Assn) : Ct Tryz.prog 181 #[.pointer (some ⟨b, 0, none⟩)] (pA b l en st :: M) (RA b l en (body l en rec .whole st) vN M) := by
  generalize hR : body l en rec .whole st = R
  simp only [body] at hR
  refine Ct.body Tryz.func181 rfl Tryz.ntmps181 Tryz.results181 rfl ?_
  refine Wp.seq (Wp.region (S.assign rfl rfl (WpO.nil ?_)))
  refine Wp.seq (Wp.region (S.assign rfl rfl (WpO.nil ?_)))
  refine Wp.cut (α := Nat × PS) (fun z => [(0, .v (.pointer (some ⟨b, 0, none⟩))), (3, .v (.int .i64 (z.1 : Nat)))]) (fun z => pA b l en z.2 :: M)
    (fun z => Gr l 1 3 st z.2 ∧ (if isP l z.2.p [45, 62] = true then bindP (rec .whole (adv z.2)) fun b st => putP 24 [45, 62] [z.1, b] st else .ok (z.1, z.2)) = R) ?_ ?_
  · refine pur ?_
    refine WpO.callq Tryz.call131 rfl rfl (kind_ct b l en st hv.1 M) Keeps.none ?_
    refine pur ?_
    refine Wp.branch rfl (fun h => ?_) (fun h => ?_)
    · replace h : kindP l st.p = 2 := of_decide_eq_true h
      rw [if_pos h, bind_assoc] at hR
      refine pur ?_
      refine WpO.callP Tryz.call132 rfl rfl (pname_ct b l en st hl hv.1 2 (by decide) _) (fun v L' e => perr hR e (LeL.refl _)) fun v L' ⟨nm, st1, e1, e2, e3⟩ => ⟨Keeps.none, ?_⟩
      subst e2; subst e3
      replace hR := pok hR e1
      have gst1 := name_gr (by decide) e1
      rw [bind_assoc] at hR
      have hv1 := hv.gr gst1 (by omega)
      refine pur ?_
      refine S.makeFuncM rfl (.cons rfl (by infer_instance) .nil) .nil ?_
      refine pur ?_
      refine S.makeFuncM rfl (.cons rfl (by infer_instance) .nil) .nil ?_
      refine WpO.callP Tryz.call133 rfl rfl (many_ct b l en st1 hl hv1 (fvM b 136 Tryz.call136) (fvM b 137 Tryz.call137) _ _ (st.p + 1) (fb_typed b l en) (f1_atype b l en hr hm) (hr.one .atype) gst1.p M trivial trivial) (fun v L' e => perr hR e (LeL.refl _)) fun v L' ⟨ks, st2, e1, k, e2, e3⟩ => ⟨Keeps.none, ?_⟩
      subst e2; subst e3
      replace hR := pok hR e1
      obtain ⟨mm, _, g2, _⟩ := many_gr (hr.one .atype) _ _ _ _ _ hv1.1 (fun k hk => by cases hk) e1
      refine pur ?_
      refine WpO.call Tryz.call77 rfl rfl (put_ct2 b l en st2 (hv1.bd hl g2 (by omega)) 24 (ofL nm) ks k _) fun v L' ⟨e1, e2⟩ => ⟨Keeps.none, ?_⟩
      subst e1; subst e2
      refine pur ?_
      exact ⟨(_, _), ⟨((gst1.trans g2).trans (put_gr g2.e rfl).1).wk (by omega) (by omega), hR⟩, ⟨rfl, rfl, trivial⟩, rfl, LeL.refl _⟩
    · replace h : ¬ kindP l st.p = 2 := of_decide_eq_false h
      rw [if_neg h] at hR
      refine pur ?_
      refine WpO.callP Tryz.call137 rfl rfl (hr.ct .atype st _ hv (meas_eq hm (by decide))) (fun v L' e => perr hR e (LeL.refl _)) fun v L' ⟨a, st1, e1, e2, e3⟩ => ⟨Keeps.none, ?_⟩
      subst e2; subst e3
      replace hR := pok hR e1
      have gst1 := (hr.one .atype _ _ _ hv.1 e1).1
      refine pur ?_
      exact ⟨(a, st1), ⟨gst1, hR⟩, ⟨rfl, rfl, trivial⟩, rfl, LeL.refl _⟩
  · rintro ⟨a, st1⟩ ⟨g1, hR⟩
    simp only [] at g1 hR
    have hv1 := hv.gr g1 (by omega)
    have gp1 := g1.p
    refine pur ?_
    refine WpO.call Tryz.call130 rfl rfl (skip_ct2 b l en st1 hl ⟨#[45, 62]⟩ _) fun v L' ⟨e1, e2⟩ => ⟨Keeps.none, ?_⟩
    subst e1; subst e2
    refine pur ?_
    refine Wp.branch rfl (fun h => ?_) (fun h => ?_)
    · replace h : isP l st1.p [45, 62] = false := by rwa [Bool.not_eq_true'] at h
      rw [if_neg (by rw [h]; decide)] at hR
      rw [show isP l st1.p (bs ⟨#[45, 62]⟩) = false from h, if_neg (by decide)]
      refine pur ?_
      exact Wp.ret (Ret 0 rfl ⟨_, _, hR.symm, rfl, rfl⟩)
    · replace h : isP l st1.p [45, 62] = true := by rwa [Bool.not_eq_false'] at h
      rw [if_pos h] at hR
      rw [show isP l st1.p (bs ⟨#[45, 62]⟩) = true from h, if_pos rfl]
      have ga := adv_gr (isP_lt h)
      have hva := hv1.gr ga (by omega)
      refine pur ?_
      refine WpO.callP Tryz.call181 rfl rfl (hr.ct .whole (adv st1) _ hva (meas_lt hm (by show st.p + 1 ≤ st1.p + 1; omega) hva.1)) (fun v L' e => perr hR e (LeL.refl _)) fun v L' ⟨a2, st2, e1, e2, e3⟩ => ⟨Keeps.none, ?_⟩
      subst e2; subst e3
      replace hR := pok hR e1
      have gst2 := (hr.one .whole _ _ _ hva.1 e1).1
      refine pur ?_
      refine WpO.buildSlice rfl rfl rfl rfl rfl rfl rfl (fun _ => Keeps.none) fun b6 => ?_
      refine WpO.parts (ownOf [a, a2] _ rfl) ?_
      refine WpO.call Tryz.call77 rfl rfl (put_ct2 b l en st2 (hva.bd hl gst2 (by omega)) 24 ⟨#[45, 62]⟩ [a, a2] (some ⟨b6, 0, none⟩, 2) _) fun v L' ⟨e1, e2⟩ => ⟨Keeps.none, ?_⟩
      subst e1; subst e2
      refine pur ?_
      exact Wp.ret (Ret 0 rfl ⟨_, _, hR.symm, rfl, rfl⟩)
set_option maxHeartbeats 4000000 in
theorem clause_ct2 (hl : l.length ≤ 8000) (hr : Rec b l en m rec) (hv : Iv l st) (hm : measS l .clause st.p < m + 1) (M : List Assn) : Ct Tryz.prog 75 #[.pointer (some ⟨b, 0, none⟩)] (pA b l en st :: M) (RA b l en (body l en rec .clause st) vN M) := by
  generalize hR : body l en rec .clause st = R
  simp only [body] at hR
  refine Ct.body Tryz.func75 rfl Tryz.ntmps75 Tryz.results75 rfl ?_
  refine pur ?_
  refine WpO.callP Tryz.call132 rfl rfl (pname_ct b l en st hl hv.1 1 (by decide) _) (fun v L' e => perr hR e (LeL.refl _)) fun v L' ⟨nm, st1, e1, e2, e3⟩ => ⟨Keeps.none, ?_⟩
  subst e2; subst e3
  replace hR := pok hR e1
  have gst1 := name_gr (by decide) e1
  have hv1 := hv.gr gst1 (by omega)
  refine pur ?_
  refine S.makeFuncM rfl (.cons rfl (by infer_instance) .nil) .nil ?_
  refine pur ?_
  refine S.makeFuncM rfl (.cons rfl (by infer_instance) .nil) .nil ?_
  refine WpO.callP Tryz.call133 rfl rfl (many_ct b l en st1 hl hv1 (fvM b 138 Tryz.call138) (fvM b 139 Tryz.call139) _ _ (st.p + 1) (fb_begins l en b) (f1_apat b l en hr hm) (hr.one .apat) gst1.p M trivial trivial) (fun v L' e => perr hR e (LeL.refl _)) fun v L' ⟨ks, st2, e1, k, e2, e3⟩ => ⟨Keeps.none, ?_⟩
  subst e2; subst e3
  replace hR := pok hR e1
  obtain ⟨mm, hmm, g2, _⟩ := many_gr (hr.one .apat) _ _ _ _ _ hv1.1 (fun k hk => by cases hk) e1
  have hv2 := hv1.gr g2 (by omega)
  have hp1 := gst1.p
  have hp2 := g2.p
  refine pur ?_
  refine WpO.callP Tryz.call140 rfl rfl (Ct.atp 1 rfl (hr.ct (.rhs [61]) st2 _ hv2 (meas_lt hm (by omega) hv2.1))) (fun v L' e => perr hR e (LeL.drop 1 _)) fun v L' ⟨a, st3, e1, e2, e3⟩ => ⟨Keeps.none, ?_⟩
  subst e2; subst e3
  replace hR := pok hR e1
  have gst3 := (hr.one (.rhs [61]) _ _ _ hv2.1 e1).1
  dsimp only [List.set]
  have hks : ks.length ≤ 8000 := by have := hv2.1; simp only [List.length_nil] at hmm; omega
  refine WpO.buildSlice rfl rfl rfl rfl rfl rfl rfl (fun _ => Keeps.none) fun b6 => ?_
  refine WpO.appendLit 0 [[.int .i64 ((a : Nat) : Int)]] rfl rfl rfl rfl (ints_len ks).symm rfl rfl rfl rfl rfl rfl rfl (by rw [ints_len]; simp; omega) (fun _ _ => Keeps.none) fun a2 k2 => ?_
  rw [ints_snoc, ints_len]
  refine WpO.call Tryz.call77 rfl rfl (put_ct2 b l en st3 (hv2.bd hl gst3 (by omega)) 19 (ofL nm) (ks ++ [a]) (a2, k2) _) fun v L' ⟨e1, e2⟩ => ⟨Keeps.none, ?_⟩
  subst e1; subst e2
  refine pur ?_
  exact Wp.ret (Ret 0 rfl ⟨_, _, hR.symm, rfl, rfl⟩)
set_option maxHeartbeats 4000000 in
theorem decls_ct2 (hl : l.length ≤ 8000) (hr : Rec b l en m rec) (hv : Iv l st) (hm : measS l .decls st.p < m + 1) (M : List Assn) : Ct Tryz.prog 188 #[.pointer (some ⟨b, 0, none⟩)] (pA b l en st :: M) (RA b l en (body l en rec .decls st) vN M) := by
  generalize hR : body l en rec .decls st = R
  simp only [body] at hR
  refine Ct.body Tryz.func188 rfl Tryz.ntmps188 Tryz.results188 rfl ?_
  refine pur ?_
  refine WpO.callP Tryz.call135 rfl rfl (take_ct b l en st hl ⟨#[123]⟩ _) (fun v L' e => perr hR e (LeL.refl _)) fun v L' ⟨ust1, st1, e1, _, e3⟩ => ⟨Keeps.none, ?_⟩
  subst e3
  replace hR := pok hR e1
  have gst1 := take_gr e1
  have hv1 := hv.gr gst1 (by omega)
  refine pur ?_
  refine S.makeFuncM rfl (.cons rfl (by infer_instance) .nil) .nil ?_
  refine pur ?_
  refine S.makeFuncM rfl (.cons rfl (by infer_instance) .nil) .nil ?_
  refine WpO.callP Tryz.call69 rfl rfl (semis_ct b l en st1 hl hv1 (fvM b 72 Tryz.call72) (fvM b 75 Tryz.call75) _ _ (st.p + 1) (fb_isVar b l en) (f1_clause b l en hr hm) (hr.one .clause) gst1.p M trivial trivial) (fun v L' e => perr hR e (LeL.refl _)) fun v L' ⟨ks, st2, e1, k, e2, e3⟩ => ⟨Keeps.none, ?_⟩
  subst e2; subst e3
  replace hR := pok hR e1
  obtain ⟨mm, hmm, g2, _⟩ := semis_gr (hr.one .clause) _ _ _ _ _ hv1.1 (fun k hk => by cases hk) e1
  have hv2 := hv1.gr g2 (by omega)
  refine pur ?_
  refine WpO.callP Tryz.call135 rfl rfl (Ct.atp 1 rfl (take_ct b l en st2 hl ⟨#[125]⟩ _)) (fun v L' e => perr hR e (LeL.drop 1 _)) fun v L' ⟨ust3, st3, e1, _, e3⟩ => ⟨Keeps.none, ?_⟩
  subst e3
  replace hR := pok hR e1
  have gst3 := take_gr e1
  dsimp only [List.set]
  refine pur ?_
  refine WpO.call Tryz.call77 rfl rfl (put_ct2 b l en st3 (hv2.bd hl gst3 (by omega)) 18 ⟨#[]⟩ ks k _) fun v L' ⟨e1, e2⟩ => ⟨Keeps.none, ?_⟩
  subst e1; subst e2
  refine pur ?_
  exact Wp.ret (Ret 0 rfl ⟨_, _, hR.symm, rfl, rfl⟩)
end
end Go.Proofs.YtikgokpbhldlnaaGreatDoor
end
section
/- The parser's walk: simple types, simple patterns, atoms, alternatives. -/
namespace Go.Proofs.YtikgokpbhldlnaaGreatDoor
open Go Go.Ab
attribute [local irreducible] Wp WpO Qt OpT Ct Ent
theorem tupleName_eq (n : Nat) : (⟨#[40]⟩ : ByteArray) ++ ofL (List.replicate (n - 1) 44) ++ ⟨#[41]⟩ = ofL (tupleName n) := by
  rw [← ofL_bs ((⟨#[40]⟩ : ByteArray) ++ ofL (List.replicate (n - 1) 44) ++ ⟨#[41]⟩), bs_append, bs_append, bs_ofL]; rfl
section
variable (b : Nat) (l : List Tok) (en : Nat) (st : PS) {m : Nat} {rec : Sym → Pr Nat}
theorem begin_tok {l : List Tok} {p : Nat} (h : ((atomicP l p && !isP l p [40]) && !isP l p [91]) = true) : ∃ k, l[p]? = some k ∧ 1 ≤ k.kind ∧ k.kind ≤ 5 := by
  simp only [atomicP, beginsP, Bool.and_eq_true, Bool.or_eq_true, Bool.not_eq_true', decide_eq_true_eq] at h
  obtain ⟨⟨⟨h1, h2⟩, h3⟩, h4⟩ := h
  rw [h2, h3, h4] at h1
  simp only [Bool.false_eq_true, or_false] at h1
  have hlt := kindP_lt (l := l) (p := p) (by omega)
  refine ⟨l[p], List.getElem?_eq_getElem hlt, ?_⟩
  unfold kindP at h1
  rw [List.getElem?_eq_getElem hlt] at h1
  exact h1
set_option maxHeartbeats 4000000 in
theorem atype_ct2 (hl : l.length ≤ 8000) (hr : Rec b l en m rec) (hv : Iv l st) (hm : measS l .atype st.p < m + 1) (M : List Assn) : Ct Tryz.prog 137 #[.pointer (some ⟨b, 0, none⟩)] (pA b l en st :: M) (RA b l en (body l en rec .atype st) vN M) := by
  generalize hR : body l en rec .atype st = R
  simp only [body] at hR
  refine Ct.body Tryz.func137 rfl Tryz.ntmps137 Tryz.results137 rfl ?_
  refine pur ?_
  refine WpO.callq Tryz.call131 rfl rfl (kind_ct b l en st hv.1 M) Keeps.none ?_
  refine pur ?_
  refine Wp.branch rfl (fun h => ?_) (fun h => ?_)
  · replace h : kindP l st.p = 2 := of_decide_eq_true h
    rw [if_pos h] at hR
    refine pur ?_
    refine WpO.callP Tryz.call132 rfl rfl (pname_ct b l en st hl hv.1 2 (by decide) _) (fun v L' e => perr hR e (LeL.refl _)) fun v L' ⟨nm, st1, e1, e2, e3⟩ => ⟨Keeps.none, ?_⟩
    subst e2; subst e3
    replace hR := pok hR e1
    have gst1 := name_gr (by decide) e1
    refine WpO.parts own0 ?_
    refine WpO.call Tryz.call77 rfl rfl (put_ct2 b l en st1 (hv.bd hl gst1 (by omega)) 24 (ofL nm) [] (none, 0) _) fun v L' ⟨e1, e2⟩ => ⟨Keeps.none, ?_⟩
    subst e1; subst e2
    refine pur ?_
    exact Wp.ret (Ret 0 rfl ⟨_, _, hR.symm, rfl, rfl⟩)
  replace h : ¬ kindP l st.p = 2 := of_decide_eq_false h
  rw [if_neg h] at hR
  refine pur ?_
  refine WpO.callq Tryz.call72 rfl rfl (isVar_ct b l en st hv.1 M) Keeps.none ?_
  refine pur ?_
  refine Wp.branch rfl (fun h2 => ?_) (fun h2 => ?_)
  · rw [if_pos h2] at hR
    unfold varF at hR
    refine pur ?_
    refine WpO.callP Tryz.call132 rfl rfl (pname_ct b l en st hl hv.1 1 (by decide) _) (fun v L' e => perr hR e (LeL.refl _)) fun v L' ⟨nm, st1, e1, e2, e3⟩ => ⟨Keeps.none, ?_⟩
    subst e2; subst e3
    replace hR := pok hR e1
    have gst1 := name_gr (by decide) e1
    refine WpO.parts own0 ?_
    refine WpO.call Tryz.call77 rfl rfl (put_ct2 b l en st1 (hv.bd hl gst1 (by omega)) 23 (ofL nm) [] (none, 0) _) fun v L' ⟨e1, e2⟩ => ⟨Keeps.none, ?_⟩
    subst e1; subst e2
    refine pur ?_
    exact Wp.ret (Ret 0 rfl ⟨_, _, hR.symm, rfl, rfl⟩)
  rw [if_neg (by rw [h2]; decide)] at hR
  refine pur ?_
  refine WpO.call Tryz.call130 rfl rfl (skip_ct2 b l en st hl ⟨#[91]⟩ _) fun v L' ⟨e1, e2⟩ => ⟨Keeps.none, ?_⟩
  subst e1; subst e2
  refine pur ?_
  refine Wp.branch rfl (fun h3 => ?_) (fun h3 => ?_)
  · replace h3 : isP l st.p [91] = true := h3
    rw [if_pos h3] at hR
    rw [show isP l st.p (bs ⟨#[91]⟩) = true from h3, if_pos rfl]
    have ga := adv_gr (isP_lt h3)
    have hva := hv.gr ga (by omega)
    refine pur ?_
    refine WpO.callP Tryz.call181 rfl rfl (hr.ct .whole (adv st) _ hva (meas_lt hm (Nat.le_refl _) hva.1)) (fun v L' e => perr hR e (LeL.refl _)) fun v L' ⟨a, st1, e1, e2, e3⟩ => ⟨Keeps.none, ?_⟩
    subst e2; subst e3
    replace hR := pok hR e1
    have gst1 := (hr.one .whole _ _ _ hva.1 e1).1
    have hv1 := hva.gr gst1 (by omega)
    refine pur ?_
    refine WpO.callP Tryz.call135 rfl rfl (take_ct b l en st1 hl ⟨#[93]⟩ _) (fun v L' e => perr hR e (LeL.refl _)) fun v L' ⟨ust2, st2, e1, _, e3⟩ => ⟨Keeps.none, ?_⟩
    subst e3
    replace hR := pok hR e1
    have gst2 := take_gr e1
    refine pur ?_
    refine WpO.buildSlice rfl rfl rfl rfl rfl rfl rfl (fun _ => Keeps.none) fun b6 => ?_
    refine WpO.parts (ownOf [a] _ rfl) ?_
    refine WpO.call Tryz.call77 rfl rfl (put_ct2 b l en st2 (hv1.bd hl gst2 (by omega)) 24 ⟨#[91, 93]⟩ [a] (some ⟨b6, 0, none⟩, 1) _) fun v L' ⟨e1, e2⟩ => ⟨Keeps.none, ?_⟩
    subst e1; subst e2
    refine pur ?_
    exact Wp.ret (Ret 0 rfl ⟨_, _, hR.symm, rfl, rfl⟩)
  · replace h3 : isP l st.p [91] = false := h3
    rw [if_neg (by rw [h3]; decide)] at hR
    rw [show isP l st.p (bs ⟨#[91]⟩) = false from h3, if_neg (by decide)]
    refine pur ?_
    refine WpO.callP Tryz.call135 rfl rfl (take_ct b l en st hl ⟨#[40]⟩ _) (fun v L' e => perr hR e (LeL.refl _)) fun v L' ⟨ust1, st1, e1, _, e3⟩ => ⟨Keeps.none, ?_⟩
    subst e3
    replace hR := pok hR e1
    have gst1 := take_gr e1
    have hv1 := hv.gr gst1 (by omega)
    have hp1 := gst1.p
    refine pur ?_
    refine WpO.call Tryz.call130 rfl rfl (skip_ct2 b l en st1 hl ⟨#[41]⟩ _) fun v L' ⟨e1, e2⟩ => ⟨Keeps.none, ?_⟩
    subst e1; subst e2
    refine pur ?_
    refine Wp.branch rfl (fun h4 => ?_) (fun h4 => ?_)
    · replace h4 : isP l st1.p [41] = true := h4
      rw [if_pos h4] at hR
      rw [show isP l st1.p (bs ⟨#[41]⟩) = true from h4, if_pos rfl]
      refine pur ?_
      refine WpO.parts own0 ?_
      refine WpO.call Tryz.call77 rfl rfl (put_ct2 b l en (adv st1) (hv1.bd0 hl) 24 ⟨#[40, 41]⟩ [] (none, 0) _) fun v L' ⟨e1, e2⟩ => ⟨Keeps.none, ?_⟩
      subst e1; subst e2
      refine pur ?_
      exact Wp.ret (Ret 0 rfl ⟨_, _, hR.symm, rfl, rfl⟩)
    · replace h4 : isP l st1.p [41] = false := h4
      rw [if_neg (by rw [h4]; decide)] at hR
      rw [show isP l st1.p (bs ⟨#[41]⟩) = false from h4, if_neg (by decide)]
      refine pur ?_
      refine S.makeFuncM rfl (.cons rfl (by infer_instance) .nil) .nil ?_
      refine WpO.callP Tryz.call182 rfl rfl (pcommas_ct b l en st1 hl hv1 (fvM b 181 Tryz.call181) ⟨#[41]⟩ 8 _ (st.p + 1) (f1_whole b l en hr hm) (hr.one .whole) (by omega) M trivial) (fun v L' e => perr hR e (LeL.refl _)) fun v L' ⟨ks, st2, e1, k, e2, e3⟩ => ⟨Keeps.none, ?_⟩
      subst e2; subst e3
      replace hR := pok hR e1
      obtain ⟨mm, hmm, g2, _⟩ := commas_gr (hr.one .whole) hv1.1 e1
      refine pur ?_
      refine Wp.branch rfl (fun h5 => ?_) (fun h5 => ?_)
      · have h5' : ks.length = 1 := by have := of_decide_eq_true h5; omega
        rw [if_pos h5'] at hR
        obtain ⟨x, rfl⟩ := List.length_eq_one_iff.1 h5'
        refine Wp.know (fun k hs => own_know 0 rfl hs) fun hkn => ?_
        obtain ⟨bk2, ok2, hbk2, _, hE⟩ := ((Sl.own (L := ownK k [x] :: pA b l en st2 :: M) 0 rfl hkn).at (i := 0) (r := [.int .i64 ((x : Nat) : Int)]) (by simp [ints, ik]))
        obtain ⟨ka, kc⟩ := k
        simp only [] at hbk2
        subst hbk2
        refine pur ?_
        refine S.idx 0 rfl rfl rfl rfl (by simp) ?_
        refine pur ?_
        exact Wp.ret (Ret 1 rfl ⟨_, _, hR.symm, rfl, rfl⟩)
      · have h5' : ¬ ks.length = 1 := by have := of_decide_eq_false h5; omega
        rw [if_neg h5'] at hR
        have hkl : ks.length ≤ 9000 := by have := g2.p; have := g2.e; omega
        refine pur ?_
        rw [show IntKind.i64.wrap (((ks.length : Nat) : Int) - 1) = ((ks.length - 1 : Nat) : Int) from by rw [wrap_id (by omega) (by omega)]; omega]
        have hrp := repeat_ct ⟨#[44]⟩ (ks.length - 1) (ownK k ks :: pA b l en st2 :: M) (by omega) (by show 1 * (ks.length - 1) ≤ _; omega)
        rw [show (⟨#[44]⟩ : ByteArray).data.toList = [44] from rfl, repeatL_comma] at hrp
        refine WpO.callq (v := .string (ofL (List.replicate (ks.length - 1) 44))) Tryz.call83 rfl rfl hrp Keeps.none ?_
        have hb1 : (bs (ofL (List.replicate (ks.length - 1) 44))).length ≤ 9000 := by rw [bs_ofL, List.length_replicate]; omega
        refine S.sadd rfl rfl rfl (by show 1 + _ < _; omega) ?_
        refine S.sadd rfl rfl rfl (by rw [bs_append, List.length_append]; show 1 + _ + 1 < _; omega) ?_
        rw [tupleName_eq]
        refine pur ?_
        refine WpO.call Tryz.call77 rfl rfl (put_ct2 b l en st2 (hv1.bd hl g2 (by omega)) 24 (ofL (tupleName ks.length)) ks k _) fun v L' ⟨e1, e2⟩ => ⟨Keeps.none, ?_⟩
        subst e1; subst e2
        refine pur ?_
        exact Wp.ret (Ret 0 rfl ⟨_, _, hR.symm, rfl, rfl⟩)
set_option maxHeartbeats 4000000 in
theorem apat_ct2 (hl : l.length ≤ 8000) (hr : Rec b l en m rec) (hv : Iv l st) (hm : measS l .apat st.p < m + 1) (M : List Assn) : Ct Tryz.prog 139 #[.pointer (some ⟨b, 0, none⟩)] (pA b l en st :: M) (RA b l en (body l en rec .apat st) vN M) := by
  generalize hR : body l en rec .apat st = R
  simp only [body] at hR
  refine Ct.body Tryz.func139 rfl Tryz.ntmps139 Tryz.results139 rfl ?_
  refine pur ?_
  refine WpO.call Tryz.call130 rfl rfl (skip_ct2 b l en st hl ⟨#[95]⟩ _) fun v L' ⟨e1, e2⟩ => ⟨Keeps.none, ?_⟩
  subst e1; subst e2
  refine pur ?_
  refine Wp.branch rfl (fun h => ?_) (fun h => ?_)
  · replace h : isP l st.p [95] = true := h
    rw [if_pos h] at hR
    rw [show isP l st.p (bs ⟨#[95]⟩) = true from h, if_pos rfl]
    refine pur ?_
    refine WpO.parts own0 ?_
    refine WpO.call Tryz.call77 rfl rfl (put_ct2 b l en (adv st) (hv.bd0 hl) 26 ⟨#[]⟩ [] (none, 0) _) fun v L' ⟨e1, e2⟩ => ⟨Keeps.none, ?_⟩
    subst e1; subst e2
    refine pur ?_
    exact Wp.ret (Ret 0 rfl ⟨_, _, hR.symm, rfl, rfl⟩)
  · replace h : isP l st.p [95] = false := h
    rw [if_neg (by rw [h]; decide)] at hR
    rw [show isP l st.p (bs ⟨#[95]⟩) = false from h, if_neg (by decide)]
    refine Wp.openPA 0 rfl fun q tq ks hks => ?_
    refine Wp.know (fun k hs => own_know 2 rfl hs) fun hkn => ?_
    obtain ⟨b3, o3, kk, hA⟩ := tokG (L := pM b l en st q tq ks M) 2 rfl hkn st.p
    refine Wp.seq ?_
    refine Wp.draw rfl [0,1,2,3,4,5,6,7,8,9,10,11,12,13,14,15,16,17,18] 19 19 (pM b l en st q tq ks M) rfl (by decide +kernel) (fun _ h => h) ?_
    refine pur ?_
    refine WpO.callq Tryz.call131 rfl rfl (kind_ct0 b l en st hv.1 M q tq ks) (Keeps.by fun _ h => h) ?_
    refine pur ?_
    have hB : decide (kindP l st.p = 5) = true → st.p < l.length := fun h => kindP_lt (by rw [of_decide_eq_true h]; decide)
    refine G.idxO (b := b3) (o := o3) st.p rfl rfl rfl (by infer_instance) rfl (by infer_instance) (fun h => ⟨(hA (hB h)).2.1, rfl, hB h⟩) ?_
    refine pur ?_
    refine G.loadIf (v := .string (ofL kk.text)) rfl rfl rfl (by infer_instance) (by infer_instance) (fun h => Ent.sub 1 (hA (hB h)).2.2 rfl) ?_
    refine pur ?_
    rw [bs_ofL]
    refine Wp.parts (closePA hks) ?_
    have htx : kindP l st.p = 5 → textP l st.p = kk.text := fun h => by
      have := (hA (hB (decide_eq_true h))).1
      unfold textP; rw [this]
    refine Wp.branch rfl (fun h2 => ?_) (fun h2 => ?_)
    · rw [Bool.and_eq_true] at h2
      have h5 := of_decide_eq_true h2.1
      have h6 : (64 : Int) < (kk.text.length : Nat) := of_decide_eq_true h2.2
      rw [if_pos ⟨h5, by rw [htx h5]; omega⟩] at hR
      refine pur ?_
      refine WpO.callP Tryz.call76 rfl rfl (fail_ct b l en st 11 M) (fun v L' ⟨e1, e2⟩ => perr0 (M' := M) ⟨_, hR.symm, e1, e2⟩ (LeL.refl _)) fun v L' e => e.elim
    have h2' : ¬ (kindP l st.p = 5 ∧ 64 < (textP l st.p).length) := fun ⟨q1, q2⟩ => by
      rw [decide_eq_true q1, Bool.true_and] at h2
      have : ¬ (64 : Int) < (kk.text.length : Nat) := of_decide_eq_false h2
      rw [htx q1] at q2; omega
    rw [if_neg h2'] at hR
    refine pur ?_
    refine WpO.callq Tryz.call183 rfl rfl (atomic_ct b l en st hv.1 _) Keeps.none ?_
    refine pur ?_
    refine WpO.callqg Tryz.call71 rfl rfl (.cons rfl (by infer_instance) (.cons rfl (by infer_instance) .nil)) (fun _ => is_ct b l en st ⟨#[40]⟩ _) Keeps.none ?_
    refine pur ?_
    refine WpO.callqg Tryz.call71 rfl rfl (.cons rfl (by infer_instance) (.cons rfl (by infer_instance) .nil)) (fun _ => is_ct b l en st ⟨#[91]⟩ _) Keeps.none ?_
    refine pur ?_
    refine Wp.branch rfl (fun h => ?_) (fun h => ?_)
    · replace h : ((atomicP l st.p && !isP l st.p [40]) && !isP l st.p [91]) = true := h
      rw [if_pos h] at hR
      obtain ⟨k, hk, hk1⟩ := begin_tok h
      refine pur ?_
      refine WpO.buildSlice rfl rfl rfl rfl rfl rfl rfl (fun _ => Keeps.none) fun b2 => ?_
      refine WpO.callP Tryz.call184 rfl rfl (leaf_ct b l en st hl hv 25 30 27 28 29 b2 k hk hk1 _) (fun v L' e => perr0 (by rw [← hR]; exact e) (LeL.refl _)) fun v L' ⟨a, st1, e1, e2, e3⟩ => ⟨Keeps.none, ?_⟩
      subst e2; subst e3
      refine pur ?_
      exact Wp.ret (Ret 0 rfl ⟨_, _, by rw [← hR, e1], rfl, rfl⟩)
    · replace h : ((atomicP l st.p && !isP l st.p [40]) && !isP l st.p [91]) = false := h
      rw [if_neg (by rw [h]; decide)] at hR
      refine pur ?_
      refine S.makeFuncM rfl (.cons rfl (by infer_instance) .nil) .nil ?_
      refine WpO.callP Tryz.call185 rfl rfl (brackets_ct b l en st hl hv (fvM b 186 Tryz.call186) 32 31 30 _ (st.p + 1) (f1_pat b l en hr hm) (hr.one .pat) (Nat.le_refl _) _ trivial) (fun v L' e => perr0 (by rw [← hR]; exact e) (LeL.refl _)) fun v L' ⟨a, st1, e1, e2, e3⟩ => ⟨Keeps.none, ?_⟩
      subst e2; subst e3
      refine pur ?_
      exact Wp.ret (Ret 0 rfl ⟨_, _, by rw [← hR, e1], rfl, rfl⟩)
set_option maxHeartbeats 1000000 in
theorem atom1_ct {s : Sym} {p : Nat} (hr : Rec b l en m rec) (hm : measS l s p < m + 1) (b1 : Nat) : F1 b l en (fvC b b1 238 Tryz.call238) (p + 1) (rec (.expr 0)) := fun st M hv hp hE => by
  generalize hR : rec (.expr 0) st = R
  refine Ct.body Tryz.func238 rfl Tryz.ntmps238 Tryz.results238 rfl ?_
  refine pur ?_
  refine WpO.callP Tryz.call187 rfl rfl (hr.ct (.expr 0) st M hv (meas_lt hm hp hv.1)) (fun v L' e => perr0 (by rw [← hR]; exact e) (LeL.refl _)) fun v L' ⟨a, st1, e1, e2, e3⟩ => ⟨Keeps.none, ?_⟩
  subst e2; subst e3
  refine pur ?_
  exact Wp.ret (Ret 0 rfl ⟨_, _, by rw [← hR, e1], rfl, rfl⟩)
set_option maxHeartbeats 4000000 in
theorem atom_ct2 (hl : l.length ≤ 8000) (hr : Rec b l en m rec) (hv : Iv l st) (hm : measS l .atom st.p < m + 1) (M : List Assn) : Ct Tryz.prog 228 #[.pointer (some ⟨b, 0, none⟩)] (pA b l en st :: M) (RA b l en (body l en rec .atom st) vN M) := by
  generalize hR : body l en rec .atom st = R
  simp only [body] at hR
  refine Ct.body Tryz.func228 rfl Tryz.ntmps228 Tryz.results228 rfl ?_
  refine pur ?_
  refine WpO.box rfl rfl rfl (fun _ => Keeps.none) fun b1 => ?_
  refine WpO.parts (L' := pA b l en st :: ptA b1 70 [.pointer (some ⟨b, 0, none⟩)] :: M) (fun _ s => s.swap) ?_
  refine pur ?_
  refine WpO.callq Tryz.call183 rfl rfl (atomic_ct b l en st hv.1 _) Keeps.none ?_
  refine pur ?_
  refine WpO.callqg Tryz.call71 rfl rfl (.cons rfl (by infer_instance) (.cons rfl (by infer_instance) .nil)) (fun _ => is_ct b l en st ⟨#[40]⟩ _) Keeps.none ?_
  refine pur ?_
  refine WpO.callqg Tryz.call71 rfl rfl (.cons rfl (by infer_instance) (.cons rfl (by infer_instance) .nil)) (fun _ => is_ct b l en st ⟨#[91]⟩ _) Keeps.none ?_
  refine pur ?_
  refine Wp.branch rfl (fun h => ?_) (fun h => ?_)
  · replace h : ((atomicP l st.p && !isP l st.p [40]) && !isP l st.p [91]) = true := h
    rw [if_pos h] at hR
    obtain ⟨k, hk, hk1⟩ := begin_tok h
    refine pur ?_
    refine WpO.buildSlice rfl rfl rfl rfl rfl rfl rfl (fun _ => Keeps.none) fun b2 => ?_
    refine WpO.callP Tryz.call184 rfl rfl (leaf_ct b l en st hl hv 1 2 3 4 5 b2 k hk hk1 _) (fun v L' e => perr0 (by rw [← hR]; exact e) (LeL.drop 1 _)) fun v L' ⟨a, st1, e1, e2, e3⟩ => ⟨Keeps.none, ?_⟩
    subst e2; subst e3
    refine pur ?_
    exact Wp.ret (RetL rfl (LeL.cons fun _ s => s.tail) ⟨_, _, by rw [← hR, e1], rfl, rfl⟩)
  · replace h : ((atomicP l st.p && !isP l st.p [40]) && !isP l st.p [91]) = false := h
    rw [if_neg (by rw [h]; decide)] at hR
    refine pur ?_
    refine S.makeFuncM rfl .nil (.cons rfl (by infer_instance) .nil) ?_
    refine WpO.callP Tryz.call185 rfl rfl (brackets_ct b l en st hl hv (fvC b b1 238 Tryz.call238) 12 11 2 _ (st.p + 1) (atom1_ct b l en hr hm b1) (hr.one (.expr 0)) (Nat.le_refl _) _ (Ent.pt 0 1 rfl rfl)) (fun v L' e => perr0 (by rw [← hR]; exact e) (LeL.drop 1 _)) fun v L' ⟨a, st1, e1, e2, e3⟩ => ⟨Keeps.none, ?_⟩
    subst e2; subst e3
    refine pur ?_
    exact Wp.ret (RetL rfl (LeL.cons fun _ s => s.tail) ⟨_, _, by rw [← hR, e1], rfl, rfl⟩)
end
end Go.Proofs.YtikgokpbhldlnaaGreatDoor
end
section
/- The parser's walk: case, operands, right sides. -/
namespace Go.Proofs.YtikgokpbhldlnaaGreatDoor
open Go Go.Ab
attribute [local irreducible] Wp WpO Qt OpT Ct Ent
theorem ints_scalar (ks : List Nat) : (ints (ik ks)).flatten.all scalar = true := by
  rw [List.all_eq_true]
  intro v hv
  simp only [ints, ik, List.map_map, List.mem_flatten, List.mem_map, Function.comp_apply] at hv
  obtain ⟨w, ⟨a, _, rfl⟩, hw⟩ := hv
  obtain rfl : v = _ := List.mem_singleton.1 hw
  rfl
section
variable (b : Nat) (l : List Tok) (en : Nat) (st : PS) {m : Nat} {rec : Sym → Pr Nat}
set_option maxHeartbeats 2000000 in
theorem alt_ct {s : Sym} {p : Nat} (hl : l.length ≤ 8000) (hr : Rec b l en m rec) (hm : measS l s p < m + 1) (b1 : Nat) : F1 b l en (fvC b b1 237 Tryz.call237) (p + 1) (altF rec) := fun st M hv hp hE => by
  generalize hR : altF rec st = R
  unfold altF at hR
  refine Ct.body Tryz.func237 rfl Tryz.ntmps237 Tryz.results237 rfl ?_
  refine pur ?_
  refine WpO.callP Tryz.call186 rfl rfl (hr.ct .pat st _ hv (meas_lt hm hp hv.1)) (fun v L' e => perr hR e (LeL.refl _)) fun v L' ⟨a, st1, e1, e2, e3⟩ => ⟨Keeps.none, ?_⟩
  subst e2; subst e3
  replace hR := pok hR e1
  have gst1 := (hr.one .pat _ _ _ hv.1 e1).1
  have hv1 := hv.gr gst1 (by omega)
  have hp1 := gst1.p
  refine pur ?_
  refine Wp.draw rfl [0,1,2,3,4,5,6] 5 5 M rfl (by decide +kernel) (fun _ h => h.tail) ?_
  refine pur ?_
  refine WpO.callP Tryz.call140 rfl rfl (hr.ct (.rhs [45, 62]) st1 M hv1 (meas_lt hm (by omega) hv1.1)) (fun v L' e => perr hR e (LeL.refl _)) fun v L' ⟨a2, st2, e1, e2, e3⟩ => ⟨by subst e3; exact Keeps.by fun _ h => h.tail, ?_⟩
  subst e2; subst e3
  replace hR := pok hR e1
  have gst2 := (hr.one (.rhs [45, 62]) _ _ _ hv1.1 e1).1
  refine WpO.buildSlice rfl rfl rfl rfl rfl rfl rfl (fun _ => Keeps.by fun _ h => h.tail.tail) fun b6 => ?_
  refine WpO.parts (ownOf [a, a2] _ rfl) ?_
  refine WpO.call Tryz.call77 rfl rfl (put_ct2 b l en st2 (hv1.bd hl gst2 (by omega)) 14 ⟨#[]⟩ [a, a2] (some ⟨b6, 0, none⟩, 2) _) fun v L' ⟨e1, e2⟩ => ⟨Keeps.last, ?_⟩
  subst e1; subst e2
  refine pur ?_
  exact Wp.ret (Ret 0 rfl ⟨_, _, hR.symm, rfl, rfl⟩)
set_option maxHeartbeats 4000000 in
theorem cases_ct2 (hl : l.length ≤ 8000) (hr : Rec b l en m rec) (hv : Iv l st) (hm : measS l .cases st.p < m + 1) (M : List Assn) : Ct Tryz.prog 227 #[.pointer (some ⟨b, 0, none⟩)] (pA b l en st :: M) (RA b l en (body l en rec .cases st) vN M) := by
  generalize hR : body l en rec .cases st = R
  simp only [body] at hR
  refine Ct.body Tryz.func227 rfl Tryz.ntmps227 Tryz.results227 rfl ?_
  refine pur ?_
  refine WpO.box rfl rfl rfl (fun _ => Keeps.none) fun b1 => ?_
  refine WpO.parts (L' := pA b l en st :: ptA b1 70 [.pointer (some ⟨b, 0, none⟩)] :: M) (fun _ s => s.swap) ?_
  refine pur ?_
  refine WpO.callP Tryz.call187 rfl rfl (hr.ct (.expr 0) st _ hv (meas_eq hm (by decide))) (fun v L' e => perr hR e (LeL.drop 1 _)) fun v L' ⟨a, st1, e1, e2, e3⟩ => ⟨Keeps.none, ?_⟩
  subst e2; subst e3
  replace hR := pok hR e1
  have gst1 := (hr.one (.expr 0) _ _ _ hv.1 e1).1
  have hv1 := hv.gr gst1 (by omega)
  have hp1 := gst1.p
  refine WpO.buildSlice rfl rfl rfl rfl rfl rfl rfl (fun _ => Keeps.none) fun b6 => ?_
  refine WpO.parts (ownOf [a] _ rfl) ?_
  refine pur ?_
  refine WpO.callP Tryz.call135 rfl rfl (Ct.atp 1 rfl (take_ct b l en st1 hl ⟨#[111, 102]⟩ _)) (fun v L' e => perr hR e (LeL.drop 2 _)) fun v L' ⟨ust2, st2, e1, _, e3⟩ => ⟨Keeps.none, ?_⟩
  subst e3
  replace hR := pok hR e1
  have gst2 := take_gr e1
  dsimp only [List.set]
  have hv2 := hv1.gr gst2 (by omega)
  have hp2 := gst2.p
  refine pur ?_
  refine WpO.callP Tryz.call135 rfl rfl (Ct.atp 1 rfl (take_ct b l en st2 hl ⟨#[123]⟩ _)) (fun v L' e => perr hR e (LeL.drop 2 _)) fun v L' ⟨ust3, st3, e1, _, e3⟩ => ⟨Keeps.none, ?_⟩
  subst e3
  replace hR := pok hR e1
  have gst3 := take_gr e1
  dsimp only [List.set]
  have hv3 := hv2.gr gst3 (by omega)
  have hp3 := gst3.p
  refine pur ?_
  refine S.makeFuncM rfl (.cons rfl (by infer_instance) .nil) .nil ?_
  refine pur ?_
  refine S.makeFuncM rfl .nil (.cons rfl (by infer_instance) .nil) ?_
  refine WpO.callP Tryz.call69 rfl rfl (Ct.pull 1 rfl (semis_ct b l en st3 hl hv3 (fvM b 138 Tryz.call138) (fvC b b1 237 Tryz.call237) _ _ (st.p + 1) (fb_begins l en b) (alt_ct b l en hl hr hm b1) (alt_gr hr.one) (by omega) (ownK (some ⟨b6, 0, none⟩, 1) [a] :: ptA b1 70 [.pointer (some ⟨b, 0, none⟩)] :: M) trivial (Ent.pt 1 1 rfl rfl))) (fun v L' e => perr hR e (LeL.drop 2 _)) fun v L' ⟨ks, st4, e1, k, e2, e3⟩ => ⟨Keeps.none, ?_⟩
  subst e2; subst e3
  replace hR := pok hR e1
  obtain ⟨mm, hmm, g4, _⟩ := semis_gr (alt_gr hr.one) _ _ _ _ _ hv3.1 (fun k hk => by cases hk) e1
  have hv4 := hv3.gr g4 (by omega)
  have hp4 := g4.p
  have hkl : ks.length ≤ 8000 := by have := hv4.1; simp only [List.length_nil] at hmm; omega
  refine pur ?_
  refine Wp.branch rfl (fun h => ?_) (fun h => ?_)
  · have h' : ks.length = 0 := by have := of_decide_eq_true h; omega
    rw [if_pos h'] at hR
    refine pur ?_
    refine WpO.callP Tryz.call76 rfl rfl (Ct.pull 1 rfl (fail_ct b l en st4 8 _)) (fun v L' ⟨e1, e2⟩ => perr0 (M' := ownK k ks :: ownK (some ⟨b6, 0, none⟩, 1) [a] :: ptA b1 70 [.pointer (some ⟨b, 0, none⟩)] :: M) ⟨_, hR.symm, e1, e2⟩ (LeL.drop 3 _)) fun v L' e => e.elim
  have h' : ¬ ks.length = 0 := by have := of_decide_eq_false h; omega
  rw [if_neg h'] at hR
  refine pur ?_
  refine WpO.callP Tryz.call135 rfl rfl (Ct.atp 1 rfl (take_ct b l en st4 hl ⟨#[125]⟩ _)) (fun v L' e => perr hR e (LeL.drop 3 _)) fun v L' ⟨ust5, st5, e1, _, e3⟩ => ⟨Keeps.none, ?_⟩
  subst e3
  replace hR := pok hR e1
  have gst5 := take_gr e1
  dsimp only [List.set]
  refine pur ?_
  refine Wp.draw rfl [0,1,2,3,4,5] 4 4 [ptA b1 70 [.pointer (some ⟨b, 0, none⟩)], ownK k ks] rfl (by decide +kernel) (fun _ s => (Sat.take (M := [_, _]) (L := pA b l en st5 :: ownK (some ⟨b6, 0, none⟩, 1) [a] :: M) (Sat.pull (i := 3) rfl s))) ?_
  refine pur ?_
  refine WpO.know (fun k hs => own_know 0 rfl hs) fun hkn => ?_
  refine WpO.append 2 (ints (ik ks)) rfl rfl rfl rfl rfl (ints_len ks).symm (Sl.own 0 rfl hkn) rfl (ints_scalar ks) rfl (by simp only [List.length_cons, List.length_nil, ints_len]; omega) (fun _ _ => Keeps.by fun _ s => Sat.take (M := [_, _]) (L := pA b l en st5 :: _ :: M) (Sat.pull (i := 3) rfl s)) fun a2 k2 => ?_
  dsimp only [List.set]
  rw [show ints (ik [a]) ++ ints (ik ks) = ints (ik (a :: ks)) from by simp [ints, ik], ints_len]
  refine WpO.parts (L' := ownK (a2, k2) (a :: ks) :: pA b l en st5 :: ptA b1 70 [.pointer (some ⟨b, 0, none⟩)] :: M) (fun _ s => Sat.swap s.tail) ?_
  refine WpO.call Tryz.call77 rfl rfl (put_ct2 b l en st5 (hv4.bd hl gst5 (by omega)) 10 ⟨#[]⟩ (a :: ks) (a2, k2) _) fun v L' ⟨e1, e2⟩ => ⟨Keeps.last, ?_⟩
  subst e1; subst e2
  refine pur ?_
  exact Wp.ret (RetL rfl (LeL.cons fun _ s => s.tail) ⟨_, _, hR.symm, rfl, rfl⟩)
set_option maxHeartbeats 4000000 in
theorem operand_ct2 (hl : l.length ≤ 8000) (hr : Rec b l en m rec) (hv : Iv l st) (hm : measS l .operand st.p < m + 1) (M : List Assn) : Ct Tryz.prog 209 #[.pointer (some ⟨b, 0, none⟩)] (pA b l en st :: M) (RA b l en (body l en rec .operand st) vN M) := by
  generalize hR : body l en rec .operand st = R
  simp only [body] at hR
  refine Ct.body Tryz.func209 rfl Tryz.ntmps209 Tryz.results209 rfl ?_
  refine pur ?_
  refine WpO.call Tryz.call130 rfl rfl (skip_ct2 b l en st hl ⟨#[92]⟩ _) fun v L' ⟨e1, e2⟩ => ⟨Keeps.none, ?_⟩
  subst e1; subst e2
  refine pur ?_
  refine Wp.branch rfl (fun h => ?_) (fun h => ?_)
  · replace h : isP l st.p [92] = true := h
    rw [if_pos h] at hR
    rw [show isP l st.p (bs ⟨#[92]⟩) = true from h, if_pos rfl]
    have ga := adv_gr (isP_lt h)
    have hva := hv.gr ga (by omega)
    refine pur ?_
    refine WpO.callP Tryz.call139 rfl rfl (hr.ct .apat (adv st) _ hva (meas_lt hm (Nat.le_refl _) hva.1)) (fun v L' e => perr hR e (LeL.refl _)) fun v L' ⟨a, st1, e1, e2, e3⟩ => ⟨Keeps.none, ?_⟩
    subst e2; subst e3
    replace hR := pok hR e1
    have gst1 := (hr.one .apat _ _ _ hva.1 e1).1
    have hv1 := hva.gr gst1 (by omega)
    have hp1 : st.p + 1 + 1 ≤ st1.p := gst1.p
    refine WpO.buildSlice rfl rfl rfl rfl rfl rfl rfl (fun _ => Keeps.none) fun b6 => ?_
    refine WpO.parts (ownOf [a] _ rfl) ?_
    refine pur ?_
    refine Wp.loopI (α := Nat × List Nat × PS × (Option Addr × Nat)) (8, [a], st1, (some ⟨b6, 0, none⟩, 1)) (fun z => [(0, .v (.pointer (some ⟨b, 0, none⟩))), (3, .v (.slice z.2.2.2.1 z.2.1.length z.2.2.2.2))])
      (fun z => ownK z.2.2.2 z.2.1 :: pA b l en z.2.2.1 :: M) (fun z => z.1) (fun z => Iv l z.2.2.1 ∧ st.p + 1 ≤ z.2.2.1.p ∧ z.2.1.length ≤ 8 ∧ z.1 + z.2.1.length = 9 ∧ (bindP (manyF l en (beginsP l) (rec .apat) z.1 z.2.1 z.2.2.1) fun kids st => bindP (takeP l en [45, 62] st) fun _ st => bindP (rec (.expr 0) st) fun e st => putP 7 [] (kids ++ [e]) st) = R) ⟨hv1, by simp only []; omega, by simp, by simp, hR⟩ ⟨rfl, rfl, trivial⟩ (LeL.refl _) ?_
    rintro ⟨f, kids, st2, k⟩ ⟨q1, q2, q3, q4, hR⟩
    simp only [] at q1 q2 q3 q4 hR
    obtain ⟨g, rfl⟩ : ∃ g, f = g + 1 := ⟨f - 1, by omega⟩
    rw [manyF] at hR
    refine pur ?_
    refine WpO.callq Tryz.call138 rfl rfl (Ct.atq 1 rfl (begins_ct b l en st2 q1.1 _)) Keeps.none ?_
    refine pur ?_
    refine Wp.branch rfl (fun h => ?_) (fun h => ?_)
    · rw [if_pos h] at hR
      refine pur ?_
      refine Wp.branch rfl (fun h8 => ?_) (fun h8 => ?_)
      · have h8' : kids.length = 8 := by have : ((kids.length : Nat) : Int) = 8 := of_decide_eq_true h8; omega
        rw [if_pos h8'] at hR
        refine pur ?_
        refine WpO.callP Tryz.call76 rfl rfl (Ct.pull 1 rfl (fail_ct b l en st2 11 _)) (fun v L' ⟨e1, e2⟩ => perr0 (M' := ownK k kids :: M) ⟨_, hR.symm, e1, e2⟩ (LeL.drop 1 _)) fun v L' e => e.elim
      · have h8' : ¬ kids.length = 8 := by have : ¬ ((kids.length : Nat) : Int) = 8 := of_decide_eq_false h8; omega
        rw [if_neg h8', bind_assoc] at hR
        refine pur ?_
        refine WpO.callP Tryz.call139 rfl rfl (Ct.atp 1 rfl (hr.ct .apat st2 _ q1 (meas_lt hm (by omega) q1.1))) (fun v L' e => perr hR e (LeL.drop 1 _)) fun v L' ⟨a2, st3, e1, e2, e3⟩ => ⟨Keeps.none, ?_⟩
        subst e2; subst e3
        replace hR := pok hR e1
        have gst3 := (hr.one .apat _ _ _ q1.1 e1).1
        dsimp only [List.set]
        refine WpO.buildSlice rfl rfl rfl rfl rfl rfl rfl (fun _ => Keeps.none) fun b6 => ?_
        refine WpO.appendLit 0 [[.int .i64 ((a2 : Nat) : Int)]] rfl rfl rfl rfl (ints_len kids).symm rfl rfl rfl rfl rfl rfl rfl (by rw [ints_len]; simp; omega) (fun _ _ => Keeps.none) fun a3 k2 => ?_
        rw [ints_snoc, ints_len]
        refine pur ?_
        have hp3 := gst3.p
        exact Round.mk (g, kids ++ [a2], st3, (a3, k2)) (Nat.lt_succ_self _) ⟨q1.gr gst3 (by omega), by simp only []; omega, by simp; omega, by simp; omega, hR⟩ ⟨rfl, rfl, trivial⟩ (LeL.refl _)
    · rw [if_neg (by rw [h]; decide)] at hR
      replace hR : (bindP (takeP l en [45, 62] st2) fun _ st => bindP (rec (.expr 0) st) fun e st => putP 7 [] (kids ++ [e]) st) = R := hR
      refine pur ?_
      refine WpO.callP Tryz.call135 rfl rfl (Ct.atp 1 rfl (take_ct b l en st2 hl ⟨#[45, 62]⟩ _)) (fun v L' e => perr hR e (LeL.drop 1 _)) fun v L' ⟨ust3, st3, e1, _, e3⟩ => ⟨Keeps.none, ?_⟩
      subst e3
      replace hR := pok hR e1
      have gst3 := take_gr e1
      dsimp only [List.set]
      have hv3 := q1.gr gst3 (by omega)
      have hp3 := gst3.p
      refine pur ?_
      refine WpO.callP Tryz.call187 rfl rfl (Ct.atp 1 rfl (hr.ct (.expr 0) st3 _ hv3 (meas_lt hm (by omega) hv3.1))) (fun v L' e => perr hR e (LeL.drop 1 _)) fun v L' ⟨a4, st4, e1, e2, e3⟩ => ⟨Keeps.none, ?_⟩
      subst e2; subst e3
      replace hR := pok hR e1
      have gst4 := (hr.one (.expr 0) _ _ _ hv3.1 e1).1
      dsimp only [List.set]
      refine WpO.buildSlice rfl rfl rfl rfl rfl rfl rfl (fun _ => Keeps.none) fun b6 => ?_
      refine WpO.appendLit 0 [[.int .i64 ((a4 : Nat) : Int)]] rfl rfl rfl rfl (ints_len kids).symm rfl rfl rfl rfl rfl rfl rfl (by rw [ints_len]; simp; omega) (fun _ _ => Keeps.none) fun a2 k2 => ?_
      rw [ints_snoc, ints_len]
      refine WpO.call Tryz.call77 rfl rfl (put_ct2 b l en st4 (hv3.bd hl gst4 (by omega)) 7 ⟨#[]⟩ (kids ++ [a4]) (a2, k2) _) fun v L' ⟨e1, e2⟩ => ⟨Keeps.none, ?_⟩
      subst e1; subst e2
      refine pur ?_
      exact Wp.ret (Ret 0 rfl ⟨_, _, hR.symm, rfl, rfl⟩)
  replace h : isP l st.p [92] = false := h
  rw [if_neg (by rw [h]; decide)] at hR
  rw [show isP l st.p (bs ⟨#[92]⟩) = false from h, if_neg (by decide)]
  refine pur ?_
  refine WpO.call Tryz.call130 rfl rfl (skip_ct2 b l en st hl ⟨#[108, 101, 116]⟩ _) fun v L' ⟨e1, e2⟩ => ⟨Keeps.none, ?_⟩
  subst e1; subst e2
  refine pur ?_
  refine Wp.branch rfl (fun h2 => ?_) (fun h2 => ?_)
  · replace h2 : isP l st.p [108, 101, 116] = true := h2
    rw [if_pos h2] at hR
    rw [show isP l st.p (bs ⟨#[108, 101, 116]⟩) = true from h2, if_pos rfl]
    have ga := adv_gr (isP_lt h2)
    have hva := hv.gr ga (by omega)
    refine pur ?_
    refine WpO.callP Tryz.call188 rfl rfl (hr.ct .decls (adv st) _ hva (meas_lt hm (Nat.le_refl _) hva.1)) (fun v L' e => perr hR e (LeL.refl _)) fun v L' ⟨a, st1, e1, e2, e3⟩ => ⟨Keeps.none, ?_⟩
    subst e2; subst e3
    replace hR := pok hR e1
    have gst1 := (hr.one .decls _ _ _ hva.1 e1).1
    have hv1 := hva.gr gst1 (by omega)
    have hp1 : st.p + 1 + 1 ≤ st1.p := gst1.p
    refine pur ?_
    refine WpO.callP Tryz.call135 rfl rfl (take_ct b l en st1 hl ⟨#[105, 110]⟩ _) (fun v L' e => perr hR e (LeL.refl _)) fun v L' ⟨ust2, st2, e1, _, e3⟩ => ⟨Keeps.none, ?_⟩
    subst e3
    replace hR := pok hR e1
    have gst2 := take_gr e1
    have hv2 := hv1.gr gst2 (by omega)
    have hp2 := gst2.p
    refine pur ?_
    refine WpO.callP Tryz.call187 rfl rfl (hr.ct (.expr 0) st2 _ hv2 (meas_lt hm (by omega) hv2.1)) (fun v L' e => perr hR e (LeL.refl _)) fun v L' ⟨a2, st3, e1, e2, e3⟩ => ⟨Keeps.none, ?_⟩
    subst e2; subst e3
    replace hR := pok hR e1
    have gst3 := (hr.one (.expr 0) _ _ _ hv2.1 e1).1
    refine WpO.buildSlice rfl rfl rfl rfl rfl rfl rfl (fun _ => Keeps.none) fun b6 => ?_
    refine WpO.parts (ownOf [a, a2] _ rfl) ?_
    refine WpO.call Tryz.call77 rfl rfl (put_ct2 b l en st3 (hv2.bd hl gst3 (by omega)) 8 ⟨#[]⟩ [a, a2] (some ⟨b6, 0, none⟩, 2) _) fun v L' ⟨e1, e2⟩ => ⟨Keeps.none, ?_⟩
    subst e1; subst e2
    refine pur ?_
    exact Wp.ret (Ret 0 rfl ⟨_, _, hR.symm, rfl, rfl⟩)
  replace h2 : isP l st.p [108, 101, 116] = false := h2
  rw [if_neg (by rw [h2]; decide)] at hR
  rw [show isP l st.p (bs ⟨#[108, 101, 116]⟩) = false from h2, if_neg (by decide)]
  refine pur ?_
  refine WpO.call Tryz.call130 rfl rfl (skip_ct2 b l en st hl ⟨#[105, 102]⟩ _) fun v L' ⟨e1, e2⟩ => ⟨Keeps.none, ?_⟩
  subst e1; subst e2
  refine pur ?_
  refine Wp.branch rfl (fun h3 => ?_) (fun h3 => ?_)
  · replace h3 : isP l st.p [105, 102] = true := h3
    rw [if_pos h3] at hR
    rw [show isP l st.p (bs ⟨#[105, 102]⟩) = true from h3, if_pos rfl]
    have ga := adv_gr (isP_lt h3)
    have hva := hv.gr ga (by omega)
    refine pur ?_
    refine WpO.callP Tryz.call187 rfl rfl (hr.ct (.expr 0) (adv st) _ hva (meas_lt hm (Nat.le_refl _) hva.1)) (fun v L' e => perr hR e (LeL.refl _)) fun v L' ⟨a, st1, e1, e2, e3⟩ => ⟨Keeps.none, ?_⟩
    subst e2; subst e3
    replace hR := pok hR e1
    have gst1 := (hr.one (.expr 0) _ _ _ hva.1 e1).1
    have hv1 := hva.gr gst1 (by omega)
    have hp1 : st.p + 1 + 1 ≤ st1.p := gst1.p
    refine pur ?_
    refine WpO.callP Tryz.call135 rfl rfl (take_ct b l en st1 hl ⟨#[116, 104, 101, 110]⟩ _) (fun v L' e => perr hR e (LeL.refl _)) fun v L' ⟨ust2, st2, e1, _, e3⟩ => ⟨Keeps.none, ?_⟩
    subst e3
    replace hR := pok hR e1
    have gst2 := take_gr e1
    have hv2 := hv1.gr gst2 (by omega)
    have hp2 := gst2.p
    refine pur ?_
    refine WpO.callP Tryz.call187 rfl rfl (hr.ct (.expr 0) st2 _ hv2 (meas_lt hm (by omega) hv2.1)) (fun v L' e => perr hR e (LeL.refl _)) fun v L' ⟨a2, st3, e1, e2, e3⟩ => ⟨Keeps.none, ?_⟩
    subst e2; subst e3
    replace hR := pok hR e1
    have gst3 := (hr.one (.expr 0) _ _ _ hv2.1 e1).1
    have hv3 := hv2.gr gst3 (by omega)
    have hp3 := gst3.p
    refine pur ?_
    refine WpO.callP Tryz.call135 rfl rfl (take_ct b l en st3 hl ⟨#[101, 108, 115, 101]⟩ _) (fun v L' e => perr hR e (LeL.refl _)) fun v L' ⟨ust4, st4, e1, _, e3⟩ => ⟨Keeps.none, ?_⟩
    subst e3
    replace hR := pok hR e1
    have gst4 := take_gr e1
    have hv4 := hv3.gr gst4 (by omega)
    have hp4 := gst4.p
    refine pur ?_
    refine WpO.callP Tryz.call187 rfl rfl (hr.ct (.expr 0) st4 _ hv4 (meas_lt hm (by omega) hv4.1)) (fun v L' e => perr hR e (LeL.refl _)) fun v L' ⟨a3, st5, e1, e2, e3⟩ => ⟨Keeps.none, ?_⟩
    subst e2; subst e3
    replace hR := pok hR e1
    have gst5 := (hr.one (.expr 0) _ _ _ hv4.1 e1).1
    refine WpO.buildSlice rfl rfl rfl rfl rfl rfl rfl (fun _ => Keeps.none) fun b6 => ?_
    refine WpO.parts (ownOf [a, a2, a3] _ rfl) ?_
    refine WpO.call Tryz.call77 rfl rfl (put_ct2 b l en st5 (hv4.bd hl gst5 (by omega)) 9 ⟨#[]⟩ [a, a2, a3] (some ⟨b6, 0, none⟩, 3) _) fun v L' ⟨e1, e2⟩ => ⟨Keeps.none, ?_⟩
    subst e1; subst e2
    refine pur ?_
    exact Wp.ret (Ret 0 rfl ⟨_, _, hR.symm, rfl, rfl⟩)
  replace h3 : isP l st.p [105, 102] = false := h3
  rw [if_neg (by rw [h3]; decide)] at hR
  rw [show isP l st.p (bs ⟨#[105, 102]⟩) = false from h3, if_neg (by decide)]
  refine pur ?_
  refine WpO.call Tryz.call130 rfl rfl (skip_ct2 b l en st hl ⟨#[99, 97, 115, 101]⟩ _) fun v L' ⟨e1, e2⟩ => ⟨Keeps.none, ?_⟩
  subst e1; subst e2
  refine pur ?_
  refine Wp.branch rfl (fun h4 => ?_) (fun h4 => ?_)
  · replace h4 : isP l st.p [99, 97, 115, 101] = true := h4
    rw [if_pos h4] at hR
    rw [show isP l st.p (bs ⟨#[99, 97, 115, 101]⟩) = true from h4, if_pos rfl]
    have ga := adv_gr (isP_lt h4)
    have hva := hv.gr ga (by omega)
    refine pur ?_
    refine WpO.callP Tryz.call227 rfl rfl (hr.ct .cases (adv st) _ hva (meas_lt hm (Nat.le_refl _) hva.1)) (fun v L' e => perr0 (by rw [← hR]; exact e) (LeL.refl _)) fun v L' ⟨a, st1, e1, e2, e3⟩ => ⟨Keeps.none, ?_⟩
    subst e2; subst e3
    refine pur ?_
    exact Wp.ret (Ret 0 rfl ⟨_, _, by rw [← hR, e1], rfl, rfl⟩)
  replace h4 : isP l st.p [99, 97, 115, 101] = false := h4
  rw [if_neg (by rw [h4]; decide)] at hR
  rw [show isP l st.p (bs ⟨#[99, 97, 115, 101]⟩) = false from h4, if_neg (by decide)]
  refine pur ?_
  refine WpO.callP Tryz.call228 rfl rfl (hr.ct .atom st _ hv (meas_eq hm (by decide))) (fun v L' e => perr hR e (LeL.refl _)) fun v L' ⟨a, st1, e1, e2, e3⟩ => ⟨Keeps.none, ?_⟩
  subst e2; subst e3
  replace hR := pok hR e1
  have gst1 := (hr.one .atom _ _ _ hv.1 e1).1
  have hv1 := hv.gr gst1 (by omega)
  have hp1 := gst1.p
  refine WpO.buildSlice rfl rfl rfl rfl rfl rfl rfl (fun _ => Keeps.none) fun b6 => ?_
  refine WpO.parts (ownOf [a] _ rfl) ?_
  refine pur ?_
  refine S.makeFuncM rfl (.cons rfl (by infer_instance) .nil) .nil ?_
  refine pur ?_
  refine S.makeFuncM rfl (.cons rfl (by infer_instance) .nil) .nil ?_
  refine WpO.callP Tryz.call133 rfl rfl (Ct.pull 1 rfl (many_ct b l en st1 hl hv1 (fvM b 183 Tryz.call183) (fvM b 228 Tryz.call228) _ _ (st.p + 1) (fb_atomic b l en) (f1_atom b l en hr hm) (hr.one .atom) hp1 (ownK (some ⟨b6, 0, none⟩, 1) [a] :: M) trivial trivial)) (fun v L' e => perr hR e (LeL.drop 1 _)) fun v L' ⟨ks, st2, e1, k, e2, e3⟩ => ⟨Keeps.none, ?_⟩
  subst e2; subst e3
  replace hR := pok hR e1
  obtain ⟨mm, hmm, g2, _⟩ := many_gr (hr.one .atom) _ _ _ _ _ hv1.1 (fun k hk => by cases hk) e1
  have hp2 := g2.p
  have hkl : ks.length ≤ 8000 := by have := g2.e; simp only [List.length_nil] at hmm; omega
  refine WpO.know (fun k hs => own_know 0 rfl hs) fun hkn => ?_
  refine WpO.append 2 (ints (ik ks)) rfl rfl rfl rfl rfl (ints_len ks).symm (Sl.own 0 rfl hkn) rfl (ints_scalar ks) rfl (by simp only [List.length_cons, List.length_nil, ints_len]; omega) (fun _ _ => Keeps.none) fun a2 k2 => ?_
  dsimp only [List.set]
  rw [show ints (ik [a]) ++ ints (ik ks) = ints (ik (a :: ks)) from by simp [ints, ik], ints_len]
  refine WpO.parts (L' := ownK (a2, k2) (a :: ks) :: pA b l en st2 :: M) (fun _ s => Sat.swap s.tail) ?_
  refine pur ?_
  refine Wp.branch rfl (fun h5 => ?_) (fun h5 => ?_)
  · have h5' : ks.length = 0 := by have : (((a :: ks).length : Nat) : Int) = 1 := of_decide_eq_true h5; simp only [List.length_cons] at this; omega
    rw [if_pos h5'] at hR
    obtain rfl := List.length_eq_zero_iff.1 h5'
    refine Wp.know (fun k hs => own_know 0 rfl hs) fun hkn => ?_
    obtain ⟨bk2, ok2, hbk2, _, hE⟩ := ((Sl.own (L := ownK (a2, k2) [a] :: pA b l en st2 :: M) 0 rfl hkn).at (i := 0) (r := [.int .i64 ((a : Nat) : Int)]) (by simp [ints, ik]))
    simp only [] at hbk2
    subst hbk2
    refine pur ?_
    refine S.idx 0 rfl rfl rfl rfl (by simp) ?_
    refine pur ?_
    exact Wp.ret (Ret 1 rfl ⟨_, _, hR.symm, rfl, rfl⟩)
  · have h5' : ¬ ks.length = 0 := by have : ¬ (((a :: ks).length : Nat) : Int) = 1 := of_decide_eq_false h5; simp only [List.length_cons] at this; omega
    rw [if_neg h5'] at hR
    refine pur ?_
    refine WpO.call Tryz.call77 rfl rfl (put_ct2 b l en st2 (hv1.bd hl g2 (by omega)) 6 ⟨#[]⟩ (a :: ks) (a2, k2) _) fun v L' ⟨e1, e2⟩ => ⟨Keeps.none, ?_⟩
    subst e1; subst e2
    refine pur ?_
    exact Wp.ret (Ret 0 rfl ⟨_, _, hR.symm, rfl, rfl⟩)
end
end Go.Proofs.YtikgokpbhldlnaaGreatDoor
end
section
/- The parser's walk: right sides, expressions. -/
namespace Go.Proofs.YtikgokpbhldlnaaGreatDoor
open Go Go.Ab
attribute [local irreducible] Wp WpO Qt OpT Ct Ent
theorem kidG {L : List Assn} {k : Option Addr × Nat} {ks : List Nat} (i : Nat) (hi : L[i]? = some (ownK k ks)) (hk : (ints (ik ks)).length ≤ k.2 ∧ (∀ r ∈ ints (ik ks), r.length = 1) ∧ ((k.1 = none ∧ k.2 = 0 ∧ ints (ik ks) = []) ∨ ∃ b o, k.1 = some ⟨b, o, none⟩)) :
    ∃ bk ok x, ks.length ≠ 0 → ks[0]? = some x ∧ k.1 = some ⟨bk, ok, none⟩ ∧ Ent L (CellsAt bk (ok + 0 * 1) [.int .i64 ((x : Nat) : Int)]) := by
  match ks with
  | [] => exact ⟨0, 0, 0, fun h => absurd rfl h⟩
  | x :: ks' =>
    obtain ⟨bk, ok, e1, _, e3⟩ := (Sl.own i hi hk).at (i := 0) (r := [.int .i64 ((x : Nat) : Int)]) (by simp [ints, ik])
    exact ⟨bk, ok, x, fun _ => ⟨rfl, e1, e3⟩⟩
theorem nodeG {L : List Assn} {q : Option Addr × Nat} {t : List Nd} {ks : List (Option Addr × Nat)} (i : Nat) (hi : L[i]? = some (ownA 36 4 q.1 q.2 (ndRows t ks))) (hk : (ndRows t ks).length ≤ q.2 ∧ (∀ r ∈ ndRows t ks, r.length = 4) ∧ ((q.1 = none ∧ q.2 = 0 ∧ ndRows t ks = []) ∨ ∃ b o, q.1 = some ⟨b, o, none⟩)) (hl : ks.length = t.length) (x : Nat) :
    ∃ bn on nd key, x < t.length → t[x]? = some nd ∧ q.1 = some ⟨bn, on, none⟩ ∧ Ent L (CellsAt bn (on + x * 4) (ndRow nd key)) := by
  rcases Nat.lt_or_ge x t.length with h | h
  · have h1 := List.getElem?_eq_getElem h
    have h2 := List.getElem?_eq_getElem (show x < ks.length by omega)
    obtain ⟨bn, on, e1, _, e3⟩ := (Sl.own i hi hk).at (i := x) (r := ndRow t[x] ks[x]) (by unfold ndRows; rw [List.getElem?_zipWith, h1, h2])
    exact ⟨bn, on, t[x], ks[x], fun _ => ⟨h1, e1, e3⟩⟩
  · exact ⟨0, 0, ⟨0, ⟨#[]⟩, 0, []⟩, (none, 0), fun q => by omega⟩
theorem Ins.gr {l : List Tok} {kids : List Nat} {a c : PS} {k : Nat} {w : Int} (h : Ins kids a) (g : Gr l k w a c) : Ins kids c := h.wk g.len
section
variable (b : Nat) (l : List Tok) (en : Nat) (st : PS) {m : Nat} {rec : Sym → Pr Nat}
theorem takeL_ct (hl : l.length ≤ 8000) (tx : List UInt8) (M : List Assn) : Ct Tryz.prog 135 #[.pointer (some ⟨b, 0, none⟩), .string (ofL tx)] (pA b l en st :: M) (RA b l en (takeP l en tx st) vU M) := by
  have := take_ct b l en st hl (ofL tx) M
  rwa [bs_ofL] at this
set_option maxHeartbeats 8000000 in
theorem rhs_ct2 (hl : l.length ≤ 8000) (hr : Rec b l en m rec) (hv : Iv l st) (sep : List UInt8) (hm : measS l (.rhs sep) st.p < m + 1) (M : List Assn) : Ct Tryz.prog 140 #[.pointer (some ⟨b, 0, none⟩), .string (ofL sep)] (pA b l en st :: M) (RA b l en (body l en rec (.rhs sep) st) vN M) := by
  generalize hR : body l en rec (.rhs sep) st = R
  simp only [body] at hR
  generalize hK : (fun (kids : List Nat) (st : PS) => bindP (if isP l st.p [119, 104, 101, 114, 101] = true then rec .decls (adv st) else putP 18 [] [] st) fun d st => putP 15 [] (kids ++ [d]) st) = K at hR
  refine Ct.body Tryz.func140 rfl Tryz.ntmps140 Tryz.results140 rfl ?_
  refine Wp.seq (Wp.region (S.assign rfl rfl (WpO.nil ?_)))
  refine Wp.seq (Wp.region (S.assign rfl rfl (WpO.nil ?_)))
  refine Wp.cut (α := List Nat × PS × (Option Addr × Nat)) (fun z => [(0, .v (.pointer (some ⟨b, 0, none⟩))), (1, .v (.string (ofL sep))), (5, .v (.slice z.2.2.1 z.1.length z.2.2.2))]) (fun z => ownK z.2.2 z.1 :: pA b l en z.2.1 :: M)
    (fun z => Iv l z.2.1 ∧ st.p ≤ z.2.1.p ∧ Ins z.1 z.2.1 ∧ z.1.length ≤ 1 ∧ (bindP (guardF l en (rec (.expr 0)) sep (l.length + 1) z.1 z.2.1) fun kids st => K kids st) = R) ?_ ?_
  · refine pur ?_
    refine WpO.callq Tryz.call71 rfl rfl (is_ct b l en st ⟨#[124]⟩ M) Keeps.none ?_
    refine pur ?_
    refine Wp.branch rfl (fun h => ?_) (fun h => ?_)
    · replace h : isP l st.p [124] = false := by rwa [Bool.not_eq_true'] at h
      rw [if_neg (by rw [h]; decide), bind_assoc] at hR
      refine pur ?_
      refine WpO.callP Tryz.call135 rfl rfl (takeL_ct b l en st hl sep M) (fun v L' e => perr hR e (LeL.refl _)) fun v L' ⟨u, st1, e1, _, e3⟩ => ⟨Keeps.none, ?_⟩
      subst e3
      replace hR := pok hR e1
      rw [bind_assoc] at hR
      have gst1 := take_gr e1
      have hv1 := hv.gr gst1 (by omega)
      have hp1 := gst1.p
      refine pur ?_
      refine WpO.callP Tryz.call187 rfl rfl (hr.ct (.expr 0) st1 _ hv1 (meas_lt hm (by omega) hv1.1)) (fun v L' e => perr hR e (LeL.refl _)) fun v L' ⟨a, st2, e1, e2, e3⟩ => ⟨Keeps.none, ?_⟩
      subst e2; subst e3
      replace hR := pok hR e1
      have gst2 := (hr.one (.expr 0) _ _ _ hv1.1 e1).1
      have hp2 := gst2.p
      refine WpO.buildSlice rfl rfl rfl rfl rfl rfl rfl (fun _ => Keeps.none) fun b6 => ?_
      refine WpO.parts (ownOf [a] _ rfl) ?_
      refine WpO.call Tryz.call77 rfl rfl (put_ct2 b l en st2 (hv1.bd hl gst2 (by omega)) 17 ⟨#[]⟩ [a] (some ⟨b6, 0, none⟩, 1) M) fun v L' ⟨e1, e2⟩ => ⟨Keeps.none, ?_⟩
      subst e1; subst e2
      replace hR : (bindP (guardF l en (rec (.expr 0)) sep (l.length + 1) [st2.t.length] ⟨st2.t ++ [⟨17, ofL [], 0, ik [a]⟩], st2.p⟩) fun kids st => K kids st) = R := hR
      refine WpO.parts own0 ?_
      refine WpO.buildSlice rfl rfl rfl rfl rfl rfl rfl (fun _ => Keeps.none) fun b7 => ?_
      refine WpO.appendLit 0 [[.int .i64 ((st2.t.length : Nat) : Int)]] rfl rfl rfl rfl (ints_len []).symm rfl rfl rfl rfl rfl rfl rfl (by rw [ints_len]; simp) (fun _ _ => Keeps.none) fun a2 k2 => ?_
      rw [ints_snoc, ints_len]
      refine pur ?_
      have g3 := (put_gr (l := l) (op := 17) (tx := []) (kids := [a]) gst2.e rfl).1
      exact ⟨([st2.t.length], _, (a2, k2)), ⟨hv1.gr (gst2.trans g3) (by omega), by simp only []; omega, Ins.one (by simp), Nat.le_refl _, hR⟩, ⟨rfl, rfl, rfl, trivial⟩, rfl, LeL.refl _⟩
    · replace h : isP l st.p [124] = true := by rwa [Bool.not_eq_false'] at h
      rw [if_pos h] at hR
      refine pur ?_
      exact ⟨([], st, (none, 0)), ⟨hv, Nat.le_refl _, Ins.nil, Nat.zero_le _, hR⟩, ⟨rfl, rfl, rfl, trivial⟩, rfl, fun _ s => Sat.ownNil s⟩
  · rintro ⟨kids0, st0, k0⟩ ⟨r1, r2, r3, r4, r5⟩
    simp only [] at r1 r2 r3 r4 r5
    refine Wp.seq ?_
    refine Wp.block ?_
    refine Wp.loopI (α := Nat × List Nat × PS × (Option Addr × Nat)) (l.length + 1, kids0, st0, k0) (fun z => [(0, .v (.pointer (some ⟨b, 0, none⟩))), (1, .v (.string (ofL sep))), (5, .v (.slice z.2.2.2.1 z.2.1.length z.2.2.2.2))])
      (fun z => ownK z.2.2.2 z.2.1 :: pA b l en z.2.2.1 :: M) (fun z => z.1) (fun z => Iv l z.2.2.1 ∧ st.p ≤ z.2.2.1.p ∧ Ins z.2.1 z.2.2.1 ∧ z.2.1.length ≤ 1 + z.2.2.1.p ∧ l.length + 1 ≤ z.1 + z.2.2.1.p ∧ (bindP (guardF l en (rec (.expr 0)) sep z.1 z.2.1 z.2.2.1) fun kids st => K kids st) = R) ⟨r1, r2, r3, by simp only []; omega, by simp only []; omega, r5⟩ ⟨rfl, rfl, rfl, trivial⟩ (LeL.refl _) ?_
    rintro ⟨f, kids, st1, k⟩ ⟨q1, q2, q3, q4, q5, hR⟩
    simp only [] at q1 q2 q3 q4 q5 hR
    have q1p := q1.1
    have hbnd : kids.length ≤ 8001 := by omega
    obtain ⟨g, rfl⟩ : ∃ g, f = g + 1 := ⟨f - 1, by omega⟩
    rw [guardF] at hR
    show Wp _ _ _ _ [(0, .v (.pointer (some ⟨b, 0, none⟩))), (1, .v (.string (ofL sep))), (5, .v (.slice k.1 kids.length k.2))] [] (ownK k kids :: pA b l en st1 :: M)
    refine Wp.openPA 1 rfl fun q tq ks hks => ?_
    show Wp _ _ _ _ _ _ (pM b l en st1 q tq ks (ownK k kids :: M))
    refine Wp.know (fun k hs => own_know 1 rfl hs) fun hkn1 => ?_
    refine Wp.know (fun k hs => own_know 4 rfl hs) fun hkn4 => ?_
    obtain ⟨bk, ok, x, hX⟩ := kidG (L := pM b l en st1 q tq ks (ownK k kids :: M)) 4 rfl hkn4
    obtain ⟨bn, on, nd, key, hN⟩ := nodeG (L := pM b l en st1 q tq ks (ownK k kids :: M)) 1 rfl hkn1 hks x
    have hxl : kids.length ≠ 0 → x < st1.t.length := fun h => q3 x (List.mem_of_getElem? (hX h).1)
    refine Wp.seq ?_
    refine Wp.seq ?_
    refine Wp.draw rfl [0,1,2,3,4,5,6,7,8,9,10,11,12,13,14,15,16,17,18,19,20] 21 21 (pM b l en st1 q tq ks (ownK k kids :: M)) rfl (by decide +kernel) (fun _ h => h) ?_
    refine pur ?_
    refine WpO.callqg Tryz.call71 rfl rfl (.cons rfl (by infer_instance) (.cons rfl (by infer_instance) .nil)) (fun _ => is_ct0 b l en st1 ⟨#[124]⟩ _ q tq ks) (Keeps.by fun _ h => h) ?_
    refine pur ?_
    have hB : (!decide (((kids.length : Nat) : Int) = 0) && isP l st1.p (bs ⟨#[124]⟩)) = true → kids.length ≠ 0 := fun h => by
      rw [Bool.and_eq_true, Bool.not_eq_true'] at h
      have := of_decide_eq_false h.1
      omega
    refine G.idxO (b := bk) (o := ok) 0 rfl rfl rfl (by infer_instance) rfl (by infer_instance) (fun h => ⟨(hX (hB h)).2.1, rfl, Nat.pos_of_ne_zero (hB h)⟩) ?_
    refine G.loadIf (v := .int .i64 ((x : Nat) : Int)) rfl rfl rfl (by infer_instance) (by infer_instance) (fun h => (hX (hB h)).2.2) ?_
    refine G.idxO (b := bn) (o := on) x rfl rfl rfl (by infer_instance) rfl (by infer_instance) (fun h => ⟨(hN (hxl (hB h))).2.1, rfl, hxl (hB h)⟩) ?_
    refine pur ?_
    refine G.loadIf (v := .int .i64 nd.op) rfl rfl rfl (by infer_instance) (by infer_instance) (fun h => Ent.sub 1 (hN (hxl (hB h))).2.2 rfl) ?_
    refine pur ?_
    have hG : (decide (((kids.length : Nat) : Int) = 0) || (isP l st1.p (bs ⟨#[124]⟩) && decide (nd.op = 16))) = guardB l kids st1 := by
      unfold guardB
      by_cases h0 : kids.length = 0
      · rw [decide_eq_true h0, decide_eq_true (show ((kids.length : Nat) : Int) = 0 by omega)]; rfl
      · rw [decide_eq_false h0, decide_eq_false (show ¬ ((kids.length : Nat) : Int) = 0 by omega)]
        have h1 := (hX h0).1
        have h2 := (hN (hxl h0)).1
        rw [show kids.getD 0 0 = x from by rw [List.getD, h1]; rfl, show st1.t.getD x ⟨0, ⟨#[]⟩, 0, []⟩ = nd from by rw [List.getD, h2]; rfl]
    rw [hG]
    refine Wp.parts (L' := ownK k kids :: pA b l en st1 :: M) (fun _ s => Sat.swap (closePA hks _ s)) ?_
    refine Wp.branch rfl (fun h => ?_) (fun h => ?_)
    · rw [if_pos h, bind_assoc] at hR
      refine pur ?_
      refine WpO.callP Tryz.call135 rfl rfl (Ct.atp 1 rfl (take_ct b l en st1 hl ⟨#[124]⟩ _)) (fun v L' e => perr hR e (LeL.drop 1 _)) fun v L' ⟨ust2, st2, e1, _, e3⟩ => ⟨Keeps.none, ?_⟩
      subst e3
      replace hR := pok hR e1
      have gst2 := take_gr e1
      dsimp only [List.set]
      rw [bind_assoc] at hR
      have hv2 := q1.gr gst2 (by omega)
      have hp2 := gst2.p
      refine pur ?_
      refine WpO.callP Tryz.call187 rfl rfl (Ct.atp 1 rfl (hr.ct (.expr 0) st2 _ hv2 (meas_lt hm (by omega) hv2.1))) (fun v L' e => perr hR e (LeL.drop 1 _)) fun v L' ⟨a, st3, e1, e2, e3⟩ => ⟨Keeps.none, ?_⟩
      subst e2; subst e3
      replace hR := pok hR e1
      have gst3 := (hr.one (.expr 0) _ _ _ hv2.1 e1).1
      dsimp only [List.set]
      rw [bind_assoc] at hR
      have hv3 := hv2.gr gst3 (by omega)
      have hp3 := gst3.p
      refine pur ?_
      refine WpO.callP Tryz.call135 rfl rfl (Ct.atp 1 rfl (takeL_ct b l en st3 hl sep _)) (fun v L' e => perr hR e (LeL.drop 1 _)) fun v L' ⟨ust4, st4, e1, _, e3⟩ => ⟨Keeps.none, ?_⟩
      subst e3
      replace hR := pok hR e1
      have gst4 := take_gr e1
      dsimp only [List.set]
      rw [bind_assoc] at hR
      have hv4 := hv3.gr gst4 (by omega)
      have hp4 := gst4.p
      refine pur ?_
      refine WpO.callP Tryz.call187 rfl rfl (Ct.atp 1 rfl (hr.ct (.expr 0) st4 _ hv4 (meas_lt hm (by omega) hv4.1))) (fun v L' e => perr hR e (LeL.drop 1 _)) fun v L' ⟨a2, st5, e1, e2, e3⟩ => ⟨Keeps.none, ?_⟩
      subst e2; subst e3
      replace hR := pok hR e1
      have gst5 := (hr.one (.expr 0) _ _ _ hv4.1 e1).1
      dsimp only [List.set]
      rw [bind_assoc] at hR
      have hp5 := gst5.p
      refine WpO.buildSlice rfl rfl rfl rfl rfl rfl rfl (fun _ => Keeps.none) fun b6 => ?_
      refine WpO.parts (L' := ownK (some ⟨b6, 0, none⟩, 2) [a, a2] :: pA b l en st5 :: ownK k kids :: M) (fun _ s => Sat.cons_mono (fun _ s => s.swap) (ownOf [a, a2] _ rfl _ s)) ?_
      refine WpO.call Tryz.call77 rfl rfl (put_ct2 b l en st5 (hv4.bd hl gst5 (by omega)) 16 ⟨#[]⟩ [a, a2] (some ⟨b6, 0, none⟩, 2) _) fun v L' ⟨e1, e2⟩ => ⟨Keeps.none, ?_⟩
      subst e1; subst e2
      replace hR : (bindP (guardF l en (rec (.expr 0)) sep g (kids ++ [st5.t.length]) ⟨st5.t ++ [⟨16, ofL [], 0, ik [a, a2]⟩], st5.p⟩) fun kids st => K kids st) = R := hR
      refine WpO.buildSlice rfl rfl rfl rfl rfl rfl rfl (fun _ => Keeps.none) fun b7 => ?_
      refine WpO.appendLit 1 [[.int .i64 ((st5.t.length : Nat) : Int)]] rfl rfl rfl rfl (ints_len kids).symm rfl rfl rfl rfl rfl rfl rfl (by rw [ints_len]; simp; omega) (fun _ _ => Keeps.none) fun a3 k3 => ?_
      rw [ints_snoc, ints_len]
      refine pur ?_
      have g6 := (put_gr (l := l) (op := 16) (tx := []) (kids := [a, a2]) gst5.e rfl).1
      have hi6 := ((((q3.gr gst2).gr gst3).gr gst4).gr gst5).gr g6
      exact Round.mk (g, kids ++ [st5.t.length], ⟨st5.t ++ [⟨16, ofL [], 0, ik [a, a2]⟩], st5.p⟩, (a3, k3)) (Nat.lt_succ_self _) ⟨hv4.gr (gst5.trans g6) (by omega), by simp only []; omega, hi6.snoc (by simp), by simp; omega, by simp only []; omega, hR⟩ ⟨rfl, rfl, rfl, trivial⟩ (fun _ s => s.swap)
    · rw [if_neg (by rw [h]; decide)] at hR
      replace hR : K kids st1 = R := hR
      subst hK
      replace hR : (bindP (if isP l st1.p [119, 104, 101, 114, 101] = true then rec .decls (adv st1) else putP 18 [] [] st1) fun d st => putP 15 [] (kids ++ [d]) st) = R := hR
      have hb1 := q1.bd0 hl
      refine pur ?_
      refine WpO.call Tryz.call130 rfl rfl (Ct.pull 1 rfl (skip_ct2 b l en st1 hl ⟨#[119, 104, 101, 114, 101]⟩ _)) fun v L' ⟨e1, e2⟩ => ⟨Keeps.none, ?_⟩
      subst e1; subst e2
      refine pur ?_
      refine Wp.branch rfl (fun h2 => ?_) (fun h2 => ?_)
      · replace h2 : isP l st1.p [119, 104, 101, 114, 101] = true := h2
        rw [if_pos h2] at hR
        rw [show isP l st1.p (bs ⟨#[119, 104, 101, 114, 101]⟩) = true from h2, if_pos rfl]
        have ga := adv_gr (isP_lt h2)
        have hva := q1.gr ga (by omega)
        refine pur ?_
        refine WpO.callP Tryz.call188 rfl rfl (hr.ct .decls (adv st1) _ hva (meas_lt hm (by show st.p + 1 ≤ st1.p + 1; omega) hva.1)) (fun v L' e => perr hR e (LeL.drop 1 _)) fun v L' ⟨d, st2, e1, e2, e3⟩ => ⟨Keeps.none, ?_⟩
        subst e2; subst e3
        replace hR := pok hR e1
        have gst2 := (hr.one .decls _ _ _ hva.1 e1).1
        refine WpO.buildSlice rfl rfl rfl rfl rfl rfl rfl (fun _ => Keeps.none) fun b6 => ?_
        refine WpO.appendLit 1 [[.int .i64 ((d : Nat) : Int)]] rfl rfl rfl rfl (ints_len kids).symm rfl rfl rfl rfl rfl rfl rfl (by rw [ints_len]; simp; omega) (fun _ _ => Keeps.none) fun a2 k2 => ?_
        rw [ints_snoc, ints_len]
        refine pur ?_
        refine WpO.parts (L' := ownK (a2, k2) (kids ++ [d]) :: pA b l en st2 :: M) (fun _ s => s.swap) ?_
        refine WpO.call Tryz.call77 rfl rfl (put_ct2 b l en st2 (hva.bd hl gst2 (by omega)) 15 ⟨#[]⟩ (kids ++ [d]) (a2, k2) _) fun v L' ⟨e1, e2⟩ => ⟨Keeps.none, ?_⟩
        subst e1; subst e2
        refine pur ?_
        exact Wp.ret (Ret 0 rfl ⟨_, _, hR.symm, rfl, rfl⟩)
      · replace h2 : isP l st1.p [119, 104, 101, 114, 101] = false := h2
        rw [if_neg (by rw [h2]; decide)] at hR
        rw [show isP l st1.p (bs ⟨#[119, 104, 101, 114, 101]⟩) = false from h2, if_neg (by decide)]
        refine pur ?_
        refine WpO.parts own0 ?_
        refine WpO.call Tryz.call77 rfl rfl (put_ct2 b l en st1 hb1 18 ⟨#[]⟩ [] (none, 0) _) fun v L' ⟨e1, e2⟩ => ⟨Keeps.none, ?_⟩
        subst e1; subst e2
        have g6 := (put_gr (l := l) (op := 18) (tx := []) (kids := []) q1.1 rfl).1
        refine WpO.buildSlice rfl rfl rfl rfl rfl rfl rfl (fun _ => Keeps.none) fun b6 => ?_
        refine WpO.appendLit 1 [[.int .i64 ((st1.t.length : Nat) : Int)]] rfl rfl rfl rfl (ints_len kids).symm rfl rfl rfl rfl rfl rfl rfl (by rw [ints_len]; simp; omega) (fun _ _ => Keeps.none) fun a2 k2 => ?_
        rw [ints_snoc, ints_len]
        refine pur ?_
        refine WpO.parts (L' := ownK (a2, k2) (kids ++ [st1.t.length]) :: pA b l en ⟨st1.t ++ [⟨18, ofL [], 0, ik []⟩], st1.p⟩ :: M) (fun _ s => s.swap) ?_
        refine WpO.call Tryz.call77 rfl rfl (put_ct2 b l en ⟨st1.t ++ [⟨18, ofL [], 0, ik []⟩], st1.p⟩ (q1.bd hl g6 (by omega)) 15 ⟨#[]⟩ (kids ++ [st1.t.length]) (a2, k2) _) fun v L' ⟨e1, e2⟩ => ⟨Keeps.none, ?_⟩
        subst e1; subst e2
        refine pur ?_
        exact Wp.ret (Ret 0 rfl ⟨_, _, hR.symm, rfl, rfl⟩)
theorem opP_mem {l : List Tok} {p : Nat} {o : List UInt8 × Int × Int} (h : opP l p = some o) : p < l.length ∧ 0 ≤ o.2.1 ∧ o.2.1 ≤ 9 := by
  unfold opP at h
  have h1 := List.find?_some h
  rw [Bool.and_eq_true] at h1
  have : ∀ o ∈ opList, 0 ≤ o.2.1 ∧ o.2.1 ≤ 9 := by decide
  exact ⟨isP_lt h1.2, this o (List.mem_of_find?_eq_some h)⟩
set_option maxHeartbeats 8000000 in
theorem expr_ct2 (hl : l.length ≤ 8000) (hr : Rec b l en m rec) (hv : Iv l st) (lv : Int) (hm : measS l (.expr lv) st.p < m + 1) (M : List Assn) : Ct Tryz.prog 187 #[.pointer (some ⟨b, 0, none⟩), .int .i64 lv] (pA b l en st :: M) (RA b l en (body l en rec (.expr lv) st) vN M) := by
  generalize hR : body l en rec (.expr lv) st = R
  simp only [body] at hR
  refine Ct.body Tryz.func187 rfl Tryz.ntmps187 Tryz.results187 rfl ?_
  refine pur ?_
  refine WpO.callP Tryz.call209 rfl rfl (hr.ct .operand st _ hv (meas_eq hm (by show 6 < 7; decide))) (fun v L' e => perr hR e (LeL.refl _)) fun v L' ⟨a0, st0, e1, e2, e3⟩ => ⟨Keeps.none, ?_⟩
  subst e2; subst e3
  replace hR := pok hR e1
  have gst0 := (hr.one .operand _ _ _ hv.1 e1).1
  refine pur ?_
  refine Wp.loopI (α := Nat × Nat × PS) (l.length + 1, a0, st0) (fun z => [(0, .v (.pointer (some ⟨b, 0, none⟩))), (1, .v (.int .i64 lv)), (5, .v (.int .i64 (z.2.1 : Nat)))])
    (fun z => pA b l en z.2.2 :: M) (fun z => z.1) (fun z => Iv l z.2.2 ∧ st.p + 1 ≤ z.2.2.p ∧ l.length + 1 ≤ z.1 + z.2.2.p ∧ exprF l en (fun v => rec (.expr v)) lv z.1 z.2.1 z.2.2 = R) ⟨hv.gr gst0 (by omega), gst0.p, by simp only []; omega, hR⟩ ⟨rfl, rfl, rfl, trivial⟩ (LeL.refl _) ?_
  rintro ⟨f, a, st1⟩ ⟨q1, q2, q3, hR⟩
  simp only [] at q1 q2 q3 hR
  have q1p := q1.1
  obtain ⟨g, rfl⟩ : ∃ g, f = g + 1 := ⟨f - 1, by omega⟩
  rw [exprF] at hR
  have hop := operator_ct2 b l en st1 q1.1 M
  cases ho : opP l st1.p with
  | none =>
    rw [ho] at hop hR
    simp only [] at hR
    refine pur ?_
    refine WpO.callq Tryz.call210 rfl rfl hop Keeps.none ?_
    refine pur ?_
    refine WpO.alloc rfl rfl (fun _ => Keeps.none) fun b6 => ?_
    refine pur ?_
    exact Wp.ret (Ret 1 rfl ⟨a, st1, hR.symm, rfl, rfl⟩)
  | some o =>
    obtain ⟨hlt, ho1, ho2⟩ := opP_mem ho
    rw [ho] at hop hR
    simp only [] at hR
    have ga := adv_gr hlt
    have hva := q1.gr ga (by omega)
    refine pur ?_
    refine WpO.callq Tryz.call210 rfl rfl hop Keeps.none ?_
    refine pur ?_
    refine WpO.alloc rfl rfl (fun _ => Keeps.none) fun b6 => ?_
    refine pur ?_
    refine Wp.branch rfl (fun h => ?_) (fun h => ?_)
    · have h' : o.2.1 < lv := of_decide_eq_true (p := o.2.1 < lv) h
      rw [if_pos h'] at hR
      refine pur ?_
      exact Wp.ret (Ret 1 rfl ⟨a, st1, hR.symm, rfl, rfl⟩)
    have h' : ¬ o.2.1 < lv := of_decide_eq_false (p := o.2.1 < lv) h
    rw [if_neg h'] at hR
    refine pur ?_
    refine WpO.openPA 1 rfl fun q tq ks hks => ?_
    refine pur ?_
    refine Wp.parts (L' := pA b l en (adv st1) :: ptA b6 118 (opRow o) :: M) (storeAdv b l en st1 hks _ _ (inc_v (show st1.p < 4611686018427387904 by omega))) ?_
    refine Wp.branch rfl (fun h2 => ?_) (fun h2 => ?_)
    · have h2' : o.2.2 = 1 := of_decide_eq_true h2
      rw [if_pos h2'] at hR
      refine pur ?_
      refine WpO.callP Tryz.call187 rfl rfl (hr.ct (.expr o.2.1) (adv st1) _ hva (meas_lt hm (by show st.p + 1 ≤ st1.p + 1; omega) hva.1)) (fun v L' e => perr hR e (LeL.drop 1 _)) fun v L' ⟨bb, st3, e1, e2, e3⟩ => ⟨Keeps.none, ?_⟩
      subst e2; subst e3
      replace hR := pok hR e1
      have gst3 := (hr.one (.expr o.2.1) _ _ _ hva.1 e1).1
      have hv3 := hva.gr gst3 (by omega)
      have hp3 : st1.p + 1 + 1 ≤ st3.p := gst3.p
      refine pur ?_
      refine WpO.buildSlice rfl rfl rfl rfl rfl rfl rfl (fun _ => Keeps.none) fun b7 => ?_
      refine WpO.parts (ownOf [a, bb] _ rfl) ?_
      refine WpO.call Tryz.call77 rfl rfl (put_ct2 b l en st3 (hva.bd hl gst3 (by omega)) 13 (ofL o.1) [a, bb] (some ⟨b7, 0, none⟩, 2) _) fun v L' ⟨e1, e2⟩ => ⟨Keeps.none, ?_⟩
      subst e1; subst e2
      have g4 := (put_gr (l := l) (op := 13) (tx := o.1) (kids := [a, bb]) gst3.e rfl).1
      have hv4 := hva.gr (gst3.trans g4) (by omega)
      replace hR : (if o.2.2 = 2 ∧ (opP l st3.p).map (·.2.1) = some o.2.1 then .error (failP l en 8 ⟨st3.t ++ [⟨13, ofL o.1, 0, ik [a, bb]⟩], st3.p⟩) else exprF l en (fun v => rec (.expr v)) lv g st3.t.length ⟨st3.t ++ [⟨13, ofL o.1, 0, ik [a, bb]⟩], st3.p⟩) = R := hR
      have hop2 := operator_ct2 b l en ⟨st3.t ++ [⟨13, ofL o.1, 0, ik [a, bb]⟩], st3.p⟩ hv4.1 (ptA b6 118 (opRow o) :: M)
      cases ho3 : opP l st3.p with
      | none =>
        rw [if_neg (by rw [ho3]; simp)] at hR
        rw [show opP l (⟨st3.t ++ [⟨13, ofL o.1, 0, ik [a, bb]⟩], st3.p⟩ : PS).p = none from ho3] at hop2
        refine pur ?_
        refine WpO.callq Tryz.call210 rfl rfl hop2 Keeps.none ?_
        refine pur ?_
        refine WpO.alloc rfl rfl (fun _ => Keeps.none) fun b9 => ?_
        refine pur ?_
        exact Round.mk (g, st3.t.length, ⟨st3.t ++ [⟨13, ofL o.1, 0, ik [a, bb]⟩], st3.p⟩) (Nat.lt_succ_self _) ⟨hv4, by simp only []; omega, by simp only []; omega, hR⟩ ⟨rfl, rfl, rfl, trivial⟩ (fun _ s => Sat.cons_mono (fun _ s => s.tail) s.tail)
      | some o3 =>
        rw [show opP l (⟨st3.t ++ [⟨13, ofL o.1, 0, ik [a, bb]⟩], st3.p⟩ : PS).p = some o3 from ho3] at hop2
        refine pur ?_
        refine WpO.callq Tryz.call210 rfl rfl hop2 Keeps.none ?_
        refine pur ?_
        refine WpO.alloc rfl rfl (fun _ => Keeps.none) fun b9 => ?_
        refine pur ?_
        refine Wp.branch rfl (fun h => ?_) (fun h => ?_)
        · replace h : (decide (o.2.2 = 2) && decide (o3.2.1 = o.2.1)) = true := h
          rw [Bool.and_eq_true] at h
          rw [if_pos ⟨of_decide_eq_true h.1, by rw [ho3]; exact congrArg some (of_decide_eq_true h.2)⟩] at hR
          refine pur ?_
          refine WpO.callP Tryz.call76 rfl rfl (Ct.pull 1 rfl (fail_ct b l en ⟨st3.t ++ [⟨13, ofL o.1, 0, ik [a, bb]⟩], st3.p⟩ 8 _)) (fun v L' ⟨e1, e2⟩ => perr0 (M' := ptA b9 118 (opRow o3) :: ptA b6 118 (opRow o) :: M) ⟨_, hR.symm, e1, e2⟩ (LeL.drop 2 _)) fun v L' e => e.elim
        · replace h : (decide (o.2.2 = 2) && decide (o3.2.1 = o.2.1)) = false := h
          rw [if_neg (fun ⟨c1, c2⟩ => by rw [ho3] at c2; rw [decide_eq_true c1, decide_eq_true (Option.some.inj c2)] at h; cases h)] at hR
          refine pur ?_
          exact Round.mk (g, st3.t.length, ⟨st3.t ++ [⟨13, ofL o.1, 0, ik [a, bb]⟩], st3.p⟩) (Nat.lt_succ_self _) ⟨hv4, by simp only []; omega, by simp only []; omega, hR⟩ ⟨rfl, rfl, rfl, trivial⟩ (fun _ s => Sat.cons_mono (fun _ s => s.tail) s.tail)
    · have h2' : ¬ o.2.2 = 1 := of_decide_eq_false h2
      rw [if_neg h2'] at hR
      refine pur ?_
      rw [show IntKind.i64.wrap (o.2.1 + 1) = o.2.1 + 1 from wrap_id (by omega) (by omega)]
      refine WpO.callP Tryz.call187 rfl rfl (hr.ct (.expr (o.2.1 + 1)) (adv st1) _ hva (meas_lt hm (by show st.p + 1 ≤ st1.p + 1; omega) hva.1)) (fun v L' e => perr hR e (LeL.drop 1 _)) fun v L' ⟨bb, st3, e1, e2, e3⟩ => ⟨Keeps.none, ?_⟩
      subst e2; subst e3
      replace hR := pok hR e1
      have gst3 := (hr.one (.expr (o.2.1 + 1)) _ _ _ hva.1 e1).1
      have hv3 := hva.gr gst3 (by omega)
      have hp3 : st1.p + 1 + 1 ≤ st3.p := gst3.p
      refine pur ?_
      refine WpO.buildSlice rfl rfl rfl rfl rfl rfl rfl (fun _ => Keeps.none) fun b7 => ?_
      refine WpO.parts (ownOf [a, bb] _ rfl) ?_
      refine WpO.call Tryz.call77 rfl rfl (put_ct2 b l en st3 (hva.bd hl gst3 (by omega)) 13 (ofL o.1) [a, bb] (some ⟨b7, 0, none⟩, 2) _) fun v L' ⟨e1, e2⟩ => ⟨Keeps.none, ?_⟩
      subst e1; subst e2
      have g4 := (put_gr (l := l) (op := 13) (tx := o.1) (kids := [a, bb]) gst3.e rfl).1
      have hv4 := hva.gr (gst3.trans g4) (by omega)
      replace hR : (if o.2.2 = 2 ∧ (opP l st3.p).map (·.2.1) = some o.2.1 then .error (failP l en 8 ⟨st3.t ++ [⟨13, ofL o.1, 0, ik [a, bb]⟩], st3.p⟩) else exprF l en (fun v => rec (.expr v)) lv g st3.t.length ⟨st3.t ++ [⟨13, ofL o.1, 0, ik [a, bb]⟩], st3.p⟩) = R := hR
      have hop2 := operator_ct2 b l en ⟨st3.t ++ [⟨13, ofL o.1, 0, ik [a, bb]⟩], st3.p⟩ hv4.1 (ptA b6 118 (opRow o) :: M)
      cases ho3 : opP l st3.p with
      | none =>
        rw [if_neg (by rw [ho3]; simp)] at hR
        rw [show opP l (⟨st3.t ++ [⟨13, ofL o.1, 0, ik [a, bb]⟩], st3.p⟩ : PS).p = none from ho3] at hop2
        refine pur ?_
        refine WpO.callq Tryz.call210 rfl rfl hop2 Keeps.none ?_
        refine pur ?_
        refine WpO.alloc rfl rfl (fun _ => Keeps.none) fun b9 => ?_
        refine pur ?_
        exact Round.mk (g, st3.t.length, ⟨st3.t ++ [⟨13, ofL o.1, 0, ik [a, bb]⟩], st3.p⟩) (Nat.lt_succ_self _) ⟨hv4, by simp only []; omega, by simp only []; omega, hR⟩ ⟨rfl, rfl, rfl, trivial⟩ (fun _ s => Sat.cons_mono (fun _ s => s.tail) s.tail)
      | some o3 =>
        rw [show opP l (⟨st3.t ++ [⟨13, ofL o.1, 0, ik [a, bb]⟩], st3.p⟩ : PS).p = some o3 from ho3] at hop2
        refine pur ?_
        refine WpO.callq Tryz.call210 rfl rfl hop2 Keeps.none ?_
        refine pur ?_
        refine WpO.alloc rfl rfl (fun _ => Keeps.none) fun b9 => ?_
        refine pur ?_
        refine Wp.branch rfl (fun h => ?_) (fun h => ?_)
        · replace h : (decide (o.2.2 = 2) && decide (o3.2.1 = o.2.1)) = true := h
          rw [Bool.and_eq_true] at h
          rw [if_pos ⟨of_decide_eq_true h.1, by rw [ho3]; exact congrArg some (of_decide_eq_true h.2)⟩] at hR
          refine pur ?_
          refine WpO.callP Tryz.call76 rfl rfl (Ct.pull 1 rfl (fail_ct b l en ⟨st3.t ++ [⟨13, ofL o.1, 0, ik [a, bb]⟩], st3.p⟩ 8 _)) (fun v L' ⟨e1, e2⟩ => perr0 (M' := ptA b9 118 (opRow o3) :: ptA b6 118 (opRow o) :: M) ⟨_, hR.symm, e1, e2⟩ (LeL.drop 2 _)) fun v L' e => e.elim
        · replace h : (decide (o.2.2 = 2) && decide (o3.2.1 = o.2.1)) = false := h
          rw [if_neg (fun ⟨c1, c2⟩ => by rw [ho3] at c2; rw [decide_eq_true c1, decide_eq_true (Option.some.inj c2)] at h; cases h)] at hR
          refine pur ?_
          exact Round.mk (g, st3.t.length, ⟨st3.t ++ [⟨13, ofL o.1, 0, ik [a, bb]⟩], st3.p⟩) (Nat.lt_succ_self _) ⟨hv4, by simp only []; omega, by simp only []; omega, hR⟩ ⟨rfl, rfl, rfl, trivial⟩ (fun _ s => Sat.cons_mono (fun _ s => s.tail) s.tail)
end
end Go.Proofs.YtikgokpbhldlnaaGreatDoor
end
section
/- The parser's walk: data declarations, the whole; all of the parser. -/
namespace Go.Proofs.YtikgokpbhldlnaaGreatDoor
open Go Go.Ab
attribute [local irreducible] Wp WpO Qt OpT Ct Ent
section
variable (b : Nat) (l : List Tok) (en : Nat) (st : PS) {m : Nat} {rec : Sym → Pr Nat}
set_option maxHeartbeats 2000000 in
theorem var_ct (hl : l.length ≤ 8000) (b1 p0 : Nat) : F1 b l en (fvC b b1 134 Tryz.call134) p0 (varF l en) := fun st M hv hp hE => by
  generalize hR : varF l en st = R
  unfold varF at hR
  refine Ct.body Tryz.func134 rfl Tryz.ntmps134 Tryz.results134 rfl ?_
  refine pur ?_
  refine Wp.draw rfl [0,1,2,3,4] 3 3 M rfl (by decide +kernel) (fun _ h => h.tail) ?_
  refine pur ?_
  refine WpO.callP Tryz.call132 rfl rfl (pname_ct b l en st hl hv.1 1 (by decide) M) (fun v L' e => perr hR e (LeL.refl _)) fun v L' ⟨nm, st1, e1, e2, e3⟩ => ⟨by subst e3; exact Keeps.by fun _ h => h.tail, ?_⟩
  subst e2; subst e3
  replace hR := pok hR e1
  have gst1 := name_gr (by decide) e1
  refine WpO.parts own0 ?_
  refine WpO.call Tryz.call77 rfl rfl (put_ct2 b l en st1 (hv.bd hl gst1 (by omega)) 23 (ofL nm) [] (none, 0) M) fun v L' ⟨e1, e2⟩ => ⟨Keeps.last, ?_⟩
  subst e1; subst e2
  refine pur ?_
  exact Wp.ret (Ret 0 rfl ⟨_, _, hR.symm, rfl, rfl⟩)
set_option maxHeartbeats 8000000 in
theorem data_ct2 (hl : l.length ≤ 8000) (hr : Rec b l en m rec) (hv : Iv l st) (hm : measS l .data st.p < m + 1) (hd : st.p < l.length) (M : List Assn) : Ct Tryz.prog 74 #[.pointer (some ⟨b, 0, none⟩)] (pA b l en st :: M) (RA b l en (body l en rec .data st) vN M) := by
  generalize hR : body l en rec .data st = R
  simp only [body] at hR
  refine Ct.body Tryz.func74 rfl Tryz.ntmps74 Tryz.results74 rfl ?_
  have ga := adv_gr hd
  have hva := hv.gr ga (by omega)
  refine pur ?_
  refine WpO.box rfl rfl rfl (fun _ => Keeps.none) fun b1 => ?_
  refine WpO.parts (L' := pA b l en st :: ptA b1 70 [.pointer (some ⟨b, 0, none⟩)] :: M) (fun _ s => s.swap) ?_
  refine WpO.openPA 0 rfl fun q tq ks hks => ?_
  refine pur ?_
  refine WpO.parts (L' := pA b l en (adv st) :: ptA b1 70 [.pointer (some ⟨b, 0, none⟩)] :: M) (storeAdv b l en st hks _ _ (inc_v (by omega))) ?_
  refine WpO.callP Tryz.call132 rfl rfl (pname_ct b l en (adv st) hl hva.1 2 (by decide) _) (fun v L' e => perr hR e (LeL.drop 1 _)) fun v L' ⟨nm, st1, e1, e2, e3⟩ => ⟨Keeps.none, ?_⟩
  subst e2; subst e3
  replace hR := pok hR e1
  have gst1 := name_gr (by decide) e1
  have hv1 := hva.gr gst1 (by omega)
  have hp1 : st.p + 1 + 1 ≤ st1.p := gst1.p
  refine pur ?_
  refine S.makeFuncM rfl (.cons rfl (by infer_instance) .nil) .nil ?_
  refine pur ?_
  refine S.makeFuncM rfl .nil (.cons rfl (by infer_instance) .nil) ?_
  refine WpO.callP Tryz.call133 rfl rfl (many_ct b l en st1 hl hv1 (fvM b 72 Tryz.call72) (fvC b b1 134 Tryz.call134) _ _ st1.p (fb_isVar b l en) (var_ct b l en hl b1 _) var_gr (Nat.le_refl _) (ptA b1 70 [.pointer (some ⟨b, 0, none⟩)] :: M) trivial (Ent.pt 0 1 rfl rfl)) (fun v L' e => perr hR e (LeL.drop 1 _)) fun v L' ⟨ks0, st2, e1, k0, e2, e3⟩ => ⟨Keeps.none, ?_⟩
  subst e2; subst e3
  replace hR := pok hR e1
  obtain ⟨mm, hmm, g2, hi2⟩ := many_gr var_gr _ _ _ _ _ hv1.1 (fun k hk => by cases hk) e1
  have hv2 := hv1.gr g2 (by omega)
  have hp2 := g2.p
  refine pur ?_
  refine WpO.callP Tryz.call135 rfl rfl (Ct.atp 1 rfl (take_ct b l en st2 hl ⟨#[61]⟩ _)) (fun v L' e => perr hR e (LeL.drop 2 _)) fun v L' ⟨ust3, st3, e1, _, e3⟩ => ⟨Keeps.none, ?_⟩
  subst e3
  replace hR := pok hR e1
  have gst3 := take_gr e1
  dsimp only [List.set]
  have hv3 := hv2.gr gst3 (by omega)
  have hp3 := gst3.p
  have hk0 : ks0.length ≤ st3.p := by simp only [List.length_nil] at hmm; omega
  refine pur ?_
  refine Wp.loopI (α := Nat × List Nat × PS × (Option Addr × Nat)) (l.length + 1, ks0, st3, k0) (fun z => [(1, .v (.pointer (some ⟨b1, 0, none⟩))), (3, .v (.string (ofL nm))), (4, .v (.slice z.2.2.2.1 z.2.1.length z.2.2.2.2))])
    (fun z => ownK z.2.2.2 z.2.1 :: pA b l en z.2.2.1 :: ptA b1 70 [.pointer (some ⟨b, 0, none⟩)] :: M) (fun z => z.1) (fun z => Iv l z.2.2.1 ∧ st.p + 1 ≤ z.2.2.1.p ∧ z.2.1.length ≤ z.2.2.1.p ∧ l.length + 1 ≤ z.1 + z.2.2.1.p ∧ conF l en (rec .atype) nm z.1 z.2.1 z.2.2.1 = R) ⟨hv3, by simp only []; omega, hk0, by simp only []; omega, hR⟩ ⟨rfl, rfl, rfl, trivial⟩ (LeL.refl _) ?_
  rintro ⟨f, kids, st4, k⟩ ⟨q1, q2, q3, q4, hR⟩
  simp only [] at q1 q2 q3 q4 hR
  have q1p := q1.1
  obtain ⟨g, rfl⟩ : ∃ g, f = g + 1 := ⟨f - 1, by omega⟩
  rw [conF] at hR
  refine pur ?_
  refine WpO.callP Tryz.call132 rfl rfl (Ct.atp 1 rfl (pname_ct b l en st4 hl q1.1 2 (by decide) _)) (fun v L' e => perr hR e (LeL.drop 2 _)) fun v L' ⟨con, st5, e1, e2, e3⟩ => ⟨Keeps.none, ?_⟩
  subst e2; subst e3
  replace hR := pok hR e1
  have gst5 := name_gr (by decide) e1
  have hv5 := q1.gr gst5 (by omega)
  have hp5 := gst5.p
  dsimp only [List.set]
  refine pur ?_
  refine Wp.draw rfl [0,1,2,3,4,5,6,7,8,9,10,11,12] 11 11 [ptA b1 70 [.pointer (some ⟨b, 0, none⟩)]] rfl (by decide +kernel) (fun _ s => Sat.take (M := [_]) (L := M) s.tail.tail) ?_
  refine pur ?_
  refine S.makeFuncM rfl (.cons rfl (by infer_instance) .nil) .nil ?_
  refine pur ?_
  refine S.makeFuncM rfl (.cons rfl (by infer_instance) .nil) .nil ?_
  refine WpO.callP Tryz.call133 rfl rfl (Ct.pull 1 rfl (many_ct b l en st5 hl hv5 (fvM b 136 Tryz.call136) (fvM b 137 Tryz.call137) _ _ (st.p + 1) (fb_typed b l en) (f1_atype b l en hr hm) (hr.one .atype) (by omega) (ownK k kids :: ptA b1 70 [.pointer (some ⟨b, 0, none⟩)] :: M) trivial trivial)) (fun v L' e => perr hR e (LeL.drop 2 _)) fun v L' ⟨ks, st6, e1, k6, e2, e3⟩ => ⟨by subst e3; exact Keeps.by fun _ s => Sat.take (M := [_]) (L := M) s.tail.tail.tail, ?_⟩
  subst e2; subst e3
  replace hR := pok hR e1
  obtain ⟨mm6, hmm6, g6, _⟩ := many_gr (hr.one .atype) _ _ _ _ _ hv5.1 (fun k hk => by cases hk) e1
  have hv6 := hv5.gr g6 (by omega)
  have hp6 := g6.p
  refine WpO.call Tryz.call77 rfl rfl (put_ct2 b l en st6 (hv5.bd hl g6 (by omega)) 22 (ofL con) ks k6 _) fun v L' ⟨e1, e2⟩ => ⟨by subst e2; exact Keeps.by fun _ s => Sat.take (M := [_]) (L := M) s.tail.tail, ?_⟩
  subst e1; subst e2
  have g7 := (put_gr (l := l) (op := 22) (tx := con) (kids := ks) g6.e rfl).1
  have hv7 := q1.gr ((gst5.trans g6).trans g7) (by omega)
  generalize hst7 : (⟨st6.t ++ [⟨22, ofL con, 0, ik ks⟩], st6.p⟩ : PS) = st7 at g7 hv7
  have hp7 : st7.p = st6.p := by rw [← hst7]
  replace hR : (if isP l st7.p [124] = true then conF l en (rec .atype) nm g (kids ++ [st6.t.length]) (adv st7) else putP 21 nm (kids ++ [st6.t.length]) st7) = R := by rw [← hst7]; exact hR
  refine WpO.buildSlice rfl rfl rfl rfl rfl rfl rfl (fun _ => Keeps.by fun _ s => Sat.take (M := [_]) (L := M) s.tail.tail.tail) fun b6 => ?_
  refine WpO.appendLit 1 [[.int .i64 ((st6.t.length : Nat) : Int)]] rfl rfl rfl rfl (ints_len kids).symm rfl rfl rfl rfl rfl rfl rfl (by rw [ints_len]; simp; omega) (fun _ _ => Keeps.last) fun a2 k2 => ?_
  rw [ints_snoc, ints_len]
  refine pur ?_
  refine WpO.call Tryz.call130 rfl rfl (skip_ct2 b l en st7 hl ⟨#[124]⟩ _) fun v L' ⟨e1, e2⟩ => ⟨Keeps.none, ?_⟩
  subst e1; subst e2
  refine pur ?_
  refine Wp.branch rfl (fun h => ?_) (fun h => ?_)
  · replace h : isP l st7.p [124] = false := by rwa [Bool.not_eq_true'] at h
    rw [if_neg (by rw [h]; decide)] at hR
    rw [show isP l st7.p (bs ⟨#[124]⟩) = false from h, if_neg (by decide)]
    refine pur ?_
    refine WpO.parts (L' := ownK (a2, k2) (kids ++ [st6.t.length]) :: pA b l en st7 :: ptA b1 70 [.pointer (some ⟨b, 0, none⟩)] :: M) (fun _ s => s.swap) ?_
    refine WpO.call Tryz.call77 rfl rfl (put_ct2 b l en st7 (hv7.bd0 hl) 21 (ofL nm) (kids ++ [st6.t.length]) (a2, k2) _) fun v L' ⟨e1, e2⟩ => ⟨Keeps.none, ?_⟩
    subst e1; subst e2
    refine pur ?_
    exact Wp.ret (RetL rfl (LeL.cons fun _ s => s.tail) ⟨_, _, hR.symm, rfl, rfl⟩)
  · replace h : isP l st7.p [124] = true := by rwa [Bool.not_eq_false'] at h
    rw [if_pos h] at hR
    rw [show isP l st7.p (bs ⟨#[124]⟩) = true from h, if_pos rfl]
    have gb := adv_gr (isP_lt h)
    refine pur ?_
    exact Round.mk (g, kids ++ [st6.t.length], adv st7, (a2, k2)) (Nat.lt_succ_self _) ⟨hv7.gr gb (by omega), by show st.p + 1 ≤ st7.p + 1; omega, by show (kids ++ [st6.t.length]).length ≤ st7.p + 1; simp; omega, by show l.length + 1 ≤ g + (st7.p + 1); omega, hR⟩ ⟨rfl, rfl, rfl, trivial⟩ (fun _ s => s.swap)
def topB (l : List Tok) (p : Nat) : Bool := isP l p [100, 97, 116, 97] || isVarP l p
theorem fb_top (b1 : Nat) : FB b l en (fvC b b1 70 Tryz.call70) (topB l) := fun st M hp hE => by
  refine Ct.body Tryz.func70 rfl Tryz.ntmps70 Tryz.results70 rfl ?_
  refine pur ?_
  refine WpO.callq Tryz.call71 rfl rfl (is_ct b l en st ⟨#[100, 97, 116, 97]⟩ M) Keeps.none ?_
  refine pur ?_
  refine WpO.callqg Tryz.call72 rfl rfl (.cons rfl (by infer_instance) .nil) (fun _ => isVar_ct b l en st hp M) Keeps.none ?_
  refine pur ?_
  exact Wp.ret (Ret 0 rfl ⟨rfl, rfl⟩)
theorem top_gr (h : ∀ s, One l (rec s)) : One l (topF l rec) := fun st a st' hp e => by
  unfold topF at e
  split at e
  · exact h .data _ _ _ hp e
  · exact h .clause _ _ _ hp e
set_option maxHeartbeats 1000000 in
theorem top_ct (hr : Rec b l en m rec) (hm : l.length * 16 + 9 < m) (b1 : Nat) : F1 b l en (fvC b b1 73 Tryz.call73) 0 (topF l rec) := fun st M hv _ hE => by
  generalize hR : topF l rec st = R
  unfold topF at hR
  have hms : ∀ s, measS l s st.p < m := fun s => by have := rank_le s; unfold measS; omega
  refine Ct.body Tryz.func73 rfl Tryz.ntmps73 Tryz.results73 rfl ?_
  refine pur ?_
  refine WpO.callq Tryz.call71 rfl rfl (is_ct b l en st ⟨#[100, 97, 116, 97]⟩ M) Keeps.none ?_
  refine pur ?_
  refine Wp.branch rfl (fun h => ?_) (fun h => ?_)
  · replace h : isP l st.p [100, 97, 116, 97] = true := h
    rw [if_pos h] at hR
    refine pur ?_
    refine WpO.callP Tryz.call74 rfl rfl (hr.ct .data st M hv (hms _) (isP_lt h)) (fun v L' e => perr0 (by rw [← hR]; exact e) (LeL.refl _)) fun v L' ⟨a, st1, e1, e2, e3⟩ => ⟨Keeps.none, ?_⟩
    subst e2; subst e3
    refine pur ?_
    exact Wp.ret (Ret 0 rfl ⟨_, _, by rw [← hR, e1], rfl, rfl⟩)
  · replace h : isP l st.p [100, 97, 116, 97] = false := h
    rw [if_neg (by rw [h]; decide)] at hR
    refine pur ?_
    refine WpO.callP Tryz.call75 rfl rfl (hr.ct .clause st M hv (hms _)) (fun v L' e => perr0 (by rw [← hR]; exact e) (LeL.refl _)) fun v L' ⟨a, st1, e1, e2, e3⟩ => ⟨Keeps.none, ?_⟩
    subst e2; subst e3
    refine pur ?_
    exact Wp.ret (Ret 0 rfl ⟨_, _, by rw [← hR, e1], rfl, rfl⟩)
set_option maxHeartbeats 2000000 in
theorem program_ct (hl : l.length ≤ 8000) (hr : Rec b l en m rec) (hm : l.length * 16 + 9 < m) (hv : Iv l st) (M : List Assn) : Ct Tryz.prog 39 #[.pointer (some ⟨b, 0, none⟩)] (pA b l en st :: M) (RA b l en (programF l en rec st) (fun _ _ => True) M) := by
  generalize hR : programF l en rec st = R
  unfold programF at hR
  replace hR : (bindP (semisF l (topB l) (topF l rec) (l.length + 1) [] st) fun kids st => if st.p < l.length then .error (failP l en 8 st) else putP 20 [] kids st) = R := hR
  refine Ct.body Tryz.func39 rfl Tryz.ntmps39 Tryz.results39 rfl ?_
  refine pur ?_
  refine WpO.box rfl rfl rfl (fun _ => Keeps.none) fun b1 => ?_
  refine WpO.parts (L' := pA b l en st :: ptA b1 70 [.pointer (some ⟨b, 0, none⟩)] :: M) (fun _ s => s.swap) ?_
  refine pur ?_
  refine S.makeFuncM rfl .nil (.cons rfl (by infer_instance) .nil) ?_
  refine S.makeFuncM rfl .nil (.cons rfl (by infer_instance) .nil) ?_
  refine WpO.callP Tryz.call69 rfl rfl (semis_ct b l en st hl hv (fvC b b1 70 Tryz.call70) (fvC b b1 73 Tryz.call73) _ _ 0 (fb_top b l en b1) (top_ct b l en hr hm b1) (top_gr l hr.one) (Nat.zero_le _) (ptA b1 70 [.pointer (some ⟨b, 0, none⟩)] :: M) (Ent.pt 0 1 rfl rfl) (Ent.pt 0 1 rfl rfl)) (fun v L' e => perr hR e (LeL.drop 1 _)) fun v L' ⟨ks, st1, e1, k, e2, e3⟩ => ⟨Keeps.none, ?_⟩
  subst e2; subst e3
  replace hR := pok hR e1
  obtain ⟨mm, hmm, g1, _⟩ := semis_gr (top_gr l hr.one) _ _ _ _ _ hv.1 (fun k hk => by cases hk) e1
  have hv1 := hv.gr g1 (by omega)
  refine pur ?_
  refine Wp.openPA 1 rfl fun q tq ks2 hks => ?_
  show Wp _ _ _ _ _ _ (pM b l en st1 q tq ks2 (ownK k ks :: ptA b1 70 [.pointer (some ⟨b, 0, none⟩)] :: M))
  have hEb : Ent (pM b l en st1 q tq ks2 (ownK k ks :: ptA b1 70 [.pointer (some ⟨b, 0, none⟩)] :: M)) (CellsAt b1 0 [.pointer (some ⟨b, 0, none⟩)]) := Ent.pt 5 1 rfl rfl
  refine Wp.draw rfl [0,1,2,3,4,5,6,7,8,9] 10 10 _ rfl (by decide +kernel) (fun _ h => h) ?_
  refine pur ?_
  refine Wp.parts (L' := ownK k ks :: pA b l en st1 :: ptA b1 70 [.pointer (some ⟨b, 0, none⟩)] :: M) (fun _ s => Sat.swap (closePA hks _ s)) ?_
  refine Wp.branch rfl (fun h => ?_) (fun h => ?_)
  · have h' : st1.p < l.length := by have := of_decide_eq_true h; omega
    rw [if_pos h'] at hR
    refine pur ?_
    refine WpO.callP Tryz.call76 rfl rfl (Ct.pull 1 rfl (fail_ct b l en st1 8 _)) (fun v L' ⟨e1, e2⟩ => perr0 (M' := ownK k ks :: ptA b1 70 [.pointer (some ⟨b, 0, none⟩)] :: M) ⟨_, hR.symm, e1, e2⟩ (LeL.drop 2 _)) fun v L' e => e.elim
  · have h' : ¬ st1.p < l.length := by have := of_decide_eq_false h; omega
    rw [if_neg h'] at hR
    refine pur ?_
    refine WpO.call Tryz.call77 rfl rfl (put_ct2 b l en st1 (hv1.bd0 hl) 20 ⟨#[]⟩ ks k _) fun v L' ⟨e1, e2⟩ => ⟨Keeps.none, ?_⟩
    subst e1; subst e2
    refine pur ?_
    exact RetNL rfl (LeL.cons fun _ s => s.tail) ⟨_, _, hR.symm, trivial, rfl⟩
theorem rec_all (hl : l.length ≤ 8000) : ∀ n, Rec b l en n (parseN l en n)
  | 0 => ⟨parse_gr 0, fun _ _ _ _ h _ => absurd h (Nat.not_lt_zero _)⟩
  | n + 1 => ⟨parse_gr (n + 1), fun s st M hv hm hd => by
    have hr := rec_all hl n
    cases s with
    | expr lv => exact expr_ct2 b l en st hl hr hv lv hm M
    | operand => exact operand_ct2 b l en st hl hr hv hm M
    | cases => exact cases_ct2 b l en st hl hr hv hm M
    | atom => exact atom_ct2 b l en st hl hr hv hm M
    | pat => exact pat_ct b l en st hl hr hv hm M
    | apat => exact apat_ct2 b l en st hl hr hv hm M
    | whole => exact whole_ct2 b l en st hl hr hv hm M
    | atype => exact atype_ct2 b l en st hl hr hv hm M
    | clause => exact clause_ct2 b l en st hl hr hv hm M
    | rhs sep => exact rhs_ct2 b l en st hl hr hv sep hm M
    | decls => exact decls_ct2 b l en st hl hr hv hm M
    | data => exact data_ct2 b l en st hl hr hv hm hd M⟩
end
end Go.Proofs.YtikgokpbhldlnaaGreatDoor
end
