/- Parts of a proof: As At Au. -/
import Derived.Test.YtikgokpbhldlnaaGreatDoorMd
import Derived.Recover
set_option linter.unusedVariables false
set_option linter.unusedSimpArgs false
set_option linter.unusedSectionVars false
section
/- The calculus: panics; functions with a deferred closure that recovers. -/
namespace Go.Ab
open Go

section
variable {P : Program} {n : Nat} {ops : Array Oper} {Q : Post} {m m' : Md} {rest : List Oper} {E : Env} {D : List Deferred} {L : List Assn} {ty : TypeId} {pos : String} {af : Array Edge} {x y : Operand} {c1 c2 g : Bool} {d : Nat} {t : TypeId}

/-! ## A panic -/
theorem OpT.panic {dd : Option Tmp} {gd : Option (Nat × Bool)} {v : Value} (hx : opv x E = some (c1, .iface t v)) [Imp true c1] :
    OpT P E L ⟨dd, .panic x, ty, pos, af, gd⟩ (fun _ _ => False) (fun c L' => c = [{ v := .iface t v, recovered := false }] ∧ L' = L) := fun a w K Q0 h1 h2 _ hp' => by
  unfold Oper.wp
  have he : (execOp a.eval ⟨dd, .panic x, ty, pos, af, gd⟩).run P w = .halt (.panic (.iface t v)) w := by
    show (do pure (Next.value (← Instr.panic (a.eval x))) : Sem Next).run P w = _
    rw [EvG.of (g := true) hx a h1 rfl]; rfl
  rw [he]
  exact hp' _ w _ ⟨rfl, rfl⟩ h2
theorem WpO.panic [Nxt m m'] {v : Value} (hx : opv x E = some (c1, .iface t v)) [Imp true c1] (h : Q (.panic [{ v := .iface t v, recovered := false }]) [] D L) : WpO P n ops Q m (⟨none, .panic x, ty, pos, af, none⟩ :: rest) E D L :=
  WpO.op0 rfl (OpT.panic hx) (fun _ _ ⟨e1, e2⟩ => by subst e1; subst e2; exact h) nofun
theorem Qt.mkiface {dd : Option Tmp} {gd : Option (Nat × Bool)} {v : Value} (hc : P.concrete t = true) (hx : opv x E = some (c1, v)) [Imp g c1] :
    Qt P E L ⟨dd, .makeInterface t x, ty, pos, af, gd⟩ g (.iface t v) := fun ac w h1 _ h3 => by
  show (do pure (Next.value (← Instr.makeInterface t (ac.eval x))) : Sem Next).run P w = _
  rw [EvG.of hx ac h1 h3]
  exact run_v (run_makeInterface w t v hc)
theorem S.mkiface [Nxt m m'] {v : Value} (hc : P.concrete t = true) (h0 : Nat.blt d n = true) (hx : opv x E = some (true, v)) (h : WpO P n ops Q m' rest ((d, .v (.iface t v)) :: E) D L) : WpO P n ops Q m (⟨some d, .makeInterface t x, ty, pos, af, none⟩ :: rest) E D L :=
  WpO.q rfl h0 (Qt.mkiface hc hx) h
/-- It returns, or panics with one entry that was not recovered. -/
def retP (φ : Value → List Assn → Prop) (ψ : Value → List Assn → Prop) : Ending → List Assn → Prop
  | .returned v, L => φ v L
  | .panicked c, L => ∃ v, c = [{ v, recovered := false }] ∧ ψ v L
  | _, _ => False
/-- A call of a function that may panic. -/
theorem WpO.callP [Nxt m m'] {f : FuncId} {args : List Operand} {tys : Array TypeId} {vs : List Value} {φ ψ : Value → List Assn → Prop} (hc : ∀ (args : Array Value) (w : World), Sem.run P (callFunc f args) w = .ok (.enter f args) w) (h0 : Nat.blt d n = true) (hargs : evs args E = some vs)
    (hct : Ct P f vs.toArray L (retP φ ψ)) (hp' : ∀ v L', ψ v L' → Q (.panic [{ v, recovered := false }]) [] D L') (h : ∀ v L', φ v L' → Keeps m L' ∧ WpO P n ops Q m' rest ((d, .v v) :: E) D L') : WpO P n ops Q m (⟨some d, .call ⟨.value (.func f), args.toArray, tys⟩, ty, pos, af, Option.none⟩ :: rest) E D L :=
  WpO.op rfl h0 (OpT.call hc hargs hct) (fun _ _ ⟨_, e, q⟩ => by subst e; exact hp' _ _ q) h

/-! ## Where the frame is known at a panic, too -/
def PostE (n : Nat) (Q : Post) : Exit → Act → World → Prop
  | .outgrown, _, _ => False
  | e, a, w => ∃ E D L, Q e E D L ∧ a.tmps.size = n ∧ EnvSat E a.tmps ∧ a.defers = D ∧ Sat (hp w) L
def WpE (P : Program) (n : Nat) (c : Code) (Q : Post) (E : Env) (D : List Deferred) (L : List Assn) : Prop :=
  ∀ a w, a.tmps.size = n → EnvSat E a.tmps → a.defers = D → Sat (hp w) L → c.wp P (PostE n Q) a w
def Post.np (Q : Post) : Post
  | .panic _, _, _, _ => False
  | e, E, D, L => Q e E D L
theorem WpE.np {c : Code} (h : Wp P n c (Post.np Q) E D L) : WpE P n c Q E D L := fun a w h1 h2 h3 h4 => wp_mono (h a w h1 h2 h3 h4) fun e a' w' hh => by
  cases e <;> simp only [PostOf, PostE, Post.np] at hh ⊢
  case panic c => obtain ⟨_, _, h, _⟩ := hh; exact h.elim
  all_goals exact hh
theorem PostE.mono {Q Q' : Post} (h : ∀ e E D L, Q e E D L → Q' e E D L) : ∀ e a w, PostE n Q e a w → PostE n Q' e a w := by
  intro e a w hh
  cases e <;> simp only [PostE] at hh ⊢
  all_goals (obtain ⟨E, D, L, h1, h2⟩ := hh; exact ⟨E, D, L, h _ _ _ _ h1, h2⟩)
theorem WpE.weaken {c : Code} {E' : Env} {L' : List Assn} (hE : ∀ i a, look i E' = some a → look i E = some a) (hL : ∀ k, Sat k L → Sat k L')
    (h : WpE P n c Q E' D L') : WpE P n c Q E D L := fun a w h1 h2 h3 h4 => h a w h1 (h2.weaken hE) h3 (hL _ h4)
theorem WpE.mono {c : Code} {Q Q' : Post} (h : WpE P n c Q E D L) (hQ : ∀ e E D L, Q e E D L → Q' e E D L) : WpE P n c Q' E D L :=
  fun a w h1 h2 h3 h4 => wp_mono (h a w h1 h2 h3 h4) (PostE.mono hQ)
theorem WpE.seq {x y : Code} (h : WpE P n x (Post.then (WpE P n y Q) Q) E D L) : WpE P n (.seq x y) Q E D L := fun a w h1 h2 h3 h4 =>
  wp_seq (wp_mono (h a w h1 h2 h3 h4) fun e a' w' hh => by
    cases e <;> simp only [PostE, Post.then, Exit.then] at hh ⊢
    case normal => obtain ⟨E, D, L, q, r1, r2, r3, r4⟩ := hh; exact q a' w' r1 r2 r3 r4
    all_goals exact hh)
/-- The first part does not panic. -/
theorem WpE.seqN {x y : Code} (h : Wp P n x (Post.then (WpE P n y Q) (Post.np Q)) E D L) : WpE P n (.seq x y) Q E D L :=
  WpE.seq (WpE.np (Wp.mono h fun e E D L q => by cases e <;> exact q))
theorem WpE.ret (h : Q .ret E D L) : WpE P n .ret Q E D L := fun a w h1 h2 h3 h4 => wp_ret ⟨E, D, L, h, h1, h2, h3, h4⟩
theorem WpE.block {id : Nat} {c : Code} (h : WpE P n c (Post.inBlock id Q) E D L) : WpE P n (.block id c) Q E D L := fun a w h1 h2 h3 h4 =>
  wp_block (wp_mono (h a w h1 h2 h3 h4) fun e a' w' hh => by
    cases e <;> simp only [PostE, Post.inBlock, Exit.inBlock] at hh ⊢
    case exit i =>
      obtain ⟨E, D, L, q, r⟩ := hh
      by_cases hi : i = id
      · subst hi; simp only [Nat.beq_refl, if_true] at q ⊢; exact ⟨E, D, L, q, r⟩
      · have : Nat.beq i id = false := beqF hi
        simp only [this, hi, if_false] at q ⊢; exact ⟨E, D, L, q, r⟩
    all_goals exact hh)
theorem WpE.branch {s : Nat} {x y : Code} {t : Bool} (hc : look s E = some (.v (.bool t))) (h1 : t = true → WpE P n x Q ((s, .v (.bool true)) :: E) D L) (h2 : t = false → WpE P n y Q ((s, .v (.bool false)) :: E) D L) :
    WpE P n (.cond (.tmp s) x y) Q E D L := fun a w r1 r2 r3 r4 =>
  wp_cond_split (EvG.v (g := true) hc a r2 rfl) (fun h => h1 h a w r1 (r2.shadow hc (by rw [h])) r3 r4) (fun h => h2 h a w r1 (r2.shadow hc (by rw [h])) r3 r4)
theorem WpE.skip (h : Q .normal E D L) : WpE P n .skip Q E D L := fun a w h1 h2 h3 h4 => wp_skip ⟨E, D, L, h, h1, h2, h3, h4⟩
theorem WpE.exit {id : Nat} (h : Q (.exit id) E D L) : WpE P n (.exit id) Q E D L := fun a w h1 h2 h3 h4 => wp_exit ⟨E, D, L, h, h1, h2, h3, h4⟩
theorem WpE.loop {c : Code} {α : Type} (I : α → Env → List Deferred → List Assn → Prop) (μ : α → Nat) (x0 : α) (h0 : I x0 E D L)
    (round : ∀ x E D L, I x E D L → WpE P n c (Post.then (fun E' D' L' => ∃ y, μ y < μ x ∧ I y E' D' L') Q) E D L) : WpE P n (.loop c) Q E D L := by
  intro a0 w0 h1 h2 h3 h4 b kk cs
  have key : ∀ k x E D L, μ x = k → I x E D L → ∀ a w, a.tmps.size = n → EnvSat E a.tmps → a.defers = D → Sat (hp w) L →
      ∃ e a' w', PostE n Q e a' w' ∧ Arrives P (lone (b.at a (.code c :: .inLoop c :: kk)) cs w) b kk cs e a' w' := by
    intro k
    induction k using Nat.strongRecOn with
    | _ k ih =>
      intro x E D L hx hI a w h1 h2 h3 h4
      obtain ⟨e, a₁, w₁, hq, harr⟩ := round x E D L hI a w h1 h2 h3 h4 b (.inLoop c :: kk) cs
      cases e with
      | normal =>
        obtain ⟨E', D', L', ⟨y, hy, hIy⟩, r1, r2, r3, r4⟩ := hq
        obtain ⟨e₂, a₂, w₂, hq₂, harr₂⟩ := ih (μ y) (hx ▸ hy) y E' D' L' rfl hIy a₁ w₁ r1 r2 r3 r4
        exact ⟨e₂, a₂, w₂, hq₂, .of_steps (Steps.trans harr (.one step_inLoop)) harr₂⟩
      | exit id => exact ⟨.exit id, a₁, w₁, hq, .pass (x := .inLoop c) rfl (fun _ _ => .inl (by simp)) harr⟩
      | goto l => exact ⟨.goto l, a₁, w₁, hq, .pass (x := .inLoop c) rfl (fun _ _ => .inl (by simp)) harr⟩
      | ret => exact ⟨.ret, a₁, w₁, hq, .pass (x := .inLoop c) rfl (fun _ _ => .inl (by simp)) harr⟩
      | panic ch => exact ⟨.panic ch, a₁, w₁, hq, .pass (x := .inLoop c) rfl (fun _ _ => .inl (by simp)) harr⟩
      | outgrown => exact hq.elim
  obtain ⟨e, a', w', hq, harr⟩ := key _ x0 E D L rfl h0 a0 w0 h1 h2 h3 h4
  exact ⟨e, a', w', hq, .of_steps (.one step_loop) harr⟩
theorem WpE.loopI {c : Code} {α : Type} (x0 : α) (Ei : α → Env) (Li : α → List Assn) (μ : α → Nat) (inv : α → Prop) (h0 : inv x0) (hE : EnvLe (Ei x0) E) (hL : LeL L (Li x0))
    (round : ∀ x, inv x → WpE P n c (Post.then (Round Ei D Li μ inv x) Q) (Ei x) D (Li x)) : WpE P n (.loop c) Q E D L :=
  WpE.loop (fun x E' D' L' => inv x ∧ EnvLe (Ei x) E' ∧ D' = D ∧ LeL L' (Li x)) μ x0 ⟨h0, hE, rfl, hL⟩ fun x E' D' L' ⟨h1, h2, h3, h4⟩ => by
    subst h3
    exact WpE.mono (WpE.weaken (EnvLe.look h2) h4 (round x h1)) fun e E D L hq => by cases e <;> exact hq

/-- What a region does not write stays as it is, at a panic too. -/
theorem Oper.upon_frame {o : Oper} {a : Act} {K K' : Act → World → Prop} {Q Q' : Exit → Act → World → Prop} {F : Act → Prop} (hno : ¬ LetsOut Q) (hQ : ∀ e a w, Q e a w → F a → Q' e a w) (hF : F a) (hput : ∀ a v, F a → F (a.put o.dst v)) (hdef : ∀ a d, F a → F { a with defers := d :: a.defers })
    (hK : ∀ a' w', F a' → K a' w' → K' a' w') {r : Result Next} (h : o.upon P a K Q r) : o.upon P a K' Q' r := by
  unfold Oper.upon at h ⊢
  split at h
  · exact hK _ _ (hput _ _ hF) h
  · exact hK _ _ (hput _ _ hF) h
  · exact hK _ _ (hput _ _ (hdef _ _ hF)) h
  · refine h.mono fun e w' q => ?_
    cases e with
    | returned v => exact hK _ _ (hput _ _ hF) q
    | panicked c => exact hQ _ _ _ q hF
    | outgrown => exact absurd q hno
  · exact h.mono fun v w' q => hK _ _ (hput _ _ hF) q
  · exact hQ _ _ _ h hF
  · exact h
theorem wpList_frame {Q Q' : Exit → Act → World → Prop} {F : Act → Prop} (hno : ¬ LetsOut Q) (hQ : ∀ e a w, Q e a w → F a → Q' e a w) (hdef : ∀ a d, F a → F { a with defers := d :: a.defers }) : ∀ (l : List Oper) (a : Act) (w : World), (∀ o ∈ l, ∀ a v, F a → F (a.put o.dst v)) → F a → wpList P ops Q l a w → wpList P ops Q' l a w
  | [], a, w, _, hF, h => hQ _ _ _ h hF
  | o :: rest, a, w, hp, hF, h => by
    unfold wpList at h ⊢
    split at h
    · rename_i hw
      rw [if_pos hw]
      rcases h with h | ⟨_, h⟩
      · exact .inl (Oper.upon_frame hno hQ hF (hp o (List.mem_cons_self ..)) hdef (fun a' w' hF' h' => wpList_frame hno hQ hdef rest a' w' (fun o ho => hp o (List.mem_cons_of_mem _ ho)) hF' h') h)
      · exact absurd h hno
    · rename_i hw
      rw [if_neg hw]
      exact wpList_frame hno hQ hdef rest _ w (fun o ho => hp o (List.mem_cons_of_mem _ ho)) (hp o (List.mem_cons_self ..) _ _ hF) h
def Post.froz (F : Env) (Q : Post) : Post
  | .panic c, _, D, L => Q (.panic c) F D L
  | e, E, D, L => Q e E D L
def notIn (F : Env) (d : Option Tmp) : Bool := match d with
  | none => true
  | some d => F.all fun x => !Nat.beq d x.1
theorem look_ne : ∀ {F : Env} {d i : Nat} {a : AV}, (F.all fun x => !Nat.beq d x.1) = true → look i F = some a → i ≠ d
  | [], _, _, _, _, h => by cases h
  | (j, b) :: F, d, i, a, hn, h => by
    simp only [List.all_cons, Bool.and_eq_true, Bool.not_eq_true'] at hn
    unfold look at h
    split at h
    · rename_i hb
      have hij : i = j := Nat.eq_of_beq_eq_true hb
      intro e
      subst e; subst hij
      rw [Nat.beq_refl] at hn; cases hn.1
    · exact look_ne hn.2 h
theorem EnvSat.put_ne {F : Env} {a : Act} {d : Option Tmp} {v : Value} (hn : notIn F d = true) (h : EnvSat F a.tmps) : EnvSat F (a.put d v).tmps := by
  cases d with
  | none => exact h
  | some d =>
    intro i b hi
    have := h i b hi
    show (a.tmps.setIfInBounds d v)[i]? = _
    rw [Array.getElem?_setIfInBounds_ne (Ne.symm (look_ne hn hi))]
    exact this
theorem WpE.region {id : Nat} {l : List Oper} (F : Env) (hF : ∀ i a, look i F = some a → look i E = some a) (hd : (l.all fun o => notIn F o.dst) = true) (h : WpO P n l.toArray (Post.froz F Q) .seq l E D L) : WpE P n (.region id l.toArray false) Q E D L := fun a w h1 h2 h3 h4 => by
  refine wp_region_lit ?_
  have hno : ¬ LetsOut (PostOf n (Post.froz F Q)) := by rintro ⟨_, _, q⟩; exact q
  refine wpList_frame (P := P) (ops := l.toArray) (Q := PostOf n (Post.froz F Q)) (F := fun a => EnvSat F a.tmps ∧ a.tmps.size = n) hno (fun e a' w' q1 ⟨q2, q3⟩ => ?_) (fun _ _ q => q) l a w (fun o ho a v q => ⟨EnvSat.put_ne (List.all_eq_true.1 hd o ho) q.1, by rw [Act.put_size, q.2]⟩) ⟨h2.weaken hF, h1⟩ (h.1 a w h1 h2 h3 h4)
  cases e <;> simp only [PostOf, PostE, Post.froz] at q1 ⊢
  case panic c =>
    obtain ⟨D, L, r1, r2, r3⟩ := q1
    exact ⟨F, D, L, r1, q3, q2, r2, r3⟩
  all_goals exact q1
end
end Go.Ab
end

section
/- The calculus: deferred closures. -/
namespace Go.Ab
open Go

/-- Contract of a function that is called as a deferred one, from a frame that leaves as u says. -/
def CtD (P : Program) (f : FuncId) (args : Array Value) (u : FrameMode) (L : List Assn) (R : Ending → FrameMode → List Assn → Prop) : Prop :=
  ∀ w, Sat (hp w) L → CallsD P f args u w (fun e u' w' => e ≠ .outgrown ∧ ∃ L', R e u' L' ∧ Sat (hp w') L')

section
variable {P : Program} {n : Nat} {ops : Array Oper} {Q : Post} {m m' : Md} {rest : List Oper} {E : Env} {D : List Deferred} {L : List Assn} {ty : TypeId} {pos : String} {af : Array Edge} {x y : Operand} {c1 c2 g : Bool} {d : Nat} {t : TypeId}

theorem recoverD_p {c : Frame} {cs : List Frame} {v : Value} (h : c.mode = .panicking [{ v, recovered := false }]) : recoverD (c :: cs) = some (v, { c with mode := .panicking [{ v, recovered := true }] } :: cs) := by
  unfold recoverD; simp only [h]
theorem recoverD_r {c : Frame} {cs : List Frame} (h : c.mode = .returning) : recoverD (c :: cs) = none := by
  unfold recoverD; simp only [h]

theorem CtD.of {f : FuncId} {fn : Func} {r : Nat} {tys : Array TypeId} {rest : Code} {args : Array Value} {u u' : FrameMode} {v : Value} {R : List Assn → Prop} (hf : P.funcs[f]? = some fn)
    (hb : fn.body = some (.seq (.region r #[⟨some d, .call ⟨.builtin .recover, #[], tys⟩, ty, pos, #[], none⟩] false) rest)) (hn : fn.ntmps = n) (hrs : fn.results = #[]) (hsz : Nat.ble args.size d = true) (hdn : Nat.blt d n = true)
    (hrec : ∀ (c : Frame) (cs : List Frame), c.mode = u → (match recoverD (c :: cs) with | some (v, cs') => (v, cs') | none => (.nilIface, c :: cs)) = (v, { c with mode := u' } :: cs))
    (h : Wp P n rest (BodyPost [] (ret fun _ L' => R L')) ((d, .v v) :: argEnv 0 args.toList) [] L) : CtD P f args u L (fun e u'' L' => e = .returned (.tuple #[]) ∧ u'' = u' ∧ R L') := fun w hw => by
  refine callsD_of_wpS hf hb fun c₀ cs hu => wpS_seq (wpS_region ?_)
  have hb1 := bleLe hsz
  have hd := bltLt hdn
  have hlist : List.range (#[({ dst := some d, op := .call ⟨.builtin .recover, #[], tys⟩, type := ty, pos := pos, after := #[], guard := none } : Oper)]).size = [0] := rfl
  rw [hlist]
  unfold wpOpsS
  simp only [List.getElem?_toArray, List.getElem?_cons_zero]
  have hwant : ∀ y, Region.wanted ({ dst := some d, op := .call ⟨.builtin .recover, #[], tys⟩, type := ty, pos := pos, after := #[], guard := none } : Oper) y = true := fun _ => rfl
  rw [if_pos (hwant _)]
  have hex : ∀ ρ, (execOp ρ { dst := some d, op := .call ⟨.builtin .recover, #[], tys⟩, type := ty, pos := pos, after := #[], guard := none }).run P w = .ok .recover w := fun _ => rfl
  rw [hex]
  have hr := hrec c₀ cs hu
  have key : wpOpsS P #[({ dst := some d, op := .call ⟨.builtin .recover, #[], tys⟩, type := ty, pos := pos, after := #[], guard := none } : Oper)] (Exit.thenS (rest.wpS P (bodyPostS P fn c₀ cs fun e u'' w' => e ≠ .outgrown ∧ ∃ L', (e = .returned (.tuple #[]) ∧ u'' = u' ∧ R L') ∧ Sat (hp w') L')) (bodyPostS P fn c₀ cs fun e u'' w' => e ≠ .outgrown ∧ ∃ L', (e = .returned (.tuple #[]) ∧ u'' = u' ∧ R L') ∧ Sat (hp w') L')) []
      (Act.put { tmps := args ++ Array.replicate (fn.ntmps - args.size) undef, defers := [] } (some d) v) ({ c₀ with mode := u' } :: cs) w := by
    unfold wpOpsS
    refine wpS_of_wp (wp_mono (h _ w ?_ ?_ ?_ hw) ?_)
    · rw [Act.put_size]; simp; omega
    · refine EnvSat.put (a := .v v) (argEnv_sat _ _ _ fun j v hj => ?_) ?_ 
      · have hlt : j < args.size := by
          have := (List.getElem?_eq_some_iff.1 hj).1
          simpa using this
        rw [Nat.zero_add, Array.getElem?_append_left hlt, ← Array.getElem?_toList]
        exact hj
      · simp; omega
    · rfl
    · intro e a w' hh
      cases e with
      | normal =>
        obtain ⟨E', D', L', ⟨h1, x, L'', h2, hd, h3⟩, _, h4, h5, h6⟩ := hh
        have hx := resV_run (P := P) (rs := []) (by rw [hrs]) h4 h2 w'
        obtain rfl : x = .tuple #[] := by simp only [resV, Option.some.injEq] at h2; exact h2.symm
        exact ⟨h5.trans h1, u', rfl, _, hx, nofun, L'', ⟨rfl, rfl, h3⟩, hd _ h6⟩
      | ret =>
        obtain ⟨E', D', L', ⟨h1, x, L'', h2, hd, h3⟩, _, h4, h5, h6⟩ := hh
        have hx := resV_run (P := P) (rs := []) (by rw [hrs]) h4 h2 w'
        obtain rfl : x = .tuple #[] := by simp only [resV, Option.some.injEq] at h2; exact h2.symm
        exact ⟨h5.trans h1, u', rfl, _, hx, nofun, L'', ⟨rfl, rfl, h3⟩, hd _ h6⟩
      | panic c =>
        obtain ⟨D', L', ⟨h1, h2⟩, h5, h6⟩ := hh
        exact h2.elim
      | exit id => obtain ⟨_, _, _, h, _⟩ := hh; exact h
      | goto id => obtain ⟨_, _, _, h, _⟩ := hh; exact h
      | outgrown => exact hh.elim
  cases hq : recoverD (c₀ :: cs) with
  | none =>
    rw [hq] at hr
    simp only [Prod.mk.injEq] at hr
    obtain ⟨rfl, hr2⟩ := hr
    simp only [hr2]
    exact key
  | some p =>
    obtain ⟨v', cs'⟩ := p
    rw [hq] at hr
    simp only [Prod.mk.injEq] at hr
    obtain ⟨rfl, rfl⟩ := hr
    exact key
theorem CtD.panicking {f : FuncId} {fn : Func} {r : Nat} {tys : Array TypeId} {rest : Code} {args : Array Value} {v : Value} {R : List Assn → Prop} (hf : P.funcs[f]? = some fn)
    (hb : fn.body = some (.seq (.region r #[⟨some d, .call ⟨.builtin .recover, #[], tys⟩, ty, pos, #[], none⟩] false) rest)) (hn : fn.ntmps = n) (hrs : fn.results = #[]) (hsz : Nat.ble args.size d = true) (hdn : Nat.blt d n = true)
    (h : Wp P n rest (BodyPost [] (ret fun _ L' => R L')) ((d, .v v) :: argEnv 0 args.toList) [] L) : CtD P f args (.panicking [{ v, recovered := false }]) L (fun e u'' L' => e = .returned (.tuple #[]) ∧ u'' = .panicking [{ v, recovered := true }] ∧ R L') :=
  CtD.of hf hb hn hrs hsz hdn (fun c cs h => by rw [recoverD_p h]) h
theorem CtD.returning {f : FuncId} {fn : Func} {r : Nat} {tys : Array TypeId} {rest : Code} {args : Array Value} {R : List Assn → Prop} (hf : P.funcs[f]? = some fn)
    (hb : fn.body = some (.seq (.region r #[⟨some d, .call ⟨.builtin .recover, #[], tys⟩, ty, pos, #[], none⟩] false) rest)) (hn : fn.ntmps = n) (hrs : fn.results = #[]) (hsz : Nat.ble args.size d = true) (hdn : Nat.blt d n = true)
    (h : Wp P n rest (BodyPost [] (ret fun _ L' => R L')) ((d, .v .nilIface) :: argEnv 0 args.toList) [] L) : CtD P f args .returning L (fun e u'' L' => e = .returned (.tuple #[]) ∧ u'' = .returning ∧ R L') :=
  CtD.of hf hb hn hrs hsz hdn (fun c cs h => by rw [recoverD_r h]; simp only [← h]) h

/-! ## A function that defers one closure -/
theorem WpO.defer [Nxt m m'] {f : FuncId} {cap : Array Value} {tys : Array TypeId} (hx : opv x E = some (c1, .func (.func f) #[] cap)) [Imp true c1] (hk : Keeps m L)
    (h : WpO P n ops Q m' rest E ({ target := .fn (.func f) cap, args := #[] } :: D) L) : WpO P n ops Q m (⟨none, .defer ⟨.value x, #[], tys⟩, ty, pos, af, none⟩ :: rest) E D L :=
  WpO.loud (m' := m') rfl fun a w K h1 h2 h3 h4 hK => by
    rw [if_pos (GuardIs.none (ops := ops) (E := E) rfl a h2)]
    unfold Oper.wp
    have he : (execOp a.eval ⟨none, .defer ⟨.value x, #[], tys⟩, ty, pos, af, none⟩).run P w = .ok (.defer { target := .fn (.func f) cap, args := #[] }) w := by
      show (do pure (Next.defer (← Deferred.ofValue (a.eval x) (#[].map a.eval))) : Sem Next).run P w = _
      rw [EvG.of (g := true) hx a h2 rfl, show (#[] : Array Operand).map a.eval = #[] from by simp]
      rfl
    rw [he]
    exact hK _ w E _ L h1 h2 (by rw [Act.put_defers', ← h3]) h4 hk h

def Leave (P : Program) (rs : List ResultVar) (R : Ending → List Assn → Prop) (E : Env) : FrameMode → List Assn → Prop
  | .returning, L => ∃ xs L', RVs P E L rs xs ∧ LeL L L' ∧ R (.returned (packV xs)) L'
  | .panicking c, L => R (.panicked c) L
  | .run, _ => False
def EndE (P : Program) (rs : List ResultVar) (R : Ending → List Assn → Prop) (u : FrameMode) (E : Env) : List Deferred → List Assn → Prop
  | [], L => Leave P rs R E u L
  | [d], L => u ≠ .run ∧ ∃ (f : FuncId) (cap : Array Value) (u' : FrameMode) (φ : List Assn → Prop), d = { target := .fn (.func f) cap, args := #[] } ∧ (∀ (args : Array Value) (w : World), Sem.run P (callFunc f args) w = .ok (.enter f args) w) ∧
      CtD P f cap u L (fun e u'' L' => e = .returned (.tuple #[]) ∧ u'' = u' ∧ φ L') ∧ ∀ L', φ L' → Leave P rs R E (settle u') L'
  | _, _ => False
def BodyPostE (P : Program) (rs : List ResultVar) (R : Ending → List Assn → Prop) : Post
  | .normal, E, D, L | .ret, E, D, L => EndE P rs R .returning E D L
  | .panic c, E, D, L => EndE P rs R (.panicking c) E D L
  | _, _, _, _ => False
theorem Leave.leaves {rs : List ResultVar} {R : Ending → List Assn → Prop} {fn : Func} {u : FrameMode} {tm : Array Value} {w : World} (hrs : fn.results = rs.toArray) (ht : EnvSat E tm) (hs : Sat (hp w) L) (h : Leave P rs R E u L) :
    Leaves P fn tm (fun e w' => e ≠ .outgrown ∧ ∃ L', R e L' ∧ Sat (hp w') L') [] u w := by
  cases u with
  | run => exact h
  | returning =>
    obtain ⟨xs, L', h1, h2, h3⟩ := h
    exact ⟨_, h1.results hrs ht hs, nofun, L', h3, h2 _ hs⟩
  | panicking c => exact ⟨nofun, L, h, hs⟩
theorem EndE.leaves {rs : List ResultVar} {R : Ending → List Assn → Prop} {fn : Func} {u : FrameMode} {tm : Array Value} {w : World} (hrs : fn.results = rs.toArray) (ht : EnvSat E tm) (hs : Sat (hp w) L) : ∀ {D : List Deferred}, EndE P rs R u E D L →
    Leaves P fn tm (fun e w' => e ≠ .outgrown ∧ ∃ L', R e L' ∧ Sat (hp w') L') D u w
  | [], h => Leave.leaves hrs ht hs h
  | [d], h => by
    obtain ⟨hu, f, cap, u', φ, rfl, hc, hct, hl⟩ := h
    refine leaves_cons hu (f := f) (args := cap) ?_ ((hct w hs).mono fun e u'' w' ⟨_, L', ⟨e1, e2, h3⟩, hs'⟩ => ?_)
    · have := hc (#[] ++ cap) w
      rw [Array.empty_append] at this
      show (callFunc f (#[] ++ cap)).run P w = _
      rw [Array.empty_append]; exact this
    · subst e1; subst e2
      exact Leave.leaves hrs ht hs' (hl _ h3)
  | _ :: _ :: _, h => h.elim
theorem Ct.bodyE {f : FuncId} {fn : Func} {c : Code} {args : Array Value} {R : Ending → List Assn → Prop} {rs : List ResultVar} (hf : P.funcs[f]? = some fn) (hb : fn.body = some c)
    (hn : fn.ntmps = n) (hrs : fn.results = rs.toArray) (hsz : Nat.ble args.size n = true)
    (h : WpE P n c (BodyPostE P rs R) (argEnv 0 args.toList) [] L) : Ct P f args L R := fun w hw => by
  refine calls_of_wp_defers hf hb (wp_mono (h _ w ?_ ?_ rfl hw) ?_)
  · have := bleLe hsz
    simp; omega
  · refine argEnv_sat _ _ _ fun j v hj => ?_
    have hlt : j < args.size := by
      have := (List.getElem?_eq_some_iff.1 hj).1
      simpa using this
    rw [Nat.zero_add, Array.getElem?_append_left hlt, ← Array.getElem?_toList]
    exact hj
  · intro e a w' hh
    cases e with
    | normal => obtain ⟨E', D', L', h1, _, h4, h5, h6⟩ := hh; subst h5; exact EndE.leaves hrs h4 h6 h1
    | ret => obtain ⟨E', D', L', h1, _, h4, h5, h6⟩ := hh; subst h5; exact EndE.leaves hrs h4 h6 h1
    | panic c => obtain ⟨E', D', L', h1, _, h4, h5, h6⟩ := hh; subst h5; exact EndE.leaves hrs h4 h6 h1
    | exit id => obtain ⟨_, _, _, h, _⟩ := hh; exact h
    | goto id => obtain ⟨_, _, _, h, _⟩ := hh; exact h
    | outgrown => exact hh.elim
end
end Go.Ab
end

section
/- The calculus: parts packed as one. -/
namespace Go.Ab
open Go

/-- Parts as one, of which something is known. -/
def pkgA (φ : List Assn → Prop) : Assn := fun h => ∃ M, φ M ∧ Sat h M
theorem Sat.flat : ∀ {M L : List Assn} {k h : Hp}, Hp.le h k → Sat h M → Sat (Hp.diff k h) L → Sat k (M ++ L)
  | [], _, _, _, _, _, s => Sat.mono (Hp.diff_le _ _) s
  | A :: M, L, k, h, hk, ⟨h1, l1, a1, s1⟩, s => by
    have hle : Hp.le (Hp.diff k h) (Hp.diff (Hp.diff k h1) (Hp.diff h h1)) := ⟨fun b o e => by
      have e : (if (h b).isSome then none else k b) = some o := e
      show (if (if (h1 b).isSome then none else h b).isSome then none else (if (h1 b).isSome then none else k b)) = some o
      split at e
      · cases e
      · rename_i hb
        have hn : ¬ (h1 b).isSome = true := fun q => by
          obtain ⟨x, hx⟩ := Option.isSome_iff_exists.1 q
          rw [l1 b x hx] at hb; exact hb rfl
        rw [if_neg hn, if_neg hn, if_neg hb]; exact e, rfl⟩
    exact ⟨h1, Hp.le_trans l1 hk, a1, Sat.flat (Hp.diff_mono h1 hk) s1 (Sat.mono hle s)⟩
theorem Sat.pack : ∀ {M L : List Assn} {k : Hp}, Sat k (M ++ L) → ∃ h, Hp.le h k ∧ Sat h M ∧ Sat (Hp.diff k h) L
  | [], L, k, s => by
    have hle : Hp.le k (Hp.diff k ⟨fun _ => none, k.met⟩) := ⟨fun b o e => by
      show (if (none : Option Obj).isSome then none else k b) = some o
      rw [if_neg (by simp)]; exact e, rfl⟩
    exact ⟨⟨fun _ => none, k.met⟩, ⟨fun _ _ e => (by cases e), rfl⟩, trivial, Sat.mono hle s⟩
  | A :: M, L, k, ⟨h1, l1, a1, s1⟩ => by
    obtain ⟨h2, l2, s2, s3⟩ := Sat.pack (M := M) s1
    have hdis : ∀ b o, h2 b = some o → ¬ (h1 b).isSome = true ∧ k b = some o := fun b o e => by
      have : (if (h1 b).isSome then none else k b) = some o := l2 b o e
      split at this
      · cases this
      · rename_i hn; exact ⟨hn, this⟩
    have le1 : Hp.le ⟨fun b => if (h1 b).isSome then h1 b else h2 b, k.met⟩ k := ⟨fun b o e => by
      have e : (if (h1 b).isSome then h1 b else h2 b) = some o := e
      split at e
      · exact l1 b o e
      · exact (hdis b o e).2, rfl⟩
    have le2 : Hp.le h1 ⟨fun b => if (h1 b).isSome then h1 b else h2 b, k.met⟩ := ⟨fun b o e => by
      show (if (h1 b).isSome then h1 b else h2 b) = some o
      rw [if_pos (by rw [e]; rfl)]; exact e, l1.m⟩
    have le3 : Hp.le h2 (Hp.diff ⟨fun b => if (h1 b).isSome then h1 b else h2 b, k.met⟩ h1) := ⟨fun b o e => by
      show (if (h1 b).isSome then none else (if (h1 b).isSome then h1 b else h2 b)) = some o
      rw [if_neg (hdis b o e).1, if_neg (hdis b o e).1]; exact e, l2.m⟩
    have le4 : Hp.le (Hp.diff (Hp.diff k h1) h2) (Hp.diff k ⟨fun b => if (h1 b).isSome then h1 b else h2 b, k.met⟩) := ⟨fun b o e => by
      have e : (if (h2 b).isSome then none else (if (h1 b).isSome then none else k b)) = some o := e
      show (if (if (h1 b).isSome then h1 b else h2 b).isSome then none else k b) = some o
      split at e
      · cases e
      · rename_i hn2
        split at e
        · cases e
        · rename_i hn1
          rw [if_neg hn1, if_neg hn2]; exact e, rfl⟩
    exact ⟨_, le1, ⟨h1, le2, a1, Sat.mono le3 s2⟩, Sat.mono le4 s3⟩
theorem Sat.openP {φ : List Assn → Prop} {L : List Assn} {k : Hp} (h : Sat k (pkgA φ :: L)) : ∃ M, φ M ∧ Sat k (M ++ L) := by
  obtain ⟨h1, l1, ⟨M, hM, hs⟩, s⟩ := h
  exact ⟨M, hM, Sat.flat l1 hs s⟩
theorem Sat.closeP {φ : List Assn → Prop} {L M : List Assn} {k : Hp} (hM : φ M) (h : Sat k (M ++ L)) : Sat k (pkgA φ :: L) := by
  obtain ⟨h1, l1, hs, s⟩ := Sat.pack h
  exact ⟨h1, l1, ⟨M, hM, hs⟩, s⟩
theorem LeL.closeP {φ : List Assn → Prop} {L M : List Assn} (hM : φ M) : LeL (M ++ L) (pkgA φ :: L) := fun _ h => Sat.closeP hM h
theorem LeL.erase {L : List Assn} (i : Nat) : LeL L (L.eraseIdx i) := fun k h => by
  rcases Nat.lt_or_ge i L.length with q | q
  · exact (Sat.pull (List.getElem?_eq_getElem q) h).tail
  · rw [List.eraseIdx_of_length_le q]; exact h
section
variable {P : Program} {n : Nat} {ops : Array Oper} {Q : Post} {m m' : Md} {rest : List Oper} {E : Env} {D : List Deferred} {L : List Assn} {ty : TypeId} {pos : String} {af : Array Edge} {x y : Operand} {c1 c2 g : Bool} {d : Nat} {t : TypeId}
theorem Wp.openP {c : Code} {φ : List Assn → Prop} (i : Nat) (hi : L[i]? = some (pkgA φ)) (h : ∀ M, φ M → Wp P n c Q E D (M ++ L.eraseIdx i)) : Wp P n c Q E D L := fun a w h1 h2 h3 h4 => by
  obtain ⟨M, hM, hs⟩ := Sat.openP (Sat.pull hi h4)
  exact h M hM a w h1 h2 h3 hs
theorem Ct.openP {f : FuncId} {args : Array Value} {R : Ending → List Assn → Prop} {φ : List Assn → Prop} (i : Nat) (hi : L[i]? = some (pkgA φ)) (h : ∀ M, φ M → Ct P f args (M ++ L.eraseIdx i) R) : Ct P f args L R := fun w hw => by
  obtain ⟨M, hM, hs⟩ := Sat.openP (Sat.pull hi hw)
  exact h M hM w hs
theorem WpO.openP {φ : List Assn → Prop} {l : List Oper} (i : Nat) (hi : L[i]? = some (pkgA φ)) (h : ∀ M, φ M → WpO P n ops Q .seq l E D (M ++ L.eraseIdx i)) : WpO P n ops Q .seq l E D L :=
  ⟨fun a w h1 h2 h3 h4 => by
    obtain ⟨M, hM, hs⟩ := Sat.openP (Sat.pull hi h4)
    exact (h M hM).1 a w h1 h2 h3 hs, fun pl listed hp hb a w h1 h2 h3 h4 => by
    obtain ⟨M, hM, hs⟩ := Sat.openP (Sat.pull hi h4)
    exact (h M hM).2 pl listed hp hb a w h1 h2 h3 hs⟩
/-- Of a contract on the first part, one on the part wherever it stands. -/
theorem Ct.pull {f : FuncId} {args : Array Value} {R : Ending → List Assn → Prop} {A : Assn} (i : Nat) (hi : L[i]? = some A) (h : Ct P f args (A :: L.eraseIdx i) R) : Ct P f args L R := h.weaken fun _ s => Sat.pull hi s
theorem LeL.set {A A' : Assn} (i : Nat) (hi : L[i]? = some A) : LeL (A' :: L.eraseIdx i) (L.set i A') := fun _ s => Sat.set hi s
theorem Ct.wkR {f : FuncId} {args : Array Value} {R R' : Ending → List Assn → Prop} (h : Ct P f args L R) (hR : ∀ e L', R e L' → ∃ L'', LeL L' L'' ∧ R' e L'') : Ct P f args L R' :=
  fun w hw => (h w hw).mono fun e w' ⟨h0, L', h1, h2⟩ => by
    obtain ⟨L'', q1, q2⟩ := hR _ _ h1
    exact ⟨h0, L'', q2, q1 _ h2⟩
/-- A call of a method value, or of a closure, that may panic. -/
theorem WpO.callmP [Nxt m m'] {f : FuncId} {args : List Operand} {tys : Array TypeId} {vs : List Value} {fst cap : Array Value} {φ ψ : Value → List Assn → Prop} (hc : ∀ (args : Array Value) (w : World), Sem.run P (callFunc f args) w = .ok (.enter f args) w) (h0 : Nat.blt d n = true) (hx : opv x E = some (true, .func (.func f) fst cap)) (hargs : EvsG E true args vs)
    (hct : Ct P f (fst.toList ++ vs ++ cap.toList).toArray L (retP φ ψ)) (hp' : ∀ v L', ψ v L' → Q (.panic [{ v, recovered := false }]) [] D L') (h : ∀ v L', φ v L' → Keeps m L' ∧ WpO P n ops Q m' rest ((d, .v v) :: E) D L') : WpO P n ops Q m (⟨some d, .call ⟨.value x, args.toArray, tys⟩, ty, pos, af, Option.none⟩ :: rest) E D L :=
  WpO.op rfl h0 (OpT.callM hc hx hargs hct) (fun _ _ ⟨_, e, q⟩ => by subst e; exact hp' _ _ q) h
end
end Go.Ab
end
