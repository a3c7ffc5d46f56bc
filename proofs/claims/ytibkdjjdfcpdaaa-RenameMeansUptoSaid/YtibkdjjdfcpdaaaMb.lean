/- Parts of a proof: Am An Ao Ap Aq Ar Ty As At Au Av Aw Ax. -/
import Derived.Test.YtibkdjjdfcpdaaaMa
import Derived.Laws.IdiomStrings
import Derived.Lib.UnsafeStr
import Derived.Lib.ConvBytes
import Derived.ChangeSame
import Derived.ChangeArms
import Derived.Deep.Slices
import Derived.Test.YtibkdjjdfcpdaaaProg
import Derived.Recover
import Derived.RangeFuncSeq
import Derived.RangeFuncRecord
import Derived.RangeFuncIn
import Derived.RangeFuncLeaves
import Derived.WideLaws
set_option linter.unusedVariables false
set_option linter.unusedSimpArgs false
set_option linter.unusedSectionVars false
section
/- Loops; trees in memory. -/
namespace Go.Ab
open Go

def EnvLe : Env → Env → Prop
  | [], _ => True
  | (i, a) :: r, E => look i E = some a ∧ EnvLe r E
theorem EnvLe.look : ∀ {E' E : Env}, EnvLe E' E → ∀ i a, look i E' = some a → look i E = some a
  | [], _, _, _, _, h => by cases h
  | (j, b) :: r, E, h, i, a, hi => by
    unfold Ab.look at hi
    by_cases e : i = j
    · subst e; simp only [Nat.beq_refl, Option.some.injEq] at hi; subst hi; exact h.1
    · rw [beqF e] at hi; exact EnvLe.look h.2 i a hi
def LeL (L L' : List Assn) : Prop := ∀ k, Sat k L → Sat k L'
theorem LeL.refl (L : List Assn) : LeL L L := fun _ h => h
theorem LeL.drop (n : Nat) (L : List Assn) : LeL L (L.drop n) := fun _ h => Sat.dropN n h
theorem LeL.trans {L M N : List Assn} (h : LeL L M) (k : LeL M N) : LeL L N := fun q s => k q (h q s)
theorem LeL.cons {A : Assn} {L M : List Assn} (h : LeL L M) : LeL (A :: L) (A :: M) := fun _ s => Sat.cons_mono h s
theorem LeL.perm {L M : List Assn} (h : L.Perm M) : LeL L M := fun _ s => Sat.perm h s

section
variable {P : Program} {n : Nat} {Q : Post} {E : Env} {D : List Deferred} {L : List Assn}
/-- What a round's end owes. -/
def Round {α : Type} (Ei : α → Env) (D : List Deferred) (Li : α → List Assn) (μ : α → Nat) (inv : α → Prop) (x : α) (E' : Env) (D' : List Deferred) (L' : List Assn) : Prop :=
  ∃ y, μ y < μ x ∧ inv y ∧ EnvLe (Ei y) E' ∧ D' = D ∧ LeL L' (Li y)
theorem Wp.loopI {c : Code} {α : Type} (x0 : α) (Ei : α → Env) (Li : α → List Assn) (μ : α → Nat) (inv : α → Prop) (h0 : inv x0) (hE : EnvLe (Ei x0) E) (hL : LeL L (Li x0))
    (round : ∀ x, inv x → Wp P n c (Post.then (Round Ei D Li μ inv x) Q) (Ei x) D (Li x)) : Wp P n (.loop c) Q E D L :=
  Wp.loop (fun x E' D' L' => inv x ∧ EnvLe (Ei x) E' ∧ D' = D ∧ LeL L' (Li x)) μ x0 ⟨h0, hE, rfl, hL⟩ fun x E' D' L' ⟨h1, h2, h3, h4⟩ => by
    subst h3
    exact Wp.mono (Wp.weaken (EnvLe.look h2) h4 (round x h1)) fun e E D L hq => by cases e <;> exact hq
theorem Round.mk {α : Type} {Ei : α → Env} {Li : α → List Assn} {μ : α → Nat} {inv : α → Prop} {x : α} (y : α) (hμ : μ y < μ x) (hi : inv y) (hE : EnvLe (Ei y) E) (hL : LeL L (Li y)) : Round Ei D Li μ inv x E D L := ⟨y, hμ, hi, hE, rfl, hL⟩

/-- Where ways meet: what holds there. -/
theorem Wp.cut {x y : Code} {α : Type} (Ei : α → Env) (Li : α → List Assn) (inv : α → Prop)
    (h1 : Wp P n x (Post.then (fun E' D' L' => ∃ z, inv z ∧ EnvLe (Ei z) E' ∧ D' = D ∧ LeL L' (Li z)) Q) E D L) (h2 : ∀ z, inv z → Wp P n y Q (Ei z) D (Li z)) : Wp P n (.seq x y) Q E D L :=
  Wp.seq (Wp.mono h1 fun e E' D' L' h => by
    cases e
    case normal => obtain ⟨z, q1, q2, q3, q4⟩ := h; subst q3; exact Wp.weaken (EnvLe.look q2) q4 (h2 z q1)
    all_goals exact h)
end

/-! ## Trees -/
structure Nd where
  op : Int
  text : ByteArray
  num : Int
  kids : List Int
def ints (l : List Int) : List (List Value) := l.map fun x => [.int .i64 x]
def ndRow (nd : Nd) (k : Option Addr × Nat) : List Value := [.int .i64 nd.op, .string nd.text, .int .i64 nd.num, .slice k.1 nd.kids.length k.2]
structure TreeR (L : List Assn) (a : Option Addr) (c : Nat) (t : List Nd) : Prop where
  ex : ∃ ks : List (Option Addr × Nat), ks.length = t.length ∧ Sl L a c 4 (List.zipWith ndRow t ks) ∧ ∀ (i : Nat) (nd : Nd) (k : Option Addr × Nat), t[i]? = some nd → ks[i]? = some k → Sl L k.1 k.2 1 (ints nd.kids)
theorem TreeR.wk {L L' : List Assn} {a : Option Addr} {c : Nat} {t : List Nd} (h : TreeR L a c t) (hL : LeL L' L) : TreeR L' a c t := by
  obtain ⟨ks, h1, h2, h3⟩ := h.ex
  exact ⟨ks, h1, h2.wk hL, fun i nd k e1 e2 => (h3 i nd k e1 e2).wk hL⟩
theorem TreeR.cons {L : List Assn} {A : Assn} {a : Option Addr} {c : Nat} {t : List Nd} (h : TreeR L a c t) : TreeR (A :: L) a c t := h.wk fun _ s => s.tail
theorem TreeR.cap {L : List Assn} {a : Option Addr} {c : Nat} {t : List Nd} (h : TreeR L a c t) : t.length ≤ c := by
  obtain ⟨ks, h1, h2, _⟩ := h.ex
  have := h2.cap; rw [List.length_zipWith, h1, Nat.min_self] at this; exact this
theorem TreeR.at {L : List Assn} {a : Option Addr} {c : Nat} {t : List Nd} (h : TreeR L a c t) {i : Nat} {nd : Nd} (hi : t[i]? = some nd) :
    ∃ b o ka kc, a = some ⟨b, o, none⟩ ∧ Ent L (CellsAt b (o + i * 4) [.int .i64 nd.op, .string nd.text, .int .i64 nd.num, .slice ka nd.kids.length kc]) ∧ Sl L ka kc 1 (ints nd.kids) := by
  obtain ⟨ks, h1, h2, h3⟩ := h.ex
  have hlt := (List.getElem?_eq_some_iff.1 hi).1
  have hk : ks[i]? = some ks[i] := List.getElem?_eq_getElem (by omega)
  have hr : (List.zipWith ndRow t ks)[i]? = some (ndRow nd ks[i]) := by rw [List.getElem?_zipWith, hi, hk]
  obtain ⟨b, o, e1, _, e3⟩ := h2.at hr
  exact ⟨b, o, ks[i].1, ks[i].2, e1, e3, h3 i nd _ hi hk⟩
theorem ints_at {L : List Assn} {a : Option Addr} {c : Nat} {l : List Int} (h : Sl L a c 1 (ints l)) {i : Nat} {x : Int} (hi : l[i]? = some x) : ∃ b o, a = some ⟨b, o, none⟩ ∧ Ent L (CellsAt b (o + i * 1) [.int .i64 x]) := by
  obtain ⟨b, o, e1, _, e3⟩ := h.at (i := i) (r := [.int .i64 x]) (by simp [ints, hi])
  exact ⟨b, o, e1, e3⟩
theorem ints_length (l : List Int) : (ints l).length = l.length := by simp [ints]
end Go.Ab
end

section
/- The calculus: calls under a guard, calls of closures, texts: cut, indexed, ranged over, made of bytes. -/
namespace Go.Ab
open Go
attribute [local irreducible] Wp WpO Qt OpT Ct

/-- Operands, if g. -/
inductive EvsG (E : Env) (g : Bool) : List Operand → List Value → Prop where
  | nil : EvsG E g [] []
  | cons {x : Operand} {l : List Operand} {c : Bool} {v : Value} {vs : List Value} (h : opv x E = some (c, v)) (i : Imp g c) (r : EvsG E g l vs) : EvsG E g (x :: l) (v :: vs)
theorem EvsG.sat {E : Env} {g : Bool} {l : List Operand} {vs : List Value} (h : EvsG E g l vs) {a : Act} (ha : EnvSat E a.tmps) (hg : g = true) : l.map a.eval = vs := by
  induction h with
  | nil => rfl
  | cons h i r ih => rw [List.map_cons, EvG.of h a ha hg, ih]

section
variable {P : Program} {n : Nat} {Q : Post} {E : Env} {D : List Deferred} {L : List Assn} {ops : Array Oper} {rest : List Oper} {m m' : Md} {d : Nat} {ty : TypeId} {pos : String} {af : Array Edge} {x y z : Operand} {t u : TypeId} {gd : Nat × Bool} {g c1 c2 : Bool}

attribute [local semireducible] OpT in
theorem OpT.callG {d : Option Tmp} {gd : Option (Nat × Bool)} {f : FuncId} {args : List Operand} {tys : Array TypeId} {vs : List Value} {R : Ending → List Assn → Prop}
    (hc : ∀ (args : Array Value) (w : World), Sem.run P (callFunc f args) w = .ok (.enter f args) w) (hargs : EvsG E true args vs) (hct : Ct P f vs.toArray L R) :
    OpT P E L ⟨d, .call ⟨.value (.func f), args.toArray, tys⟩, ty, pos, af, gd⟩ (fun v L' => R (.returned v) L') (fun c L' => R (.panicked c) L') := fun a w K Q0 h1 h2 hK hp' => by
  unfold Oper.wp
  have hm := hargs.sat h1 rfl
  have he : (execOp a.eval ⟨d, .call ⟨.value (.func f), args.toArray, tys⟩, ty, pos, af, gd⟩).run P w = .ok (.enter f vs.toArray) w := by
    show (callFunc f ((#[] ++ args.toArray.map a.eval) ++ #[])).run P w = _
    have : (#[] ++ args.toArray.map a.eval) ++ #[] = vs.toArray := by rw [← hm]; simp
    rw [this]; exact hc _ w
  rw [he]
  unfold Ct at hct
  refine (hct w h2).mono fun e w' ⟨h0, L', hR, hS⟩ => ?_
  cases e with
  | returned v => exact hK v w' L' hR hS
  | panicked c => exact hp' c w' L' hR hS
  | outgrown => exact absurd rfl h0

attribute [local semireducible] OpT in
theorem OpT.callC {d : Option Tmp} {gd : Option (Nat × Bool)} {f : FuncId} {args : List Operand} {tys : Array TypeId} {vs : List Value} {cap : Array Value} {R : Ending → List Assn → Prop}
    (hc : ∀ (args : Array Value) (w : World), Sem.run P (callFunc f args) w = .ok (.enter f args) w) (hx : opv x E = some (c1, .func (.func f) #[] cap)) [Imp true c1] (hargs : EvsG E true args vs) (hct : Ct P f (vs ++ cap.toList).toArray L R) :
    OpT P E L ⟨d, .call ⟨.value x, args.toArray, tys⟩, ty, pos, af, gd⟩ (fun v L' => R (.returned v) L') (fun c L' => R (.panicked c) L') := fun a w K Q0 h1 h2 hK hp' => by
  unfold Oper.wp
  have hm := hargs.sat h1 rfl
  have he : (execOp a.eval ⟨d, .call ⟨.value x, args.toArray, tys⟩, ty, pos, af, gd⟩).run P w = .ok (.enter f (vs ++ cap.toList).toArray) w := by
    show (do let d ← Deferred.ofValue (a.eval x) (args.toArray.map a.eval); invoke d.target d.args : Sem Next).run P w = _
    rw [EvG.of (g := true) hx a h1 rfl]
    show (callFunc f ((#[] ++ args.toArray.map a.eval) ++ cap)).run P w = _
    have : (#[] ++ args.toArray.map a.eval) ++ cap = (vs ++ cap.toList).toArray := by rw [← hm]; simp
    rw [this]; exact hc _ w
  rw [he]
  unfold Ct at hct
  refine (hct w h2).mono fun e w' ⟨h0, L', hR, hS⟩ => ?_
  cases e with
  | returned v => exact hK v w' L' hR hS
  | panicked c => exact hp' c w' L' hR hS
  | outgrown => exact absurd rfl h0

/-- A call under a guard, that leaves memory as it is. -/
theorem WpO.callqg [Nxt m m'] {f : FuncId} {args : List Operand} {tys : Array TypeId} {vs : List Value} {v : Value} (hc : ∀ (args : Array Value) (w : World), Sem.run P (callFunc f args) w = .ok (.enter f args) w) (h0 : Nat.blt d n = true) (hg : guardOf ops E gd = some g) (hargs : EvsG E g args vs)
    (hct : g = true → Ct P f vs.toArray L (ret fun r L' => r = v ∧ L' = L)) (hk : Keeps m L) (h : WpO P n ops Q m' rest ((d, .g g v) :: E) D L) : WpO P n ops Q m (⟨some d, .call ⟨.value (.func f), args.toArray, tys⟩, ty, pos, af, some gd⟩ :: rest) E D L :=
  WpO.loud (m' := m') rfl fun a w K h1 h2 h3 h4 hK => by
    have hgi : GuardIs ops E ⟨some d, .call ⟨.value (.func f), args.toArray, tys⟩, ty, pos, af, some gd⟩ g := GuardIs.of rfl hg
    have hlt : d < a.tmps.size := by rw [h1]; exact bltLt h0
    rw [hgi a h2]
    cases g with
    | false =>
      rw [if_neg (by simp)]
      exact hK _ w _ D L (by rw [Act.put_size, h1]) (EnvSat.put h2 hlt (.g false v)) (by rw [Act.put_defers', h3]) h4 hk h
    | true =>
      rw [if_pos rfl]
      have ho := OpT.callG (P := P) (E := E) (L := L) (d := some d) (ty := ty) (pos := pos) (af := af) (gd := some gd) (tys := tys) hc hargs (hct rfl)
      unfold OpT at ho
      refine ho a w K _ h2 h4 (fun r w' L' hR hS => ?_) (fun c w' L' hR hS => hR.elim)
      obtain ⟨rfl, rfl⟩ := hR
      exact hK _ w' _ D L' (by rw [Act.put_size, h1]) (EnvSat.put h2 hlt (.g true r)) (by rw [Act.put_defers', h3]) hS hk h
/-- A call of a closure. -/
theorem WpO.callc [Nxt m m'] {f : FuncId} {args : List Operand} {tys : Array TypeId} {vs : List Value} {cap : Array Value} {φ : Value → List Assn → Prop} (hc : ∀ (args : Array Value) (w : World), Sem.run P (callFunc f args) w = .ok (.enter f args) w) (h0 : Nat.blt d n = true) (hx : opv x E = some (true, .func (.func f) #[] cap)) (hargs : EvsG E true args vs)
    (hct : Ct P f (vs ++ cap.toList).toArray L (ret φ)) (h : ∀ v L', φ v L' → Keeps m L' ∧ WpO P n ops Q m' rest ((d, .v v) :: E) D L') : WpO P n ops Q m (⟨some d, .call ⟨.value x, args.toArray, tys⟩, ty, pos, af, Option.none⟩ :: rest) E D L :=
  WpO.op rfl h0 (OpT.callC hc hx hargs hct) nofun h
theorem S.makeFunc [Nxt m m'] {f : FuncId} {ca : List Operand} {cv : List Value} (h0 : Nat.blt d n = true) (hca : EvsG E true ca cv)
    (h : WpO P n ops Q m' rest ((d, .v (.func (.func f) #[] cv.toArray)) :: E) D L) : WpO P n ops Q m (⟨some d, .makeFunc (.func f) #[] ca.toArray, ty, pos, af, Option.none⟩ :: rest) E D L :=
  WpO.q rfl h0 (Qt.makeFunc (fun a ha _ => by simpa using hca.sat ha rfl)) h
theorem G.loadN [Nxt m m'] {b o sz : Nat} {vs : List Value} (h0 : Nat.blt d n = true) (hg : guardOf ops E gd = some g) (hx : opv x E = some (c1, .pointer (some ⟨b, o, Option.none⟩))) (i1 : Imp g c1) [TSize P t sz true] (hE : Ent (mem m L) (CellsAt b o vs)) (hl : vs.length = sz)
    (h : WpO P n ops Q m' rest ((d, .g g (.agg vs.toArray)) :: E) D L) : WpO P n ops Q m (⟨some d, .load t x, ty, pos, af, some gd⟩ :: rest) E D L := WpO.qd rfl h0 hg (Qt.loadN (fun _ => hE) hl hx) h
theorem S.build [Nxt m m'] {ps : List (Nat × Operand)} {vs : List (Nat × Value)} {cs zs : List Value} {pl : List (Nat × Nat)} (h0 : Nat.blt d n = true) (hp : pev ps E = some vs) [ht : TStruct P t pl zs] (hf : fillB (pl[·]?) zs vs = some cs)
    (h : WpO P n ops Q m' rest ((d, .v (.agg cs.toArray)) :: E) D L) : WpO P n ops Q m (⟨some d, .build t ps.toArray, ty, pos, af, Option.none⟩ :: rest) E D L := WpO.q rfl h0 (Qt.build hp hf) h

attribute [local semireducible] Qt in
theorem Qt.idxO {d : Option Tmp} {gd : Option (Nat × Bool)} {e b o ln c sz : Nat} {a : Option Addr} {agg : Bool} {i : Int} {ik : IntKind} [USlice P t e] [TSize P e sz agg] (k : Nat) (hx : opv x E = some (c1, .slice a ln c)) [Imp g c1] (hy : opv y E = some (c2, .int ik i)) [Imp g c2]
    (h0 : g = true → a = some ⟨b, o, none⟩ ∧ i = (k : Int) ∧ k < ln) : Qt P E L ⟨d, .indexAddr t x y, ty, pos, af, gd⟩ g (.pointer (some ⟨b, o + k * sz, none⟩)) := fun ac w h1 h2 h3 => by
  obtain ⟨e1, e2, e3⟩ := h0 h3
  subst e1
  exact Qt.idx k hx hy (fun _ => ⟨e2, e3⟩) ac w h1 h2 h3
/-- A place of a slice that is read only if g. -/
theorem G.idxO [Nxt m m'] {e b o ln c sz : Nat} {a : Option Addr} {agg : Bool} {i : Int} {ik : IntKind} (k : Nat) (h0 : Nat.blt d n = true) (hg : guardOf ops E gd = some g) (hx : opv x E = some (c1, .slice a ln c)) (i1 : Imp g c1) (hy : opv y E = some (c2, .int ik i)) (i2 : Imp g c2) [USlice P t e] [TSize P e sz agg]
    (hi : g = true → a = some ⟨b, o, Option.none⟩ ∧ i = (k : Int) ∧ k < ln) (h : WpO P n ops Q m' rest ((d, .g g (.pointer (some ⟨b, o + k * sz, Option.none⟩))) :: E) D L) : WpO P n ops Q m (⟨some d, .indexAddr t x y, ty, pos, af, some gd⟩ :: rest) E D L :=
  WpO.qd rfl h0 hg (Qt.idxO k hx hy hi) h
theorem G.loadIf [Nxt m m'] {b o : Nat} {v : Value} (h0 : Nat.blt d n = true) (hg : guardOf ops E gd = some g) (hx : opv x E = some (c1, .pointer (some ⟨b, o, none⟩))) (i1 : Imp g c1) (hz : TSize P t 1 false) (hE : g = true → Ent (mem m L) (CellsAt b o [v]))
    (h : WpO P n ops Q m' rest ((d, .g g v) :: E) D L) : WpO P n ops Q m (⟨some d, .load t x, ty, pos, af, some gd⟩ :: rest) E D L := WpO.qd rfl h0 hg (Qt.load hE hx) h
theorem LeL.head {A A' : Assn} {L : List Assn} (h : ∀ k, A k → A' k) : LeL (A :: L) (A' :: L) := fun _ ⟨h1, l1, a1, s⟩ => ⟨h1, l1, h _ a1, s⟩
theorem slA_zero {a : Option Addr} {c sz : Nat} (h : a = none ∨ ∃ b o, a = some ⟨b, o, none⟩) : slA a c 0 sz = a := by
  unfold slA
  split
  · rfl
  · rcases h with rfl | ⟨b, o, rfl⟩
    · rfl
    · simp [Addr.add_eq]

/-! ### Bounds of a cut -/
inductive Bd (E : Env) (g : Bool) (df : Nat) : Option Operand → Nat → Prop where
  | no : Bd E g df none df
  | at {x : Operand} {c : Bool} {k : IntKind} {i : Int} (l : Nat) (h : opv x E = some (c, .int k i)) (i1 : Imp g c) (e : g = true → i = (l : Int)) : Bd E g df (some x) l
theorem Bd.sat {df l : Nat} {o : Option Operand} (h : Bd E g df o l) : ∀ a : Act, EnvSat E a.tmps → g = true → o.map a.eval = none ∧ l = df ∨ ∃ k, o.map a.eval = some (.int k (l : Int)) := fun a ha hg => by
  cases h with
  | no => exact .inl ⟨rfl, rfl⟩
  | «at» l h i1 e => right; exact ⟨_, by rw [Option.map_some, EvG.of h a ha hg, e hg]⟩
theorem S.sliceS [Nxt m m'] {s : ByteArray} {lo hi : Option Operand} (l h : Nat) (h0 : Nat.blt d n = true) (hx : opv x E = some (true, .string s)) [UStr P t] (hlo : Bd E true 0 lo l) (hhi : Bd E true (bs s).length hi h) (hb : l ≤ h ∧ h ≤ (bs s).length)
    (hh : WpO P n ops Q m' rest ((d, .v (.string (s.extract l h))) :: E) D L) : WpO P n ops Q m (⟨some d, .slice t x lo hi none, ty, pos, af, Option.none⟩ :: rest) E D L :=
  WpO.q rfl h0 (Qt.sliceS (l := l) (h := h) hx hlo.sat hhi.sat (fun _ => hb)) hh
theorem G.sliceS [Nxt m m'] {s : ByteArray} {lo hi : Option Operand} (l h : Nat) (h0 : Nat.blt d n = true) (hg : guardOf ops E gd = some g) (hx : opv x E = some (c1, .string s)) (i1 : Imp g c1) [UStr P t] (hlo : Bd E g 0 lo l) (hhi : Bd E g (bs s).length hi h) (hb : g = true → l ≤ h ∧ h ≤ (bs s).length)
    (hh : WpO P n ops Q m' rest ((d, .g g (.string (s.extract l h))) :: E) D L) : WpO P n ops Q m (⟨some d, .slice t x lo hi none, ty, pos, af, some gd⟩ :: rest) E D L :=
  WpO.qd rfl h0 hg (Qt.sliceS (l := l) (h := h) hx hlo.sat hhi.sat hb) hh
theorem S.sliceL [Nxt m m'] {e sz ln c : Nat} {a : Option Addr} {agg : Bool} {lo hi : Option Operand} (l h : Nat) (h0 : Nat.blt d n = true) (hx : opv x E = some (true, .slice a ln c)) [USlice P t e] [TSize P e sz agg] (hlo : Bd E true 0 lo l) (hhi : Bd E true ln hi h) (hb : l ≤ h ∧ h ≤ c)
    (hh : WpO P n ops Q m' rest ((d, .v (.slice (slA a c l sz) (h - l) (c - l))) :: E) D L) : WpO P n ops Q m (⟨some d, .slice t x lo hi none, ty, pos, af, Option.none⟩ :: rest) E D L :=
  WpO.q rfl h0 (Qt.sliceL (l := l) (h := h) hx hlo.sat hhi.sat (fun _ => hb)) hh
theorem G.sliceL [Nxt m m'] {e sz ln c : Nat} {a : Option Addr} {agg : Bool} {lo hi : Option Operand} (l h : Nat) (h0 : Nat.blt d n = true) (hg : guardOf ops E gd = some g) (hx : opv x E = some (c1, .slice a ln c)) (i1 : Imp g c1) [USlice P t e] [TSize P e sz agg] (hlo : Bd E g 0 lo l) (hhi : Bd E g ln hi h) (hb : g = true → l ≤ h ∧ h ≤ c)
    (hh : WpO P n ops Q m' rest ((d, .g g (.slice (slA a c l sz) (h - l) (c - l))) :: E) D L) : WpO P n ops Q m (⟨some d, .slice t x lo hi none, ty, pos, af, some gd⟩ :: rest) E D L :=
  WpO.qd rfl h0 hg (Qt.sliceL (l := l) (h := h) hx hlo.sat hhi.sat hb) hh

/-! ### Texts -/
theorem S.index [Nxt m m'] {s : ByteArray} {i : Int} {k : IntKind} (ch : UInt8) (j : Nat) (h0 : Nat.blt d n = true) (hx : opv x E = some (true, .string s)) (hy : opv y E = some (true, .int k i)) [UStr P t] (hi : i = (j : Int)) (hj : (bs s)[j]? = some ch)
    (h : WpO P n ops Q m' rest ((d, .v (.int .u8 ch.toNat)) :: E) D L) : WpO P n ops Q m (⟨some d, .index t x y, ty, pos, af, Option.none⟩ :: rest) E D L :=
  WpO.q rfl h0 (Qt.indexStr (ch := ch) (fun _ => by subst hi; exact ⟨by omega, by simpa using hj⟩) hx hy) h
theorem G.index [Nxt m m'] {s : ByteArray} {i : Int} {k : IntKind} (ch : UInt8) (j : Nat) (h0 : Nat.blt d n = true) (hg : guardOf ops E gd = some g) (hx : opv x E = some (c1, .string s)) (i1 : Imp g c1) (hy : opv y E = some (c2, .int k i)) (i2 : Imp g c2) [UStr P t] (hi : g = true → i = (j : Int)) (hj : g = true → (bs s)[j]? = some ch)
    (h : WpO P n ops Q m' rest ((d, .g g (.int .u8 ch.toNat)) :: E) D L) : WpO P n ops Q m (⟨some d, .index t x y, ty, pos, af, some gd⟩ :: rest) E D L :=
  WpO.qd rfl h0 hg (Qt.indexStr (ch := ch) (fun hg => by have := hi hg; subst this; exact ⟨by omega, by simpa using hj hg⟩) hx hy) h
theorem S.sadd [Nxt m m'] {a b : ByteArray} (h0 : Nat.blt d n = true) (hx : opv x E = some (true, .string a)) (hy : opv y E = some (true, .string b)) (hb : (bs a).length + (bs b).length < 9223372036854775808)
    (h : WpO P n ops Q m' rest ((d, .v (.string (a ++ b))) :: E) D L) : WpO P n ops Q m (⟨some d, .binOp .add t x y u, ty, pos, af, Option.none⟩ :: rest) E D L := WpO.q rfl h0 (Qt.sadd hb hx hy) h
attribute [local semireducible] Qt in
theorem Qt.saddG {d : Option Tmp} {gd : Option (Nat × Bool)} {a b : ByteArray} (hb : g = true → (bs a).length + (bs b).length < 9223372036854775808) (hx : opv x E = some (c1, .string a)) [Imp g c1] (hy : opv y E = some (c2, .string b)) [Imp g c2] : Qt P E L ⟨d, .binOp .add t x y u, ty, pos, af, gd⟩ g (.string (a ++ b)) :=
  fun ac w h1 h2 h3 => Qt.sadd (hb h3) hx hy ac w h1 h2 h3
theorem G.sadd [Nxt m m'] {a b : ByteArray} (h0 : Nat.blt d n = true) (hg : guardOf ops E gd = some g) (hx : opv x E = some (c1, .string a)) (i1 : Imp g c1) (hy : opv y E = some (c2, .string b)) (i2 : Imp g c2) (hb : g = true → (bs a).length + (bs b).length < 9223372036854775808)
    (h : WpO P n ops Q m' rest ((d, .g g (.string (a ++ b))) :: E) D L) : WpO P n ops Q m (⟨some d, .binOp .add t x y u, ty, pos, af, some gd⟩ :: rest) E D L := WpO.qd rfl h0 hg (Qt.saddG hb hx hy) h

/-- Bytes as rows of one cell. -/
def u8s (l : List UInt8) : List (List Value) := l.map fun c => [.int .u8 (c.toNat : Int)]
theorem u8s_length (l : List UInt8) : (u8s l).length = l.length := by simp [u8s]
class UByte (P : Program) (e : TypeId) : Prop where h : P.underlying e = some (.int .u8)
attribute [local semireducible] Qt in
theorem Qt.bytesStr {d : Option Tmp} {gd : Option (Nat × Bool)} {e c : Nat} {a : Option Addr} {l : List UInt8} {ln : Nat} [hu : USlice P t e] [he : UByte P e] [hd : UStr P u] (hx : opv x E = some (c1, .slice a ln c)) [Imp g c1] (hs : g = true → Sl L a c 1 (u8s l)) (hln : g = true → ln = l.length) :
    Qt P E L ⟨d, .convert t u x, ty, pos, af, gd⟩ g (.string ⟨l.toArray⟩) := fun ac w h1 h2 h3 => by
  show (do pure (Next.value (← convert t u (ac.eval x))) : Sem Next).run P w = _
  rw [EvG.of hx ac h1 h3]
  refine run_v ?_
  rw [hln h3]
  obtain ⟨h0, ⟨b, o, e1, e2, e3⟩⟩ := hs h3
  cases a with
  | none =>
    have : u8s l = [] := Classical.byContradiction fun h => by have := e1 h; cases this
    have hl0 : l = [] := by simpa [u8s] using this
    subst hl0
    rw [run_convert_bytes_string w t u e none _ c hu.h he.h hd.h]; rfl
  | some p =>
    refine run_convert_bytes_back w t u e p c l hu.h he.h hd.h fun j hj => ?_
    have hne : u8s l ≠ [] := fun h => by have := congrArg List.length h; rw [u8s_length] at this; simp at this; subst this; simp at hj
    have := e1 hne; simp only [Option.some.injEq] at this; subst this
    rw [Addr.add_eq]
    have := (e3 _ h2 j [.int .u8 (l[j].toNat : Int)] (by simp [u8s, hj])).2
    rw [Nat.mul_one] at this
    exact cell_of this
theorem S.bytesStr [Nxt m m'] {e c ln : Nat} {a : Option Addr} (l : List UInt8) (h0 : Nat.blt d n = true) (hx : opv x E = some (true, .slice a ln c)) [USlice P t e] [UByte P e] [UStr P u] (hs : Sl (mem m L) a c 1 (u8s l)) (hln : ln = l.length)
    (h : WpO P n ops Q m' rest ((d, .v (.string ⟨l.toArray⟩)) :: E) D L) : WpO P n ops Q m (⟨some d, .convert t u x, ty, pos, af, Option.none⟩ :: rest) E D L := WpO.q rfl h0 (Qt.bytesStr hx (fun _ => hs) (fun _ => hln)) h

/-! ### Ranging over a text -/
def itA (b : Nat) (s : ByteArray) (p : Nat) : Assn := fun h => h b = some (.stringIter s p)
attribute [local semireducible] OpT in
theorem OpT.range {d : Option Tmp} {gd : Option (Nat × Bool)} {s : ByteArray} [hu : UStr P t] (hx : opv x E = some (c1, .string s)) [Imp true c1] :
    OpT P E L ⟨d, .range t x, ty, pos, af, gd⟩ (fun r L' => ∃ b, r = .pointer (some ⟨b, 0, none⟩) ∧ L' = itA b s 0 :: L) noPanic := fun a w K Q0 h1 h2 hK _ => by
  unfold Oper.wp
  have he : (execOp a.eval ⟨d, .range t x, ty, pos, af, gd⟩).run P w = .ok (.value (.pointer (some ⟨w.heap.size, 0, none⟩))) { w with heap := w.heap.push (.stringIter s 0) } := by
    show (do pure (Next.value (← Instr.range t (a.eval x))) : Sem Next).run P w = _
    rw [EvG.of (g := true) hx a h1 rfl]
    refine run_v ?_
    unfold Instr.range
    rw [run_ok (run_u hu.h w)]; rfl
  rw [he]
  refine hK _ _ _ ⟨_, rfl, rfl⟩ (Sat.new ?_ h2)
  exact Hp.single_at _ _
theorem WpO.range [Nxt m m'] {s : ByteArray} (h0 : Nat.blt d n = true) (hx : opv x E = some (true, .string s)) [UStr P t] (hk : ∀ b, Keeps m (itA b s 0 :: L))
    (h : ∀ b, WpO P n ops Q m' rest ((d, .v (.pointer (some ⟨b, 0, none⟩))) :: E) D (itA b s 0 :: L)) : WpO P n ops Q m (⟨some d, .range t x, ty, pos, af, Option.none⟩ :: rest) E D L :=
  WpO.op rfl h0 (OpT.range hx) nofun fun _ _ ⟨b, e1, e2⟩ => by subst e1; subst e2; exact ⟨hk b, h b⟩
attribute [local semireducible] OpT in
theorem OpT.nextEnd {d : Option Tmp} {gd : Option (Nat × Bool)} {s : ByteArray} {b p : Nat} (i : Nat) (hx : opv x E = some (c1, .pointer (some ⟨b, 0, none⟩))) [Imp true c1] (hi : L[i]? = some (itA b s p)) (hp : (bs s).length ≤ p) :
    OpT P E L ⟨d, .next x true, ty, pos, af, gd⟩ (fun r L' => r = .tuple #[.bool false] ∧ L' = L) noPanic := fun a w K Q0 h1 h2 hK _ => by
  unfold Oper.wp
  obtain ⟨h0, l0, a0, s0⟩ := Sat.pull hi h2
  have hb : w.heap[b]? = some (.stringIter s p) := l0 _ _ a0
  have he : (execOp a.eval ⟨d, .next x true, ty, pos, af, gd⟩).run P w = .ok (.value (.tuple #[.bool false])) w := by
    show (do pure (Next.value (← Instr.next (a.eval x) true ty)) : Sem Next).run P w = _
    rw [EvG.of (g := true) hx a h1 rfl]
    refine run_v ?_
    unfold Instr.next
    simp only []
    rw [run_ok (a := Obj.stringIter s p) (w' := w) (by simp [getObj, Sem.run, hb])]
    simp only []
    rw [bs_length] at hp
    rw [if_neg (by omega)]; rfl
  rw [he]
  exact hK _ _ _ ⟨rfl, rfl⟩ h2
theorem WpO.nextEnd [Nxt m m'] {s : ByteArray} {b p : Nat} (i : Nat) (h0 : Nat.blt d n = true) (hx : opv x E = some (true, .pointer (some ⟨b, 0, none⟩))) (hi : L[i]? = some (itA b s p)) (hp : (bs s).length ≤ p) (hk : Keeps m L)
    (h : WpO P n ops Q m' rest ((d, .v (.tuple #[.bool false])) :: E) D L) : WpO P n ops Q m (⟨some d, .next x true, ty, pos, af, Option.none⟩ :: rest) E D L :=
  WpO.op rfl h0 (OpT.nextEnd i hx hi hp) nofun fun _ _ ⟨e1, e2⟩ => by subst e1; subst e2; exact ⟨hk, h⟩
attribute [local semireducible] OpT in
theorem OpT.next {d : Option Tmp} {gd : Option (Nat × Bool)} {s : ByteArray} {b p c wd : Nat} (i : Nat) (hx : opv x E = some (c1, .pointer (some ⟨b, 0, none⟩))) [Imp true c1] (hi : L[i]? = some (itA b s p)) (hp : p < (bs s).length) (hd : Utf8.decode s p = (c, wd)) :
    OpT P E L ⟨d, .next x true, ty, pos, af, gd⟩ (fun r L' => r = .tuple #[.bool true, .int .i64 p, .int .i32 c] ∧ L' = L.set i (itA b s (p + wd))) noPanic := fun a w K Q0 h1 h2 hK _ => by
  unfold Oper.wp
  have hpl := Sat.pull hi h2
  obtain ⟨h0, l0, a0, s0⟩ := id hpl
  have hb : w.heap[b]? = some (.stringIter s p) := l0 _ _ a0
  have hbs := lt_of_hp (w := w) (l0 _ _ a0)
  have he : (execOp a.eval ⟨d, .next x true, ty, pos, af, gd⟩).run P w = .ok (.value (.tuple #[.bool true, .int .i64 p, .int .i32 c])) { w with heap := w.heap.setIfInBounds b (.stringIter s (p + wd)) } := by
    show (do pure (Next.value (← Instr.next (a.eval x) true ty)) : Sem Next).run P w = _
    rw [EvG.of (g := true) hx a h1 rfl]
    refine run_v ?_
    unfold Instr.next
    simp only []
    rw [run_ok (a := Obj.stringIter s p) (w' := w) (by simp [getObj, Sem.run, hb])]
    simp only []
    rw [bs_length] at hp
    rw [if_pos hp, hd]
    rw [run_ok (a := ()) (w' := { w with heap := w.heap.setIfInBounds b (.stringIter s (p + wd)) }) (by
      have hb' : w.heap[b] = .stringIter s p := by
        have := hb; rw [Array.getElem?_eq_getElem hbs] at this; exact Option.some.inj this
      simp [setObj, Sem.run, hbs, hb'])]
    rfl
  rw [he]
  refine hK _ _ _ ⟨rfl, rfl⟩ (Sat.set hi ?_)
  refine Sat.turn (b := b) hpl (fun h' ha => ⟨_, ha⟩) hp_set (fun h' ha hle => ?_) (by rw [hp_set_at hbs]; rfl) rfl (Nat.le_of_eq (by show w.heap.size = (w.heap.setIfInBounds _ _).size; simp))
  show (if b = b then Ab.hp _ b else h' b) = _
  rw [if_pos rfl, hp_set_at hbs]
theorem decode_ascii {s : ByteArray} {p : Nat} {c : UInt8} (h : (bs s)[p]? = some c) (hc : c.toNat < 128) : Utf8.decode s p = (c.toNat, 1) := by
  have hlt : p < s.size := by rw [← bs_length]; exact (List.getElem?_eq_some_iff.1 h).1
  have : s.get! p = c := by
    have h2 := (List.getElem?_eq_some_iff.1 h).2
    rw [← h2]
    simp only [ByteArray.get!, bs, Array.getElem_toList]
    exact getElem!_pos s.data p hlt
  unfold Utf8.decode
  simp only [Nat.add_zero, this]
  rw [if_pos (by simpa using hc)]
theorem WpO.nextAscii [Nxt m m'] {s : ByteArray} {b p : Nat} (i : Nat) (c : UInt8) (h0 : Nat.blt d n = true) (hx : opv x E = some (true, .pointer (some ⟨b, 0, none⟩))) (hi : L[i]? = some (itA b s p)) (hp : (bs s)[p]? = some c) (hc : c.toNat < 128) (hk : Keeps m (L.set i (itA b s (p + 1))))
    (h : WpO P n ops Q m' rest ((d, .v (.tuple #[.bool true, .int .i64 p, .int .i32 c.toNat])) :: E) D (L.set i (itA b s (p + 1)))) : WpO P n ops Q m (⟨some d, .next x true, ty, pos, af, Option.none⟩ :: rest) E D L :=
  WpO.op rfl h0 (OpT.next i hx hi (List.getElem?_eq_some_iff.1 hp).1 (decode_ascii hp hc)) nofun fun _ _ ⟨e1, e2⟩ => by subst e1; subst e2; exact ⟨hk, h⟩
end
end Go.Ab
end

section
/- The calculus: results that lie in memory; division; a loop's round unrolled. -/
namespace Go.Ab
open Go

/-! ### Results that lie in memory -/
inductive RV (P : Program) (E : Env) (L : List Assn) : ResultVar → Value → Prop where
  | tmp {t : Tmp} {x : Value} (h : getV t E = some x) : RV P E L (.tmp t) x
  | one {a : Tmp} {t : TypeId} {b o : Nat} {v : Value} (h : getV a E = some (.pointer (some ⟨b, o, none⟩))) (hz : TSize P t 1 false) (hE : Ent L (CellsAt b o [v])) : RV P E L (.cell a t) v
  | agg {a : Tmp} {t : TypeId} {b o sz : Nat} {vs : List Value} (h : getV a E = some (.pointer (some ⟨b, o, none⟩))) (hz : TSize P t sz true) (hE : Ent L (CellsAt b o vs)) (hl : vs.length = sz) : RV P E L (.cell a t) (.agg vs.toArray)
inductive RVs (P : Program) (E : Env) (L : List Assn) : List ResultVar → List Value → Prop where
  | nil : RVs P E L [] []
  | cons {r : ResultVar} {rs : List ResultVar} {x : Value} {xs : List Value} (h : RV P E L r x) (t : RVs P E L rs xs) : RVs P E L (r :: rs) (x :: xs)
def rvRun (t : Array Value) : ResultVar → Sem Value
  | .tmp u => pure (t.getD u undef)
  | .cell a ty => do loadVar ty (← asAddr (t.getD a undef))
def packV : List Value → Value
  | [x] => x
  | xs => .tuple xs.toArray

section
variable {P : Program} {n : Nat} {Q : Post} {E : Env} {D : List Deferred} {L : List Assn}
theorem RV.run {r : ResultVar} {x : Value} (h : RV P E L r x) {t : Array Value} (ht : EnvSat E t) {w : World} (hs : Sat (hp w) L) :
    (rvRun t r).run P w = .ok x w := by
  cases h with
  | tmp h => simp only [rvRun, getV_sat h ht]; rfl
  | one h hz hE =>
    simp only [rvRun, getV_sat h ht]
    rw [run_ok (a := (⟨_, _, none⟩ : Addr)) (w' := w) rfl]
    unfold loadVar
    rw [run_ok (hz.agg w)]
    exact run_load (hE _ hs)
  | agg h hz hE hl =>
    simp only [rvRun, getV_sat h ht]
    rw [run_ok (a := (⟨_, _, none⟩ : Addr)) (w' := w) rfl]
    unfold loadVar
    rw [run_ok (hz.agg w)]
    simp only [if_true]
    rw [run_ok (hz.size w)]
    have := run_loadCells (P := P) (w := w) _ 0 _ #[] hl (hE _ hs)
    unfold loadCells
    rw [run_ok this]; simp [Sem.run, pure]
theorem RVs.run {rs : List ResultVar} {xs : List Value} (h : RVs P E L rs xs) {t : Array Value} (ht : EnvSat E t) {w : World} (hs : Sat (hp w) L) :
    (rs.mapM (rvRun t)).run P w = .ok xs w := by
  induction h with
  | nil => rfl
  | cons h _ ih => rw [List.mapM_cons, run_ok (h.run ht hs), run_ok ih]; rfl
theorem RVs.results {fn : Func} {rs : List ResultVar} (hrs : fn.results = rs.toArray) {xs : List Value} (h : RVs P E L rs xs) {t : Array Value} (ht : EnvSat E t) {w : World} (hs : Sat (hp w) L) :
    (results fn t).run P w = .ok (packV xs) w := by
  have hres : Go.results fn t = (do let vs ← fn.results.mapM (rvRun t); pure (if h : vs.size = 1 then vs[0] else .tuple vs)) := by
    unfold Go.results
    congr 2
  rw [hres, hrs, Array.mapM_eq_mapM_toList, map_eq_pure_bind]
  have : ((rs.toArray.toList.mapM (rvRun t) >>= fun x => pure x.toArray).run P w) = .ok xs.toArray w := by
    rw [run_ok (h.run ht hs)]; rfl
  rw [run_ok this]
  match xs with
  | [] => rfl
  | [x] => rfl
  | x :: y :: r =>
    have : ¬ (x :: y :: r).toArray.size = 1 := by simp
    simp only [this, dif_neg, not_false_eq_true]; rfl

def BodyPostC (P : Program) (rs : List ResultVar) (R : Ending → List Assn → Prop) : Post
  | .normal, E, D, L | .ret, E, D, L => D = [] ∧ ∃ xs L', RVs P E L rs xs ∧ (∀ k, Sat k L → Sat k L') ∧ R (.returned (packV xs)) L'
  | .panic c, _, D, L => D = [] ∧ R (.panicked c) L
  | _, _, _, _ => False
theorem RetC {rs : List ResultVar} {R : Ending → List Assn → Prop} (m : Nat) {xs : List Value} (hv : RVs P E L rs xs) (h : R (.returned (packV xs)) (L.drop m)) : BodyPostC P rs R .ret E [] L := ⟨rfl, xs, _, hv, fun _ => Sat.dropN m, h⟩
theorem RetCL {rs : List ResultVar} {R : Ending → List Assn → Prop} {L' : List Assn} {xs : List Value} (hv : RVs P E L rs xs) (hL : LeL L L') (h : R (.returned (packV xs)) L') : BodyPostC P rs R .ret E [] L := ⟨rfl, xs, _, hv, hL, h⟩
theorem RetL {rs : List ResultVar} {R : Ending → List Assn → Prop} {L' : List Assn} {x : Value} (hv : resV rs E = some x) (hL : LeL L L') (h : R (.returned x) L') : BodyPost rs R .ret E [] L := ⟨rfl, x, _, hv, hL, h⟩
theorem Ct.bodyC {f : FuncId} {fn : Func} {c : Code} {args : Array Value} {R : Ending → List Assn → Prop} {rs : List ResultVar} (hf : P.funcs[f]? = some fn) (hb : fn.body = some c)
    (hn : fn.ntmps = n) (hrs : fn.results = rs.toArray) (hsz : Nat.ble args.size n = true)
    (h : Wp P n c (BodyPostC P rs R) (argEnv 0 args.toList) [] L) : Ct P f args L R := fun w hw => by
  refine calls_of_wp hf hb (wp_mono (h.wp _ w ?_ ?_ rfl hw) ?_)
  · have := bleLe hsz
    simp; omega
  · refine argEnv_sat _ _ _ fun j v hj => ?_
    have hlt : j < args.size := by
      have := (List.getElem?_eq_some_iff.1 hj).1
      simpa using this
    rw [Nat.zero_add, Array.getElem?_append_left hlt, ← Array.getElem?_toList]
    exact hj
  · intro e a w' hh
    cases e with
    | normal =>
      obtain ⟨E', D', L', ⟨h1, xs, L'', h2, hd, h3⟩, _, h4, h5, h6⟩ := hh
      exact ⟨h5.trans h1, _, h2.results hrs h4 h6, nofun, L'', h3, hd _ h6⟩
    | ret =>
      obtain ⟨E', D', L', ⟨h1, xs, L'', h2, hd, h3⟩, _, h4, h5, h6⟩ := hh
      exact ⟨h5.trans h1, _, h2.results hrs h4 h6, nofun, L'', h3, hd _ h6⟩
    | panic c =>
      obtain ⟨D', L', ⟨h1, h2⟩, h5, h6⟩ := hh
      exact ⟨h5.trans h1, nofun, L', h2, h6⟩
    | exit id => obtain ⟨_, _, _, h, _⟩ := hh; exact h
    | goto id => obtain ⟨_, _, _, h, _⟩ := hh; exact h
    | outgrown => exact hh.elim
end

section
variable {P : Program} {n : Nat} {Q : Post} {E : Env} {D : List Deferred} {L : List Assn} {ops : Array Oper} {rest : List Oper} {m m' : Md} {d : Nat} {ty : TypeId} {pos : String} {af : Array Edge} {x y z : Operand} {t u : TypeId} {gd : Nat × Bool} {g c1 c2 : Bool}
theorem Qt.quo {d : Option Tmp} {gd : Option (Nat × Bool)} {k : IntKind} {a b : Int} (hx : opv x E = some (c1, .int k a)) [Imp g c1] (hy : opv y E = some (c2, .int k b)) [Imp g c2] (hb : b ≠ 0) :
    Qt P E L ⟨d, .binOp .quo t x y u, ty, pos, af, gd⟩ g (.int k (k.wrap (a.tdiv b))) :=
  .of2 (fun ρ w h1 h2 => by simp [execOp, h1, h2, go_sem, eqGuard, binOp, Op.intDiv, hb]) (EvG.of hx) (EvG.of hy)
theorem Qt.rem {d : Option Tmp} {gd : Option (Nat × Bool)} {k : IntKind} {a b : Int} (hx : opv x E = some (c1, .int k a)) [Imp g c1] (hy : opv y E = some (c2, .int k b)) [Imp g c2] (hb : b ≠ 0) :
    Qt P E L ⟨d, .binOp .rem t x y u, ty, pos, af, gd⟩ g (.int k (a.tmod b)) :=
  .of2 (fun ρ w h1 h2 => by simp [execOp, h1, h2, go_sem, eqGuard, binOp, Op.intDiv, hb]) (EvG.of hx) (EvG.of hy)
attribute [local irreducible] Wp WpO Qt OpT Ct
theorem S.quo [Nxt m m'] {k : IntKind} {a b : Int} (h0 : Nat.blt d n = true) (hx : opv x E = some (true, .int k a)) (hy : opv y E = some (true, .int k b)) (hb : b ≠ 0)
    (h : WpO P n ops Q m' rest ((d, .v (.int k (k.wrap (a.tdiv b)))) :: E) D L) : WpO P n ops Q m (⟨some d, .binOp .quo t x y u, ty, pos, af, Option.none⟩ :: rest) E D L := WpO.q rfl h0 (Qt.quo hx hy hb) h
theorem S.rem [Nxt m m'] {k : IntKind} {a b : Int} (h0 : Nat.blt d n = true) (hx : opv x E = some (true, .int k a)) (hy : opv y E = some (true, .int k b)) (hb : b ≠ 0)
    (h : WpO P n ops Q m' rest ((d, .v (.int k (a.tmod b))) :: E) D L) : WpO P n ops Q m (⟨some d, .binOp .rem t x y u, ty, pos, af, Option.none⟩ :: rest) E D L := WpO.q rfl h0 (Qt.rem hx hy hb) h

/-! ### Method values, and calls of them -/
attribute [local semireducible] OpT in
theorem OpT.callM {d : Option Tmp} {gd : Option (Nat × Bool)} {f : FuncId} {args : List Operand} {tys : Array TypeId} {vs : List Value} {fst cap : Array Value} {R : Ending → List Assn → Prop}
    (hc : ∀ (args : Array Value) (w : World), Sem.run P (callFunc f args) w = .ok (.enter f args) w) (hx : opv x E = some (c1, .func (.func f) fst cap)) [Imp true c1] (hargs : EvsG E true args vs) (hct : Ct P f (fst.toList ++ vs ++ cap.toList).toArray L R) :
    OpT P E L ⟨d, .call ⟨.value x, args.toArray, tys⟩, ty, pos, af, gd⟩ (fun v L' => R (.returned v) L') (fun c L' => R (.panicked c) L') := fun a w K Q0 h1 h2 hK hp' => by
  unfold Oper.wp
  have hm := hargs.sat h1 rfl
  have he : (execOp a.eval ⟨d, .call ⟨.value x, args.toArray, tys⟩, ty, pos, af, gd⟩).run P w = .ok (.enter f (fst.toList ++ vs ++ cap.toList).toArray) w := by
    show (do let d ← Deferred.ofValue (a.eval x) (args.toArray.map a.eval); invoke d.target d.args : Sem Next).run P w = _
    rw [EvG.of (g := true) hx a h1 rfl]
    show (callFunc f ((fst ++ args.toArray.map a.eval) ++ cap)).run P w = _
    have : (fst ++ args.toArray.map a.eval) ++ cap = (fst.toList ++ vs ++ cap.toList).toArray := by rw [← hm]; simp
    rw [this]; exact hc _ w
  rw [he]
  unfold Ct at hct
  refine (hct w h2).mono fun e w' ⟨h0, L', hR, hS⟩ => ?_
  cases e with
  | returned v => exact hK v w' L' hR hS
  | panicked c => exact hp' c w' L' hR hS
  | outgrown => exact absurd rfl h0
/-- A call of a method value, or of a closure. -/
theorem WpO.callm [Nxt m m'] {f : FuncId} {args : List Operand} {tys : Array TypeId} {vs : List Value} {fst cap : Array Value} {φ : Value → List Assn → Prop} (hc : ∀ (args : Array Value) (w : World), Sem.run P (callFunc f args) w = .ok (.enter f args) w) (h0 : Nat.blt d n = true) (hx : opv x E = some (true, .func (.func f) fst cap)) (hargs : EvsG E true args vs)
    (hct : Ct P f (fst.toList ++ vs ++ cap.toList).toArray L (ret φ)) (h : ∀ v L', φ v L' → Keeps m L' ∧ WpO P n ops Q m' rest ((d, .v v) :: E) D L') : WpO P n ops Q m (⟨some d, .call ⟨.value x, args.toArray, tys⟩, ty, pos, af, Option.none⟩ :: rest) E D L :=
  WpO.op rfl h0 (OpT.callM hc hx hargs hct) nofun h
attribute [local semireducible] Qt in
theorem Qt.makeFuncM {d : Option Tmp} {gd : Option (Nat × Bool)} {f : FuncId} {fa ca : List Operand} {fv cv : List Value} (hf : EvsG E g fa fv) (hc : EvsG E g ca cv) :
    Qt P E L ⟨d, .makeFunc (.func f) fa.toArray ca.toArray, ty, pos, af, gd⟩ g (.func (.func f) fv.toArray cv.toArray) := fun a w h1 _ h3 => by
  have e1 : fa.toArray.map a.eval = fv.toArray := by rw [← hf.sat h1 h3]; simp
  have e2 : ca.toArray.map a.eval = cv.toArray := by rw [← hc.sat h1 h3]; simp
  simp only [execOp, e1, e2]
  simp [Sem.run, pure, bind, Sem.bind, Instr.makeFunc]
theorem S.makeFuncM [Nxt m m'] {f : FuncId} {fa ca : List Operand} {fv cv : List Value} (h0 : Nat.blt d n = true) (hf : EvsG E true fa fv) (hca : EvsG E true ca cv)
    (h : WpO P n ops Q m' rest ((d, .v (.func (.func f) fv.toArray cv.toArray)) :: E) D L) : WpO P n ops Q m (⟨some d, .makeFunc (.func f) fa.toArray ca.toArray, ty, pos, af, Option.none⟩ :: rest) E D L :=
  WpO.q rfl h0 (Qt.makeFuncM hf hca) h
end
end Go.Ab
end

section
/- The calculus: append of a text to a row of one's own; a row of bytes that becomes a text (unsafe.String). -/
namespace Go.Ab
open Go

section
variable {P : Program} {n : Nat} {Q : Post} {E : Env} {D : List Deferred} {L : List Assn} {ops : Array Oper} {rest : List Oper} {m m' : Md}
variable {d : Option Tmp} {dd : Nat} {ty t u e : TypeId} {pos : String} {af : Array Edge} {gd : Option (Nat × Bool)} {x y : Operand} {c1 c2 : Bool}

theorem u8s_flat (l : List UInt8) : (u8s l).flatten = l.map fun c => Value.int .u8 (c.toNat : Int) := by
  induction l with
  | nil => rfl
  | cons c l ih => simp only [u8s, List.map_cons, List.flatten_cons] at ih ⊢; rw [ih]; rfl

theorem OpT.appendS {t1 t2 bt ln c : Nat} {zv : Value} {a : Option Addr} {s : ByteArray} [USlice P t1 e] [hu2 : UStr P t2] [TSize P e 1 false] [TZero P e zv] [TBytes P e bt] (i : Nat) (rows : List (List Value))
    (hx : opv x E = some (c1, .slice a ln c)) [Imp true c1] (hy : opv y E = some (c2, .string s)) [Imp true c2] (hi : L[i]? = some (ownA e 1 a c rows)) (hn : ln = rows.length)
    (hzl : Nat.beq zv.cells.toList.length 1 = true) (hbt : (Nat.blt 0 bt && Nat.ble bt 1048576) = true) (hb : (rows.length + (bs s).length) * bt ≤ 1099511627776) :
    OpT P E L ⟨d, .call ⟨.builtin .append, #[x, y], #[t1, t2]⟩, ty, pos, af, gd⟩ (fun r L' => ∃ a2 c2, r = .slice a2 (rows ++ u8s (bs s)).length c2 ∧ L' = L.set i (ownA e 1 a2 c2 (rows ++ u8s (bs s)))) noPanic := fun ac w K Q0 h1 h2 hK _ => by
  unfold Oper.wp
  subst hn
  rw [Bool.and_eq_true] at hbt
  have hsz : (bs s).length = s.size := rfl
  have hlen : ∀ w, (Builtin.lenOf (.string s)).run P w = .ok (bs s).length w := fun w => rfl
  have hfl : (u8s (bs s)).flatten.length = (bs s).length * 1 := by rw [u8s_flat]; simp
  have hnew : ∀ w', Hp.le (hp w) (hp w') → (Builtin.firstCells 1 (bs s).length (.string s)).run P w' = .ok (u8s (bs s)).flatten.toArray w' := fun w' _ => by
    have he : s.extract 0 (bs s).length = s := by rw [hsz]; simp
    show (pure ((s.extract 0 (bs s).length).data.map fun b => Value.int .u8 b.toNat) : Sem (Array Value)).run P w' = _
    rw [he, u8s_flat]
    have : (s.data.map fun b => Value.int .u8 b.toNat) = ((bs s).map fun c => Value.int .u8 (c.toNat : Int)).toArray := by
      unfold bs; rw [← List.map_toArray, Array.toArray_toList]
    rw [this]; rfl
  obtain ⟨a2, c2', w', hr, hs'⟩ := run_append (P := P) (ty := ty) (t1 := t1) (t2 := t2) (n := rows.length) (m := (bs s).length) (yv := .string s) (new := (u8s (bs s)).flatten) (w := w) ⟨_, hu2.h, .inr rfl⟩ (Nat.eq_of_beq_eq_true hzl) hlen hnew hfl (by rw [u8s_flat, List.all_eq_true]; intro v hv; obtain ⟨c, _, rfl⟩ := List.mem_map.1 hv; rfl) rows rfl hb
    (by have := bltLt hbt.1; omega) (bleLe hbt.2) (Sat.pull hi h2) rfl (by intro r hr; unfold u8s at hr; obtain ⟨c, _, rfl⟩ := List.mem_map.1 hr; rfl) (u8s_length _)
  have he : (execOp ac.eval ⟨d, .call ⟨.builtin .append, #[x, y], #[t1, t2]⟩, ty, pos, af, gd⟩).run P w = .ok (.value (.slice a2 (rows.length + (bs s).length) c2')) w' := by
    simp only [execOp, resolve, List.map_toArray, List.map_cons, List.map_nil, EvG.of (g := true) hx ac h1 rfl, EvG.of (g := true) hy ac h1 rfl]
    exact run_v hr
  rw [he]
  exact hK _ _ _ ⟨a2, c2', by rw [List.length_append, u8s_length], rfl⟩ (Sat.set hi hs')

theorem WpO.appendS [Nxt m m'] {bt ln c : Nat} {zv : Value} {a : Option Addr} {s : ByteArray} [USlice P t e] [UStr P u] [TSize P e 1 false] [TZero P e zv] [TBytes P e bt] (i : Nat) {rows : List (List Value)} (h0 : Nat.blt dd n = true)
    (hx : opv x E = some (c1, .slice a ln c)) [Imp true c1] (hy : opv y E = some (c2, .string s)) [Imp true c2] (hi : L[i]? = some (ownA e 1 a c rows)) (hn : ln = rows.length)
    (hzl : Nat.beq zv.cells.toList.length 1 = true) (hbt : (Nat.blt 0 bt && Nat.ble bt 1048576) = true) (hb : (rows.length + (bs s).length) * bt ≤ 1099511627776)
    (hk : ∀ a2 k2, Keeps m (L.set i (ownA e 1 a2 k2 (rows ++ u8s (bs s)))))
    (h : ∀ a2 k2, WpO P n ops Q m' rest ((dd, .v (.slice a2 (rows ++ u8s (bs s)).length k2)) :: E) D (L.set i (ownA e 1 a2 k2 (rows ++ u8s (bs s))))) : WpO P n ops Q m (⟨some dd, .call ⟨.builtin .append, #[x, y], #[t, u]⟩, ty, pos, af, Option.none⟩ :: rest) E D L := by
  refine WpO.op rfl h0 (OpT.appendS i rows hx hy hi hn hzl hbt hb) nofun fun _ _ ⟨a2, k2, e1, e2⟩ => ?_
  subst e1; subst e2
  exact ⟨hk a2 k2, h a2 k2⟩

/-! ## unsafe.String -/
theorem OpT.sliceData {a : Option Addr} {ln c : Nat} {tys : Array TypeId} (hx : opv x E = some (c1, .slice a ln c)) [Imp true c1] (hc : a = none ∨ c ≠ 0) :
    OpT P E L ⟨d, .call ⟨.builtin .unsafeSliceData, #[x], tys⟩, ty, pos, af, gd⟩ (fun r L' => r = .pointer a ∧ L' = L) noPanic := fun ac w K Q0 h1 h2 hK _ => by
  unfold Oper.wp
  have hr : (Builtin.unsafeSliceData_ tys ty #[.slice a ln c]).run P w = .ok (.pointer a) w := by
    cases a with
    | none => rfl
    | some p =>
      rcases hc with hc | hc
      · cases hc
      · exact Lib.run_unsafeSliceData_row _ _ _ _ _ _ hc
  have he : (execOp ac.eval ⟨d, .call ⟨.builtin .unsafeSliceData, #[x], tys⟩, ty, pos, af, gd⟩).run P w = .ok (.value (.pointer a)) w := by
    simp only [execOp, resolve, List.map_toArray, List.map_cons, List.map_nil, EvG.of (g := true) hx ac h1 rfl]
    exact run_v hr
  rw [he]
  exact hK _ _ _ ⟨rfl, rfl⟩ h2
theorem WpO.sliceData [Nxt m m'] {a : Option Addr} {ln c : Nat} {tys : Array TypeId} (h0 : Nat.blt dd n = true) (hx : opv x E = some (c1, .slice a ln c)) [Imp true c1] (hc : a = none ∨ c ≠ 0) (hk : Keeps m L)
    (h : WpO P n ops Q m' rest ((dd, .v (.pointer a)) :: E) D L) : WpO P n ops Q m (⟨some dd, .call ⟨.builtin .unsafeSliceData, #[x], tys⟩, ty, pos, af, Option.none⟩ :: rest) E D L := by
  refine WpO.op rfl h0 (OpT.sliceData hx hc) nofun fun _ _ ⟨e1, e2⟩ => ?_
  subst e1; subst e2
  exact ⟨hk, h⟩

theorem lies_off (hc : P.cellsOf e = 1) (count off n : Nat) (hn : off + n ≤ count) : liesAt P P.depth e count off e n = true := by
  have hd : P.depth = (2 * (P.types.size + Made.depth) + 1) + 1 := rfl
  rw [hd]
  simp only [liesAt, Bool.or_eq_true]
  left
  rw [hd]
  simp [rowAt, hc, hn, sameLayout, Nat.div_one, Nat.mod_one]
theorem run_unsafeString_off (w : World) (pt it ty e : TypeId) (hp : P.underlying pt = some (.pointer e)) (hc : P.cellsOf e = 1) (g o cells : Nat) (hsh : w.shape? g = some (e, cells)) (l : List UInt8) (h0 : l ≠ []) (hn : o + l.length ≤ cells) (h63 : l.length ≤ 9223372036854775807)
    (hcell : ∀ j x, l[j]? = some x → w.cell? ((⟨g, o, none⟩ : Addr).add j) = some (.int .u8 x.toNat)) :
    (Builtin.unsafeString_ #[pt, it] ty #[.pointer (some ⟨g, o, none⟩), .int .i64 l.length]).run P w = .ok (.string ⟨l.toArray⟩) (w.freeze ⟨g, o, none⟩ l.length) := by
  have hl : l.length ≠ 0 := by simpa using h0
  have hlb := Lib.run_loadBytes (P := P) w l ⟨g, o, none⟩ .empty hcell
  have hlies := lies_off (P := P) hc (cells / P.cellsOf e) o l.length (by rw [hc]; simpa using hn)
  have h63' : ¬ (9223372036854775807 : Int) < (l.length : Int) := by omega
  have hdef : Builtin.unsafeString_ #[pt, it] ty #[.pointer (some ⟨g, o, none⟩), .int .i64 l.length] = (asInt (.int .i64 l.length) >>= _) := rfl
  rw [hdef]
  have hmax : IntKind.i64.max = 9223372036854775807 := rfl
  have hneg : ¬ (l.length : Int) < 0 := by omega
  simp [asInt, asIntOf, hmax, h63', hneg, hl, variablesAt, hsh, elemOf, run_underlying hp, hlies, hlb]
theorem hp_freeze (w : World) (g o k x : Nat) (hx : x ≠ g) : hp (w.freeze ⟨g, o, none⟩ k) x = hp w x := by
  show (w.freeze ⟨g, o, none⟩ k).heap[x]? = w.heap[x]?
  unfold World.freeze
  split
  · rfl
  · simp only [Array.getElem?_modify]
    rw [if_neg (by omega)]
theorem hp_freeze_some (w : World) (g o k x : Nat) (hx : (hp w x).isSome) : (hp (w.freeze ⟨g, o, none⟩ k) x).isSome := by
  have hx : (w.heap[x]?).isSome := hx
  show ((w.freeze ⟨g, o, none⟩ k).heap[x]?).isSome
  unfold World.freeze
  split
  · exact hx
  · simp only [Array.getElem?_modify]
    split
    · simpa using hx
    · exact hx
theorem hp_freeze_met (w : World) (g o k : Nat) : (hp w).met = (hp (w.freeze ⟨g, o, none⟩ k)).met := by
  unfold World.freeze
  split <;> rfl

theorem hp_freeze_sz (w : World) (g o k : Nat) : (hp w).sz ≤ (hp (w.freeze ⟨g, o, none⟩ k)).sz := by
  unfold World.freeze
  split
  · exact Nat.le_refl _
  · exact Nat.le_of_eq (by show w.heap.size = (w.heap.modify _ _).size; simp)

theorem OpT.unsafeStr {pt it c : Nat} {a : Option Addr} (l : List UInt8) (i : Nat) (hx : opv x E = some (c1, .pointer a)) [Imp true c1] (hy : opv y E = some (c2, .int .i64 (l.length : Int))) [Imp true c2]
    (hi : L[i]? = some (ownA e 1 a c (u8s l))) (hp0 : P.underlying pt = some (.pointer e)) (hc : P.cellsOf e = 1) (h63 : l.length ≤ 9223372036854775807) :
    OpT P E L ⟨d, .call ⟨.builtin .unsafeString, #[x, y], #[pt, it]⟩, ty, pos, af, gd⟩ (fun r L' => r = .string ⟨l.toArray⟩ ∧ L' = L.eraseIdx i) noPanic := fun ac w K Q0 h1 h2 hK _ => by
  unfold Oper.wp
  have hs := Sat.pull hi h2
  suffices h : ∃ w', (Builtin.unsafeString_ #[pt, it] ty #[.pointer a, .int .i64 l.length]).run P w = .ok (.string ⟨l.toArray⟩) w' ∧ Sat (hp w') (L.eraseIdx i) by
    obtain ⟨w', hr, hs'⟩ := h
    have he : (execOp ac.eval ⟨d, .call ⟨.builtin .unsafeString, #[x, y], #[pt, it]⟩, ty, pos, af, gd⟩).run P w = .ok (.value (.string ⟨l.toArray⟩)) w' := by
      simp only [execOp, resolve, List.map_toArray, List.map_cons, List.map_nil, EvG.of (g := true) hx ac h1 rfl, EvG.of (g := true) hy ac h1 rfl]
      exact run_v hr
    rw [he]
    exact hK _ _ _ ⟨rfl, rfl⟩ hs'
  by_cases h0 : l = []
  · subst h0
    exact ⟨w, Lib.run_unsafeString_none w _ _ _ a, hs.tail⟩
  obtain ⟨h, hle, ⟨o1, o2, o3⟩, hrest⟩ := id hs
  rcases o3 with ⟨_, rfl⟩ | ⟨b, o, cs, rfl, hb1, hb2, hb3⟩
  · rw [u8s_length] at o2
    exact absurd (List.length_eq_zero_iff.1 (by omega)) h0
  rw [u8s_length] at o2
  have hw := hle _ _ hb1
  have hw' : w.heap[b]? = some (.cells cs e (0, 0)) := hw
  refine ⟨w.freeze ⟨b, o, none⟩ l.length, run_unsafeString_off w pt it ty e hp0 hc b o cs.size (by simp [World.shape?, hw']) l h0 (by omega) h63 ?_, ?_⟩
  · intro j v hj
    have := hb3 j (.int .u8 (v.toNat : Int)) (by rw [u8s_flat, List.getElem?_map, hj]; rfl)
    rw [Addr.add_eq]
    exact cell_of ⟨cs, e, _, hw', fun k u hk => by
      match k, hk with
      | 0, hk => simp only [List.getElem?_cons_zero, Option.some.injEq] at hk; subst hk; exact this⟩
  · refine Sat.tail (Sat.turn (A' := fun _ => True) (b := b) hs (fun h' ha => ?_) (fun x hx => hp_freeze w b o l.length x hx) (fun _ _ _ => trivial) (hp_freeze_some _ _ _ _ _ (by rw [hw]; rfl)) (hp_freeze_met _ _ _ _) (hp_freeze_sz _ _ _ _))
    obtain ⟨_, _, h3⟩ := ha
    rcases h3 with ⟨h3, _⟩ | ⟨b', o', cs', h3, h4, _⟩
    · cases h3
    · simp only [Option.some.injEq, Addr.mk.injEq, and_true] at h3; obtain ⟨rfl, rfl⟩ := h3; exact ⟨_, h4⟩
theorem WpO.unsafeStr [Nxt m m'] {pt it c : Nat} {a : Option Addr} (l : List UInt8) (i : Nat) (h0 : Nat.blt dd n = true) (hx : opv x E = some (c1, .pointer a)) [Imp true c1] (hy : opv y E = some (c2, .int .i64 (l.length : Int))) [Imp true c2]
    (hi : L[i]? = some (ownA e 1 a c (u8s l))) (hp0 : P.underlying pt = some (.pointer e)) (hc : P.cellsOf e = 1) (h63 : l.length ≤ 9223372036854775807) (hk : Keeps m (L.eraseIdx i))
    (h : WpO P n ops Q m' rest ((dd, .v (.string ⟨l.toArray⟩)) :: E) D (L.eraseIdx i)) : WpO P n ops Q m (⟨some dd, .call ⟨.builtin .unsafeString, #[x, y], #[pt, it]⟩, ty, pos, af, Option.none⟩ :: rest) E D L := by
  refine WpO.op rfl h0 (OpT.unsafeStr l i hx hy hi hp0 hc h63) nofun fun _ _ ⟨e1, e2⟩ => ?_
  subst e1; subst e2
  exact ⟨hk, h⟩
end
end Go.Ab
namespace Go.Ab
open Go
section
variable {E : Env} {L : List Assn}
theorem RetNL {rs : List ResultVar} {R : Ending → List Assn → Prop} {L' : List Assn} {x : Value} (hv : resV rs E = some x) (hL : LeL L L') (h : R (.returned x) L') : BodyPost rs R .normal E [] L := ⟨rfl, x, _, hv, hL, h⟩
theorem LeL.drop3 {A B C : Assn} {L : List Assn} : LeL (B :: C :: A :: L) (B :: C :: L) := fun _ s => Sat.cons_mono (fun _ s => Sat.cons_mono (fun _ s => s.tail) s) s
end
end Go.Ab

namespace Go.Ab
open Go
section
variable {P : Program} {n : Nat} {Q : Post} {E : Env} {D : List Deferred} {L : List Assn} {ops : Array Oper} {rest : List Oper}
variable {d : Option Tmp} {dd : Nat} {ty t u e : TypeId} {pos : String} {af : Array Edge} {gd : Option (Nat × Bool)} {x y : Operand} {c1 c2 : Bool}
/-- An operation with a result, where no choice of order is left, whatever its kind. -/
theorem WpO.opS {op : Op} {R : Value → List Assn → Prop} {Rp : List PanicEntry → List Assn → Prop} (hdn : Nat.blt dd n = true) (ht : OpT P E L ⟨some dd, op, ty, pos, af, none⟩ R Rp)
    (hp' : ∀ c L', Rp c L' → Q (.panic c) [] D L') (h : ∀ v L', R v L' → WpO P n ops Q .seq rest ((dd, .v v) :: E) D L') : WpO P n ops Q .seq (⟨some dd, op, ty, pos, af, none⟩ :: rest) E D L := by
  have hop : ∀ (a : Act) (w : World) (K : Act → World → Prop), a.tmps.size = n → EnvSat E a.tmps → a.defers = D → Sat (hp w) L →
      (∀ (a' : Act) (w' : World) E' D' L', a'.tmps.size = n → EnvSat E' a'.tmps → a'.defers = D' → Sat (hp w') L' → WpO P n ops Q .seq rest E' D' L' → K a' w') →
      (⟨some dd, op, ty, pos, af, none⟩ : Oper).wp P a w K (PostOf n Q) := fun a w K h1 h2 h3 h4 hK => by
    refine ht a w K _ h2 h4 (fun v w' L' hR hS => ?_) (fun c w' L' hR hS => ⟨D, L', hp' c L' hR, h3, hS⟩)
    exact hK _ w' ((dd, .v v) :: E) D L' (by rw [Act.put_size, h1]) (EnvSat.put h2 (by rw [h1]; exact bltLt hdn) (.v v)) (by rw [Act.put_defers', h3]) hS (h v L' hR)
  have hw : ∀ a : Act, Region.wanted (⟨some dd, op, ty, pos, af, none⟩ : Oper) (yielded ops a.tmps) = true := fun a => by simp [Region.wanted]
  refine ⟨fun a w h1 h2 h3 h4 => ?_, fun pl listed hp hb a w h1 h2 h3 h4 => ?_⟩
  · exact wpList_wanted (hw a) (hop a w _ h1 h2 h3 h4 fun a' w' E' D' L' q1 q2 q3 q4 q5 => q5.1 a' w' q1 q2 q3 q4)
  · obtain ⟨i, r, rfl, hi, hr⟩ := pick_cons hp
    simp only [forced, Bool.and_eq_true, beq_iff_eq] at hb
    exact wpAny_one hb.1 (wpOp_wanted hi (hw a) (hop a w _ h1 h2 h3 h4 fun a' w' E' D' L' q1 q2 q3 q4 q5 => q5.2 r _ hr hb.2 a' w' q1 q2 q3 q4))

/-! ## []byte of a text -/
theorem hp_bytes (w : World) (e : TypeId) (s : ByteArray) : hp (Lib.bytesWorld w e s) = hp { w with heap := w.heap.push (.cells (Lib.bytesCells w e s) e ((Lib.bytesCells w e s).size, (Lib.bytesCells w e s).size + 1)) } := by
  refine Hp.ext (fun b => ?_) rfl (by show (Lib.bytesWorld w e s).heap.size = (w.heap.push _).size; rw [Lib.bytesWorld_size]; simp)
  rw [hp_push]
  rcases Nat.lt_trichotomy b w.heap.size with h | h | h
  · rw [if_neg (by omega)]; exact Lib.bytesWorld_at_old w e s b h
  · subst h; rw [if_pos rfl]; exact Lib.bytesWorld_at_new w e s
  · rw [if_neg (by omega)]
    have h1 := Lib.bytesWorld_size w e s
    rw [hp_at, hp_at, Array.getElem?_eq_none (by omega), Array.getElem?_eq_none (by omega)]
theorem OpT.strBytes {s : ByteArray} [hd : UStr P t] [hu : USlice P u e] [he : UByte P e] (hx : opv x E = some (c1, .string s)) [Imp true c1] :
    OpT P E L ⟨d, .convert t u x, ty, pos, af, gd⟩ (fun r L' => ∃ b c, r = .slice (some ⟨b, 0, none⟩) (bs s).length c ∧ (bs s).length ≤ c ∧ L' = CellsAt b 0 (u8s (bs s)).flatten :: L) noPanic := fun ac w K Q0 h1 h2 hK _ => by
  unfold Oper.wp
  have hr := Lib.run_convert_string_bytes (P := P) w t u e s hd.h hu.h he.h
  have hex : (execOp ac.eval ⟨d, .convert t u x, ty, pos, af, gd⟩).run P w = .ok (.value (.slice (some ⟨w.heap.size, 0, none⟩) s.size (grownCap w s.size 0 e))) (Lib.bytesWorld w e s) := by
    show (do pure (Next.value (← convert t u (ac.eval x))) : Sem Next).run P w = _
    rw [EvG.of (g := true) hx ac h1 rfl]
    exact run_v hr
  rw [hex]
  refine hK _ _ _ ⟨_, _, rfl, grownCap_ge w s.size 0 e, rfl⟩ ?_
  rw [hp_bytes]
  refine Sat.new ?_ h2
  refine ⟨_, _, _, Hp.single_at _ _, fun i v hv => ?_⟩
  rw [u8s_flat] at hv
  have hlt := (List.getElem?_eq_some_iff.1 hv).1
  rw [List.length_map] at hlt
  rw [Nat.zero_add]
  unfold Lib.bytesCells
  rw [Array.getElem?_append_left (by rw [Array.size_map]; exact hlt)]
  rw [List.getElem?_map] at hv
  rw [Array.getElem?_map]
  have : s.data[i]? = (bs s)[i]? := by unfold bs; rw [Array.getElem?_toList]
  rw [this]; exact hv
theorem Sl.ofCells {b c : Nat} {l : List UInt8} (h : Ent L (CellsAt b 0 (u8s l).flatten)) (hc : l.length ≤ c) : Sl L (some ⟨b, 0, none⟩) c 1 (u8s l) := by
  refine ⟨by rw [u8s_length]; exact hc, ⟨b, 0, fun _ => rfl, fun r hr => by unfold u8s at hr; obtain ⟨q, _, rfl⟩ := List.mem_map.1 hr; rfl, fun k hs i r hr => ?_⟩⟩
  unfold u8s at hr
  rw [List.getElem?_map] at hr
  obtain ⟨q, hq, rfl⟩ := Option.map_eq_some_iff.1 hr
  refine ⟨rfl, ?_⟩
  rw [Nat.mul_one]
  refine CellsAt.sub (n := 1) (h k hs) ?_
  rw [u8s_flat]
  have hlt := (List.getElem?_eq_some_iff.1 hq).1
  rw [← List.map_drop, ← List.map_take, List.drop_eq_getElem_cons hlt]
  have : l[i] = q := (List.getElem?_eq_some_iff.1 hq).2
  rw [this]; rfl
theorem WpO.strBytes {s : ByteArray} [UStr P t] [USlice P u e] [UByte P e] (h0 : Nat.blt dd n = true) (hx : opv x E = some (c1, .string s)) [Imp true c1]
    (h : ∀ b c, (bs s).length ≤ c → WpO P n ops Q .seq rest ((dd, .v (.slice (some ⟨b, 0, Option.none⟩) (bs s).length c)) :: E) D (CellsAt b 0 (u8s (bs s)).flatten :: L)) : WpO P n ops Q .seq (⟨some dd, .convert t u x, ty, pos, af, Option.none⟩ :: rest) E D L :=
  WpO.opS h0 (OpT.strBytes hx) nofun fun _ _ ⟨b, c, e1, e2, e3⟩ => by subst e1; subst e3; exact h b c e2
end
end Go.Ab
end

section
/- The calculus: regions that draw their order, where two operations that turn memory may change places: state by state. -/
namespace Go.Ab
open Go

section
variable {P : Program} {n : Nat} {Q : Post} {E : Env} {D : List Deferred} {L : List Assn} {ops : Array Oper} {fuel : Nat} {listed : Array Bool}

/-- What is left of a region, from whatever frame and memory of which this is known. -/
def WpQ (P : Program) (n : Nat) (ops : Array Oper) (Q : Post) (fuel : Nat) (listed : Array Bool) (E : Env) (D : List Deferred) (L : List Assn) : Prop :=
  ∀ (a : Act) (w : World), a.tmps.size = n → EnvSat E a.tmps → a.defers = D → Sat (hp w) L → wpAnyB P ops (PostOf n Q) (fun _ => True) ops.size fuel listed a w
/-- Operation i comes next. -/
def StQ (P : Program) (n : Nat) (ops : Array Oper) (Q : Post) (fuel : Nat) (listed : Array Bool) (i : Nat) (E : Env) (D : List Deferred) (L : List Assn) : Prop :=
  ∀ (a : Act) (w : World), a.tmps.size = n → EnvSat E a.tmps → a.defers = D → Sat (hp w) L →
    wpOp P ops (PostOf n Q) i (fun a' w' => True ∧ wpAnyB P ops (PostOf n Q) (fun _ => True) ops.size fuel (listed.setIfInBounds i true) a' w') a w

theorem Wp.drawQ {id : Nat} (hm : P.follows .mixedOrders = true) (h : WpQ P n ops Q ops.size (Array.replicate ops.size false) E D L) : Wp P n (.region id ops true) Q E D L :=
  fun a w h1 h2 h3 h4 _ hr => draw_in hm hr (wpAny_of_bar _ _ _ _ (h a { w with drawn := w.drawn + 1 } h1 h2 h3 h4))
theorem WpQ.done (hr : Region.ready .any ops listed = []) (h : Q .normal E D L) : WpQ P n ops Q fuel listed E D L := fun a w h1 h2 h3 h4 => wpAnyB_done hr ⟨E, D, L, h, h1, h2, h3, h4⟩ _
/-- A quiet operation that looks at temporaries alone is as good as first. -/
theorem WpQ.q {d : Nat} {op : Op} {ty : TypeId} {pos : String} {af : Array Edge} {v : Value} (i : Nat) (hi : ops[i]? = some ⟨some d, op, ty, pos, af, none⟩) (hdn : Nat.blt d n = true) (hf : (firstB ops listed i && closedB ops listed) = true)
    (hq : Qt P E [] ⟨some d, op, ty, pos, af, none⟩ true v) (h : WpQ P n ops Q fuel (listed.setIfInBounds i true) ((d, .v v) :: E) D L) : WpQ P n ops Q (fuel + 1) listed E D L := fun a w h1 h2 h3 h4 => by
  rw [Bool.and_eq_true] at hf
  obtain ⟨hb1, hcl⟩ := hf
  simp only [firstB, Bool.and_eq_true] at hb1
  have hlt : i < ops.size := (Array.getElem?_eq_some_iff.1 hi).1
  refine wpAnyB_first hi (Region.noSelect_spec hb1.1.1) (fun c a w => PostOf.panic_put) (by omega) (by unfold barAfter; rw [Array.getElem?_eq_none (Nat.le_refl _)]) _ _ _ _ (closed_of hcl) (Region.free_spec hi hb1.1.2) (by simpa using hb1.2)
    (.inl ⟨by simp [Region.wanted], fun w' _ => hq a w' h2 trivial rfl⟩) trivial ?_
  exact h _ w (by rw [Act.put_size, h1]) (EnvSat.put h2 (by rw [h1]; exact bltLt hdn) (.v v)) (by rw [Act.put_defers', h3]) h4
/-- One of those that may come next. -/
theorem WpQ.fork {l : List Nat} (hr : Region.ready .any ops listed = l) (hne : l ≠ []) (h : ∀ i ∈ l, i < ops.size ∧ StQ P n ops Q fuel listed i E D L) : WpQ P n ops Q (fuel + 1) listed E D L := fun a w h1 h2 h3 h4 => by
  refine ⟨fun h0 => absurd (hr.symm.trans h0) hne, fun i hi => ?_⟩
  rw [hr] at hi
  have hlt := (h i hi).1
  have := (h i hi).2 a w h1 h2 h3 h4
  have hib : i ≠ ops.size := by omega
  simp only [hib, if_false]
  exact this
theorem WpQ.one (i : Nat) (hr : Region.ready .any ops listed = [i]) (h : StQ P n ops Q fuel listed i E D L) : WpQ P n ops Q (fuel + 1) listed E D L :=
  WpQ.fork hr (by simp) fun j hj => by
    obtain rfl : j = i := by simpa using hj
    refine ⟨?_, h⟩
    have : j ∈ Region.ready .any ops listed := by rw [hr]; simp
    obtain ⟨_, o, ho, _⟩ := mem_ready.1 this
    exact (Array.getElem?_eq_some_iff.1 ho).1
theorem WpQ.two (i j : Nat) (hr : Region.ready .any ops listed = [i, j]) (h1 : StQ P n ops Q fuel listed i E D L) (h2 : StQ P n ops Q fuel listed j E D L) : WpQ P n ops Q (fuel + 1) listed E D L :=
  WpQ.fork hr (by simp) fun k hk => by
    refine ⟨?_, ?_⟩
    · have : k ∈ Region.ready .any ops listed := by rw [hr]; exact hk
      obtain ⟨_, o, ho, _⟩ := mem_ready.1 this
      exact (Array.getElem?_eq_some_iff.1 ho).1
    · rcases List.mem_cons.1 hk with rfl | hk
      · exact h1
      · obtain rfl : k = j := by simpa using hk
        exact h2
theorem StQ.q {i d : Nat} {op : Op} {ty : TypeId} {pos : String} {af : Array Edge} {v : Value} (hi : ops[i]? = some ⟨some d, op, ty, pos, af, none⟩) (hdn : Nat.blt d n = true) (hq : Qt P E L ⟨some d, op, ty, pos, af, none⟩ true v)
    (h : WpQ P n ops Q fuel (listed.setIfInBounds i true) ((d, .v v) :: E) D L) : StQ P n ops Q fuel listed i E D L := fun a w h1 h2 h3 h4 =>
  wpOp_quiet hi (GuardIs.none rfl) h2 h4 hq ⟨trivial, h _ w (by rw [if_pos rfl, Act.put_size, h1]) (by rw [if_pos rfl]; exact EnvSat.put h2 (by rw [h1]; exact bltLt hdn) (.v v)) (by rw [if_pos rfl, Act.put_defers', h3]) h4⟩
theorem StQ.op {i d : Nat} {op : Op} {ty : TypeId} {pos : String} {af : Array Edge} {R : Value → List Assn → Prop} {Rp : List PanicEntry → List Assn → Prop} (hi : ops[i]? = some ⟨some d, op, ty, pos, af, none⟩) (hdn : Nat.blt d n = true) (ht : OpT P E L ⟨some d, op, ty, pos, af, none⟩ R Rp)
    (hp' : ∀ c L', Rp c L' → Q (.panic c) [] D L') (h : ∀ v L', R v L' → WpQ P n ops Q fuel (listed.setIfInBounds i true) ((d, .v v) :: E) D L') : StQ P n ops Q fuel listed i E D L := fun a w h1 h2 h3 h4 => by
  refine wpOp_wanted hi (by simp [Region.wanted]) (ht a w _ _ h2 h4 (fun v w' L' hR hS => ⟨trivial, ?_⟩) (fun c w' L' hR hS => ⟨D, L', hp' c L' hR, h3, hS⟩))
  exact h v L' hR _ w' (by rw [Act.put_size, h1]) (EnvSat.put h2 (by rw [h1]; exact bltLt hdn) (.v v)) (by rw [Act.put_defers', h3]) hS
theorem StQ.callq {i d : Nat} {f : FuncId} {args : List Operand} {tys : Array TypeId} {ty : TypeId} {pos : String} {af : Array Edge} {vs : List Value} {v : Value} (hi : ops[i]? = some ⟨some d, .call ⟨.value (.func f), args.toArray, tys⟩, ty, pos, af, none⟩) (hc : ∀ (args : Array Value) (w : World), Sem.run P (callFunc f args) w = .ok (.enter f args) w) (hdn : Nat.blt d n = true) (hargs : evs args E = some vs)
    (hct : Ct P f vs.toArray L (ret fun r L' => r = v ∧ L' = L)) (h : WpQ P n ops Q fuel (listed.setIfInBounds i true) ((d, .v v) :: E) D L) : StQ P n ops Q fuel listed i E D L :=
  StQ.op hi hdn (OpT.call hc hargs hct) nofun fun _ _ ⟨e1, e2⟩ => by subst e1; subst e2; exact h
theorem StQ.buildSlice {i d : Nat} {t e sz ln : Nat} {agg : Bool} {ps : List (Nat × Operand)} {ty : TypeId} {pos : String} {af : Array Edge} {vs : List (Nat × Value)} {cs zs : List Value} {zv : Value} [USlice P t e] [TSize P e sz agg] [TZero P e zv] (hi : ops[i]? = some ⟨some d, .buildSlice t ln ps.toArray, ty, pos, af, none⟩) (hdn : Nat.blt d n = true) (hp : pev ps E = some vs)
    (hzv : zv.cells.toList = zs) (hzl : Nat.beq zs.length sz = true) (hs0 : Nat.beq sz 0 = false) (hsm : Nat.ble (ln * sz) 16777216 = true) (hf : fillB (fun i => some (i * sz, sz)) (List.replicate ln zs).flatten vs = some cs)
    (h : ∀ b, WpQ P n ops Q fuel (listed.setIfInBounds i true) ((d, .v (.slice (some ⟨b, 0, Option.none⟩) ln ln)) :: E) D (ptA b e cs :: L)) : StQ P n ops Q fuel listed i E D L :=
  StQ.op hi hdn (OpT.buildSlice hp hzv hzl hs0 hsm hf) nofun fun _ _ ⟨b, e1, e2⟩ => by subst e1; subst e2; exact h b
end
end Go.Ab
end

section
/- From what a reading of memory says to parts of memory, and back: for integers, texts, slices and structs of them. -/
namespace Go.Ab
open Go Go.ChangeShapes Go.WideShapes Go.Deep

/-- All of a world's memory. -/
def exactA (W : World) : Assn := fun h => h.met = (W.os, W.output) ∧ (∀ b o, W.heap[b]? = some o → h b = some o) ∧ W.heap.size ≤ h.sz
theorem exact_sat (W : World) : Sat (hp W) [exactA W] := ⟨hp W, Hp.le_refl _, ⟨rfl, fun _ _ e => e, Nat.le_refl _⟩, trivial⟩
theorem exact_le {W w : World} (h : Sat (hp w) [exactA W]) : Hp.le (hp W) (hp w) := by
  obtain ⟨k, l, ⟨m, f, z⟩, _⟩ := h
  exact ⟨fun b o e => l b o (f b o e), m.symm.trans l.m, Nat.le_trans z l.s⟩
theorem exact_ent {W : World} {φ : Hp → Prop} (hm : Mono φ) (h : φ (hp W)) : Ent [exactA W] φ := fun k s => by
  obtain ⟨k', l, ⟨m, f, z⟩, _⟩ := s
  exact hm _ _ ⟨fun b o e => l b o (f b o e), m.symm.trans l.m, Nat.le_trans z l.s⟩ h

theorem cell_le {w w' : World} (h : Hp.le (hp w) (hp w')) {a : Addr} {v : Value} (hc : w.cell? a = some v) : w'.cell? a = some v := by
  unfold World.cell? at hc ⊢
  split at hc
  · rename_i c t f hb
    rw [show w'.heap[a.block]? = some (.cells c t f) from h a.block _ hb]
    exact hc
  · cases hc
theorem cells_get {w : World} {a : Addr} {n : Nat} {cs : List Value} (h : w.cells? 0 a n = some cs) {i : Nat} {v : Value} (hv : cs[i]? = some v) : w.cell? (a.add i) = some v := by
  obtain ⟨_, h2, h3⟩ := World.cells?_some h
  have hi := (List.getElem?_eq_some_iff.1 hv).1
  rw [h3 i (by omega), hv]
theorem mapM_of_get {α β : Type} {f : α → Option β} : ∀ (l : List α) (xs : List β), l.length = xs.length → (∀ (i : Nat) (a : α), l[i]? = some a → f a = xs[i]?) → l.mapM f = some xs
  | [], xs, hl, _ => by
    have : xs = [] := List.length_eq_zero_iff.1 hl.symm
    subst this; rfl
  | a :: l, [], hl, _ => by simp at hl
  | a :: l, x :: xs, hl, h => by
    have h1 := mapM_of_get l xs (by simpa using hl) fun i b hb => by
      have := h (i + 1) b (by simpa using hb)
      simpa using this
    have h2 : f a = some x := by have := h 0 a rfl; simpa using this
    rw [List.mapM_cons, h2, h1]; rfl
theorem cells_le {w w' : World} (h : Hp.le (hp w) (hp w')) {a : Addr} {n : Nat} {cs : List Value} (hc : w.cells? 0 a n = some cs) : w'.cells? 0 a n = some cs := by
  obtain ⟨h1, h2, h3⟩ := World.cells?_some hc
  unfold World.cells?
  rw [if_pos h1]
  refine mapM_of_get _ _ (by simp [h2]) fun i k hk => ?_
  have hi := (List.getElem?_eq_some_iff.1 hk).1
  rw [List.length_range] at hi
  rw [List.getElem?_range hi] at hk
  simp only [Option.some.injEq] at hk
  subst hk
  have hv : cs[i]? = some cs[i] := List.getElem?_eq_getElem (by omega)
  rw [hv]
  exact cell_le h (cells_get hc hv)

/-- Integers, texts, slices and structs of them. -/
inductive Plain (P : Program) : TypeId → Prop where
  | int {t : TypeId} {k : IntKind} (h : P.underlying t = some (.int k)) : Plain P t
  | str {t : TypeId} (h : P.underlying t = some .string) : Plain P t
  | slice {t e : TypeId} (h : P.underlying t = some (.slice e)) (hc : P.cellsOf e ≠ 0) (he : Plain P e) : Plain P t
  | struct {t : TypeId} {fs : Array Field} (h : P.underlying t = some (.struct fs)) (hf : ∀ (i : Nat) (f : Field), fs[i]? = some f → Plain P f.type) : Plain P t

section
variable {H : Type} {enc : TypeId × Value → H} {P : Program}
/-- What was read is read again, whatever has come to memory. -/
theorem reread {t : TypeId} (hp0 : Plain P t) : ∀ {fuel : Nat} {cs : List Value} {x : DataW H × List MemPlace} {w w' : World} {sp : Nat → Bool}, Hp.le (hp w) (hp w') →
    DataW.trod enc P w 0 (fun _ => true) true fuel t cs = some x → (∀ p ∈ x.2, sp p.block = true) → ∃ n, DataW.trod enc P w' 0 sp true n t cs = some x := by
  induction hp0 with
  | int h =>
    intro fuel cs x w w' sp hl hr _
    obtain ⟨n, rfl, rfl, hw⟩ := DataW.trod_int h hr
    exact ⟨1, trod_int_mk 0 h hw⟩
  | str h =>
    intro fuel cs x w w' sp hl hr _
    obtain ⟨s, rfl, rfl, hs⟩ := DataW.trod_string h hr
    exact ⟨1, by simp [DataW.trod, h, hs]⟩
  | slice h hc he ih =>
    rename_i t e
    intro fuel cs x w w' sp hl hr hpl
    rcases open_slice h hr with ⟨rfl, rfl⟩ | ⟨a, len, cap, m, n, D, Pl, rfl, hb, hle, hm, hmm, rfl, hel⟩
    · exact ⟨1, by simp [DataW.trod, h]⟩
    simp only [if_true] at hmm
    subst hmm
    have hel' : ∀ i, i < m → ∃ cs n, w'.cells? 0 (a.add (i * P.cellsOf e)) (P.cellsOf e) = some cs ∧ DataW.trod enc P w' 0 sp true n e cs = some (D i, Pl i) := fun i hi => by
      obtain ⟨cs', h1, h2⟩ := hel i hi
      obtain ⟨n', h3⟩ := ih hl h2 fun p hp => hpl p (by
        refine List.mem_append.2 (.inr ?_)
        exact List.mem_flatMap.2 ⟨i, List.mem_range.2 hi, hp⟩)
      exact ⟨cs', n', cells_le hl h1, h3⟩
    by_cases h0 : m = 0
    · subst h0
      obtain rfl : len = 0 := by omega
      cases hs : sp a.block with
      | true => exact shut_slice_whole_cells h hb hle hm hs D Pl hel'
      | false => exact shut_slice_cells h hb hle hm hs D Pl hel'
    · have hs : sp a.block = true := hpl (.cell a.block (a.off + 0)) (by
        refine List.mem_append.2 (.inl ?_)
        unfold MemPlace.row
        refine List.mem_map.2 ⟨0, List.mem_range.2 ?_, rfl⟩
        exact Nat.mul_pos (by omega) (Nat.pos_of_ne_zero hc))
      exact shut_slice_whole_cells h hb hle hm hs D Pl hel'
  | struct h hf ih =>
    rename_i t fs
    intro fuel cs x w w' sp hl hr hpl
    obtain ⟨xs, n, rfl, rfl, hlen, hxl, hx⟩ := DataW.trod_struct h hr
    have hex : ∀ i, i < fs.size → ∃ m, ∀ f, fs[i]? = some f → DataW.trod enc P w' 0 sp true m f.type ((cs.drop f.offset).take (P.cellsOf f.type)) = xs[i]? := fun i hi => by
      have hfi : fs[i]? = some fs[i] := Array.getElem?_eq_getElem hi
      have h1 := hx i _ hfi
      have hxi : xs[i]? = some xs[i] := List.getElem?_eq_getElem (by omega)
      rw [hxi] at h1 ⊢
      obtain ⟨m, h2⟩ := ih i _ hfi hl h1 fun p hp => hpl p (List.mem_flatMap.2 ⟨xs[i], List.getElem_mem _, hp⟩)
      refine ⟨m, fun f hff => ?_⟩
      rw [hfi] at hff; simp only [Option.some.injEq] at hff; subst hff
      exact h2
    obtain ⟨m, hm⟩ := fuel_lt (n := fs.size) (q := fun i m => ∀ f, fs[i]? = some f → DataW.trod enc P w' 0 sp true m f.type ((cs.drop f.offset).take (P.cellsOf f.type)) = xs[i]?)
      (fun i a b hab q f hff => by
        have h1 := q f hff
        have hi := (Array.getElem?_eq_some_iff.1 hff).1
        have hxi : xs[i]? = some xs[i] := List.getElem?_eq_getElem (by omega)
        rw [hxi] at h1 ⊢
        exact DataW.trod_le hab h1) hex
    refine ⟨m + 1, trod_struct_mk h hlen (mapM_of_get _ _ (by simpa using hxl.symm) fun i f hff => ?_)⟩
    rw [Array.getElem?_toList] at hff
    exact hm i (Array.getElem?_eq_some_iff.1 hff).1 f hff
theorem rereadAll : ∀ {ts : List TypeId} {vs : List Value} {ds : List (DataW H)} {ps : List MemPlace} {w w' : World} {sp : Nat → Bool}, (∀ t ∈ ts, Plain P t) → Hp.le (hp w) (hp w') →
    DataW.TrodAll enc P w 0 (fun _ => true) true ts vs ds ps → (∀ p ∈ ps, sp p.block = true) → DataW.TrodAll enc P w' 0 sp true ts vs ds ps
  | [], vs, ds, ps, w, w', sp, _, hl, h, _ => by
    obtain ⟨rfl, rfl, rfl⟩ := trodAll_nil h
    exact rfl
  | t :: ts, vs, ds, ps, w, w', sp, hp0, hl, h, hs => by
    obtain ⟨v, vs1, d, ds1, p, q, rfl, rfl, rfl, ⟨n, h1⟩, h2⟩ := trodAll_cons h
    obtain ⟨m, h3⟩ := reread (hp0 t (by simp)) hl h1 fun x hx => hs x (by simp [hx])
    exact ⟨p, q, ⟨m, h3⟩, rereadAll (fun t' ht => hp0 t' (by simp [ht])) hl h2 fun x hx => hs x (by simp [hx]), rfl⟩

/-! ### Rows that are read -/
theorem cellsAt_of {w : World} {b o : Nat} {vs : List Value} (hne : vs ≠ []) (h : ∀ i v, vs[i]? = some v → w.cell? ⟨b, o + i, none⟩ = some v) : CellsAt b o vs (hp w) := by
  obtain ⟨v0, hv0⟩ : ∃ v, vs[0]? = some v := by
    cases vs with
    | nil => exact absurd rfl hne
    | cons v _ => exact ⟨v, rfl⟩
  have h0 := h 0 v0 hv0
  unfold World.cell? at h0
  split at h0
  · rename_i c t f hb
    refine ⟨c, t, f, hb, fun i v hv => ?_⟩
    have h1 := h i v hv
    unfold World.cell? at h1
    rw [hb] at h1
    simpa using h1
  · cases h0
theorem sl_open {W : World} {a : Addr} {cap sz : Nat} {rows : List (List Value)} (hsz : sz ≠ 0) (hcap : rows.length ≤ cap) (hr : ∀ i r, rows[i]? = some r → W.cells? 0 (a.add (i * sz)) sz = some r) : Sl [exactA W] (some a) cap sz rows := by
  refine ⟨hcap, ?_⟩
  by_cases h0 : rows = []
  · subst h0
    exact ⟨0, 0, fun h => absurd rfl h, nofun, fun _ _ i r hi => by simp at hi⟩
  obtain ⟨r0, hr0⟩ : ∃ r, rows[0]? = some r := by
    cases rows with
    | nil => exact absurd rfl h0
    | cons v _ => exact ⟨v, rfl⟩
  have hc0 := hr 0 r0 hr0
  have hl0 := (World.cells?_some hc0).2.1
  obtain ⟨b, o, spot⟩ := a
  have hv : r0[0]? = some r0[0] := List.getElem?_eq_getElem (by omega)
  have hcell := cells_get hc0 hv
  have hspot : spot = none := by
    have := World.cell?_spot hcell
    simpa [Addr.add] using this
  subst hspot
  refine ⟨b, o, fun _ => rfl, fun r hrm => ?_, exact_ent (RowsAt.mono _ _ _ _) fun i r hi => ?_⟩
  · obtain ⟨i, hi⟩ := List.mem_iff_getElem?.1 hrm
    exact (World.cells?_some (hr i r hi)).2.1
  · have h1 := hr i r hi
    have hl := (World.cells?_some h1).2.1
    refine ⟨hl, cellsAt_of (by intro e; subst e; simp at hl; exact hsz hl.symm) fun j v hv => ?_⟩
    have := cells_get h1 hv
    rw [Addr.add_eq, Addr.add_eq] at this
    exact this
end
end Go.Ab
end

section
/- What is known of this seat's types. Printed by gentypes.py. -/
namespace Go.Proofs.Ytibkdjjdfcpdaaa
open Go Go.Ab
theorem tsize_of {P : Program} {t : TypeId} {i : TypeInfo} {d : TypeDesc} {sz : Nat} {b : Bool} (h1 : ∀ w, (typeInfo t).run P w = .ok i w) (h2 : ∀ w, (underlying t).run P w = .ok d w) (hs : i.size = sz)
    (hb : (match d with | .struct _ | .array _ _ => true | _ => false) = b) : TSize P t sz b :=
  ⟨fun w => by unfold sizeOf; rw [run_ok (h1 w), hs]; rfl, fun w => by
    unfold isAgg; rw [run_ok (h2 w), ← hb]; cases d <;> rfl⟩
theorem fieldAt_of {P : Program} {s : TypeId} {fs : Array Field} {i off : Nat} (ft sz : Nat) {agg : Bool} (hs : ∀ w, (underlying s).run P w = .ok (.struct fs) w) (hf : (fs[i]?).map (fun f => (f.type, f.offset)) = some (ft, off)) [hz : TSize P ft sz agg] (h0 : sz ≠ 0) : FieldAt P s i off :=
  ⟨fun b o w => by
    obtain ⟨f, h1, h2⟩ := Option.map_eq_some_iff.1 hf
    simp only [Prod.mk.injEq] at h2
    unfold Instr.fieldAt
    rw [run_ok (hs w)]
    simp only [h1]
    rw [run_ok (a := (⟨b, o, none⟩ : Addr)) (w' := w) rfl]
    have : (fieldPlace ⟨b, o, none⟩ f).run P w = .ok ⟨b, o + off, none⟩ w := by
      unfold fieldPlace
      rw [h2.1, run_ok (hz.size w), if_neg h0, Addr.add_eq, h2.2]; rfl
    rw [run_ok this]; rfl⟩
instance : NotIface Try.prog 1 := ⟨_, Try.underlying1, nofun⟩
instance : TSize Try.prog 1 1 false := tsize_of Try.typeInfo1 Try.runUnderlying1 rfl rfl
instance : TZero Try.prog 1 (.nilFunc) := ⟨Try.zeroValue1⟩
instance : TBytes Try.prog 1 8 := ⟨fun w => ⟨_, Try.typeInfo1 w, rfl⟩⟩
instance : UInt Try.prog 2 .i64 := ⟨Try.underlying2⟩
instance : NotIface Try.prog 2 := ⟨_, Try.underlying2, nofun⟩
instance : TSize Try.prog 2 1 false := tsize_of Try.typeInfo2 Try.runUnderlying2 rfl rfl
instance : TZero Try.prog 2 (.int .i64 0) := ⟨Try.zeroValue2⟩
instance : TBytes Try.prog 2 8 := ⟨fun w => ⟨_, Try.typeInfo2 w, rfl⟩⟩
instance : UInt Try.prog 3 .i64 := ⟨Try.underlying3⟩
instance : NotIface Try.prog 3 := ⟨_, Try.underlying3, nofun⟩
instance : TSize Try.prog 3 1 false := tsize_of Try.typeInfo3 Try.runUnderlying3 rfl rfl
instance : TZero Try.prog 3 (.int .i64 0) := ⟨Try.zeroValue3⟩
instance : TBytes Try.prog 3 8 := ⟨fun w => ⟨_, Try.typeInfo3 w, rfl⟩⟩
instance : UBool Try.prog 4 := ⟨Try.underlying4⟩
instance : NotIface Try.prog 4 := ⟨_, Try.underlying4, nofun⟩
instance : TSize Try.prog 4 1 false := tsize_of Try.typeInfo4 Try.runUnderlying4 rfl rfl
instance : TZero Try.prog 4 (.bool false) := ⟨Try.zeroValue4⟩
instance : TBytes Try.prog 4 1 := ⟨fun w => ⟨_, Try.typeInfo4 w, rfl⟩⟩
instance : UInt Try.prog 5 .u8 := ⟨Try.underlying5⟩
instance : NotIface Try.prog 5 := ⟨_, Try.underlying5, nofun⟩
instance : TSize Try.prog 5 1 false := tsize_of Try.typeInfo5 Try.runUnderlying5 rfl rfl
instance : TZero Try.prog 5 (.int .u8 0) := ⟨Try.zeroValue5⟩
instance : TBytes Try.prog 5 1 := ⟨fun w => ⟨_, Try.typeInfo5 w, rfl⟩⟩
instance : UStr Try.prog 9 := ⟨Try.underlying9⟩
instance : NotIface Try.prog 9 := ⟨_, Try.underlying9, nofun⟩
instance : TSize Try.prog 9 1 false := tsize_of Try.typeInfo9 Try.runUnderlying9 rfl rfl
instance : TZero Try.prog 9 (.string ⟨#[]⟩) := ⟨Try.zeroValue9⟩
instance : TBytes Try.prog 9 16 := ⟨fun w => ⟨_, Try.typeInfo9 w, rfl⟩⟩
instance : UInt Try.prog 12 .u64 := ⟨Try.underlying12⟩
instance : NotIface Try.prog 12 := ⟨_, Try.underlying12, nofun⟩
instance : TSize Try.prog 12 1 false := tsize_of Try.typeInfo12 Try.runUnderlying12 rfl rfl
instance : TZero Try.prog 12 (.int .u64 0) := ⟨Try.zeroValue12⟩
instance : TBytes Try.prog 12 8 := ⟨fun w => ⟨_, Try.typeInfo12 w, rfl⟩⟩
instance : NotIface Try.prog 13 := ⟨_, Try.underlying13, nofun⟩
instance : TSize Try.prog 13 2 true := tsize_of Try.typeInfo13 Try.runUnderlying13 rfl rfl
instance : TZero Try.prog 13 (.agg #[.string ⟨#[]⟩, .int .u64 0]) := ⟨Try.zeroValue13⟩
instance : TBytes Try.prog 13 24 := ⟨fun w => ⟨_, Try.typeInfo13 w, rfl⟩⟩
instance : NotIface Try.prog 19 := ⟨_, Try.underlying19, nofun⟩
instance : TSize Try.prog 19 1 true := tsize_of Try.typeInfo19 Try.runUnderlying19 rfl rfl
instance : TZero Try.prog 19 (.agg #[.pointer none]) := ⟨Try.zeroValue19⟩
instance : TBytes Try.prog 19 8 := ⟨fun w => ⟨_, Try.typeInfo19 w, rfl⟩⟩
instance : TSize Try.prog 20 1 false := tsize_of Try.typeInfo20 Try.runUnderlying20 rfl rfl
instance : TZero Try.prog 20 (.nilIface) := ⟨Try.zeroValue20⟩
instance : TBytes Try.prog 20 16 := ⟨fun w => ⟨_, Try.typeInfo20 w, rfl⟩⟩
instance : UInt Try.prog 21 .i32 := ⟨Try.underlying21⟩
instance : NotIface Try.prog 21 := ⟨_, Try.underlying21, nofun⟩
instance : TSize Try.prog 21 1 false := tsize_of Try.typeInfo21 Try.runUnderlying21 rfl rfl
instance : TZero Try.prog 21 (.int .i32 0) := ⟨Try.zeroValue21⟩
instance : TBytes Try.prog 21 4 := ⟨fun w => ⟨_, Try.typeInfo21 w, rfl⟩⟩
instance : USlice Try.prog 22 38 := ⟨Try.underlying22⟩
instance : NotIface Try.prog 22 := ⟨_, Try.underlying22, nofun⟩
instance : TSize Try.prog 22 1 false := tsize_of Try.typeInfo22 Try.runUnderlying22 rfl rfl
instance : TZero Try.prog 22 (.slice none 0 0) := ⟨Try.zeroValue22⟩
instance : TBytes Try.prog 22 24 := ⟨fun w => ⟨_, Try.typeInfo22 w, rfl⟩⟩
instance : NotIface Try.prog 23 := ⟨_, Try.underlying23, nofun⟩
instance : TSize Try.prog 23 1 true := tsize_of Try.typeInfo23 Try.runUnderlying23 rfl rfl
instance : TZero Try.prog 23 (.agg #[.slice none 0 0]) := ⟨Try.zeroValue23⟩
instance : TBytes Try.prog 23 24 := ⟨fun w => ⟨_, Try.typeInfo23 w, rfl⟩⟩
instance : NotIface Try.prog 24 := ⟨_, Try.underlying24, nofun⟩
instance : TSize Try.prog 24 1 true := tsize_of Try.typeInfo24 Try.runUnderlying24 rfl rfl
instance : TZero Try.prog 24 (.agg #[.slice none 0 0]) := ⟨Try.zeroValue24⟩
instance : TBytes Try.prog 24 24 := ⟨fun w => ⟨_, Try.typeInfo24 w, rfl⟩⟩
instance : NotIface Try.prog 25 := ⟨_, Try.underlying25, nofun⟩
instance : TSize Try.prog 25 1 false := tsize_of Try.typeInfo25 Try.runUnderlying25 rfl rfl
instance : TZero Try.prog 25 (.nilFunc) := ⟨Try.zeroValue25⟩
instance : TBytes Try.prog 25 8 := ⟨fun w => ⟨_, Try.typeInfo25 w, rfl⟩⟩
instance : USlice Try.prog 26 3 := ⟨Try.underlying26⟩
instance : NotIface Try.prog 26 := ⟨_, Try.underlying26, nofun⟩
instance : TSize Try.prog 26 1 false := tsize_of Try.typeInfo26 Try.runUnderlying26 rfl rfl
instance : TZero Try.prog 26 (.slice none 0 0) := ⟨Try.zeroValue26⟩
instance : TBytes Try.prog 26 24 := ⟨fun w => ⟨_, Try.typeInfo26 w, rfl⟩⟩
instance : USlice Try.prog 27 9 := ⟨Try.underlying27⟩
instance : NotIface Try.prog 27 := ⟨_, Try.underlying27, nofun⟩
instance : TSize Try.prog 27 1 false := tsize_of Try.typeInfo27 Try.runUnderlying27 rfl rfl
instance : TZero Try.prog 27 (.slice none 0 0) := ⟨Try.zeroValue27⟩
instance : TBytes Try.prog 27 24 := ⟨fun w => ⟨_, Try.typeInfo27 w, rfl⟩⟩
instance : USlice Try.prog 28 48 := ⟨Try.underlying28⟩
instance : NotIface Try.prog 28 := ⟨_, Try.underlying28, nofun⟩
instance : TSize Try.prog 28 1 false := tsize_of Try.typeInfo28 Try.runUnderlying28 rfl rfl
instance : TZero Try.prog 28 (.slice none 0 0) := ⟨Try.zeroValue28⟩
instance : TBytes Try.prog 28 24 := ⟨fun w => ⟨_, Try.typeInfo28 w, rfl⟩⟩
instance : USlice Try.prog 29 50 := ⟨Try.underlying29⟩
instance : NotIface Try.prog 29 := ⟨_, Try.underlying29, nofun⟩
instance : TSize Try.prog 29 1 false := tsize_of Try.typeInfo29 Try.runUnderlying29 rfl rfl
instance : TZero Try.prog 29 (.slice none 0 0) := ⟨Try.zeroValue29⟩
instance : TBytes Try.prog 29 24 := ⟨fun w => ⟨_, Try.typeInfo29 w, rfl⟩⟩
instance : USlice Try.prog 30 42 := ⟨Try.underlying30⟩
instance : NotIface Try.prog 30 := ⟨_, Try.underlying30, nofun⟩
instance : TSize Try.prog 30 1 false := tsize_of Try.typeInfo30 Try.runUnderlying30 rfl rfl
instance : TZero Try.prog 30 (.slice none 0 0) := ⟨Try.zeroValue30⟩
instance : TBytes Try.prog 30 24 := ⟨fun w => ⟨_, Try.typeInfo30 w, rfl⟩⟩
instance : NotIface Try.prog 31 := ⟨_, Try.underlying31, nofun⟩
instance : TSize Try.prog 31 6 true := tsize_of Try.typeInfo31 Try.runUnderlying31 rfl rfl
instance : TZero Try.prog 31 (.agg #[.slice none 0 0, .slice none 0 0, .slice none 0 0, .slice none 0 0, .slice none 0 0, .slice none 0 0]) := ⟨Try.zeroValue31⟩
instance : TBytes Try.prog 31 144 := ⟨fun w => ⟨_, Try.typeInfo31 w, rfl⟩⟩
instance : NotIface Try.prog 32 := ⟨_, Try.underlying32, nofun⟩
instance : TSize Try.prog 32 6 true := tsize_of Try.typeInfo32 Try.runUnderlying32 rfl rfl
instance : TZero Try.prog 32 (.agg #[.slice none 0 0, .slice none 0 0, .slice none 0 0, .slice none 0 0, .slice none 0 0, .slice none 0 0]) := ⟨Try.zeroValue32⟩
instance : TBytes Try.prog 32 144 := ⟨fun w => ⟨_, Try.typeInfo32 w, rfl⟩⟩
instance : UInt Try.prog 33 .i64 := ⟨Try.underlying33⟩
instance : NotIface Try.prog 33 := ⟨_, Try.underlying33, nofun⟩
instance : TSize Try.prog 33 1 false := tsize_of Try.typeInfo33 Try.runUnderlying33 rfl rfl
instance : TZero Try.prog 33 (.int .i64 0) := ⟨Try.zeroValue33⟩
instance : TBytes Try.prog 33 8 := ⟨fun w => ⟨_, Try.typeInfo33 w, rfl⟩⟩
instance : NotIface Try.prog 35 := ⟨_, Try.underlying35, nofun⟩
instance : TSize Try.prog 35 1 false := tsize_of Try.typeInfo35 Try.runUnderlying35 rfl rfl
instance : TZero Try.prog 35 (.nilFunc) := ⟨Try.zeroValue35⟩
instance : TBytes Try.prog 35 8 := ⟨fun w => ⟨_, Try.typeInfo35 w, rfl⟩⟩
instance : NotIface Try.prog 36 := ⟨_, Try.underlying36, nofun⟩
instance : TSize Try.prog 36 1 false := tsize_of Try.typeInfo36 Try.runUnderlying36 rfl rfl
instance : TZero Try.prog 36 (.nilFunc) := ⟨Try.zeroValue36⟩
instance : TBytes Try.prog 36 8 := ⟨fun w => ⟨_, Try.typeInfo36 w, rfl⟩⟩
instance : NotIface Try.prog 37 := ⟨_, Try.underlying37, nofun⟩
instance : TSize Try.prog 37 4 true := tsize_of Try.typeInfo37 Try.runUnderlying37 rfl rfl
instance : TZero Try.prog 37 (.agg #[.int .i64 0, .string ⟨#[]⟩, .int .i64 0, .slice none 0 0]) := ⟨Try.zeroValue37⟩
instance : TBytes Try.prog 37 56 := ⟨fun w => ⟨_, Try.typeInfo37 w, rfl⟩⟩
instance : NotIface Try.prog 38 := ⟨_, Try.underlying38, nofun⟩
instance : TSize Try.prog 38 4 true := tsize_of Try.typeInfo38 Try.runUnderlying38 rfl rfl
instance : TZero Try.prog 38 (.agg #[.int .i64 0, .string ⟨#[]⟩, .int .i64 0, .slice none 0 0]) := ⟨Try.zeroValue38⟩
instance : TBytes Try.prog 38 56 := ⟨fun w => ⟨_, Try.typeInfo38 w, rfl⟩⟩
instance : NotIface Try.prog 39 := ⟨_, Try.underlying39, nofun⟩
instance : TSize Try.prog 39 1 false := tsize_of Try.typeInfo39 Try.runUnderlying39 rfl rfl
instance : TZero Try.prog 39 (.nilFunc) := ⟨Try.zeroValue39⟩
instance : TBytes Try.prog 39 8 := ⟨fun w => ⟨_, Try.typeInfo39 w, rfl⟩⟩
instance : NotIface Try.prog 40 := ⟨_, Try.underlying40, nofun⟩
instance : TSize Try.prog 40 1 false := tsize_of Try.typeInfo40 Try.runUnderlying40 rfl rfl
instance : TZero Try.prog 40 (.nilFunc) := ⟨Try.zeroValue40⟩
instance : TBytes Try.prog 40 8 := ⟨fun w => ⟨_, Try.typeInfo40 w, rfl⟩⟩
instance : NotIface Try.prog 41 := ⟨_, Try.underlying41, nofun⟩
instance : TSize Try.prog 41 2 true := tsize_of Try.typeInfo41 Try.runUnderlying41 rfl rfl
instance : TZero Try.prog 41 (.agg #[.int .i64 0, .slice none 0 0]) := ⟨Try.zeroValue41⟩
instance : TBytes Try.prog 41 32 := ⟨fun w => ⟨_, Try.typeInfo41 w, rfl⟩⟩
instance : NotIface Try.prog 42 := ⟨_, Try.underlying42, nofun⟩
instance : TSize Try.prog 42 2 true := tsize_of Try.typeInfo42 Try.runUnderlying42 rfl rfl
instance : TZero Try.prog 42 (.agg #[.int .i64 0, .slice none 0 0]) := ⟨Try.zeroValue42⟩
instance : TBytes Try.prog 42 32 := ⟨fun w => ⟨_, Try.typeInfo42 w, rfl⟩⟩
instance : NotIface Try.prog 43 := ⟨_, Try.underlying43, nofun⟩
instance : TSize Try.prog 43 1 false := tsize_of Try.typeInfo43 Try.runUnderlying43 rfl rfl
instance : TZero Try.prog 43 (.nilFunc) := ⟨Try.zeroValue43⟩
instance : TBytes Try.prog 43 8 := ⟨fun w => ⟨_, Try.typeInfo43 w, rfl⟩⟩
instance : NotIface Try.prog 44 := ⟨_, Try.underlying44, nofun⟩
instance : TSize Try.prog 44 1 false := tsize_of Try.typeInfo44 Try.runUnderlying44 rfl rfl
instance : TZero Try.prog 44 (.nilFunc) := ⟨Try.zeroValue44⟩
instance : TBytes Try.prog 44 8 := ⟨fun w => ⟨_, Try.typeInfo44 w, rfl⟩⟩
instance : NotIface Try.prog 45 := ⟨_, Try.underlying45, nofun⟩
instance : TSize Try.prog 45 1 false := tsize_of Try.typeInfo45 Try.runUnderlying45 rfl rfl
instance : TZero Try.prog 45 (.nilFunc) := ⟨Try.zeroValue45⟩
instance : TBytes Try.prog 45 8 := ⟨fun w => ⟨_, Try.typeInfo45 w, rfl⟩⟩
instance : USlice Try.prog 46 4 := ⟨Try.underlying46⟩
instance : NotIface Try.prog 46 := ⟨_, Try.underlying46, nofun⟩
instance : TSize Try.prog 46 1 false := tsize_of Try.typeInfo46 Try.runUnderlying46 rfl rfl
instance : TZero Try.prog 46 (.slice none 0 0) := ⟨Try.zeroValue46⟩
instance : TBytes Try.prog 46 24 := ⟨fun w => ⟨_, Try.typeInfo46 w, rfl⟩⟩
instance : NotIface Try.prog 47 := ⟨_, Try.underlying47, nofun⟩
instance : TSize Try.prog 47 3 true := tsize_of Try.typeInfo47 Try.runUnderlying47 rfl rfl
instance : TZero Try.prog 47 (.agg #[.string ⟨#[]⟩, .int .i64 0, .int .i64 0]) := ⟨Try.zeroValue47⟩
instance : TBytes Try.prog 47 32 := ⟨fun w => ⟨_, Try.typeInfo47 w, rfl⟩⟩
instance : NotIface Try.prog 48 := ⟨_, Try.underlying48, nofun⟩
instance : TSize Try.prog 48 3 true := tsize_of Try.typeInfo48 Try.runUnderlying48 rfl rfl
instance : TZero Try.prog 48 (.agg #[.string ⟨#[]⟩, .int .i64 0, .int .i64 0]) := ⟨Try.zeroValue48⟩
instance : TBytes Try.prog 48 32 := ⟨fun w => ⟨_, Try.typeInfo48 w, rfl⟩⟩
instance : NotIface Try.prog 49 := ⟨_, Try.underlying49, nofun⟩
instance : TSize Try.prog 49 2 true := tsize_of Try.typeInfo49 Try.runUnderlying49 rfl rfl
instance : TZero Try.prog 49 (.agg #[.string ⟨#[]⟩, .int .i64 0]) := ⟨Try.zeroValue49⟩
instance : TBytes Try.prog 49 24 := ⟨fun w => ⟨_, Try.typeInfo49 w, rfl⟩⟩
instance : NotIface Try.prog 50 := ⟨_, Try.underlying50, nofun⟩
instance : TSize Try.prog 50 2 true := tsize_of Try.typeInfo50 Try.runUnderlying50 rfl rfl
instance : TZero Try.prog 50 (.agg #[.string ⟨#[]⟩, .int .i64 0]) := ⟨Try.zeroValue50⟩
instance : TBytes Try.prog 50 24 := ⟨fun w => ⟨_, Try.typeInfo50 w, rfl⟩⟩
instance : NotIface Try.prog 51 := ⟨_, Try.underlying51, nofun⟩
instance : TSize Try.prog 51 1 false := tsize_of Try.typeInfo51 Try.runUnderlying51 rfl rfl
instance : TZero Try.prog 51 (.nilFunc) := ⟨Try.zeroValue51⟩
instance : TBytes Try.prog 51 8 := ⟨fun w => ⟨_, Try.typeInfo51 w, rfl⟩⟩
instance : NotIface Try.prog 52 := ⟨_, Try.underlying52, nofun⟩
instance : TSize Try.prog 52 1 false := tsize_of Try.typeInfo52 Try.runUnderlying52 rfl rfl
instance : TZero Try.prog 52 (.nilFunc) := ⟨Try.zeroValue52⟩
instance : TBytes Try.prog 52 8 := ⟨fun w => ⟨_, Try.typeInfo52 w, rfl⟩⟩
instance : NotIface Try.prog 53 := ⟨_, Try.underlying53, nofun⟩
instance : TSize Try.prog 53 0 true := tsize_of Try.typeInfo53 Try.runUnderlying53 rfl rfl
instance : TZero Try.prog 53 (.agg #[]) := ⟨Try.zeroValue53⟩
instance : TBytes Try.prog 53 0 := ⟨fun w => ⟨_, Try.typeInfo53 w, rfl⟩⟩
instance : NotIface Try.prog 54 := ⟨_, Try.underlying54, nofun⟩
instance : TSize Try.prog 54 0 true := tsize_of Try.typeInfo54 Try.runUnderlying54 rfl rfl
instance : TZero Try.prog 54 (.agg #[]) := ⟨Try.zeroValue54⟩
instance : TBytes Try.prog 54 0 := ⟨fun w => ⟨_, Try.typeInfo54 w, rfl⟩⟩
instance : NotIface Try.prog 55 := ⟨_, Try.underlying55, nofun⟩
instance : TSize Try.prog 55 1 false := tsize_of Try.typeInfo55 Try.runUnderlying55 rfl rfl
instance : TZero Try.prog 55 (.pointer none) := ⟨Try.zeroValue55⟩
instance : TBytes Try.prog 55 8 := ⟨fun w => ⟨_, Try.typeInfo55 w, rfl⟩⟩
instance : NotIface Try.prog 56 := ⟨_, Try.underlying56, nofun⟩
instance : TSize Try.prog 56 1 false := tsize_of Try.typeInfo56 Try.runUnderlying56 rfl rfl
instance : TZero Try.prog 56 (.nilFunc) := ⟨Try.zeroValue56⟩
instance : TBytes Try.prog 56 8 := ⟨fun w => ⟨_, Try.typeInfo56 w, rfl⟩⟩
instance : NotIface Try.prog 57 := ⟨_, Try.underlying57, nofun⟩
instance : TSize Try.prog 57 1 false := tsize_of Try.typeInfo57 Try.runUnderlying57 rfl rfl
instance : TZero Try.prog 57 (.pointer none) := ⟨Try.zeroValue57⟩
instance : TBytes Try.prog 57 8 := ⟨fun w => ⟨_, Try.typeInfo57 w, rfl⟩⟩
instance : NotIface Try.prog 58 := ⟨_, Try.underlying58, nofun⟩
instance : TSize Try.prog 58 1 false := tsize_of Try.typeInfo58 Try.runUnderlying58 rfl rfl
instance : TZero Try.prog 58 (.nilFunc) := ⟨Try.zeroValue58⟩
instance : TBytes Try.prog 58 8 := ⟨fun w => ⟨_, Try.typeInfo58 w, rfl⟩⟩
instance : UMap Try.prog 59 9 3 := ⟨Try.underlying59⟩
instance : NotIface Try.prog 59 := ⟨_, Try.underlying59, nofun⟩
instance : TSize Try.prog 59 1 false := tsize_of Try.typeInfo59 Try.runUnderlying59 rfl rfl
instance : TZero Try.prog 59 (.map none) := ⟨Try.zeroValue59⟩
instance : TBytes Try.prog 59 8 := ⟨fun w => ⟨_, Try.typeInfo59 w, rfl⟩⟩
instance : NotIface Try.prog 60 := ⟨_, Try.underlying60, nofun⟩
instance : TSize Try.prog 60 9 true := tsize_of Try.typeInfo60 Try.runUnderlying60 rfl rfl
instance : TZero Try.prog 60 (.agg #[.slice none 0 0, .slice none 0 0, .slice none 0 0, .slice none 0 0, .slice none 0 0, .slice none 0 0, .pointer none, .map none, .map none]) := ⟨Try.zeroValue60⟩
instance : TBytes Try.prog 60 168 := ⟨fun w => ⟨_, Try.typeInfo60 w, rfl⟩⟩
instance : NotIface Try.prog 61 := ⟨_, Try.underlying61, nofun⟩
instance : TSize Try.prog 61 9 true := tsize_of Try.typeInfo61 Try.runUnderlying61 rfl rfl
instance : TZero Try.prog 61 (.agg #[.slice none 0 0, .slice none 0 0, .slice none 0 0, .slice none 0 0, .slice none 0 0, .slice none 0 0, .pointer none, .map none, .map none]) := ⟨Try.zeroValue61⟩
instance : TBytes Try.prog 61 168 := ⟨fun w => ⟨_, Try.typeInfo61 w, rfl⟩⟩
instance : NotIface Try.prog 62 := ⟨_, Try.underlying62, nofun⟩
instance : TSize Try.prog 62 1 false := tsize_of Try.typeInfo62 Try.runUnderlying62 rfl rfl
instance : TZero Try.prog 62 (.nilFunc) := ⟨Try.zeroValue62⟩
instance : TBytes Try.prog 62 8 := ⟨fun w => ⟨_, Try.typeInfo62 w, rfl⟩⟩
instance : NotIface Try.prog 63 := ⟨_, Try.underlying63, nofun⟩
instance : TSize Try.prog 63 1 false := tsize_of Try.typeInfo63 Try.runUnderlying63 rfl rfl
instance : TZero Try.prog 63 (.nilFunc) := ⟨Try.zeroValue63⟩
instance : TBytes Try.prog 63 8 := ⟨fun w => ⟨_, Try.typeInfo63 w, rfl⟩⟩
instance : NotIface Try.prog 64 := ⟨_, Try.underlying64, nofun⟩
instance : TSize Try.prog 64 1 false := tsize_of Try.typeInfo64 Try.runUnderlying64 rfl rfl
instance : TZero Try.prog 64 (.nilFunc) := ⟨Try.zeroValue64⟩
instance : TBytes Try.prog 64 8 := ⟨fun w => ⟨_, Try.typeInfo64 w, rfl⟩⟩
instance : NotIface Try.prog 65 := ⟨_, Try.underlying65, nofun⟩
instance : TSize Try.prog 65 1 false := tsize_of Try.typeInfo65 Try.runUnderlying65 rfl rfl
instance : TZero Try.prog 65 (.nilFunc) := ⟨Try.zeroValue65⟩
instance : TBytes Try.prog 65 8 := ⟨fun w => ⟨_, Try.typeInfo65 w, rfl⟩⟩
instance : NotIface Try.prog 66 := ⟨_, Try.underlying66, nofun⟩
instance : TSize Try.prog 66 1 false := tsize_of Try.typeInfo66 Try.runUnderlying66 rfl rfl
instance : TZero Try.prog 66 (.nilFunc) := ⟨Try.zeroValue66⟩
instance : TBytes Try.prog 66 8 := ⟨fun w => ⟨_, Try.typeInfo66 w, rfl⟩⟩
instance : NotIface Try.prog 68 := ⟨_, Try.underlying68, nofun⟩
instance : TSize Try.prog 68 1 false := tsize_of Try.typeInfo68 Try.runUnderlying68 rfl rfl
instance : TZero Try.prog 68 (.nilFunc) := ⟨Try.zeroValue68⟩
instance : TBytes Try.prog 68 8 := ⟨fun w => ⟨_, Try.typeInfo68 w, rfl⟩⟩
instance : NotIface Try.prog 69 := ⟨_, Try.underlying69, nofun⟩
instance : TSize Try.prog 69 1 false := tsize_of Try.typeInfo69 Try.runUnderlying69 rfl rfl
instance : TZero Try.prog 69 (.nilFunc) := ⟨Try.zeroValue69⟩
instance : TBytes Try.prog 69 8 := ⟨fun w => ⟨_, Try.typeInfo69 w, rfl⟩⟩
instance : NotIface Try.prog 70 := ⟨_, Try.underlying70, nofun⟩
instance : TSize Try.prog 70 1 false := tsize_of Try.typeInfo70 Try.runUnderlying70 rfl rfl
instance : TZero Try.prog 70 (.nilFunc) := ⟨Try.zeroValue70⟩
instance : TBytes Try.prog 70 8 := ⟨fun w => ⟨_, Try.typeInfo70 w, rfl⟩⟩
instance : NotIface Try.prog 71 := ⟨_, Try.underlying71, nofun⟩
instance : TSize Try.prog 71 1 false := tsize_of Try.typeInfo71 Try.runUnderlying71 rfl rfl
instance : TZero Try.prog 71 (.nilFunc) := ⟨Try.zeroValue71⟩
instance : TBytes Try.prog 71 8 := ⟨fun w => ⟨_, Try.typeInfo71 w, rfl⟩⟩
instance : NotIface Try.prog 72 := ⟨_, Try.underlying72, nofun⟩
instance : TSize Try.prog 72 1 false := tsize_of Try.typeInfo72 Try.runUnderlying72 rfl rfl
instance : TZero Try.prog 72 (.nilFunc) := ⟨Try.zeroValue72⟩
instance : TBytes Try.prog 72 8 := ⟨fun w => ⟨_, Try.typeInfo72 w, rfl⟩⟩
instance : NotIface Try.prog 73 := ⟨_, Try.underlying73, nofun⟩
instance : TSize Try.prog 73 1 false := tsize_of Try.typeInfo73 Try.runUnderlying73 rfl rfl
instance : TZero Try.prog 73 (.nilFunc) := ⟨Try.zeroValue73⟩
instance : TBytes Try.prog 73 8 := ⟨fun w => ⟨_, Try.typeInfo73 w, rfl⟩⟩
instance : NotIface Try.prog 74 := ⟨_, Try.underlying74, nofun⟩
instance : TSize Try.prog 74 1 false := tsize_of Try.typeInfo74 Try.runUnderlying74 rfl rfl
instance : TZero Try.prog 74 (.nilFunc) := ⟨Try.zeroValue74⟩
instance : TBytes Try.prog 74 8 := ⟨fun w => ⟨_, Try.typeInfo74 w, rfl⟩⟩
instance : USlice Try.prog 75 5 := ⟨Try.underlying75⟩
instance : NotIface Try.prog 75 := ⟨_, Try.underlying75, nofun⟩
instance : TSize Try.prog 75 1 false := tsize_of Try.typeInfo75 Try.runUnderlying75 rfl rfl
instance : TZero Try.prog 75 (.slice none 0 0) := ⟨Try.zeroValue75⟩
instance : TBytes Try.prog 75 24 := ⟨fun w => ⟨_, Try.typeInfo75 w, rfl⟩⟩
instance : NotIface Try.prog 76 := ⟨_, Try.underlying76, nofun⟩
instance : TSize Try.prog 76 1 false := tsize_of Try.typeInfo76 Try.runUnderlying76 rfl rfl
instance : TZero Try.prog 76 (.nilFunc) := ⟨Try.zeroValue76⟩
instance : TBytes Try.prog 76 8 := ⟨fun w => ⟨_, Try.typeInfo76 w, rfl⟩⟩
instance : NotIface Try.prog 77 := ⟨_, Try.underlying77, nofun⟩
instance : TSize Try.prog 77 1 false := tsize_of Try.typeInfo77 Try.runUnderlying77 rfl rfl
instance : TZero Try.prog 77 (.nilFunc) := ⟨Try.zeroValue77⟩
instance : TBytes Try.prog 77 8 := ⟨fun w => ⟨_, Try.typeInfo77 w, rfl⟩⟩
instance : NotIface Try.prog 78 := ⟨_, Try.underlying78, nofun⟩
instance : TSize Try.prog 78 1 false := tsize_of Try.typeInfo78 Try.runUnderlying78 rfl rfl
instance : TZero Try.prog 78 (.nilFunc) := ⟨Try.zeroValue78⟩
instance : TBytes Try.prog 78 8 := ⟨fun w => ⟨_, Try.typeInfo78 w, rfl⟩⟩
instance : NotIface Try.prog 79 := ⟨_, Try.underlying79, nofun⟩
instance : TSize Try.prog 79 1 false := tsize_of Try.typeInfo79 Try.runUnderlying79 rfl rfl
instance : TZero Try.prog 79 (.nilFunc) := ⟨Try.zeroValue79⟩
instance : TBytes Try.prog 79 8 := ⟨fun w => ⟨_, Try.typeInfo79 w, rfl⟩⟩
instance : NotIface Try.prog 80 := ⟨_, Try.underlying80, nofun⟩
instance : TSize Try.prog 80 1 false := tsize_of Try.typeInfo80 Try.runUnderlying80 rfl rfl
instance : TZero Try.prog 80 (.nilFunc) := ⟨Try.zeroValue80⟩
instance : TBytes Try.prog 80 8 := ⟨fun w => ⟨_, Try.typeInfo80 w, rfl⟩⟩
instance : NotIface Try.prog 81 := ⟨_, Try.underlying81, nofun⟩
instance : TSize Try.prog 81 1 false := tsize_of Try.typeInfo81 Try.runUnderlying81 rfl rfl
instance : TZero Try.prog 81 (.nilFunc) := ⟨Try.zeroValue81⟩
instance : TBytes Try.prog 81 8 := ⟨fun w => ⟨_, Try.typeInfo81 w, rfl⟩⟩
instance : USlice Try.prog 82 100 := ⟨Try.underlying82⟩
instance : NotIface Try.prog 82 := ⟨_, Try.underlying82, nofun⟩
instance : TSize Try.prog 82 1 false := tsize_of Try.typeInfo82 Try.runUnderlying82 rfl rfl
instance : TZero Try.prog 82 (.slice none 0 0) := ⟨Try.zeroValue82⟩
instance : TBytes Try.prog 82 24 := ⟨fun w => ⟨_, Try.typeInfo82 w, rfl⟩⟩
instance : NotIface Try.prog 83 := ⟨_, Try.underlying83, nofun⟩
instance : TSize Try.prog 83 1 true := tsize_of Try.typeInfo83 Try.runUnderlying83 rfl rfl
instance : TZero Try.prog 83 (.agg #[.slice none 0 0]) := ⟨Try.zeroValue83⟩
instance : TBytes Try.prog 83 24 := ⟨fun w => ⟨_, Try.typeInfo83 w, rfl⟩⟩
instance : NotIface Try.prog 84 := ⟨_, Try.underlying84, nofun⟩
instance : TSize Try.prog 84 1 true := tsize_of Try.typeInfo84 Try.runUnderlying84 rfl rfl
instance : TZero Try.prog 84 (.agg #[.slice none 0 0]) := ⟨Try.zeroValue84⟩
instance : TBytes Try.prog 84 24 := ⟨fun w => ⟨_, Try.typeInfo84 w, rfl⟩⟩
instance : NotIface Try.prog 85 := ⟨_, Try.underlying85, nofun⟩
instance : TSize Try.prog 85 1 false := tsize_of Try.typeInfo85 Try.runUnderlying85 rfl rfl
instance : TZero Try.prog 85 (.nilFunc) := ⟨Try.zeroValue85⟩
instance : TBytes Try.prog 85 8 := ⟨fun w => ⟨_, Try.typeInfo85 w, rfl⟩⟩
instance : UMap Try.prog 86 3 3 := ⟨Try.underlying86⟩
instance : NotIface Try.prog 86 := ⟨_, Try.underlying86, nofun⟩
instance : TSize Try.prog 86 1 false := tsize_of Try.typeInfo86 Try.runUnderlying86 rfl rfl
instance : TZero Try.prog 86 (.map none) := ⟨Try.zeroValue86⟩
instance : TBytes Try.prog 86 8 := ⟨fun w => ⟨_, Try.typeInfo86 w, rfl⟩⟩
instance : NotIface Try.prog 87 := ⟨_, Try.underlying87, nofun⟩
instance : TSize Try.prog 87 1 false := tsize_of Try.typeInfo87 Try.runUnderlying87 rfl rfl
instance : TZero Try.prog 87 (.nilFunc) := ⟨Try.zeroValue87⟩
instance : TBytes Try.prog 87 8 := ⟨fun w => ⟨_, Try.typeInfo87 w, rfl⟩⟩
instance : NotIface Try.prog 89 := ⟨_, Try.underlying89, nofun⟩
instance : TSize Try.prog 89 1 false := tsize_of Try.typeInfo89 Try.runUnderlying89 rfl rfl
instance : TZero Try.prog 89 (.nilFunc) := ⟨Try.zeroValue89⟩
instance : TBytes Try.prog 89 8 := ⟨fun w => ⟨_, Try.typeInfo89 w, rfl⟩⟩
instance : NotIface Try.prog 90 := ⟨_, Try.underlying90, nofun⟩
instance : TSize Try.prog 90 1 false := tsize_of Try.typeInfo90 Try.runUnderlying90 rfl rfl
instance : TZero Try.prog 90 (.nilFunc) := ⟨Try.zeroValue90⟩
instance : TBytes Try.prog 90 8 := ⟨fun w => ⟨_, Try.typeInfo90 w, rfl⟩⟩
instance : NotIface Try.prog 91 := ⟨_, Try.underlying91, nofun⟩
instance : TSize Try.prog 91 1 false := tsize_of Try.typeInfo91 Try.runUnderlying91 rfl rfl
instance : TZero Try.prog 91 (.nilFunc) := ⟨Try.zeroValue91⟩
instance : TBytes Try.prog 91 8 := ⟨fun w => ⟨_, Try.typeInfo91 w, rfl⟩⟩
instance : USlice Try.prog 92 26 := ⟨Try.underlying92⟩
instance : NotIface Try.prog 92 := ⟨_, Try.underlying92, nofun⟩
instance : TSize Try.prog 92 1 false := tsize_of Try.typeInfo92 Try.runUnderlying92 rfl rfl
instance : TZero Try.prog 92 (.slice none 0 0) := ⟨Try.zeroValue92⟩
instance : TBytes Try.prog 92 24 := ⟨fun w => ⟨_, Try.typeInfo92 w, rfl⟩⟩
instance : NotIface Try.prog 93 := ⟨_, Try.underlying93, nofun⟩
instance : TSize Try.prog 93 1 false := tsize_of Try.typeInfo93 Try.runUnderlying93 rfl rfl
instance : TZero Try.prog 93 (.nilFunc) := ⟨Try.zeroValue93⟩
instance : TBytes Try.prog 93 8 := ⟨fun w => ⟨_, Try.typeInfo93 w, rfl⟩⟩
instance : NotIface Try.prog 94 := ⟨_, Try.underlying94, nofun⟩
instance : TSize Try.prog 94 1 false := tsize_of Try.typeInfo94 Try.runUnderlying94 rfl rfl
instance : TZero Try.prog 94 (.nilFunc) := ⟨Try.zeroValue94⟩
instance : TBytes Try.prog 94 8 := ⟨fun w => ⟨_, Try.typeInfo94 w, rfl⟩⟩
instance : NotIface Try.prog 95 := ⟨_, Try.underlying95, nofun⟩
instance : TSize Try.prog 95 1 false := tsize_of Try.typeInfo95 Try.runUnderlying95 rfl rfl
instance : TZero Try.prog 95 (.nilFunc) := ⟨Try.zeroValue95⟩
instance : TBytes Try.prog 95 8 := ⟨fun w => ⟨_, Try.typeInfo95 w, rfl⟩⟩
instance : NotIface Try.prog 96 := ⟨_, Try.underlying96, nofun⟩
instance : TSize Try.prog 96 1 false := tsize_of Try.typeInfo96 Try.runUnderlying96 rfl rfl
instance : TZero Try.prog 96 (.nilFunc) := ⟨Try.zeroValue96⟩
instance : TBytes Try.prog 96 8 := ⟨fun w => ⟨_, Try.typeInfo96 w, rfl⟩⟩
instance : NotIface Try.prog 97 := ⟨_, Try.underlying97, nofun⟩
instance : TSize Try.prog 97 1 false := tsize_of Try.typeInfo97 Try.runUnderlying97 rfl rfl
instance : TZero Try.prog 97 (.nilFunc) := ⟨Try.zeroValue97⟩
instance : TBytes Try.prog 97 8 := ⟨fun w => ⟨_, Try.typeInfo97 w, rfl⟩⟩
instance : NotIface Try.prog 98 := ⟨_, Try.underlying98, nofun⟩
instance : TSize Try.prog 98 1 false := tsize_of Try.typeInfo98 Try.runUnderlying98 rfl rfl
instance : TZero Try.prog 98 (.nilFunc) := ⟨Try.zeroValue98⟩
instance : TBytes Try.prog 98 8 := ⟨fun w => ⟨_, Try.typeInfo98 w, rfl⟩⟩
instance : NotIface Try.prog 99 := ⟨_, Try.underlying99, nofun⟩
instance : TSize Try.prog 99 2 true := tsize_of Try.typeInfo99 Try.runUnderlying99 rfl rfl
instance : TZero Try.prog 99 (.agg #[.map none, .slice none 0 0]) := ⟨Try.zeroValue99⟩
instance : TBytes Try.prog 99 32 := ⟨fun w => ⟨_, Try.typeInfo99 w, rfl⟩⟩
instance : NotIface Try.prog 100 := ⟨_, Try.underlying100, nofun⟩
instance : TSize Try.prog 100 2 true := tsize_of Try.typeInfo100 Try.runUnderlying100 rfl rfl
instance : TZero Try.prog 100 (.agg #[.map none, .slice none 0 0]) := ⟨Try.zeroValue100⟩
instance : TBytes Try.prog 100 32 := ⟨fun w => ⟨_, Try.typeInfo100 w, rfl⟩⟩
instance : USlice Try.prog 101 104 := ⟨Try.underlying101⟩
instance : NotIface Try.prog 101 := ⟨_, Try.underlying101, nofun⟩
instance : TSize Try.prog 101 1 false := tsize_of Try.typeInfo101 Try.runUnderlying101 rfl rfl
instance : TZero Try.prog 101 (.slice none 0 0) := ⟨Try.zeroValue101⟩
instance : TBytes Try.prog 101 24 := ⟨fun w => ⟨_, Try.typeInfo101 w, rfl⟩⟩
instance : NotIface Try.prog 102 := ⟨_, Try.underlying102, nofun⟩
instance : TSize Try.prog 102 1 false := tsize_of Try.typeInfo102 Try.runUnderlying102 rfl rfl
instance : TZero Try.prog 102 (.nilFunc) := ⟨Try.zeroValue102⟩
instance : TBytes Try.prog 102 8 := ⟨fun w => ⟨_, Try.typeInfo102 w, rfl⟩⟩
instance : NotIface Try.prog 103 := ⟨_, Try.underlying103, nofun⟩
instance : TSize Try.prog 103 1 false := tsize_of Try.typeInfo103 Try.runUnderlying103 rfl rfl
instance : TZero Try.prog 103 (.nilFunc) := ⟨Try.zeroValue103⟩
instance : TBytes Try.prog 103 8 := ⟨fun w => ⟨_, Try.typeInfo103 w, rfl⟩⟩
instance : NotIface Try.prog 104 := ⟨_, Try.underlying104, nofun⟩
instance : TSize Try.prog 104 2 true := tsize_of Try.typeInfo104 Try.runUnderlying104 rfl rfl
instance : TZero Try.prog 104 (.agg #[.int .i64 0, .int .i64 0]) := ⟨Try.zeroValue104⟩
instance : TBytes Try.prog 104 16 := ⟨fun w => ⟨_, Try.typeInfo104 w, rfl⟩⟩
instance : NotIface Try.prog 106 := ⟨_, Try.underlying106, nofun⟩
instance : TSize Try.prog 106 1 false := tsize_of Try.typeInfo106 Try.runUnderlying106 rfl rfl
instance : TZero Try.prog 106 (.nilFunc) := ⟨Try.zeroValue106⟩
instance : TBytes Try.prog 106 8 := ⟨fun w => ⟨_, Try.typeInfo106 w, rfl⟩⟩
instance : NotIface Try.prog 107 := ⟨_, Try.underlying107, nofun⟩
instance : TSize Try.prog 107 1 false := tsize_of Try.typeInfo107 Try.runUnderlying107 rfl rfl
instance : TZero Try.prog 107 (.nilFunc) := ⟨Try.zeroValue107⟩
instance : TBytes Try.prog 107 8 := ⟨fun w => ⟨_, Try.typeInfo107 w, rfl⟩⟩
instance : NotIface Try.prog 109 := ⟨_, Try.underlying109, nofun⟩
instance : TSize Try.prog 109 1 false := tsize_of Try.typeInfo109 Try.runUnderlying109 rfl rfl
instance : TZero Try.prog 109 (.nilFunc) := ⟨Try.zeroValue109⟩
instance : TBytes Try.prog 109 8 := ⟨fun w => ⟨_, Try.typeInfo109 w, rfl⟩⟩
instance : NotIface Try.prog 110 := ⟨_, Try.underlying110, nofun⟩
instance : TSize Try.prog 110 1 false := tsize_of Try.typeInfo110 Try.runUnderlying110 rfl rfl
instance : TZero Try.prog 110 (.nilFunc) := ⟨Try.zeroValue110⟩
instance : TBytes Try.prog 110 8 := ⟨fun w => ⟨_, Try.typeInfo110 w, rfl⟩⟩
instance : NotIface Try.prog 111 := ⟨_, Try.underlying111, nofun⟩
instance : TSize Try.prog 111 1 false := tsize_of Try.typeInfo111 Try.runUnderlying111 rfl rfl
instance : TZero Try.prog 111 (.nilFunc) := ⟨Try.zeroValue111⟩
instance : TBytes Try.prog 111 8 := ⟨fun w => ⟨_, Try.typeInfo111 w, rfl⟩⟩
instance : NotIface Try.prog 112 := ⟨_, Try.underlying112, nofun⟩
instance : TSize Try.prog 112 1 false := tsize_of Try.typeInfo112 Try.runUnderlying112 rfl rfl
instance : TZero Try.prog 112 (.nilFunc) := ⟨Try.zeroValue112⟩
instance : TBytes Try.prog 112 8 := ⟨fun w => ⟨_, Try.typeInfo112 w, rfl⟩⟩
instance : USlice Try.prog 113 115 := ⟨Try.underlying113⟩
instance : NotIface Try.prog 113 := ⟨_, Try.underlying113, nofun⟩
instance : TSize Try.prog 113 1 false := tsize_of Try.typeInfo113 Try.runUnderlying113 rfl rfl
instance : TZero Try.prog 113 (.slice none 0 0) := ⟨Try.zeroValue113⟩
instance : TBytes Try.prog 113 24 := ⟨fun w => ⟨_, Try.typeInfo113 w, rfl⟩⟩
instance : NotIface Try.prog 114 := ⟨_, Try.underlying114, nofun⟩
instance : TSize Try.prog 114 3 true := tsize_of Try.typeInfo114 Try.runUnderlying114 rfl rfl
instance : TZero Try.prog 114 (.agg #[.string ⟨#[]⟩, .int .i64 0, .int .i64 0]) := ⟨Try.zeroValue114⟩
instance : TBytes Try.prog 114 32 := ⟨fun w => ⟨_, Try.typeInfo114 w, rfl⟩⟩
instance : NotIface Try.prog 115 := ⟨_, Try.underlying115, nofun⟩
instance : TSize Try.prog 115 3 true := tsize_of Try.typeInfo115 Try.runUnderlying115 rfl rfl
instance : TZero Try.prog 115 (.agg #[.string ⟨#[]⟩, .int .i64 0, .int .i64 0]) := ⟨Try.zeroValue115⟩
instance : TBytes Try.prog 115 32 := ⟨fun w => ⟨_, Try.typeInfo115 w, rfl⟩⟩
instance : NotIface Try.prog 116 := ⟨_, Try.underlying116, nofun⟩
instance : TSize Try.prog 116 1 false := tsize_of Try.typeInfo116 Try.runUnderlying116 rfl rfl
instance : TZero Try.prog 116 (.nilFunc) := ⟨Try.zeroValue116⟩
instance : TBytes Try.prog 116 8 := ⟨fun w => ⟨_, Try.typeInfo116 w, rfl⟩⟩
instance : NotIface Try.prog 117 := ⟨_, Try.underlying117, nofun⟩
instance : TSize Try.prog 117 1 false := tsize_of Try.typeInfo117 Try.runUnderlying117 rfl rfl
instance : TZero Try.prog 117 (.nilFunc) := ⟨Try.zeroValue117⟩
instance : TBytes Try.prog 117 8 := ⟨fun w => ⟨_, Try.typeInfo117 w, rfl⟩⟩
instance : UInt Try.prog 118 .u64 := ⟨Try.underlying118⟩
instance : NotIface Try.prog 118 := ⟨_, Try.underlying118, nofun⟩
instance : TSize Try.prog 118 1 false := tsize_of Try.typeInfo118 Try.runUnderlying118 rfl rfl
instance : TZero Try.prog 118 (.int .u64 0) := ⟨Try.zeroValue118⟩
instance : TBytes Try.prog 118 8 := ⟨fun w => ⟨_, Try.typeInfo118 w, rfl⟩⟩
instance : NotIface Try.prog 120 := ⟨_, Try.underlying120, nofun⟩
instance : TSize Try.prog 120 1 false := tsize_of Try.typeInfo120 Try.runUnderlying120 rfl rfl
instance : TZero Try.prog 120 (.nilFunc) := ⟨Try.zeroValue120⟩
instance : TBytes Try.prog 120 8 := ⟨fun w => ⟨_, Try.typeInfo120 w, rfl⟩⟩
instance : NotIface Try.prog 121 := ⟨_, Try.underlying121, nofun⟩
instance : TSize Try.prog 121 1 false := tsize_of Try.typeInfo121 Try.runUnderlying121 rfl rfl
instance : TZero Try.prog 121 (.pointer none) := ⟨Try.zeroValue121⟩
instance : TBytes Try.prog 121 8 := ⟨fun w => ⟨_, Try.typeInfo121 w, rfl⟩⟩
instance : NotIface Try.prog 122 := ⟨_, Try.underlying122, nofun⟩
instance : TSize Try.prog 122 2 true := tsize_of Try.typeInfo122 Try.runUnderlying122 rfl rfl
instance : TZero Try.prog 122 (.agg #[.pointer none, .slice none 0 0]) := ⟨Try.zeroValue122⟩
instance : TBytes Try.prog 122 32 := ⟨fun w => ⟨_, Try.typeInfo122 w, rfl⟩⟩
instance : NotIface Try.prog 123 := ⟨_, Try.underlying123, nofun⟩
instance : TSize Try.prog 123 2 true := tsize_of Try.typeInfo123 Try.runUnderlying123 rfl rfl
instance : TZero Try.prog 123 (.agg #[.pointer none, .slice none 0 0]) := ⟨Try.zeroValue123⟩
instance : TBytes Try.prog 123 32 := ⟨fun w => ⟨_, Try.typeInfo123 w, rfl⟩⟩
instance : TSize Try.prog 124 1 false := tsize_of Try.typeInfo124 Try.runUnderlying124 rfl rfl
instance : TZero Try.prog 124 (.nilIface) := ⟨Try.zeroValue124⟩
instance : TBytes Try.prog 124 16 := ⟨fun w => ⟨_, Try.typeInfo124 w, rfl⟩⟩
instance : TSize Try.prog 125 1 false := tsize_of Try.typeInfo125 Try.runUnderlying125 rfl rfl
instance : TZero Try.prog 125 (.nilIface) := ⟨Try.zeroValue125⟩
instance : TBytes Try.prog 125 16 := ⟨fun w => ⟨_, Try.typeInfo125 w, rfl⟩⟩
instance : NotIface Try.prog 127 := ⟨_, Try.underlying127, nofun⟩
instance : TSize Try.prog 127 1 false := tsize_of Try.typeInfo127 Try.runUnderlying127 rfl rfl
instance : TZero Try.prog 127 (.nilFunc) := ⟨Try.zeroValue127⟩
instance : TBytes Try.prog 127 8 := ⟨fun w => ⟨_, Try.typeInfo127 w, rfl⟩⟩
instance : NotIface Try.prog 128 := ⟨_, Try.underlying128, nofun⟩
instance : TSize Try.prog 128 1 false := tsize_of Try.typeInfo128 Try.runUnderlying128 rfl rfl
instance : TZero Try.prog 128 (.nilFunc) := ⟨Try.zeroValue128⟩
instance : TBytes Try.prog 128 8 := ⟨fun w => ⟨_, Try.typeInfo128 w, rfl⟩⟩
instance : NotIface Try.prog 129 := ⟨_, Try.underlying129, nofun⟩
instance : TSize Try.prog 129 1 false := tsize_of Try.typeInfo129 Try.runUnderlying129 rfl rfl
instance : TZero Try.prog 129 (.nilFunc) := ⟨Try.zeroValue129⟩
instance : TBytes Try.prog 129 8 := ⟨fun w => ⟨_, Try.typeInfo129 w, rfl⟩⟩
instance : NotIface Try.prog 130 := ⟨_, Try.underlying130, nofun⟩
instance : TSize Try.prog 130 1 false := tsize_of Try.typeInfo130 Try.runUnderlying130 rfl rfl
instance : TZero Try.prog 130 (.pointer none) := ⟨Try.zeroValue130⟩
instance : TBytes Try.prog 130 8 := ⟨fun w => ⟨_, Try.typeInfo130 w, rfl⟩⟩
instance : NotIface Try.prog 131 := ⟨_, Try.underlying131, nofun⟩
instance : TSize Try.prog 131 1 false := tsize_of Try.typeInfo131 Try.runUnderlying131 rfl rfl
instance : TZero Try.prog 131 (.nilFunc) := ⟨Try.zeroValue131⟩
instance : TBytes Try.prog 131 8 := ⟨fun w => ⟨_, Try.typeInfo131 w, rfl⟩⟩
instance : NotIface Try.prog 132 := ⟨_, Try.underlying132, nofun⟩
instance : TSize Try.prog 132 1 false := tsize_of Try.typeInfo132 Try.runUnderlying132 rfl rfl
instance : TZero Try.prog 132 (.nilFunc) := ⟨Try.zeroValue132⟩
instance : TBytes Try.prog 132 8 := ⟨fun w => ⟨_, Try.typeInfo132 w, rfl⟩⟩
instance : NotIface Try.prog 133 := ⟨_, Try.underlying133, nofun⟩
instance : TSize Try.prog 133 2 true := tsize_of Try.typeInfo133 Try.runUnderlying133 rfl rfl
instance : TZero Try.prog 133 (.agg #[.slice none 0 0, .slice none 0 0]) := ⟨Try.zeroValue133⟩
instance : TBytes Try.prog 133 48 := ⟨fun w => ⟨_, Try.typeInfo133 w, rfl⟩⟩
instance : NotIface Try.prog 134 := ⟨_, Try.underlying134, nofun⟩
instance : TSize Try.prog 134 2 true := tsize_of Try.typeInfo134 Try.runUnderlying134 rfl rfl
instance : TZero Try.prog 134 (.agg #[.slice none 0 0, .slice none 0 0]) := ⟨Try.zeroValue134⟩
instance : TBytes Try.prog 134 48 := ⟨fun w => ⟨_, Try.typeInfo134 w, rfl⟩⟩
instance : NotIface Try.prog 135 := ⟨_, Try.underlying135, nofun⟩
instance : TSize Try.prog 135 1 false := tsize_of Try.typeInfo135 Try.runUnderlying135 rfl rfl
instance : TZero Try.prog 135 (.pointer none) := ⟨Try.zeroValue135⟩
instance : TBytes Try.prog 135 8 := ⟨fun w => ⟨_, Try.typeInfo135 w, rfl⟩⟩
instance : NotIface Try.prog 137 := ⟨_, Try.underlying137, nofun⟩
instance : TSize Try.prog 137 1 false := tsize_of Try.typeInfo137 Try.runUnderlying137 rfl rfl
instance : TZero Try.prog 137 (.nilFunc) := ⟨Try.zeroValue137⟩
instance : TBytes Try.prog 137 8 := ⟨fun w => ⟨_, Try.typeInfo137 w, rfl⟩⟩
instance : NotIface Try.prog 139 := ⟨_, Try.underlying139, nofun⟩
instance : TSize Try.prog 139 1 false := tsize_of Try.typeInfo139 Try.runUnderlying139 rfl rfl
instance : TZero Try.prog 139 (.nilFunc) := ⟨Try.zeroValue139⟩
instance : TBytes Try.prog 139 8 := ⟨fun w => ⟨_, Try.typeInfo139 w, rfl⟩⟩
instance : USlice Try.prog 140 141 := ⟨Try.underlying140⟩
instance : NotIface Try.prog 140 := ⟨_, Try.underlying140, nofun⟩
instance : TSize Try.prog 140 1 false := tsize_of Try.typeInfo140 Try.runUnderlying140 rfl rfl
instance : TZero Try.prog 140 (.slice none 0 0) := ⟨Try.zeroValue140⟩
instance : TBytes Try.prog 140 24 := ⟨fun w => ⟨_, Try.typeInfo140 w, rfl⟩⟩
instance : UMap Try.prog 141 3 53 := ⟨Try.underlying141⟩
instance : NotIface Try.prog 141 := ⟨_, Try.underlying141, nofun⟩
instance : TSize Try.prog 141 1 false := tsize_of Try.typeInfo141 Try.runUnderlying141 rfl rfl
instance : TZero Try.prog 141 (.map none) := ⟨Try.zeroValue141⟩
instance : TBytes Try.prog 141 8 := ⟨fun w => ⟨_, Try.typeInfo141 w, rfl⟩⟩
instance : NotIface Try.prog 142 := ⟨_, Try.underlying142, nofun⟩
instance : TSize Try.prog 142 1 false := tsize_of Try.typeInfo142 Try.runUnderlying142 rfl rfl
instance : TZero Try.prog 142 (.nilFunc) := ⟨Try.zeroValue142⟩
instance : TBytes Try.prog 142 8 := ⟨fun w => ⟨_, Try.typeInfo142 w, rfl⟩⟩
instance : NotIface Try.prog 143 := ⟨_, Try.underlying143, nofun⟩
instance : TSize Try.prog 143 1 false := tsize_of Try.typeInfo143 Try.runUnderlying143 rfl rfl
instance : TZero Try.prog 143 (.nilFunc) := ⟨Try.zeroValue143⟩
instance : TBytes Try.prog 143 8 := ⟨fun w => ⟨_, Try.typeInfo143 w, rfl⟩⟩
instance : NotIface Try.prog 144 := ⟨_, Try.underlying144, nofun⟩
instance : TSize Try.prog 144 1 false := tsize_of Try.typeInfo144 Try.runUnderlying144 rfl rfl
instance : TZero Try.prog 144 (.nilFunc) := ⟨Try.zeroValue144⟩
instance : TBytes Try.prog 144 8 := ⟨fun w => ⟨_, Try.typeInfo144 w, rfl⟩⟩
instance : NotIface Try.prog 145 := ⟨_, Try.underlying145, nofun⟩
instance : TSize Try.prog 145 1 false := tsize_of Try.typeInfo145 Try.runUnderlying145 rfl rfl
instance : TZero Try.prog 145 (.nilFunc) := ⟨Try.zeroValue145⟩
instance : TBytes Try.prog 145 8 := ⟨fun w => ⟨_, Try.typeInfo145 w, rfl⟩⟩
instance : NotIface Try.prog 146 := ⟨_, Try.underlying146, nofun⟩
instance : TSize Try.prog 146 1 false := tsize_of Try.typeInfo146 Try.runUnderlying146 rfl rfl
instance : TZero Try.prog 146 (.nilFunc) := ⟨Try.zeroValue146⟩
instance : TBytes Try.prog 146 8 := ⟨fun w => ⟨_, Try.typeInfo146 w, rfl⟩⟩
instance : UInt Try.prog 147 .u32 := ⟨Try.underlying147⟩
instance : NotIface Try.prog 147 := ⟨_, Try.underlying147, nofun⟩
instance : TSize Try.prog 147 1 false := tsize_of Try.typeInfo147 Try.runUnderlying147 rfl rfl
instance : TZero Try.prog 147 (.int .u32 0) := ⟨Try.zeroValue147⟩
instance : TBytes Try.prog 147 4 := ⟨fun w => ⟨_, Try.typeInfo147 w, rfl⟩⟩
instance : NotIface Try.prog 149 := ⟨_, Try.underlying149, nofun⟩
instance : TSize Try.prog 149 1 false := tsize_of Try.typeInfo149 Try.runUnderlying149 rfl rfl
instance : TZero Try.prog 149 (.nilFunc) := ⟨Try.zeroValue149⟩
instance : TBytes Try.prog 149 8 := ⟨fun w => ⟨_, Try.typeInfo149 w, rfl⟩⟩
instance : UInt Try.prog 150 .u64 := ⟨Try.underlying150⟩
instance : NotIface Try.prog 150 := ⟨_, Try.underlying150, nofun⟩
instance : TSize Try.prog 150 1 false := tsize_of Try.typeInfo150 Try.runUnderlying150 rfl rfl
instance : TZero Try.prog 150 (.int .u64 0) := ⟨Try.zeroValue150⟩
instance : TBytes Try.prog 150 8 := ⟨fun w => ⟨_, Try.typeInfo150 w, rfl⟩⟩
instance : NotIface Try.prog 152 := ⟨_, Try.underlying152, nofun⟩
instance : TSize Try.prog 152 1 false := tsize_of Try.typeInfo152 Try.runUnderlying152 rfl rfl
instance : TZero Try.prog 152 (.nilFunc) := ⟨Try.zeroValue152⟩
instance : TBytes Try.prog 152 8 := ⟨fun w => ⟨_, Try.typeInfo152 w, rfl⟩⟩
instance : NotIface Try.prog 153 := ⟨_, Try.underlying153, nofun⟩
instance : TSize Try.prog 153 1 false := tsize_of Try.typeInfo153 Try.runUnderlying153 rfl rfl
instance : TZero Try.prog 153 (.pointer none) := ⟨Try.zeroValue153⟩
instance : TBytes Try.prog 153 8 := ⟨fun w => ⟨_, Try.typeInfo153 w, rfl⟩⟩
instance : NotIface Try.prog 154 := ⟨_, Try.underlying154, nofun⟩
instance : TSize Try.prog 154 1 false := tsize_of Try.typeInfo154 Try.runUnderlying154 rfl rfl
instance : TZero Try.prog 154 (.nilFunc) := ⟨Try.zeroValue154⟩
instance : TBytes Try.prog 154 8 := ⟨fun w => ⟨_, Try.typeInfo154 w, rfl⟩⟩
instance : NotIface Try.prog 156 := ⟨_, Try.underlying156, nofun⟩
instance : TSize Try.prog 156 1 false := tsize_of Try.typeInfo156 Try.runUnderlying156 rfl rfl
instance : TZero Try.prog 156 (.nilFunc) := ⟨Try.zeroValue156⟩
instance : TBytes Try.prog 156 8 := ⟨fun w => ⟨_, Try.typeInfo156 w, rfl⟩⟩
instance : NotIface Try.prog 157 := ⟨_, Try.underlying157, nofun⟩
instance : TSize Try.prog 157 1 false := tsize_of Try.typeInfo157 Try.runUnderlying157 rfl rfl
instance : TZero Try.prog 157 (.nilFunc) := ⟨Try.zeroValue157⟩
instance : TBytes Try.prog 157 8 := ⟨fun w => ⟨_, Try.typeInfo157 w, rfl⟩⟩
instance : NotIface Try.prog 158 := ⟨_, Try.underlying158, nofun⟩
instance : TSize Try.prog 158 1 false := tsize_of Try.typeInfo158 Try.runUnderlying158 rfl rfl
instance : TZero Try.prog 158 (.nilFunc) := ⟨Try.zeroValue158⟩
instance : TBytes Try.prog 158 8 := ⟨fun w => ⟨_, Try.typeInfo158 w, rfl⟩⟩
instance : NotIface Try.prog 159 := ⟨_, Try.underlying159, nofun⟩
instance : TSize Try.prog 159 1 false := tsize_of Try.typeInfo159 Try.runUnderlying159 rfl rfl
instance : TZero Try.prog 159 (.nilFunc) := ⟨Try.zeroValue159⟩
instance : TBytes Try.prog 159 8 := ⟨fun w => ⟨_, Try.typeInfo159 w, rfl⟩⟩
instance : NotIface Try.prog 160 := ⟨_, Try.underlying160, nofun⟩
instance : TSize Try.prog 160 1 false := tsize_of Try.typeInfo160 Try.runUnderlying160 rfl rfl
instance : TZero Try.prog 160 (.nilFunc) := ⟨Try.zeroValue160⟩
instance : TBytes Try.prog 160 8 := ⟨fun w => ⟨_, Try.typeInfo160 w, rfl⟩⟩
instance : NotIface Try.prog 162 := ⟨_, Try.underlying162, nofun⟩
instance : TSize Try.prog 162 1 false := tsize_of Try.typeInfo162 Try.runUnderlying162 rfl rfl
instance : TZero Try.prog 162 (.nilFunc) := ⟨Try.zeroValue162⟩
instance : TBytes Try.prog 162 8 := ⟨fun w => ⟨_, Try.typeInfo162 w, rfl⟩⟩
instance : NotIface Try.prog 163 := ⟨_, Try.underlying163, nofun⟩
instance : TSize Try.prog 163 1 false := tsize_of Try.typeInfo163 Try.runUnderlying163 rfl rfl
instance : TZero Try.prog 163 (.nilFunc) := ⟨Try.zeroValue163⟩
instance : TBytes Try.prog 163 8 := ⟨fun w => ⟨_, Try.typeInfo163 w, rfl⟩⟩
instance : NotIface Try.prog 164 := ⟨_, Try.underlying164, nofun⟩
instance : TSize Try.prog 164 2 true := tsize_of Try.typeInfo164 Try.runUnderlying164 rfl rfl
instance : TZero Try.prog 164 (.agg #[.map none, .slice none 0 0]) := ⟨Try.zeroValue164⟩
instance : TBytes Try.prog 164 32 := ⟨fun w => ⟨_, Try.typeInfo164 w, rfl⟩⟩
instance : NotIface Try.prog 165 := ⟨_, Try.underlying165, nofun⟩
instance : TSize Try.prog 165 2 true := tsize_of Try.typeInfo165 Try.runUnderlying165 rfl rfl
instance : TZero Try.prog 165 (.agg #[.map none, .slice none 0 0]) := ⟨Try.zeroValue165⟩
instance : TBytes Try.prog 165 32 := ⟨fun w => ⟨_, Try.typeInfo165 w, rfl⟩⟩
instance : NotIface Try.prog 166 := ⟨_, Try.underlying166, nofun⟩
instance : TSize Try.prog 166 2 true := tsize_of Try.typeInfo166 Try.runUnderlying166 rfl rfl
instance : TZero Try.prog 166 (.agg #[.int .i64 0, .int .i64 0]) := ⟨Try.zeroValue166⟩
instance : TBytes Try.prog 166 16 := ⟨fun w => ⟨_, Try.typeInfo166 w, rfl⟩⟩
instance : NotIface Try.prog 167 := ⟨_, Try.underlying167, nofun⟩
instance : TSize Try.prog 167 2 true := tsize_of Try.typeInfo167 Try.runUnderlying167 rfl rfl
instance : TZero Try.prog 167 (.agg #[.int .i64 0, .int .i64 0]) := ⟨Try.zeroValue167⟩
instance : TBytes Try.prog 167 16 := ⟨fun w => ⟨_, Try.typeInfo167 w, rfl⟩⟩
instance : USlice Try.prog 168 167 := ⟨Try.underlying168⟩
instance : NotIface Try.prog 168 := ⟨_, Try.underlying168, nofun⟩
instance : TSize Try.prog 168 1 false := tsize_of Try.typeInfo168 Try.runUnderlying168 rfl rfl
instance : TZero Try.prog 168 (.slice none 0 0) := ⟨Try.zeroValue168⟩
instance : TBytes Try.prog 168 24 := ⟨fun w => ⟨_, Try.typeInfo168 w, rfl⟩⟩
instance : NotIface Try.prog 169 := ⟨_, Try.underlying169, nofun⟩
instance : TSize Try.prog 169 1 false := tsize_of Try.typeInfo169 Try.runUnderlying169 rfl rfl
instance : TZero Try.prog 169 (.pointer none) := ⟨Try.zeroValue169⟩
instance : TBytes Try.prog 169 8 := ⟨fun w => ⟨_, Try.typeInfo169 w, rfl⟩⟩
instance : NotIface Try.prog 170 := ⟨_, Try.underlying170, nofun⟩
instance : TSize Try.prog 170 1 false := tsize_of Try.typeInfo170 Try.runUnderlying170 rfl rfl
instance : TZero Try.prog 170 (.nilFunc) := ⟨Try.zeroValue170⟩
instance : TBytes Try.prog 170 8 := ⟨fun w => ⟨_, Try.typeInfo170 w, rfl⟩⟩
instance : NotIface Try.prog 178 := ⟨_, Try.underlying178, nofun⟩
instance : TSize Try.prog 178 1 false := tsize_of Try.typeInfo178 Try.runUnderlying178 rfl rfl
instance : TZero Try.prog 178 (.nilFunc) := ⟨Try.zeroValue178⟩
instance : TBytes Try.prog 178 8 := ⟨fun w => ⟨_, Try.typeInfo178 w, rfl⟩⟩
instance : FieldAt Try.prog 13 0 0 := fieldAt_of 9 1 Try.runUnderlying13 rfl nofun
instance : FieldAt Try.prog 13 1 1 := fieldAt_of 12 1 Try.runUnderlying13 rfl nofun
instance : TStruct Try.prog 13 [(0, 1), (1, 1)] [.string ⟨#[]⟩, .int .u64 0] := tstruct_of (fun t => match t with | 9 => 1 | 12 => 1 | _ => 0) Try.zeroValue13 rfl Try.runUnderlying13 (fun f hf w => by simp only [List.mem_cons, List.not_mem_nil, or_false] at hf; rcases hf with rfl | rfl <;> exact TSize.size w) rfl
instance : FieldAt Try.prog 23 0 0 := fieldAt_of 22 1 Try.runUnderlying23 rfl nofun
instance : TStruct Try.prog 23 [(0, 1)] [.slice none 0 0] := tstruct_of (fun t => match t with | 22 => 1 | _ => 0) Try.zeroValue23 rfl Try.runUnderlying23 (fun f hf w => by simp only [List.mem_cons, List.not_mem_nil, or_false] at hf; rcases hf with rfl <;> exact TSize.size w) rfl
instance : FieldAt Try.prog 24 0 0 := fieldAt_of 22 1 Try.runUnderlying24 rfl nofun
instance : TStruct Try.prog 24 [(0, 1)] [.slice none 0 0] := tstruct_of (fun t => match t with | 22 => 1 | _ => 0) Try.zeroValue24 rfl Try.runUnderlying24 (fun f hf w => by simp only [List.mem_cons, List.not_mem_nil, or_false] at hf; rcases hf with rfl <;> exact TSize.size w) rfl
instance : FieldAt Try.prog 31 0 0 := fieldAt_of 24 1 Try.runUnderlying31 rfl nofun
instance : FieldAt Try.prog 31 1 1 := fieldAt_of 26 1 Try.runUnderlying31 rfl nofun
instance : FieldAt Try.prog 31 2 2 := fieldAt_of 27 1 Try.runUnderlying31 rfl nofun
instance : FieldAt Try.prog 31 3 3 := fieldAt_of 28 1 Try.runUnderlying31 rfl nofun
instance : FieldAt Try.prog 31 4 4 := fieldAt_of 29 1 Try.runUnderlying31 rfl nofun
instance : FieldAt Try.prog 31 5 5 := fieldAt_of 30 1 Try.runUnderlying31 rfl nofun
instance : TStruct Try.prog 31 [(0, 1), (1, 1), (2, 1), (3, 1), (4, 1), (5, 1)] [.slice none 0 0, .slice none 0 0, .slice none 0 0, .slice none 0 0, .slice none 0 0, .slice none 0 0] := tstruct_of (fun t => match t with | 24 => 1 | 26 => 1 | 27 => 1 | 28 => 1 | 29 => 1 | 30 => 1 | _ => 0) Try.zeroValue31 rfl Try.runUnderlying31 (fun f hf w => by simp only [List.mem_cons, List.not_mem_nil, or_false] at hf; rcases hf with rfl | rfl | rfl | rfl | rfl | rfl <;> exact TSize.size w) rfl
instance : FieldAt Try.prog 32 0 0 := fieldAt_of 24 1 Try.runUnderlying32 rfl nofun
instance : FieldAt Try.prog 32 1 1 := fieldAt_of 26 1 Try.runUnderlying32 rfl nofun
instance : FieldAt Try.prog 32 2 2 := fieldAt_of 27 1 Try.runUnderlying32 rfl nofun
instance : FieldAt Try.prog 32 3 3 := fieldAt_of 28 1 Try.runUnderlying32 rfl nofun
instance : FieldAt Try.prog 32 4 4 := fieldAt_of 29 1 Try.runUnderlying32 rfl nofun
instance : FieldAt Try.prog 32 5 5 := fieldAt_of 30 1 Try.runUnderlying32 rfl nofun
instance : TStruct Try.prog 32 [(0, 1), (1, 1), (2, 1), (3, 1), (4, 1), (5, 1)] [.slice none 0 0, .slice none 0 0, .slice none 0 0, .slice none 0 0, .slice none 0 0, .slice none 0 0] := tstruct_of (fun t => match t with | 24 => 1 | 26 => 1 | 27 => 1 | 28 => 1 | 29 => 1 | 30 => 1 | _ => 0) Try.zeroValue32 rfl Try.runUnderlying32 (fun f hf w => by simp only [List.mem_cons, List.not_mem_nil, or_false] at hf; rcases hf with rfl | rfl | rfl | rfl | rfl | rfl <;> exact TSize.size w) rfl
instance : FieldAt Try.prog 37 0 0 := fieldAt_of 3 1 Try.runUnderlying37 rfl nofun
instance : FieldAt Try.prog 37 1 1 := fieldAt_of 9 1 Try.runUnderlying37 rfl nofun
instance : FieldAt Try.prog 37 2 2 := fieldAt_of 3 1 Try.runUnderlying37 rfl nofun
instance : FieldAt Try.prog 37 3 3 := fieldAt_of 26 1 Try.runUnderlying37 rfl nofun
instance : TStruct Try.prog 37 [(0, 1), (1, 1), (2, 1), (3, 1)] [.int .i64 0, .string ⟨#[]⟩, .int .i64 0, .slice none 0 0] := tstruct_of (fun t => match t with | 3 => 1 | 9 => 1 | 26 => 1 | _ => 0) Try.zeroValue37 rfl Try.runUnderlying37 (fun f hf w => by simp only [List.mem_cons, List.not_mem_nil, or_false] at hf; rcases hf with rfl | rfl | rfl | rfl <;> exact TSize.size w) rfl
instance : FieldAt Try.prog 38 0 0 := fieldAt_of 3 1 Try.runUnderlying38 rfl nofun
instance : FieldAt Try.prog 38 1 1 := fieldAt_of 9 1 Try.runUnderlying38 rfl nofun
instance : FieldAt Try.prog 38 2 2 := fieldAt_of 3 1 Try.runUnderlying38 rfl nofun
instance : FieldAt Try.prog 38 3 3 := fieldAt_of 26 1 Try.runUnderlying38 rfl nofun
instance : TStruct Try.prog 38 [(0, 1), (1, 1), (2, 1), (3, 1)] [.int .i64 0, .string ⟨#[]⟩, .int .i64 0, .slice none 0 0] := tstruct_of (fun t => match t with | 3 => 1 | 9 => 1 | 26 => 1 | _ => 0) Try.zeroValue38 rfl Try.runUnderlying38 (fun f hf w => by simp only [List.mem_cons, List.not_mem_nil, or_false] at hf; rcases hf with rfl | rfl | rfl | rfl <;> exact TSize.size w) rfl
instance : FieldAt Try.prog 41 0 0 := fieldAt_of 3 1 Try.runUnderlying41 rfl nofun
instance : FieldAt Try.prog 41 1 1 := fieldAt_of 26 1 Try.runUnderlying41 rfl nofun
instance : TStruct Try.prog 41 [(0, 1), (1, 1)] [.int .i64 0, .slice none 0 0] := tstruct_of (fun t => match t with | 3 => 1 | 26 => 1 | _ => 0) Try.zeroValue41 rfl Try.runUnderlying41 (fun f hf w => by simp only [List.mem_cons, List.not_mem_nil, or_false] at hf; rcases hf with rfl | rfl <;> exact TSize.size w) rfl
instance : FieldAt Try.prog 42 0 0 := fieldAt_of 3 1 Try.runUnderlying42 rfl nofun
instance : FieldAt Try.prog 42 1 1 := fieldAt_of 26 1 Try.runUnderlying42 rfl nofun
instance : TStruct Try.prog 42 [(0, 1), (1, 1)] [.int .i64 0, .slice none 0 0] := tstruct_of (fun t => match t with | 3 => 1 | 26 => 1 | _ => 0) Try.zeroValue42 rfl Try.runUnderlying42 (fun f hf w => by simp only [List.mem_cons, List.not_mem_nil, or_false] at hf; rcases hf with rfl | rfl <;> exact TSize.size w) rfl
instance : FieldAt Try.prog 47 0 0 := fieldAt_of 9 1 Try.runUnderlying47 rfl nofun
instance : FieldAt Try.prog 47 1 1 := fieldAt_of 3 1 Try.runUnderlying47 rfl nofun
instance : FieldAt Try.prog 47 2 2 := fieldAt_of 3 1 Try.runUnderlying47 rfl nofun
instance : TStruct Try.prog 47 [(0, 1), (1, 1), (2, 1)] [.string ⟨#[]⟩, .int .i64 0, .int .i64 0] := tstruct_of (fun t => match t with | 3 => 1 | 9 => 1 | _ => 0) Try.zeroValue47 rfl Try.runUnderlying47 (fun f hf w => by simp only [List.mem_cons, List.not_mem_nil, or_false] at hf; rcases hf with rfl | rfl | rfl <;> exact TSize.size w) rfl
instance : FieldAt Try.prog 48 0 0 := fieldAt_of 9 1 Try.runUnderlying48 rfl nofun
instance : FieldAt Try.prog 48 1 1 := fieldAt_of 3 1 Try.runUnderlying48 rfl nofun
instance : FieldAt Try.prog 48 2 2 := fieldAt_of 3 1 Try.runUnderlying48 rfl nofun
instance : TStruct Try.prog 48 [(0, 1), (1, 1), (2, 1)] [.string ⟨#[]⟩, .int .i64 0, .int .i64 0] := tstruct_of (fun t => match t with | 3 => 1 | 9 => 1 | _ => 0) Try.zeroValue48 rfl Try.runUnderlying48 (fun f hf w => by simp only [List.mem_cons, List.not_mem_nil, or_false] at hf; rcases hf with rfl | rfl | rfl <;> exact TSize.size w) rfl
instance : FieldAt Try.prog 49 0 0 := fieldAt_of 9 1 Try.runUnderlying49 rfl nofun
instance : FieldAt Try.prog 49 1 1 := fieldAt_of 3 1 Try.runUnderlying49 rfl nofun
instance : TStruct Try.prog 49 [(0, 1), (1, 1)] [.string ⟨#[]⟩, .int .i64 0] := tstruct_of (fun t => match t with | 3 => 1 | 9 => 1 | _ => 0) Try.zeroValue49 rfl Try.runUnderlying49 (fun f hf w => by simp only [List.mem_cons, List.not_mem_nil, or_false] at hf; rcases hf with rfl | rfl <;> exact TSize.size w) rfl
instance : FieldAt Try.prog 50 0 0 := fieldAt_of 9 1 Try.runUnderlying50 rfl nofun
instance : FieldAt Try.prog 50 1 1 := fieldAt_of 3 1 Try.runUnderlying50 rfl nofun
instance : TStruct Try.prog 50 [(0, 1), (1, 1)] [.string ⟨#[]⟩, .int .i64 0] := tstruct_of (fun t => match t with | 3 => 1 | 9 => 1 | _ => 0) Try.zeroValue50 rfl Try.runUnderlying50 (fun f hf w => by simp only [List.mem_cons, List.not_mem_nil, or_false] at hf; rcases hf with rfl | rfl <;> exact TSize.size w) rfl
instance : FieldAt Try.prog 60 0 0 := fieldAt_of 32 6 Try.runUnderlying60 rfl nofun
instance : FieldAt Try.prog 60 1 6 := fieldAt_of 57 1 Try.runUnderlying60 rfl nofun
instance : FieldAt Try.prog 60 2 7 := fieldAt_of 59 1 Try.runUnderlying60 rfl nofun
instance : FieldAt Try.prog 60 3 8 := fieldAt_of 59 1 Try.runUnderlying60 rfl nofun
instance : TStruct Try.prog 60 [(0, 6), (6, 1), (7, 1), (8, 1)] [.slice none 0 0, .slice none 0 0, .slice none 0 0, .slice none 0 0, .slice none 0 0, .slice none 0 0, .pointer none, .map none, .map none] := tstruct_of (fun t => match t with | 32 => 6 | 57 => 1 | 59 => 1 | _ => 0) Try.zeroValue60 rfl Try.runUnderlying60 (fun f hf w => by simp only [List.mem_cons, List.not_mem_nil, or_false] at hf; rcases hf with rfl | rfl | rfl | rfl <;> exact TSize.size w) rfl
instance : FieldAt Try.prog 61 0 0 := fieldAt_of 32 6 Try.runUnderlying61 rfl nofun
instance : FieldAt Try.prog 61 1 6 := fieldAt_of 57 1 Try.runUnderlying61 rfl nofun
instance : FieldAt Try.prog 61 2 7 := fieldAt_of 59 1 Try.runUnderlying61 rfl nofun
instance : FieldAt Try.prog 61 3 8 := fieldAt_of 59 1 Try.runUnderlying61 rfl nofun
instance : TStruct Try.prog 61 [(0, 6), (6, 1), (7, 1), (8, 1)] [.slice none 0 0, .slice none 0 0, .slice none 0 0, .slice none 0 0, .slice none 0 0, .slice none 0 0, .pointer none, .map none, .map none] := tstruct_of (fun t => match t with | 32 => 6 | 57 => 1 | 59 => 1 | _ => 0) Try.zeroValue61 rfl Try.runUnderlying61 (fun f hf w => by simp only [List.mem_cons, List.not_mem_nil, or_false] at hf; rcases hf with rfl | rfl | rfl | rfl <;> exact TSize.size w) rfl
instance : FieldAt Try.prog 83 0 0 := fieldAt_of 82 1 Try.runUnderlying83 rfl nofun
instance : TStruct Try.prog 83 [(0, 1)] [.slice none 0 0] := tstruct_of (fun t => match t with | 82 => 1 | _ => 0) Try.zeroValue83 rfl Try.runUnderlying83 (fun f hf w => by simp only [List.mem_cons, List.not_mem_nil, or_false] at hf; rcases hf with rfl <;> exact TSize.size w) rfl
instance : FieldAt Try.prog 84 0 0 := fieldAt_of 82 1 Try.runUnderlying84 rfl nofun
instance : TStruct Try.prog 84 [(0, 1)] [.slice none 0 0] := tstruct_of (fun t => match t with | 82 => 1 | _ => 0) Try.zeroValue84 rfl Try.runUnderlying84 (fun f hf w => by simp only [List.mem_cons, List.not_mem_nil, or_false] at hf; rcases hf with rfl <;> exact TSize.size w) rfl
instance : FieldAt Try.prog 99 0 0 := fieldAt_of 59 1 Try.runUnderlying99 rfl nofun
instance : FieldAt Try.prog 99 1 1 := fieldAt_of 27 1 Try.runUnderlying99 rfl nofun
instance : TStruct Try.prog 99 [(0, 1), (1, 1)] [.map none, .slice none 0 0] := tstruct_of (fun t => match t with | 27 => 1 | 59 => 1 | _ => 0) Try.zeroValue99 rfl Try.runUnderlying99 (fun f hf w => by simp only [List.mem_cons, List.not_mem_nil, or_false] at hf; rcases hf with rfl | rfl <;> exact TSize.size w) rfl
instance : FieldAt Try.prog 100 0 0 := fieldAt_of 59 1 Try.runUnderlying100 rfl nofun
instance : FieldAt Try.prog 100 1 1 := fieldAt_of 27 1 Try.runUnderlying100 rfl nofun
instance : TStruct Try.prog 100 [(0, 1), (1, 1)] [.map none, .slice none 0 0] := tstruct_of (fun t => match t with | 27 => 1 | 59 => 1 | _ => 0) Try.zeroValue100 rfl Try.runUnderlying100 (fun f hf w => by simp only [List.mem_cons, List.not_mem_nil, or_false] at hf; rcases hf with rfl | rfl <;> exact TSize.size w) rfl
instance : FieldAt Try.prog 114 0 0 := fieldAt_of 9 1 Try.runUnderlying114 rfl nofun
instance : FieldAt Try.prog 114 1 1 := fieldAt_of 3 1 Try.runUnderlying114 rfl nofun
instance : FieldAt Try.prog 114 2 2 := fieldAt_of 3 1 Try.runUnderlying114 rfl nofun
instance : TStruct Try.prog 114 [(0, 1), (1, 1), (2, 1)] [.string ⟨#[]⟩, .int .i64 0, .int .i64 0] := tstruct_of (fun t => match t with | 3 => 1 | 9 => 1 | _ => 0) Try.zeroValue114 rfl Try.runUnderlying114 (fun f hf w => by simp only [List.mem_cons, List.not_mem_nil, or_false] at hf; rcases hf with rfl | rfl | rfl <;> exact TSize.size w) rfl
instance : FieldAt Try.prog 115 0 0 := fieldAt_of 9 1 Try.runUnderlying115 rfl nofun
instance : FieldAt Try.prog 115 1 1 := fieldAt_of 3 1 Try.runUnderlying115 rfl nofun
instance : FieldAt Try.prog 115 2 2 := fieldAt_of 3 1 Try.runUnderlying115 rfl nofun
instance : TStruct Try.prog 115 [(0, 1), (1, 1), (2, 1)] [.string ⟨#[]⟩, .int .i64 0, .int .i64 0] := tstruct_of (fun t => match t with | 3 => 1 | 9 => 1 | _ => 0) Try.zeroValue115 rfl Try.runUnderlying115 (fun f hf w => by simp only [List.mem_cons, List.not_mem_nil, or_false] at hf; rcases hf with rfl | rfl | rfl <;> exact TSize.size w) rfl
instance : FieldAt Try.prog 122 0 0 := fieldAt_of 121 1 Try.runUnderlying122 rfl nofun
instance : FieldAt Try.prog 122 1 1 := fieldAt_of 75 1 Try.runUnderlying122 rfl nofun
instance : TStruct Try.prog 122 [(0, 1), (1, 1)] [.pointer none, .slice none 0 0] := tstruct_of (fun t => match t with | 75 => 1 | 121 => 1 | _ => 0) Try.zeroValue122 rfl Try.runUnderlying122 (fun f hf w => by simp only [List.mem_cons, List.not_mem_nil, or_false] at hf; rcases hf with rfl | rfl <;> exact TSize.size w) rfl
instance : FieldAt Try.prog 123 0 0 := fieldAt_of 121 1 Try.runUnderlying123 rfl nofun
instance : FieldAt Try.prog 123 1 1 := fieldAt_of 75 1 Try.runUnderlying123 rfl nofun
instance : TStruct Try.prog 123 [(0, 1), (1, 1)] [.pointer none, .slice none 0 0] := tstruct_of (fun t => match t with | 75 => 1 | 121 => 1 | _ => 0) Try.zeroValue123 rfl Try.runUnderlying123 (fun f hf w => by simp only [List.mem_cons, List.not_mem_nil, or_false] at hf; rcases hf with rfl | rfl <;> exact TSize.size w) rfl
instance : FieldAt Try.prog 133 0 0 := fieldAt_of 26 1 Try.runUnderlying133 rfl nofun
instance : FieldAt Try.prog 133 1 1 := fieldAt_of 92 1 Try.runUnderlying133 rfl nofun
instance : TStruct Try.prog 133 [(0, 1), (1, 1)] [.slice none 0 0, .slice none 0 0] := tstruct_of (fun t => match t with | 26 => 1 | 92 => 1 | _ => 0) Try.zeroValue133 rfl Try.runUnderlying133 (fun f hf w => by simp only [List.mem_cons, List.not_mem_nil, or_false] at hf; rcases hf with rfl | rfl <;> exact TSize.size w) rfl
instance : FieldAt Try.prog 134 0 0 := fieldAt_of 26 1 Try.runUnderlying134 rfl nofun
instance : FieldAt Try.prog 134 1 1 := fieldAt_of 92 1 Try.runUnderlying134 rfl nofun
instance : TStruct Try.prog 134 [(0, 1), (1, 1)] [.slice none 0 0, .slice none 0 0] := tstruct_of (fun t => match t with | 26 => 1 | 92 => 1 | _ => 0) Try.zeroValue134 rfl Try.runUnderlying134 (fun f hf w => by simp only [List.mem_cons, List.not_mem_nil, or_false] at hf; rcases hf with rfl | rfl <;> exact TSize.size w) rfl
instance : FieldAt Try.prog 164 0 0 := fieldAt_of 86 1 Try.runUnderlying164 rfl nofun
instance : FieldAt Try.prog 164 1 1 := fieldAt_of 26 1 Try.runUnderlying164 rfl nofun
instance : TStruct Try.prog 164 [(0, 1), (1, 1)] [.map none, .slice none 0 0] := tstruct_of (fun t => match t with | 26 => 1 | 86 => 1 | _ => 0) Try.zeroValue164 rfl Try.runUnderlying164 (fun f hf w => by simp only [List.mem_cons, List.not_mem_nil, or_false] at hf; rcases hf with rfl | rfl <;> exact TSize.size w) rfl
instance : FieldAt Try.prog 165 0 0 := fieldAt_of 86 1 Try.runUnderlying165 rfl nofun
instance : FieldAt Try.prog 165 1 1 := fieldAt_of 26 1 Try.runUnderlying165 rfl nofun
instance : TStruct Try.prog 165 [(0, 1), (1, 1)] [.map none, .slice none 0 0] := tstruct_of (fun t => match t with | 26 => 1 | 86 => 1 | _ => 0) Try.zeroValue165 rfl Try.runUnderlying165 (fun f hf w => by simp only [List.mem_cons, List.not_mem_nil, or_false] at hf; rcases hf with rfl | rfl <;> exact TSize.size w) rfl
instance : FieldAt Try.prog 166 0 0 := fieldAt_of 3 1 Try.runUnderlying166 rfl nofun
instance : FieldAt Try.prog 166 1 1 := fieldAt_of 3 1 Try.runUnderlying166 rfl nofun
instance : TStruct Try.prog 166 [(0, 1), (1, 1)] [.int .i64 0, .int .i64 0] := tstruct_of (fun t => match t with | 3 => 1 | _ => 0) Try.zeroValue166 rfl Try.runUnderlying166 (fun f hf w => by simp only [List.mem_cons, List.not_mem_nil, or_false] at hf; rcases hf with rfl | rfl <;> exact TSize.size w) rfl
instance : FieldAt Try.prog 167 0 0 := fieldAt_of 3 1 Try.runUnderlying167 rfl nofun
instance : FieldAt Try.prog 167 1 1 := fieldAt_of 3 1 Try.runUnderlying167 rfl nofun
instance : TStruct Try.prog 167 [(0, 1), (1, 1)] [.int .i64 0, .int .i64 0] := tstruct_of (fun t => match t with | 3 => 1 | _ => 0) Try.zeroValue167 rfl Try.runUnderlying167 (fun f hf w => by simp only [List.mem_cons, List.not_mem_nil, or_false] at hf; rcases hf with rfl | rfl <;> exact TSize.size w) rfl
end Go.Proofs.Ytibkdjjdfcpdaaa
end

section
/- The calculus: panics; functions with a deferred closure that recovers. -/
namespace Go.Ab
open Go

section
variable {P : Program} {n : Nat} {ops : Array Oper} {Q : Post} {m m' : Md} {rest : List Oper} {E : Env} {D : List Deferred} {L : List Assn} {ty : TypeId} {pos : String} {af : Array Edge} {x y : Operand} {c1 c2 g : Bool} {d : Nat} {t : TypeId}

/-! ## A panic -/
theorem OpT.panic {dd : Option Tmp} {gd : Option (Nat × Bool)} {v : Value} (hx : opv x E = some (c1, .iface t v)) [Imp true c1] :
    OpT P E L ⟨dd, .panic x, ty, pos, af, gd⟩ (fun _ _ => False) (fun c L' => c = [{ v := .iface t v, recovered := false }] ∧ L' = L) := fun a w K Q0 h1 h2 _ hp' => by
  unfold Oper.wp
  have he : (execOp a.eval ⟨dd, .panic x, ty, pos, af, gd⟩).run P w = .halt (.panic (.iface t v)) w := by
    show (do pure (Next.value (← Instr.panic (a.eval x))) : Sem Next).run P w = _
    rw [EvG.of (g := true) hx a h1 rfl]; rfl
  rw [he]
  exact hp' _ w _ ⟨rfl, rfl⟩ h2
theorem WpO.panic [Nxt m m'] {v : Value} (hx : opv x E = some (c1, .iface t v)) [Imp true c1] (h : Q (.panic [{ v := .iface t v, recovered := false }]) [] D L) : WpO P n ops Q m (⟨none, .panic x, ty, pos, af, none⟩ :: rest) E D L :=
  WpO.op0 rfl (OpT.panic hx) (fun _ _ ⟨e1, e2⟩ => by subst e1; subst e2; exact h) nofun
theorem Qt.mkiface {dd : Option Tmp} {gd : Option (Nat × Bool)} {v : Value} (hc : P.concrete t = true) (hx : opv x E = some (c1, v)) [Imp g c1] :
    Qt P E L ⟨dd, .makeInterface t x, ty, pos, af, gd⟩ g (.iface t v) := fun ac w h1 _ h3 => by
  show (do pure (Next.value (← Instr.makeInterface t (ac.eval x))) : Sem Next).run P w = _
  rw [EvG.of hx ac h1 h3]
  exact run_v (run_makeInterface w t v hc)
theorem S.mkiface [Nxt m m'] {v : Value} (hc : P.concrete t = true) (h0 : Nat.blt d n = true) (hx : opv x E = some (true, v)) (h : WpO P n ops Q m' rest ((d, .v (.iface t v)) :: E) D L) : WpO P n ops Q m (⟨some d, .makeInterface t x, ty, pos, af, none⟩ :: rest) E D L :=
  WpO.q rfl h0 (Qt.mkiface hc hx) h
/-- It returns, or panics with one entry that was not recovered. -/
def retP (φ : Value → List Assn → Prop) (ψ : Value → List Assn → Prop) : Ending → List Assn → Prop
  | .returned v, L => φ v L
  | .panicked c, L => ∃ v, c = [{ v, recovered := false }] ∧ ψ v L
  | _, _ => False
/-- A call of a function that may panic. -/
theorem WpO.callP [Nxt m m'] {f : FuncId} {args : List Operand} {tys : Array TypeId} {vs : List Value} {φ ψ : Value → List Assn → Prop} (hc : ∀ (args : Array Value) (w : World), Sem.run P (callFunc f args) w = .ok (.enter f args) w) (h0 : Nat.blt d n = true) (hargs : evs args E = some vs)
    (hct : Ct P f vs.toArray L (retP φ ψ)) (hp' : ∀ v L', ψ v L' → Q (.panic [{ v, recovered := false }]) [] D L') (h : ∀ v L', φ v L' → Keeps m L' ∧ WpO P n ops Q m' rest ((d, .v v) :: E) D L') : WpO P n ops Q m (⟨some d, .call ⟨.value (.func f), args.toArray, tys⟩, ty, pos, af, Option.none⟩ :: rest) E D L :=
  WpO.op rfl h0 (OpT.call hc hargs hct) (fun _ _ ⟨_, e, q⟩ => by subst e; exact hp' _ _ q) h

/-! ## Where the frame is known at a panic, too -/
def PostE (n : Nat) (Q : Post) : Exit → Act → World → Prop
  | .outgrown, _, _ => False
  | e, a, w => ∃ E D L, Q e E D L ∧ a.tmps.size = n ∧ EnvSat E a.tmps ∧ a.defers = D ∧ Sat (hp w) L
def WpE (P : Program) (n : Nat) (c : Code) (Q : Post) (E : Env) (D : List Deferred) (L : List Assn) : Prop :=
  ∀ a w, a.tmps.size = n → EnvSat E a.tmps → a.defers = D → Sat (hp w) L → c.wp P (PostE n Q) a w
def Post.np (Q : Post) : Post
  | .panic _, _, _, _ => False
  | e, E, D, L => Q e E D L
theorem WpE.np {c : Code} (h : Wp P n c (Post.np Q) E D L) : WpE P n c Q E D L := fun a w h1 h2 h3 h4 => wp_mono (h.wp a w h1 h2 h3 h4) fun e a' w' hh => by
  cases e <;> simp only [PostOf, PostE, Post.np] at hh ⊢
  case panic c => obtain ⟨_, _, h, _⟩ := hh; exact h.elim
  all_goals exact hh
theorem PostE.mono {Q Q' : Post} (h : ∀ e E D L, Q e E D L → Q' e E D L) : ∀ e a w, PostE n Q e a w → PostE n Q' e a w := by
  intro e a w hh
  cases e <;> simp only [PostE] at hh ⊢
  all_goals (obtain ⟨E, D, L, h1, h2⟩ := hh; exact ⟨E, D, L, h _ _ _ _ h1, h2⟩)
theorem WpE.weaken {c : Code} {E' : Env} {L' : List Assn} (hE : ∀ i a, look i E' = some a → look i E = some a) (hL : ∀ k, Sat k L → Sat k L')
    (h : WpE P n c Q E' D L') : WpE P n c Q E D L := fun a w h1 h2 h3 h4 => h a w h1 (h2.weaken hE) h3 (hL _ h4)
theorem WpE.mono {c : Code} {Q Q' : Post} (h : WpE P n c Q E D L) (hQ : ∀ e E D L, Q e E D L → Q' e E D L) : WpE P n c Q' E D L :=
  fun a w h1 h2 h3 h4 => wp_mono (h a w h1 h2 h3 h4) (PostE.mono hQ)
theorem WpE.seq {x y : Code} (h : WpE P n x (Post.then (WpE P n y Q) Q) E D L) : WpE P n (.seq x y) Q E D L := fun a w h1 h2 h3 h4 =>
  wp_seq (wp_mono (h a w h1 h2 h3 h4) fun e a' w' hh => by
    cases e <;> simp only [PostE, Post.then, Exit.then] at hh ⊢
    case normal => obtain ⟨E, D, L, q, r1, r2, r3, r4⟩ := hh; exact q a' w' r1 r2 r3 r4
    all_goals exact hh)
/-- The first part does not panic. -/
theorem WpE.seqN {x y : Code} (h : Wp P n x (Post.then (WpE P n y Q) (Post.np Q)) E D L) : WpE P n (.seq x y) Q E D L :=
  WpE.seq (WpE.np (Wp.mono h fun e E D L q => by cases e <;> exact q))
theorem WpE.ret (h : Q .ret E D L) : WpE P n .ret Q E D L := fun a w h1 h2 h3 h4 => wp_ret ⟨E, D, L, h, h1, h2, h3, h4⟩
theorem WpE.block {id : Nat} {c : Code} (h : WpE P n c (Post.inBlock id Q) E D L) : WpE P n (.block id c) Q E D L := fun a w h1 h2 h3 h4 =>
  wp_block (wp_mono (h a w h1 h2 h3 h4) fun e a' w' hh => by
    cases e <;> simp only [PostE, Post.inBlock, Exit.inBlock] at hh ⊢
    case exit i =>
      obtain ⟨E, D, L, q, r⟩ := hh
      by_cases hi : i = id
      · subst hi; simp only [Nat.beq_refl, if_true] at q ⊢; exact ⟨E, D, L, q, r⟩
      · have : Nat.beq i id = false := beqF hi
        simp only [this, hi, if_false] at q ⊢; exact ⟨E, D, L, q, r⟩
    all_goals exact hh)
theorem WpE.branch {s : Nat} {x y : Code} {t : Bool} (hc : look s E = some (.v (.bool t))) (h1 : t = true → WpE P n x Q ((s, .v (.bool true)) :: E) D L) (h2 : t = false → WpE P n y Q ((s, .v (.bool false)) :: E) D L) :
    WpE P n (.cond (.tmp s) x y) Q E D L := fun a w r1 r2 r3 r4 =>
  wp_cond_split (EvG.v (g := true) hc a r2 rfl) (fun h => h1 h a w r1 (r2.shadow hc (by rw [h])) r3 r4) (fun h => h2 h a w r1 (r2.shadow hc (by rw [h])) r3 r4)
theorem WpE.skip (h : Q .normal E D L) : WpE P n .skip Q E D L := fun a w h1 h2 h3 h4 => wp_skip ⟨E, D, L, h, h1, h2, h3, h4⟩
theorem WpE.exit {id : Nat} (h : Q (.exit id) E D L) : WpE P n (.exit id) Q E D L := fun a w h1 h2 h3 h4 => wp_exit ⟨E, D, L, h, h1, h2, h3, h4⟩
theorem WpE.loop {c : Code} {α : Type} (I : α → Env → List Deferred → List Assn → Prop) (μ : α → Nat) (x0 : α) (h0 : I x0 E D L)
    (round : ∀ x E D L, I x E D L → WpE P n c (Post.then (fun E' D' L' => ∃ y, μ y < μ x ∧ I y E' D' L') Q) E D L) : WpE P n (.loop c) Q E D L := by
  intro a0 w0 h1 h2 h3 h4 b kk cs
  have key : ∀ k x E D L, μ x = k → I x E D L → ∀ a w, a.tmps.size = n → EnvSat E a.tmps → a.defers = D → Sat (hp w) L →
      ∃ e a' w', PostE n Q e a' w' ∧ Arrives P (lone (b.at a (.code c :: .inLoop c :: kk)) cs w) b kk cs e a' w' := by
    intro k
    induction k using Nat.strongRecOn with
    | _ k ih =>
      intro x E D L hx hI a w h1 h2 h3 h4
      obtain ⟨e, a₁, w₁, hq, harr⟩ := round x E D L hI a w h1 h2 h3 h4 b (.inLoop c :: kk) cs
      cases e with
      | normal =>
        obtain ⟨E', D', L', ⟨y, hy, hIy⟩, r1, r2, r3, r4⟩ := hq
        obtain ⟨e₂, a₂, w₂, hq₂, harr₂⟩ := ih (μ y) (hx ▸ hy) y E' D' L' rfl hIy a₁ w₁ r1 r2 r3 r4
        exact ⟨e₂, a₂, w₂, hq₂, .of_steps (Steps.trans harr (.one step_inLoop)) harr₂⟩
      | exit id => exact ⟨.exit id, a₁, w₁, hq, .pass (x := .inLoop c) rfl (fun _ _ => .inl (by simp)) harr⟩
      | goto l => exact ⟨.goto l, a₁, w₁, hq, .pass (x := .inLoop c) rfl (fun _ _ => .inl (by simp)) harr⟩
      | ret => exact ⟨.ret, a₁, w₁, hq, .pass (x := .inLoop c) rfl (fun _ _ => .inl (by simp)) harr⟩
      | panic ch => exact ⟨.panic ch, a₁, w₁, hq, .pass (x := .inLoop c) rfl (fun _ _ => .inl (by simp)) harr⟩
      | outgrown => exact hq.elim
  obtain ⟨e, a', w', hq, harr⟩ := key _ x0 E D L rfl h0 a0 w0 h1 h2 h3 h4
  exact ⟨e, a', w', hq, .of_steps (.one step_loop) harr⟩
theorem WpE.loopI {c : Code} {α : Type} (x0 : α) (Ei : α → Env) (Li : α → List Assn) (μ : α → Nat) (inv : α → Prop) (h0 : inv x0) (hE : EnvLe (Ei x0) E) (hL : LeL L (Li x0))
    (round : ∀ x, inv x → WpE P n c (Post.then (Round Ei D Li μ inv x) Q) (Ei x) D (Li x)) : WpE P n (.loop c) Q E D L :=
  WpE.loop (fun x E' D' L' => inv x ∧ EnvLe (Ei x) E' ∧ D' = D ∧ LeL L' (Li x)) μ x0 ⟨h0, hE, rfl, hL⟩ fun x E' D' L' ⟨h1, h2, h3, h4⟩ => by
    subst h3
    exact WpE.mono (WpE.weaken (EnvLe.look h2) h4 (round x h1)) fun e E D L hq => by cases e <;> exact hq

/-- What a region does not write stays as it is, at a panic too. -/
theorem Oper.upon_frame {o : Oper} {a : Act} {K K' : Act → World → Prop} {Q Q' : Exit → Act → World → Prop} {F : Act → Prop} (hno : ¬ LetsOut Q) (hQ : ∀ e a w, Q e a w → F a → Q' e a w) (hF : F a) (hput : ∀ a v, F a → F (a.put o.dst v)) (hdef : ∀ a d, F a → F { a with defers := d :: a.defers })
    (hK : ∀ a' w', F a' → K a' w' → K' a' w') {r : Result Next} (h : o.upon P a K Q r) : o.upon P a K' Q' r := by
  unfold Oper.upon at h ⊢
  split at h
  · exact hK _ _ (hput _ _ hF) h
  · exact hK _ _ (hput _ _ hF) h
  · exact hK _ _ (hput _ _ (hdef _ _ hF)) h
  · refine h.mono fun e w' q => ?_
    cases e with
    | returned v => exact hK _ _ (hput _ _ hF) q
    | panicked c => exact hQ _ _ _ q hF
    | outgrown => exact absurd q hno
  · exact h.mono fun v w' q => hK _ _ (hput _ _ hF) q
  · exact hQ _ _ _ h hF
  · exact h
theorem wpList_frame {Q Q' : Exit → Act → World → Prop} {F : Act → Prop} (hno : ¬ LetsOut Q) (hQ : ∀ e a w, Q e a w → F a → Q' e a w) (hdef : ∀ a d, F a → F { a with defers := d :: a.defers }) : ∀ (l : List Oper) (a : Act) (w : World), (∀ o ∈ l, ∀ a v, F a → F (a.put o.dst v)) → F a → wpList P ops Q l a w → wpList P ops Q' l a w
  | [], a, w, _, hF, h => hQ _ _ _ h hF
  | o :: rest, a, w, hp, hF, h => by
    unfold wpList at h ⊢
    split at h
    · rename_i hw
      rw [if_pos hw]
      rcases h with h | ⟨_, h⟩
      · exact .inl (Oper.upon_frame hno hQ hF (hp o (List.mem_cons_self ..)) hdef (fun a' w' hF' h' => wpList_frame hno hQ hdef rest a' w' (fun o ho => hp o (List.mem_cons_of_mem _ ho)) hF' h') h)
      · exact absurd h hno
    · rename_i hw
      rw [if_neg hw]
      exact wpList_frame hno hQ hdef rest _ w (fun o ho => hp o (List.mem_cons_of_mem _ ho)) (hp o (List.mem_cons_self ..) _ _ hF) h
def Post.froz (F : Env) (Q : Post) : Post
  | .panic c, _, D, L => Q (.panic c) F D L
  | e, E, D, L => Q e E D L
def notIn (F : Env) (d : Option Tmp) : Bool := match d with
  | none => true
  | some d => F.all fun x => !Nat.beq d x.1
theorem look_ne : ∀ {F : Env} {d i : Nat} {a : AV}, (F.all fun x => !Nat.beq d x.1) = true → look i F = some a → i ≠ d
  | [], _, _, _, _, h => by cases h
  | (j, b) :: F, d, i, a, hn, h => by
    simp only [List.all_cons, Bool.and_eq_true, Bool.not_eq_true'] at hn
    unfold look at h
    split at h
    · rename_i hb
      have hij : i = j := Nat.eq_of_beq_eq_true hb
      intro e
      subst e; subst hij
      rw [Nat.beq_refl] at hn; cases hn.1
    · exact look_ne hn.2 h
theorem EnvSat.put_ne {F : Env} {a : Act} {d : Option Tmp} {v : Value} (hn : notIn F d = true) (h : EnvSat F a.tmps) : EnvSat F (a.put d v).tmps := by
  cases d with
  | none => exact h
  | some d =>
    intro i b hi
    have := h i b hi
    show (a.tmps.setIfInBounds d v)[i]? = _
    rw [Array.getElem?_setIfInBounds_ne (Ne.symm (look_ne hn hi))]
    exact this
theorem WpE.region {id : Nat} {l : List Oper} (F : Env) (hF : ∀ i a, look i F = some a → look i E = some a) (hd : (l.all fun o => notIn F o.dst) = true) (h : WpO P n l.toArray (Post.froz F Q) .seq l E D L) : WpE P n (.region id l.toArray false) Q E D L := fun a w h1 h2 h3 h4 => by
  refine wp_region_lit ?_
  have hno : ¬ LetsOut (PostOf n (Post.froz F Q)) := by rintro ⟨_, _, q⟩; exact q
  refine wpList_frame (P := P) (ops := l.toArray) (Q := PostOf n (Post.froz F Q)) (F := fun a => EnvSat F a.tmps ∧ a.tmps.size = n) hno (fun e a' w' q1 ⟨q2, q3⟩ => ?_) (fun _ _ q => q) l a w (fun o ho a v q => ⟨EnvSat.put_ne (List.all_eq_true.1 hd o ho) q.1, by rw [Act.put_size, q.2]⟩) ⟨h2.weaken hF, h1⟩ (h.1 a w h1 h2 h3 h4)
  cases e <;> simp only [PostOf, PostE, Post.froz] at q1 ⊢
  case panic c =>
    obtain ⟨D, L, r1, r2, r3⟩ := q1
    exact ⟨F, D, L, r1, q3, q2, r2, r3⟩
  all_goals exact q1
end
end Go.Ab
end

section
/- The calculus: deferred closures. -/
namespace Go.Ab
open Go

/-- Contract of a function that is called as a deferred one, from a frame that leaves as u says. -/
def CtD (P : Program) (f : FuncId) (args : Array Value) (u : FrameMode) (L : List Assn) (R : Ending → FrameMode → List Assn → Prop) : Prop :=
  ∀ w, Sat (hp w) L → CallsD P f args u w (fun e u' w' => e ≠ .outgrown ∧ ∃ L', R e u' L' ∧ Sat (hp w') L')

section
variable {P : Program} {n : Nat} {ops : Array Oper} {Q : Post} {m m' : Md} {rest : List Oper} {E : Env} {D : List Deferred} {L : List Assn} {ty : TypeId} {pos : String} {af : Array Edge} {x y : Operand} {c1 c2 g : Bool} {d : Nat} {t : TypeId}

theorem recoverD_p {c : Frame} {cs : List Frame} {v : Value} (h : c.mode = .panicking [{ v, recovered := false }]) : recoverD (c :: cs) = some (v, { c with mode := .panicking [{ v, recovered := true }] } :: cs) := by
  unfold recoverD; simp only [h]
theorem recoverD_r {c : Frame} {cs : List Frame} (h : c.mode = .returning) : recoverD (c :: cs) = none := by
  unfold recoverD; simp only [h]

theorem CtD.of {f : FuncId} {fn : Func} {r : Nat} {tys : Array TypeId} {rest : Code} {args : Array Value} {u u' : FrameMode} {v : Value} {R : List Assn → Prop} (hf : P.funcs[f]? = some fn)
    (hb : fn.body = some (.seq (.region r #[⟨some d, .call ⟨.builtin .recover, #[], tys⟩, ty, pos, #[], none⟩] false) rest)) (hn : fn.ntmps = n) (hrs : fn.results = #[]) (hsz : Nat.ble args.size d = true) (hdn : Nat.blt d n = true)
    (hrec : ∀ (c : Frame) (cs : List Frame), c.mode = u → (match recoverD (c :: cs) with | some (v, cs') => (v, cs') | none => (.nilIface, c :: cs)) = (v, { c with mode := u' } :: cs))
    (h : Wp P n rest (BodyPost [] (ret fun _ L' => R L')) ((d, .v v) :: argEnv 0 args.toList) [] L) : CtD P f args u L (fun e u'' L' => e = .returned (.tuple #[]) ∧ u'' = u' ∧ R L') := fun w hw => by
  refine callsD_of_wpS hf hb fun c₀ cs hu => wpS_seq (wpS_region ?_)
  have hb1 := bleLe hsz
  have hd := bltLt hdn
  have hlist : List.range (#[({ dst := some d, op := .call ⟨.builtin .recover, #[], tys⟩, type := ty, pos := pos, after := #[], guard := none } : Oper)]).size = [0] := rfl
  rw [hlist]
  unfold wpOpsS
  simp only [List.getElem?_toArray, List.getElem?_cons_zero]
  have hwant : ∀ y, Region.wanted ({ dst := some d, op := .call ⟨.builtin .recover, #[], tys⟩, type := ty, pos := pos, after := #[], guard := none } : Oper) y = true := fun _ => rfl
  rw [if_pos (hwant _)]
  have hex : ∀ ρ, (execOp ρ { dst := some d, op := .call ⟨.builtin .recover, #[], tys⟩, type := ty, pos := pos, after := #[], guard := none }).run P w = .ok .recover w := fun _ => rfl
  rw [hex]
  have hr := hrec c₀ cs hu
  have key : wpOpsS P #[({ dst := some d, op := .call ⟨.builtin .recover, #[], tys⟩, type := ty, pos := pos, after := #[], guard := none } : Oper)] (Exit.thenS (rest.wpS P (bodyPostS P fn c₀ cs fun e u'' w' => e ≠ .outgrown ∧ ∃ L', (e = .returned (.tuple #[]) ∧ u'' = u' ∧ R L') ∧ Sat (hp w') L')) (bodyPostS P fn c₀ cs fun e u'' w' => e ≠ .outgrown ∧ ∃ L', (e = .returned (.tuple #[]) ∧ u'' = u' ∧ R L') ∧ Sat (hp w') L')) []
      (Act.put { tmps := args ++ Array.replicate (fn.ntmps - args.size) undef, defers := [] } (some d) v) ({ c₀ with mode := u' } :: cs) w := by
    unfold wpOpsS
    refine wpS_of_wp (wp_mono (h.wp _ w ?_ ?_ ?_ hw) ?_)
    · rw [Act.put_size]; simp; omega
    · refine EnvSat.put (a := .v v) (argEnv_sat _ _ _ fun j v hj => ?_) ?_ 
      · have hlt : j < args.size := by
          have := (List.getElem?_eq_some_iff.1 hj).1
          simpa using this
        rw [Nat.zero_add, Array.getElem?_append_left hlt, ← Array.getElem?_toList]
        exact hj
      · simp; omega
    · rfl
    · intro e a w' hh
      cases e with
      | normal =>
        obtain ⟨E', D', L', ⟨h1, x, L'', h2, hd, h3⟩, _, h4, h5, h6⟩ := hh
        have hx := resV_run (P := P) (rs := []) (by rw [hrs]) h4 h2 w'
        obtain rfl : x = .tuple #[] := by simp only [resV, Option.some.injEq] at h2; exact h2.symm
        exact ⟨h5.trans h1, u', rfl, _, hx, nofun, L'', ⟨rfl, rfl, h3⟩, hd _ h6⟩
      | ret =>
        obtain ⟨E', D', L', ⟨h1, x, L'', h2, hd, h3⟩, _, h4, h5, h6⟩ := hh
        have hx := resV_run (P := P) (rs := []) (by rw [hrs]) h4 h2 w'
        obtain rfl : x = .tuple #[] := by simp only [resV, Option.some.injEq] at h2; exact h2.symm
        exact ⟨h5.trans h1, u', rfl, _, hx, nofun, L'', ⟨rfl, rfl, h3⟩, hd _ h6⟩
      | panic c =>
        obtain ⟨D', L', ⟨h1, h2⟩, h5, h6⟩ := hh
        exact h2.elim
      | exit id => obtain ⟨_, _, _, h, _⟩ := hh; exact h
      | goto id => obtain ⟨_, _, _, h, _⟩ := hh; exact h
      | outgrown => exact hh.elim
  cases hq : recoverD (c₀ :: cs) with
  | none =>
    rw [hq] at hr
    simp only [Prod.mk.injEq] at hr
    obtain ⟨rfl, hr2⟩ := hr
    simp only [hr2]
    exact key
  | some p =>
    obtain ⟨v', cs'⟩ := p
    rw [hq] at hr
    simp only [Prod.mk.injEq] at hr
    obtain ⟨rfl, rfl⟩ := hr
    exact key
theorem CtD.panicking {f : FuncId} {fn : Func} {r : Nat} {tys : Array TypeId} {rest : Code} {args : Array Value} {v : Value} {R : List Assn → Prop} (hf : P.funcs[f]? = some fn)
    (hb : fn.body = some (.seq (.region r #[⟨some d, .call ⟨.builtin .recover, #[], tys⟩, ty, pos, #[], none⟩] false) rest)) (hn : fn.ntmps = n) (hrs : fn.results = #[]) (hsz : Nat.ble args.size d = true) (hdn : Nat.blt d n = true)
    (h : Wp P n rest (BodyPost [] (ret fun _ L' => R L')) ((d, .v v) :: argEnv 0 args.toList) [] L) : CtD P f args (.panicking [{ v, recovered := false }]) L (fun e u'' L' => e = .returned (.tuple #[]) ∧ u'' = .panicking [{ v, recovered := true }] ∧ R L') :=
  CtD.of hf hb hn hrs hsz hdn (fun c cs h => by rw [recoverD_p h]) h
theorem CtD.returning {f : FuncId} {fn : Func} {r : Nat} {tys : Array TypeId} {rest : Code} {args : Array Value} {R : List Assn → Prop} (hf : P.funcs[f]? = some fn)
    (hb : fn.body = some (.seq (.region r #[⟨some d, .call ⟨.builtin .recover, #[], tys⟩, ty, pos, #[], none⟩] false) rest)) (hn : fn.ntmps = n) (hrs : fn.results = #[]) (hsz : Nat.ble args.size d = true) (hdn : Nat.blt d n = true)
    (h : Wp P n rest (BodyPost [] (ret fun _ L' => R L')) ((d, .v .nilIface) :: argEnv 0 args.toList) [] L) : CtD P f args .returning L (fun e u'' L' => e = .returned (.tuple #[]) ∧ u'' = .returning ∧ R L') :=
  CtD.of hf hb hn hrs hsz hdn (fun c cs h => by rw [recoverD_r h]; simp only [← h]) h

/-! ## A function that defers one closure -/
theorem WpO.defer [Nxt m m'] {f : FuncId} {cap : Array Value} {tys : Array TypeId} (hx : opv x E = some (c1, .func (.func f) #[] cap)) [Imp true c1] (hk : Keeps m L)
    (h : WpO P n ops Q m' rest E ({ target := .fn (.func f) cap, args := #[] } :: D) L) : WpO P n ops Q m (⟨none, .defer ⟨.value x, #[], tys⟩, ty, pos, af, none⟩ :: rest) E D L :=
  WpO.loud (m' := m') rfl fun a w K h1 h2 h3 h4 hK => by
    rw [if_pos (GuardIs.none (ops := ops) (E := E) rfl a h2)]
    unfold Oper.wp
    have he : (execOp a.eval ⟨none, .defer ⟨.value x, #[], tys⟩, ty, pos, af, none⟩).run P w = .ok (.defer { target := .fn (.func f) cap, args := #[] }) w := by
      show (do pure (Next.defer (← Deferred.ofValue (a.eval x) (#[].map a.eval))) : Sem Next).run P w = _
      rw [EvG.of (g := true) hx a h2 rfl, show (#[] : Array Operand).map a.eval = #[] from by simp]
      rfl
    rw [he]
    exact hK _ w E _ L h1 h2 (by rw [Act.put_defers', ← h3]) h4 hk h

def Leave (P : Program) (rs : List ResultVar) (R : Ending → List Assn → Prop) (E : Env) : FrameMode → List Assn → Prop
  | .returning, L => ∃ xs L', RVs P E L rs xs ∧ LeL L L' ∧ R (.returned (packV xs)) L'
  | .panicking c, L => R (.panicked c) L
  | .run, _ => False
def EndE (P : Program) (rs : List ResultVar) (R : Ending → List Assn → Prop) (u : FrameMode) (E : Env) : List Deferred → List Assn → Prop
  | [], L => Leave P rs R E u L
  | [d], L => u ≠ .run ∧ ∃ (f : FuncId) (cap : Array Value) (u' : FrameMode) (φ : List Assn → Prop), d = { target := .fn (.func f) cap, args := #[] } ∧ (∀ (args : Array Value) (w : World), Sem.run P (callFunc f args) w = .ok (.enter f args) w) ∧
      CtD P f cap u L (fun e u'' L' => e = .returned (.tuple #[]) ∧ u'' = u' ∧ φ L') ∧ ∀ L', φ L' → Leave P rs R E (settle u') L'
  | _, _ => False
def BodyPostE (P : Program) (rs : List ResultVar) (R : Ending → List Assn → Prop) : Post
  | .normal, E, D, L | .ret, E, D, L => EndE P rs R .returning E D L
  | .panic c, E, D, L => EndE P rs R (.panicking c) E D L
  | _, _, _, _ => False
theorem Leave.leaves {rs : List ResultVar} {R : Ending → List Assn → Prop} {fn : Func} {u : FrameMode} {tm : Array Value} {w : World} (hrs : fn.results = rs.toArray) (ht : EnvSat E tm) (hs : Sat (hp w) L) (h : Leave P rs R E u L) :
    Leaves P fn tm (fun e w' => e ≠ .outgrown ∧ ∃ L', R e L' ∧ Sat (hp w') L') [] u w := by
  cases u with
  | run => exact h
  | returning =>
    obtain ⟨xs, L', h1, h2, h3⟩ := h
    exact ⟨_, h1.results hrs ht hs, nofun, L', h3, h2 _ hs⟩
  | panicking c => exact ⟨nofun, L, h, hs⟩
theorem EndE.leaves {rs : List ResultVar} {R : Ending → List Assn → Prop} {fn : Func} {u : FrameMode} {tm : Array Value} {w : World} (hrs : fn.results = rs.toArray) (ht : EnvSat E tm) (hs : Sat (hp w) L) : ∀ {D : List Deferred}, EndE P rs R u E D L →
    Leaves P fn tm (fun e w' => e ≠ .outgrown ∧ ∃ L', R e L' ∧ Sat (hp w') L') D u w
  | [], h => Leave.leaves hrs ht hs h
  | [d], h => by
    obtain ⟨hu, f, cap, u', φ, rfl, hc, hct, hl⟩ := h
    refine leaves_cons hu (f := f) (args := cap) ?_ ((hct w hs).mono fun e u'' w' ⟨_, L', ⟨e1, e2, h3⟩, hs'⟩ => ?_)
    · have := hc (#[] ++ cap) w
      rw [Array.empty_append] at this
      show (callFunc f (#[] ++ cap)).run P w = _
      rw [Array.empty_append]; exact this
    · subst e1; subst e2
      exact Leave.leaves hrs ht hs' (hl _ h3)
  | _ :: _ :: _, h => h.elim
theorem Ct.bodyE {f : FuncId} {fn : Func} {c : Code} {args : Array Value} {R : Ending → List Assn → Prop} {rs : List ResultVar} (hf : P.funcs[f]? = some fn) (hb : fn.body = some c)
    (hn : fn.ntmps = n) (hrs : fn.results = rs.toArray) (hsz : Nat.ble args.size n = true)
    (h : WpE P n c (BodyPostE P rs R) (argEnv 0 args.toList) [] L) : Ct P f args L R := fun w hw => by
  refine calls_of_wp_defers hf hb (wp_mono (h _ w ?_ ?_ rfl hw) ?_)
  · have := bleLe hsz
    simp; omega
  · refine argEnv_sat _ _ _ fun j v hj => ?_
    have hlt : j < args.size := by
      have := (List.getElem?_eq_some_iff.1 hj).1
      simpa using this
    rw [Nat.zero_add, Array.getElem?_append_left hlt, ← Array.getElem?_toList]
    exact hj
  · intro e a w' hh
    cases e with
    | normal => obtain ⟨E', D', L', h1, _, h4, h5, h6⟩ := hh; subst h5; exact EndE.leaves hrs h4 h6 h1
    | ret => obtain ⟨E', D', L', h1, _, h4, h5, h6⟩ := hh; subst h5; exact EndE.leaves hrs h4 h6 h1
    | panic c => obtain ⟨E', D', L', h1, _, h4, h5, h6⟩ := hh; subst h5; exact EndE.leaves hrs h4 h6 h1
    | exit id => obtain ⟨_, _, _, h, _⟩ := hh; exact h
    | goto id => obtain ⟨_, _, _, h, _⟩ := hh; exact h
    | outgrown => exact hh.elim
end
end Go.Ab
end

section
/- The calculus: parts packed as one. -/
namespace Go.Ab
open Go

/-- Parts as one, of which something is known. -/
def pkgA (φ : List Assn → Prop) : Assn := fun h => ∃ M, φ M ∧ Sat h M
theorem Sat.flat : ∀ {M L : List Assn} {k h : Hp}, Hp.le h k → Sat h M → Sat (Hp.diff k h) L → Sat k (M ++ L)
  | [], _, _, _, _, _, s => Sat.mono (Hp.diff_le _ _) s
  | A :: M, L, k, h, hk, ⟨h1, l1, a1, s1⟩, s => by
    have hle : Hp.le (Hp.diff k h) (Hp.diff (Hp.diff k h1) (Hp.diff h h1)) := ⟨fun b o e => by
      have e : (if (h b).isSome then none else k b) = some o := e
      show (if (if (h1 b).isSome then none else h b).isSome then none else (if (h1 b).isSome then none else k b)) = some o
      split at e
      · cases e
      · rename_i hb
        have hn : ¬ (h1 b).isSome = true := fun q => by
          obtain ⟨x, hx⟩ := Option.isSome_iff_exists.1 q
          rw [l1 b x hx] at hb; exact hb rfl
        rw [if_neg hn, if_neg hn, if_neg hb]; exact e, rfl, Nat.le_refl _⟩
    exact ⟨h1, Hp.le_trans l1 hk, a1, Sat.flat (Hp.diff_mono h1 hk) s1 (Sat.mono hle s)⟩
theorem Sat.pack : ∀ {M L : List Assn} {k : Hp}, Sat k (M ++ L) → ∃ h, Hp.le h k ∧ Sat h M ∧ Sat (Hp.diff k h) L
  | [], L, k, s => by
    have hle : Hp.le k (Hp.diff k ⟨fun _ => none, k.met, 0⟩) := ⟨fun b o e => by
      show (if (none : Option Obj).isSome then none else k b) = some o
      rw [if_neg (by simp)]; exact e, rfl, Nat.le_refl _⟩
    exact ⟨⟨fun _ => none, k.met, 0⟩, ⟨fun _ _ e => (by cases e), rfl, Nat.zero_le _⟩, trivial, Sat.mono hle s⟩
  | A :: M, L, k, ⟨h1, l1, a1, s1⟩ => by
    obtain ⟨h2, l2, s2, s3⟩ := Sat.pack (M := M) s1
    have hdis : ∀ b o, h2 b = some o → ¬ (h1 b).isSome = true ∧ k b = some o := fun b o e => by
      have : (if (h1 b).isSome then none else k b) = some o := l2 b o e
      split at this
      · cases this
      · rename_i hn; exact ⟨hn, this⟩
    have le1 : Hp.le ⟨fun b => if (h1 b).isSome then h1 b else h2 b, k.met, k.sz⟩ k := ⟨fun b o e => by
      have e : (if (h1 b).isSome then h1 b else h2 b) = some o := e
      split at e
      · exact l1 b o e
      · exact (hdis b o e).2, rfl, Nat.le_refl _⟩
    have le2 : Hp.le h1 ⟨fun b => if (h1 b).isSome then h1 b else h2 b, k.met, k.sz⟩ := ⟨fun b o e => by
      show (if (h1 b).isSome then h1 b else h2 b) = some o
      rw [if_pos (by rw [e]; rfl)]; exact e, l1.m, l1.s⟩
    have le3 : Hp.le h2 (Hp.diff ⟨fun b => if (h1 b).isSome then h1 b else h2 b, k.met, k.sz⟩ h1) := ⟨fun b o e => by
      show (if (h1 b).isSome then none else (if (h1 b).isSome then h1 b else h2 b)) = some o
      rw [if_neg (hdis b o e).1, if_neg (hdis b o e).1]; exact e, l2.m, l2.s⟩
    have le4 : Hp.le (Hp.diff (Hp.diff k h1) h2) (Hp.diff k ⟨fun b => if (h1 b).isSome then h1 b else h2 b, k.met, k.sz⟩) := ⟨fun b o e => by
      have e : (if (h2 b).isSome then none else (if (h1 b).isSome then none else k b)) = some o := e
      show (if (if (h1 b).isSome then h1 b else h2 b).isSome then none else k b) = some o
      split at e
      · cases e
      · rename_i hn2
        split at e
        · cases e
        · rename_i hn1
          rw [if_neg hn1, if_neg hn2]; exact e, rfl, Nat.le_refl _⟩
    exact ⟨_, le1, ⟨h1, le2, a1, Sat.mono le3 s2⟩, Sat.mono le4 s3⟩
theorem Sat.openP {φ : List Assn → Prop} {L : List Assn} {k : Hp} (h : Sat k (pkgA φ :: L)) : ∃ M, φ M ∧ Sat k (M ++ L) := by
  obtain ⟨h1, l1, ⟨M, hM, hs⟩, s⟩ := h
  exact ⟨M, hM, Sat.flat l1 hs s⟩
theorem Sat.closeP {φ : List Assn → Prop} {L M : List Assn} {k : Hp} (hM : φ M) (h : Sat k (M ++ L)) : Sat k (pkgA φ :: L) := by
  obtain ⟨h1, l1, hs, s⟩ := Sat.pack h
  exact ⟨h1, l1, ⟨M, hM, hs⟩, s⟩
theorem LeL.closeP {φ : List Assn → Prop} {L M : List Assn} (hM : φ M) : LeL (M ++ L) (pkgA φ :: L) := fun _ h => Sat.closeP hM h
theorem LeL.erase {L : List Assn} (i : Nat) : LeL L (L.eraseIdx i) := fun k h => by
  rcases Nat.lt_or_ge i L.length with q | q
  · exact (Sat.pull (List.getElem?_eq_getElem q) h).tail
  · rw [List.eraseIdx_of_length_le q]; exact h
section
variable {P : Program} {n : Nat} {ops : Array Oper} {Q : Post} {m m' : Md} {rest : List Oper} {E : Env} {D : List Deferred} {L : List Assn} {ty : TypeId} {pos : String} {af : Array Edge} {x y : Operand} {c1 c2 g : Bool} {d : Nat} {t : TypeId}
theorem Wp.openP {c : Code} {φ : List Assn → Prop} (i : Nat) (hi : L[i]? = some (pkgA φ)) (h : ∀ M, φ M → Wp P n c Q E D (M ++ L.eraseIdx i)) : Wp P n c Q E D L := fun a w h1 h2 h3 h4 => by
  obtain ⟨M, hM, hs⟩ := Sat.openP (Sat.pull hi h4)
  exact h M hM a w h1 h2 h3 hs
theorem Ct.openP {f : FuncId} {args : Array Value} {R : Ending → List Assn → Prop} {φ : List Assn → Prop} (i : Nat) (hi : L[i]? = some (pkgA φ)) (h : ∀ M, φ M → Ct P f args (M ++ L.eraseIdx i) R) : Ct P f args L R := fun w hw => by
  obtain ⟨M, hM, hs⟩ := Sat.openP (Sat.pull hi hw)
  exact h M hM w hs
theorem WpO.openP {φ : List Assn → Prop} {l : List Oper} (i : Nat) (hi : L[i]? = some (pkgA φ)) (h : ∀ M, φ M → WpO P n ops Q .seq l E D (M ++ L.eraseIdx i)) : WpO P n ops Q .seq l E D L :=
  ⟨fun a w h1 h2 h3 h4 => by
    obtain ⟨M, hM, hs⟩ := Sat.openP (Sat.pull hi h4)
    exact (h M hM).1 a w h1 h2 h3 hs, fun pl listed hp hb a w h1 h2 h3 h4 => by
    obtain ⟨M, hM, hs⟩ := Sat.openP (Sat.pull hi h4)
    exact (h M hM).2 pl listed hp hb a w h1 h2 h3 hs⟩
/-- Of a contract on the first part, one on the part wherever it stands. -/
theorem Ct.pull {f : FuncId} {args : Array Value} {R : Ending → List Assn → Prop} {A : Assn} (i : Nat) (hi : L[i]? = some A) (h : Ct P f args (A :: L.eraseIdx i) R) : Ct P f args L R := h.weaken fun _ s => Sat.pull hi s
theorem LeL.set {A A' : Assn} (i : Nat) (hi : L[i]? = some A) : LeL (A' :: L.eraseIdx i) (L.set i A') := fun _ s => Sat.set hi s
theorem Ct.wkR {f : FuncId} {args : Array Value} {R R' : Ending → List Assn → Prop} (h : Ct P f args L R) (hR : ∀ e L', R e L' → ∃ L'', LeL L' L'' ∧ R' e L'') : Ct P f args L R' :=
  fun w hw => (h w hw).mono fun e w' ⟨h0, L', h1, h2⟩ => by
    obtain ⟨L'', q1, q2⟩ := hR _ _ h1
    exact ⟨h0, L'', q2, q1 _ h2⟩
/-- A call of a method value, or of a closure, that may panic. -/
theorem WpO.callmP [Nxt m m'] {f : FuncId} {args : List Operand} {tys : Array TypeId} {vs : List Value} {fst cap : Array Value} {φ ψ : Value → List Assn → Prop} (hc : ∀ (args : Array Value) (w : World), Sem.run P (callFunc f args) w = .ok (.enter f args) w) (h0 : Nat.blt d n = true) (hx : opv x E = some (true, .func (.func f) fst cap)) (hargs : EvsG E true args vs)
    (hct : Ct P f (fst.toList ++ vs ++ cap.toList).toArray L (retP φ ψ)) (hp' : ∀ v L', ψ v L' → Q (.panic [{ v, recovered := false }]) [] D L') (h : ∀ v L', φ v L' → Keeps m L' ∧ WpO P n ops Q m' rest ((d, .v v) :: E) D L') : WpO P n ops Q m (⟨some d, .call ⟨.value x, args.toArray, tys⟩, ty, pos, af, Option.none⟩ :: rest) E D L :=
  WpO.op rfl h0 (OpT.callM hc hx hargs hct) (fun _ _ ⟨_, e, q⟩ => by subst e; exact hp' _ _ q) h
end
end Go.Ab
end

section
/- A range over a function: the rule. -/
namespace Go.Ab
open Go

/-- The block for a loop's deferred calls: there are none. -/
def defA (b : Nat) : Assn := fun h => h b = some (.deferred (some []))
/-- A loop's record. -/
def recA (b : Nat) (r : Loop) : Assn := fun h => h b = some (.loop r)
/-- What an iterator does with whatever loop: J: what holds between two rounds, Jx: behind one that said no more. -/
def IterOk {α : Type} (P : Program) (gf : FuncId) (lb : Array Value) (encs : α → Array Value) (ys : List α) (L0 : List Assn) : Prop :=
  ∀ (l : Nat) (J : List α → List Assn) (Jx : List α → Hp → Prop), (∀ pre, LeL (J pre) L0) →
    (∀ pre x W, Sat (hp W) (J pre) → (pre ++ [x]) <+: ys → YieldAt Fence.wide 0 P l (encs x) W fun e W' => (e = .returned (.bool true) ∧ Sat (hp W') (J (pre ++ [x]))) ∨ (e = .returned (.bool false) ∧ Jx (pre ++ [x]) (hp W'))) →
    ∀ W, Sat (hp W) (J []) → CallsIn Fence.wide 1 P gf (#[.func (.yield l) #[] #[]] ++ lb) W fun e W' => (∃ v, e = .returned v) ∧ (Sat (hp W') (J ys) ∨ ∃ pre, pre <+: ys ∧ Jx pre (hp W'))
theorem Sat.turn1 {w : World} {b : Nat} {o o' : Obj} {L : List Assn} (h : Sat (hp w) ((fun h => h b = some o) :: L)) : Sat (hp (w.putObj b o')) ((fun h => h b = some o') :: L) := by
  have hb : w.heap[b]? = some o := by
    obtain ⟨h0, l0, a0, _⟩ := h
    exact l0 _ _ a0
  have hlt := (Array.getElem?_eq_some_iff.1 hb).1
  have hset : (hp (w.putObj b o')) b = some o' := World.putObj_heap_same hlt
  refine Sat.turn (b := b) h (fun h ha => ⟨_, ha⟩) (fun x hx => World.putObj_heap_other hx) (fun h ha hle => ?_) (by rw [hset]; rfl) rfl (Nat.le_of_eq (by show w.heap.size = (w.heap.setIfInBounds _ _).size; simp))
  show (if b = b then (hp (w.putObj b o')) b else h b) = _
  rw [if_pos rfl, hset]
theorem Sat.rot {A : Assn} {L : List Assn} {k : Hp} (h : Sat k (L ++ [A])) : Sat k (A :: L) := h.perm (List.perm_append_singleton A L)
theorem Sat.rot' {A : Assn} {L : List Assn} {k : Hp} (h : Sat k (A :: L)) : Sat k (L ++ [A]) := h.perm (List.perm_append_singleton A L).symm
section
variable {P : Program} {n : Nat} {Q : Post} {E : Env} {D : List Deferred} {L : List Assn}
/-- The parameters of yield are set. -/
def psE : List (Tmp × Value) → Env → Env
  | [], E => E
  | (p, v) :: r, E => psE r ((p, .v v) :: E)
theorem psE_sat : ∀ (l : List (Tmp × Value)) (E : Env) (t : Array Value), (∀ x ∈ l, x.1 < t.size) → EnvSat E t → EnvSat (psE l E) (l.foldl (fun t x => t.setIfInBounds x.1 x.2) t) ∧ (l.foldl (fun t x => t.setIfInBounds x.1 x.2) t).size = t.size
  | [], _, _, _, h => ⟨h, rfl⟩
  | (p, v) :: r, E, t, hl, h => by
    have hp := hl (p, v) (by simp)
    have h1 : EnvSat ((p, .v v) :: E) (t.setIfInBounds p v) := EnvSat.put h hp (.v v)
    obtain ⟨w1, w2⟩ := psE_sat r ((p, .v v) :: E) (t.setIfInBounds p v) (fun x hx => by rw [Array.size_setIfInBounds]; exact hl x (by simp [hx])) h1
    exact ⟨w1, by rw [List.foldl_cons, w2, Array.size_setIfInBounds]⟩
/-- Behind a round's assignments. -/
def PostA (K : Env → List Assn → Prop) : Post
  | .normal, E, D, L => D = [] ∧ K E L
  | _, _, _, _ => False
/-- Behind a round's body: it goes on, or leaves. -/
def PostB (K : List Assn → Prop) (X : Code → List Assn → Prop) : Post
  | .normal, _, _, L => K L
  | .ret, _, _, L => X .ret L
  | .exit id, _, _, L => X (.exit id) L
  | .goto t, _, _, L => X (.goto t) L
  | _, _, _, _ => False
theorem Wp.rangeFunc {α : Type} {g : Operand} {ps : List Tmp} {assign body : Code} {gf : FuncId} {lb : Array Value} {encs : α → List Value} {ys : List α} {L0 : List Assn} (Lp : List α → List Assn) (X : Code → List α → List Assn → Prop)
    (hg : opv g E = some (true, .func (.func gf) #[] lb)) (eg : ∀ args w, (callFunc gf args).run P w = .ok (.enter gf args) w) (hps : ∀ x, (encs x).length = ps.length) (hpn : ∀ p ∈ ps, p < n)
    (hIt : IterOk P gf lb (fun x => (encs x).toArray) ys L0) (h0 : LeL L (Lp [] ++ L0)) (hda : noDefer assign = true) (hdb : noDefer body = true)
    (round : ∀ pre x M, LeL M L0 → (pre ++ [x]) <+: ys → Wp P n assign (PostA fun E' L' => ∃ L2, LeL L' (L2 ++ M) ∧ ∀ M', LeL M' L0 → Wp P n body (PostB (fun L3 => LeL L3 (Lp (pre ++ [x]) ++ M')) (fun c L3 => ∃ L4, X c (pre ++ [x]) L4 ∧ LeL L3 (L4 ++ M'))) E' [] (L2 ++ M')) (psE (ps.zip (encs x)) E) [] (Lp pre ++ M))
    (done : ∀ d, Q .normal E ({ target := .collected d, args := #[] } :: D) (Lp ys ++ (L0 ++ [defA d])))
    (stop : ∀ d c pre L4, pre <+: ys → X c pre L4 → Wp P n c Q E ({ target := .collected d, args := #[] } :: D) (L4 ++ (L0 ++ [defA d]))) :
    Wp P n (.rangeFunc g ps.toArray assign body) Q E D L := by
  intro a w h1 h2 h3 h4 r hr
  obtain rfl := hr.resolve_right (by simp [noDefer])
  refine wpIn_wide.2 ((wpIn_wide (n := 2)).1 ?_)
  refine wpIn_rangeFunc fun fn _ => ?_
  have hge := EvG.of (g := true) hg a h2 rfl
  obtain ⟨rec, hrec⟩ : ∃ rec : LoopState → Option Code → Loop, rec = fun st pe => { state := st, pending := pe, fn, tmps := a.tmps, params := ps.toArray, assign, body, defers := w.heap.size } := ⟨_, rfl⟩
  obtain ⟨W1, hW1⟩ : ∃ W1, (w.alloc (.deferred (some []))).alloc (.loop (rec .ready none)) = W1 := ⟨_, rfl⟩
  refine ⟨w.heap.size + 1, [{ target := .collected w.heap.size, args := #[] }], W1, { target := .fn (.func gf) lb, args := #[.func (.yield (w.heap.size + 1)) #[] #[]] }, W1, gf,
    #[.func (.yield (w.heap.size + 1)) #[] #[]] ++ lb, W1, ?_, ?_, ?_, ?_, fun q => (by cases q), ?_⟩
  · rw [← hW1, hrec]; exact run_enterLoop_outer _ _ _ _ _
  · simp only [resolve, hge]
    simp [go_sem]
  · intro f' _; trivial
  · simp [invoke, go_sem, eg]
  have hlast : ∀ {W : World} {M : List Assn} {b : Nat} {o : Obj}, Sat (hp W) (M ++ (L0 ++ [defA w.heap.size, (fun h => h b = some o)])) → Sat (hp W) ((fun h : Hp => h b = some o) :: (M ++ (L0 ++ [defA w.heap.size]))) := fun hs => by
    refine Sat.rot ?_
    rw [List.append_assoc, List.append_assoc]; exact hs
  have hback : ∀ {W : World} {M : List Assn} {b : Nat} {o : Obj}, Sat (hp W) ((fun h : Hp => h b = some o) :: (M ++ (L0 ++ [defA w.heap.size]))) → Sat (hp W) (M ++ (L0 ++ [defA w.heap.size, (fun h => h b = some o)])) := fun hs => by
    have := Sat.rot' hs
    rw [List.append_assoc, List.append_assoc] at this; exact this
  have hat : ∀ {W : World} {b : Nat} {o : Obj} {M : List Assn}, Sat (hp W) ((fun h : Hp => h b = some o) :: M) → W.heap[b]? = some o := fun hs => by
    obtain ⟨h0, l0, a0, _⟩ := hs
    exact l0 _ _ a0
  have hM0 : ∀ (A B : Assn), LeL (L0 ++ [A, B]) L0 := fun A B k s => Sat.take s
  have hJ0 : Sat (hp W1) (Lp [] ++ (L0 ++ [defA w.heap.size, recA (w.heap.size + 1) (rec .ready none)])) := by
    have s1 := Sat.new (A := defA w.heap.size) (Hp.single_at w (.deferred (some []))) (h0 _ h4)
    have s2 := Sat.new (w := w.alloc (.deferred (some []))) (A := recA (w.alloc (.deferred (some []))).heap.size (rec .ready none)) (Hp.single_at _ (.loop (rec .ready none))) s1
    have s3 : Sat (hp W1) (recA (w.heap.size + 1) (rec .ready none) :: defA w.heap.size :: (Lp [] ++ L0)) := by
      rw [← hW1]
      rw [World.size_alloc] at s2
      exact s2
    refine s3.perm ?_
    rw [← List.append_assoc]
    exact ((List.Perm.swap _ _ _).trans (List.perm_append_comm (l₁ := [defA w.heap.size, recA (w.heap.size + 1) (rec .ready none)])))
  refine (hIt (w.heap.size + 1) (fun pre => Lp pre ++ (L0 ++ [defA w.heap.size, recA (w.heap.size + 1) (rec .ready none)]))
    (fun pre h => ∃ c L4, X c pre L4 ∧ Sat h (L4 ++ (L0 ++ [defA w.heap.size, recA (w.heap.size + 1) (rec .done (some c))])))
    (fun pre k s => Sat.take (Sat.drop (Lp pre) s)) ?_ W1 hJ0).mono ?_
  · intro pre x W hs hlen
    have hl := hat (hlast hs)
    have hy := run_yield (P := P) (args := (encs x).toArray) hl (by rw [hrec]; simp [hps x])
    rw [hrec] at hy
    refine ⟨fn, _, assign, body, hy, roundIn_of_wpIn trivial ?_⟩
    clear hy
    obtain ⟨t1, t2⟩ := psE_sat (ps.zip (encs x)) E a.tmps (fun y hy => by rw [h1]; exact hpn _ (List.of_mem_zip hy).1) h2
    have hfold : (ps.toArray.zip (encs x).toArray).foldl (fun tmps (y : Tmp × Value) => tmps.setIfInBounds y.1 y.2) a.tmps = (ps.zip (encs x)).foldl (fun t y => t.setIfInBounds y.1 y.2) a.tmps := by
      rw [← Array.foldl_toList]; simp
    have hA := round pre x (L0 ++ [defA w.heap.size, recA (w.heap.size + 1) (rec .ready none)]) (hM0 _ _) hlen { tmps := (ps.toArray.zip (encs x).toArray).foldl (fun tmps (y : Tmp × Value) => tmps.setIfInBounds y.1 y.2) a.tmps, defers := [] } W (by rw [hfold]; exact t2.trans h1) (by rw [hfold]; exact t1) rfl hs (some (w.heap.size + 1)) (.inr hda)
    refine wpIn_mono hA fun e a1 w1 hh => ?_
    cases e with
    | normal =>
      obtain ⟨E', D', L', ⟨hD, L2, hL2, hB⟩, q1, q2, q3, q4⟩ := hh
      have s1 := hlast (hL2 _ q4)
      have hl1 := hat s1
      refine ⟨_, run_beginRound hl1 (by rw [hrec]), ?_⟩
      have s2 := hback (Sat.turn1 (o' := .loop { rec .ready none with state := .busy }) s1)
      refine wpIn_mono (hB (L0 ++ [defA w.heap.size, recA (w.heap.size + 1) { rec .ready none with state := .busy }]) (hM0 _ _) a1 _ q1 q2 (q3.trans hD) s2 (some (w.heap.size + 1)) (.inr hdb)) fun e a3 w3 hp3 => ?_
      have fin : ∀ (jump : Option Code) (M : List Assn), Sat (hp w3) (M ++ (L0 ++ [defA w.heap.size, recA (w.heap.size + 1) { rec .ready none with state := .busy }])) → ∃ w4, (Instr.endRound (w.heap.size + 1) jump).run P w3 = .ok (.bool jump.isNone) w4 ∧ Sat (hp w4) (M ++ (L0 ++ [defA w.heap.size, recA (w.heap.size + 1) (rec (if jump.isNone then .ready else .done) jump)])) := fun jump M sM => by
        have s3 := hlast sM
        have hl3 := hat s3
        refine ⟨_, run_endRound (P := P) jump hl3, ?_⟩
        have := hback (Sat.turn1 (o' := .loop (rec (if jump.isNone then .ready else .done) jump)) s3)
        rw [hrec] at this ⊢
        exact this
      cases e with
      | normal =>
        obtain ⟨E3, D3, L3, hL3, _, _, _, q4⟩ := hp3
        obtain ⟨w4, r1, r2⟩ := fin none _ (hL3 _ q4)
        exact ⟨_, w4, r1, .inl ⟨rfl, r2⟩⟩
      | ret =>
        obtain ⟨E3, D3, L3, ⟨L4, hX, hL3⟩, _, _, _, q4⟩ := hp3
        obtain ⟨w4, r1, r2⟩ := fin (some .ret) _ (hL3 _ q4)
        exact ⟨_, w4, r1, .inr ⟨rfl, _, _, hX, r2⟩⟩
      | exit id =>
        obtain ⟨E3, D3, L3, ⟨L4, hX, hL3⟩, _, _, _, q4⟩ := hp3
        obtain ⟨w4, r1, r2⟩ := fin (some (.exit id)) _ (hL3 _ q4)
        exact ⟨_, w4, r1, .inr ⟨rfl, _, _, hX, r2⟩⟩
      | goto id =>
        obtain ⟨E3, D3, L3, ⟨L4, hX, hL3⟩, _, _, _, q4⟩ := hp3
        obtain ⟨w4, r1, r2⟩ := fin (some (.goto id)) _ (hL3 _ q4)
        exact ⟨_, w4, r1, .inr ⟨rfl, _, _, hX, r2⟩⟩
      | panic c => obtain ⟨_, _, h, _⟩ := hp3; exact h
      | outgrown => exact hp3
    | panic c => obtain ⟨_, _, h, _⟩ := hh; exact h
    | outgrown => exact hh
    | _ => obtain ⟨_, _, _, h, _⟩ := hh; exact h
  · rintro e W2 ⟨⟨v, rfl⟩, (hs | ⟨pre, hpre, c, L4, hX, hs⟩)⟩
    · have s1 := hlast hs
      have hl := hat s1
      have hr := run_endLoop (P := P) hl (by rw [hrec]; simp)
      refine ⟨_, _, hr, ?_⟩
      have hpe : (rec .ready none).pending = none := by rw [hrec]
      rw [hpe]
      exact ⟨E, _, _, done w.heap.size, h1, h2, by rw [h3]; rfl, (Sat.turn1 s1).tail⟩
    · have s1 := hlast hs
      have hl := hat s1
      have hr := run_endLoop (P := P) hl (by rw [hrec]; simp)
      refine ⟨_, _, hr, ?_⟩
      have hpe : (rec .done (some c)).pending = some c := by rw [hrec]
      rw [hpe]
      exact (wpIn_wide (n := 2)).2 ((stop w.heap.size c pre L4 hpre hX).wp _ _ h1 h2 (by rw [h3]; rfl) (Sat.turn1 s1).tail)
end
end Go.Ab
end

section
/- A function that holds a range over a function: its contract, out of its body. -/
namespace Go.Ab
open Go

def markD (d : Nat) : Deferred := { target := .collected d, args := #[] }
section
variable {P : Program} {n : Nat} {Q : Post} {E : Env} {D : List Deferred} {L : List Assn}
def BodyPostM (P : Program) (rs : List ResultVar) (R : Ending → List Assn → Prop) : Post
  | .normal, E, D, L | .ret, E, D, L => ∃ ds : List Nat, D = ds.map markD ∧ ∃ L0 xs L', LeL L (ds.map defA ++ L0) ∧ RVs P E L0 rs xs ∧ LeL L0 L' ∧ R (.returned (packV xs)) L'
  | .panic c, _, D, L => ∃ ds : List Nat, D = ds.map markD ∧ ∃ L0, LeL L (ds.map defA ++ L0) ∧ R (.panicked c) L0
  | _, _, _, _ => False
theorem leaves_marks {fn : Func} {t : Array Value} {R : Ending → World → Prop} {u : FrameMode} (hu : u ≠ .run) {L0 : List Assn} (h : ∀ w', Sat (hp w') L0 → LeavesIn Fence.wide 0 P fn t R [] u w') :
    ∀ (ds : List Nat) (w : World), Sat (hp w) (ds.map defA ++ L0) → LeavesInM Fence.wide 0 P fn t R (ds.map markD) u w
  | [], w, hs => h w hs
  | d :: ds, w, hs => by
    have hk : w.heap[d]? = some (.deferred (some [])) := by
      obtain ⟨h0, l0, a0, _⟩ := hs
      exact l0 _ _ a0
    exact ⟨hu, .inl ⟨d, _, rfl, run_takeDeferred hk, leaves_marks hu h ds _ (Sat.turn1 hs).tail⟩⟩
theorem Ct.bodyM {f : FuncId} {fn : Func} {c : Code} {args : Array Value} {R : Ending → List Assn → Prop} {rs : List ResultVar} (hf : P.funcs[f]? = some fn) (hb : fn.body = some c)
    (hn : fn.ntmps = n) (hrs : fn.results = rs.toArray) (hsz : Nat.ble args.size n = true)
    (h : Wp P n c (BodyPostM P rs R) (argEnv 0 args.toList) [] L) : Ct P f args L R := fun w hw => by
  refine (callsIn_wide (n := 0)).1 (callsIn_of_wp_marks hf hb trivial (wpIn_mono (h _ w ?_ ?_ rfl hw none (.inl rfl)) ?_))
  · have := bleLe hsz
    simp; omega
  · refine argEnv_sat _ _ _ fun j v hj => ?_
    have hlt : j < args.size := by
      have := (List.getElem?_eq_some_iff.1 hj).1
      simpa using this
    rw [Nat.zero_add, Array.getElem?_append_left hlt, ← Array.getElem?_toList]
    exact hj
  · intro e a w' hh
    cases e with
    | normal =>
      obtain ⟨E', D', L', ⟨ds, h1, L0, xs, L'', h2, h3, h4, h5⟩, _, q2, q3, q4⟩ := hh
      show LeavesInM _ _ _ _ _ _ a.defers _ _
      rw [q3, h1]
      exact leaves_marks (u := .returning) nofun (fun w2 hs => ⟨_, h3.results hrs q2 hs, nofun, L'', h5, h4 _ hs⟩) ds w' (h2 _ q4)
    | ret =>
      obtain ⟨E', D', L', ⟨ds, h1, L0, xs, L'', h2, h3, h4, h5⟩, _, q2, q3, q4⟩ := hh
      show LeavesInM _ _ _ _ _ _ a.defers _ _
      rw [q3, h1]
      exact leaves_marks (u := .returning) nofun (fun w2 hs => ⟨_, h3.results hrs q2 hs, nofun, L'', h5, h4 _ hs⟩) ds w' (h2 _ q4)
    | panic c =>
      obtain ⟨D', L', ⟨ds, h1, L0, h2, h3⟩, q3, q4⟩ := hh
      show LeavesInM _ _ _ _ _ _ a.defers _ _
      rw [q3, h1]
      refine leaves_marks (u := .panicking c) nofun (fun w2 hs => ?_) ds w' (h2 _ q4)
      show Ending.panicked c ≠ .outgrown ∧ ∃ L', R (.panicked c) L' ∧ Sat (hp w2) L'
      exact ⟨nofun, L0, h3, hs⟩
    | exit id => obtain ⟨_, _, _, h, _⟩ := hh; exact h
    | goto id => obtain ⟨_, _, _, h, _⟩ := hh; exact h
    | outgrown => exact hh.elim
end
end Go.Ab
end

section
/- The calculus: interface values that are nil or not, type assertions (a part of Cf). -/
namespace Go.Ab
open Go
class UIface (P : Program) (t : TypeId) : Prop where h : ∃ ms, P.underlying t = some (.interface ms)
section
variable {P : Program} {n : Nat} {ops : Array Oper} {Q : Post} {m m' : Md} {rest : List Oper} {E : Env} {D : List Deferred} {L : List Assn} {ty : TypeId} {pos : String} {af : Array Edge} {x y : Operand} {c1 c2 g : Bool} {d : Nat} {t u : TypeId}
def nilB : Value → Option Bool
  | .nilIface => some true
  | .iface _ _ => some false
  | _ => none
theorem run_eqNil {v : Value} {b : Bool} (hv : nilB v = some b) (hu : ∃ ms, P.underlying t = some (.interface ms)) (w : World) : (Op.equal t v .nilIface).run P w = .ok b w := by
  obtain ⟨ms, hu⟩ := hu
  unfold Op.equal
  rw [show Op.maxDepth = 9999 + 1 from rfl]
  unfold Op.equalIn
  rw [run_ok (run_u hu w)]
  cases v <;> simp only [nilB, Option.some.injEq, reduceCtorEq] at hv
  all_goals (subst hv; rfl)
def nilCmp (op : BinOp) (b : Bool) : Option Bool :=
  match op with
  | .eql => some b
  | .neq => some !b
  | _ => none
theorem Qt.isNil {dd : Option Tmp} {gd : Option (Nat × Bool)} {op : BinOp} {v : Value} {b r : Bool} [hu : UIface P t] (hx : opv x E = some (c1, v)) [Imp g c1] (hv : nilB v = some b) (hr : nilCmp op b = some r) :
    Qt P E L ⟨dd, .binOp op t x (.const .nilIface) u, ty, pos, af, gd⟩ g (.bool r) :=
  .of2 (fun ρ w h1 h2 => by
    have hg : (eqGuard op t x (.const .nilIface) v .nilIface).run P w = .ok () w := by
      cases v <;> simp only [nilB, reduceCtorEq] at hv
      · cases op <;> rfl
      · rw [eqGuard_nil_constR]; rfl
    simp only [execOp, h1, h2]
    refine run_v ?_
    rw [run_ok hg]
    have he := run_eqNil hv hu.h w
    cases op <;> simp only [nilCmp, Option.some.injEq, reduceCtorEq] at hr <;> subst hr
    · have : binOp .eql t v .nilIface = (do pure (.bool (← Op.equal t v .nilIface))) := by
        cases v <;> simp only [nilB, reduceCtorEq] at hv <;> rfl
      rw [this, run_ok he]; rfl
    · have : binOp .neq t v .nilIface = (do pure (.bool (!(← Op.equal t v .nilIface)))) := by
        cases v <;> simp only [nilB, reduceCtorEq] at hv <;> rfl
      rw [this, run_ok he]; rfl) (EvG.of hx) (EvG.of (x := .const .nilIface) (c := true) rfl)
theorem S.isNil [Nxt m m'] {op : BinOp} {v : Value} {b r : Bool} [UIface P t] (h0 : Nat.blt d n = true) (hx : opv x E = some (true, v)) (hv : nilB v = some b) (hr : nilCmp op b = some r)
    (h : WpO P n ops Q m' rest ((d, .v (.bool r)) :: E) D L) : WpO P n ops Q m (⟨some d, .binOp op t x (.const .nilIface) u, ty, pos, af, none⟩ :: rest) E D L := WpO.q rfl h0 (Qt.isNil hx hv hr) h
/-- A type assertion with a second result, of an interface value that holds a value of a type that is no interface. -/
theorem Qt.assert {dd : Option Tmp} {gd : Option (Nat × Bool)} {a : TypeId} {w0 : Value} [hn : NotIface P a] (hx : opv x E = some (c1, .iface a w0)) [Imp g c1] :
    Qt P E L ⟨dd, .typeAssert x t a true, ty, pos, af, gd⟩ g (.tuple #[w0, .bool true]) :=
  .of1 (fun ρ w h1 => by
    show (do pure (Next.value (← Instr.typeAssert (ρ x) t a true)) : Sem Next).run P w = _
    rw [h1]
    refine run_v ?_
    obtain ⟨ds, hd, hne⟩ := hn.h
    unfold Instr.typeAssert
    rw [run_ok (run_u hd w)]
    cases ds <;> first | exact absurd rfl (hne _) | (simp only [if_true]; rfl)) (EvG.of hx)
theorem S.assert [Nxt m m'] {a : TypeId} {w0 : Value} [NotIface P a] (h0 : Nat.blt d n = true) (hx : opv x E = some (true, .iface a w0))
    (h : WpO P n ops Q m' rest ((d, .v (.tuple #[w0, .bool true])) :: E) D L) : WpO P n ops Q m (⟨some d, .typeAssert x t a true, ty, pos, af, none⟩ :: rest) E D L := WpO.q rfl h0 (Qt.assert hx) h
end
end Go.Ab
namespace Go.Proofs.Ytibkdjjdfcpdaaa
open Go Go.Ab
instance : UIface Try.prog 20 := ⟨_, Try.underlying20⟩
/-- A contract of a deferred call, from more parts. -/
theorem CtD_weaken {P : Program} {f : FuncId} {args : Array Value} {u : FrameMode} {L L' : List Assn} {R : Ending → FrameMode → List Assn → Prop} (h : CtD P f args u L' R) (hL : LeL L L') : CtD P f args u L R := fun w hw => h w (hL _ hw)
end Go.Proofs.Ytibkdjjdfcpdaaa
end
