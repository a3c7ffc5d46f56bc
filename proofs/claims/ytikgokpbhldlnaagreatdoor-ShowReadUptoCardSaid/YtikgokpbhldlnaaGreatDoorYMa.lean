/- Parts of a proof: Ab Ac Ad. -/
import Derived.WalkKit
import Derived.OrdersHeld
set_option linter.unusedVariables false
set_option linter.unusedSimpArgs false
set_option linter.unusedSectionVars false
section
/- The ground of these proofs: memory as a list of assertions on separate parts of the heap, and a calculus for the code's operations over it. -/
namespace Go.Ab
/-! ## Heaps and assertions -/
/-- Some blocks of a memory, and what stands outside of it. -/
structure Hp where
  blk : Nat → Option Obj
  met : Os × Array (Nat × ByteArray)
instance : CoeFun Hp (fun _ => Nat → Option Obj) := ⟨Hp.blk⟩
def hp (w : World) : Hp := ⟨fun b => w.heap[b]?, (w.os, w.output)⟩
structure Hp.le (h k : Hp) : Prop where
  f : ∀ b o, h b = some o → k b = some o
  m : h.met = k.met
instance {h k : Hp} : CoeFun (Hp.le h k) (fun _ => ∀ b o, h b = some o → k b = some o) := ⟨Hp.le.f⟩
def Hp.diff (k h : Hp) : Hp := ⟨fun b => if (h b).isSome then none else k b, k.met⟩
abbrev Assn := Hp → Prop
def Sat : Hp → List Assn → Prop
  | _, [] => True
  | k, A :: L => ∃ h, Hp.le h k ∧ A h ∧ Sat (Hp.diff k h) L
theorem Hp.le_refl (h : Hp) : Hp.le h h := ⟨fun _ _ e => e, rfl⟩
theorem Hp.le_trans {a b c : Hp} (h : Hp.le a b) (k : Hp.le b c) : Hp.le a c := ⟨fun x o e => k x o (h x o e), h.m.trans k.m⟩
theorem Hp.diff_le (k h : Hp) : Hp.le (Hp.diff k h) k := ⟨fun b o e => by
  have e : (if (h b).isSome then none else k b) = some o := e
  split at e
  · cases e
  · exact e, rfl⟩
theorem Hp.diff_mono {k k' : Hp} (h : Hp) (hk : Hp.le k k') : Hp.le (Hp.diff k h) (Hp.diff k' h) := ⟨fun b o e => by
  have e : (if (h b).isSome then none else k b) = some o := e
  show (if (h b).isSome then none else k' b) = some o
  split at e
  · cases e
  · rename_i hn; rw [if_neg hn]; exact hk _ _ e, hk.m⟩
theorem Sat.mono : ∀ {L : List Assn} {k k' : Hp}, Hp.le k k' → Sat k L → Sat k' L
  | [], _, _, _, _ => trivial
  | _ :: _, _, _, hk, ⟨h, h1, h2, h3⟩ => ⟨h, Hp.le_trans h1 hk, h2, Sat.mono (Hp.diff_mono h hk) h3⟩
theorem Sat.swap {A B : Assn} {L : List Assn} {k : Hp} (h : Sat k (A :: B :: L)) : Sat k (B :: A :: L) := by
  obtain ⟨h1, l1, a1, h2, l2, a2, s⟩ := h
  refine ⟨h2, Hp.le_trans l2 (Hp.diff_le _ _), a2, h1, ⟨?_, l1.m⟩, a1, ?_⟩
  · intro b o e
    have h0 := l1 b o e
    show (if (h2 b).isSome then none else k b) = some o
    split
    · rename_i hs
      obtain ⟨o', ho'⟩ := Option.isSome_iff_exists.1 hs
      have h3 : (if (h1 b).isSome then none else k b) = some o' := l2 b o' ho'
      simp [e] at h3
    · exact h0
  · refine Sat.mono ⟨?_, ?_⟩ s
    rotate_left
    · rfl
    intro b o e
    have e : (if (h2 b).isSome then none else (if (h1 b).isSome then none else k b)) = some o := e
    show (if (h1 b).isSome then none else (if (h2 b).isSome then none else k b)) = some o
    split at e
    · cases e
    · rename_i hb
      split at e
      · cases e
      · rename_i ha
        rw [if_neg ha, if_neg hb]; exact e
theorem Sat.cons_mono {A : Assn} {L L' : List Assn} (hL : ∀ k, Sat k L → Sat k L') {k : Hp} (h : Sat k (A :: L)) : Sat k (A :: L') := by
  obtain ⟨h1, l1, a1, s⟩ := h
  exact ⟨h1, l1, a1, hL _ s⟩
theorem Sat.perm {L L' : List Assn} (hp : L.Perm L') : ∀ {k : Hp}, Sat k L → Sat k L' := by
  induction hp with
  | nil => exact fun h => h
  | cons x _ ih => exact fun h => Sat.cons_mono (fun _ => ih) h
  | swap x y l => exact fun h => h.swap
  | trans _ _ ih1 ih2 => exact fun h => ih2 (ih1 h)
theorem Sat.tail {A : Assn} {L : List Assn} {k : Hp} (h : Sat k (A :: L)) : Sat k L := by
  obtain ⟨_, _, _, s⟩ := h
  exact Sat.mono (Hp.diff_le _ _) s
theorem Sat.drop {L : List Assn} {k : Hp} : ∀ (M : List Assn), Sat k (M ++ L) → Sat k L
  | [], h => h
  | _ :: M, h => Sat.drop M h.tail
theorem Sat.head {A : Assn} {L : List Assn} {k : Hp} (h : Sat k (A :: L)) : ∃ h, Hp.le h k ∧ A h := by
  obtain ⟨h1, l1, a1, _⟩ := h
  exact ⟨h1, l1, a1⟩
theorem Sat.take {L : List Assn} : ∀ {M : List Assn} {k : Hp}, Sat k (M ++ L) → Sat k M
  | [], _, _ => trivial
  | _ :: _, _, ⟨h, l, a, s⟩ => ⟨h, l, a, Sat.take s⟩
/-- What is known of every heap that has these parts. -/
def Ent (L : List Assn) (φ : Hp → Prop) : Prop := ∀ k, Sat k L → φ k
def Mono (φ : Hp → Prop) : Prop := ∀ h k, Hp.le h k → φ h → φ k
theorem Ent.cons {L : List Assn} {φ : Hp → Prop} (h : Ent L φ) {A : Assn} : Ent (A :: L) φ := fun k s => h k s.tail
theorem Ent.app {L : List Assn} {φ : Hp → Prop} (h : Ent L φ) (M : List Assn) : Ent (M ++ L) φ := fun k s => h k (Sat.drop M s)
theorem Ent.imp {L : List Assn} {φ ψ : Hp → Prop} (h : Ent L φ) (hi : ∀ k, φ k → ψ k) : Ent L ψ := fun k s => hi k (h k s)
theorem Ent.of_head {L : List Assn} {A : Assn} {φ : Hp → Prop} (hm : Mono φ) (h : ∀ k, A k → φ k) : Ent (A :: L) φ := fun _ s => by
  obtain ⟨h1, l1, a1, _⟩ := s
  exact hm _ _ l1 (h _ a1)
/-! ### A new block; a block turned -/
theorem hp_push (w : World) (o : Obj) (b : Nat) : hp { w with heap := w.heap.push o } b = if b = w.heap.size then some o else hp w b := by
  show (w.heap.push o)[b]? = if b = w.heap.size then some o else w.heap[b]?
  simp only [Array.getElem?_push]
def Hp.single (w : World) (o : Obj) : Hp := ⟨fun x => if x = w.heap.size then some o else none, (w.os, w.output)⟩
theorem Hp.single_at (w : World) (o : Obj) : Hp.single w o w.heap.size = some o := by
  show (if w.heap.size = w.heap.size then some o else none) = _
  rw [if_pos rfl]
theorem hp_at (w : World) (b : Nat) : hp w b = w.heap[b]? := rfl
theorem Hp.ext {h k : Hp} (h1 : ∀ b, h b = k b) (h2 : h.met = k.met) : h = k := by
  cases h; cases k
  simp only [Hp.mk.injEq]
  exact ⟨funext h1, h2⟩
theorem Sat.new {w : World} {L : List Assn} {o : Obj} {A : Assn} (hA : A (Hp.single w o)) (h : Sat (hp w) L) :
    Sat (hp { w with heap := w.heap.push o }) (A :: L) := by
  refine ⟨Hp.single w o, ⟨?_, rfl⟩, hA, Sat.mono ⟨?_, ?_⟩ h⟩
  rotate_left 2
  · rfl
  · intro b o' e
    rw [hp_push]
    have e : (if b = w.heap.size then some o else none) = some o' := e
    split at e
    · rename_i hb; rw [if_pos hb]; exact e
    · cases e
  · intro b o' e
    have hb : b < w.heap.size := by
      have e : w.heap[b]? = some o' := e
      rcases Nat.lt_or_ge b w.heap.size with h' | h'
      · exact h'
      · rw [Array.getElem?_eq_none h'] at e; cases e
    have hne : b ≠ w.heap.size := by omega
    show (if (if b = w.heap.size then some o else none).isSome then none else hp { w with heap := w.heap.push o } b) = some o'
    rw [hp_push]
    simp only [hne, if_false, Option.isSome_none, Bool.false_eq_true]
    exact e
/-- The head part's one block is written anew. -/
theorem Sat.turn {k k' : Hp} {b : Nat} {A A' : Assn} {L : List Assn} (h : Sat k (A :: L))
    (hA : ∀ h, A h → ∃ o, h b = some o) (hk : ∀ x, x ≠ b → k' x = k x)
    (hA' : ∀ h, A h → Hp.le h k → A' ⟨fun x => if x = b then k' b else h x, h.met⟩) (hb : (k' b).isSome) (hm : k.met = k'.met := by rfl) : Sat k' (A' :: L) := by
  obtain ⟨h1, l1, a1, s⟩ := h
  obtain ⟨o, ho⟩ := hA h1 a1
  refine ⟨⟨fun x => if x = b then k' b else h1 x, h1.met⟩, ⟨?_, l1.m.trans hm⟩, hA' h1 a1 l1, Sat.mono ⟨?_, ?_⟩ s⟩
  rotate_left 2
  · exact hm
  · intro x o' e
    have e : (if x = b then k' b else h1 x) = some o' := e
    split at e
    · rename_i hx; rw [hx]; exact e
    · rename_i hx; rw [hk x hx]; exact l1 _ _ e
  · intro x o' e
    have e : (if (h1 x).isSome then none else k x) = some o' := e
    show (if (if x = b then k' b else h1 x).isSome then none else k' x) = some o'
    split at e
    · cases e
    · rename_i hx
      have hxb : x ≠ b := fun hb => by subst hb; rw [ho] at hx; simp at hx
      simp only [hxb, if_false]
      rw [if_neg hx, hk x hxb]; exact e
end Go.Ab
end
section
/- The calculus: environments of temporaries, code's weakest preconditions over assertions, contracts of functions. -/
namespace Go.Ab
open Go
/-! ## What is known of a temporary -/
inductive AV where
  | v (x : Value)
  | g (c : Bool) (x : Value)      -- x, if c; else nothing was done
abbrev Env := List (Nat × AV)
def AV.den : AV → Value
  | .v x => x
  | .g c x => if c = true then x else undef
def look (t : Nat) : Env → Option AV
  | [] => none
  | (i, a) :: E => match Nat.beq t i with
    | true => some a
    | false => look t E
def EnvSat (E : Env) (t : Array Value) : Prop := ∀ i a, look i E = some a → t[i]? = some a.den
theorem beqF {i j : Nat} (h : i ≠ j) : Nat.beq i j = false := by
  cases hb : Nat.beq i j with
  | true => exact absurd (Nat.eq_of_beq_eq_true hb) h
  | false => rfl
theorem EnvSat.put {E : Env} {t : Array Value} (h : EnvSat E t) {d : Nat} (hd : d < t.size) (a : AV) : EnvSat ((d, a) :: E) (t.setIfInBounds d a.den) := by
  intro i b hi
  unfold look at hi
  by_cases e : i = d
  · subst e
    simp [Nat.beq_refl] at hi
    subst hi
    simp [hd]
  · have : Nat.beq i d = false := beqF e
    rw [this] at hi
    rw [Array.getElem?_setIfInBounds_ne (Ne.symm e)]
    exact h i b hi
theorem EnvSat.weaken {E E' : Env} {t : Array Value} (h : EnvSat E t) (hw : ∀ i a, look i E' = some a → look i E = some a) : EnvSat E' t := fun i a hi => h i a (hw i a hi)
/-- What an operand is, if g. -/
def EvG (E : Env) (x : Operand) (g : Bool) (v : Value) : Prop := ∀ a : Act, EnvSat E a.tmps → g = true → a.eval x = v
theorem EvG.v {E : Env} {t : Nat} {g : Bool} {v : Value} (h : look t E = some (.v v)) : EvG E (.tmp t) g v := fun a ha _ => by
  have := ha _ _ h
  simp [Act.eval, this, AV.den]
theorem EvG.g {E : Env} {t : Nat} {g g' : Bool} {v : Value} (h : look t E = some (.g g' v)) (hg : g = true → g' = true) : EvG E (.tmp t) g v := fun a ha hgt => by
  have := ha _ _ h
  simp [Act.eval, this, AV.den, hg hgt]
theorem EvG.c {E : Env} {v : Value} {g : Bool} : EvG E (.const v) g v := fun _ _ _ => rfl
theorem EvG.f {E : Env} {f : FuncId} {g : Bool} : EvG E (.func f) g (.func (.func f) #[] #[]) := fun _ _ _ => rfl
/-- An operand by looking: its condition and its value. -/
def opv (x : Operand) (E : Env) : Option (Bool × Value) :=
  match x with
  | .tmp t => match look t E with
    | some (.v v) => some (true, v)
    | some (.g c v) => some (c, v)
    | none => none
  | .const v => some (true, v)
  | .func f => some (true, .func (.func f) #[] #[])
  | .global n => some (true, .pointer (some ⟨n, 0, none⟩))
class Imp (g c : Bool) : Prop where h : g = true → c = true
instance (g : Bool) : Imp g true := ⟨fun _ => rfl⟩
instance (g : Bool) : Imp g g := ⟨fun h => h⟩
instance (a b c : Bool) [Imp a c] : Imp (a && b) c := ⟨fun h => Imp.h (by simp at h; exact h.1)⟩
instance (a b c : Bool) [Imp b c] : Imp (a && b) c := ⟨fun h => Imp.h (by simp at h; exact h.2)⟩
instance (c : Bool) : Imp false c := ⟨nofun⟩
theorem EvG.of {E : Env} {x : Operand} {g c : Bool} {v : Value} (h : opv x E = some (c, v)) [hi : Imp g c] : EvG E x g v := fun a ha hg => by
  cases x with
  | tmp t =>
    unfold opv at h
    simp only [] at h
    split at h
    · rename_i u hu; simp only [Option.some.injEq, Prod.mk.injEq] at h; rw [← h.2]; exact EvG.v hu a ha hg
    · rename_i c' u hu; simp only [Option.some.injEq, Prod.mk.injEq] at h; rw [← h.2]; exact EvG.g hu (fun e => by rw [h.1]; exact hi.h e) a ha hg
    · cases h
  | const u => simp only [opv, Option.some.injEq, Prod.mk.injEq] at h; rw [← h.2]; rfl
  | global n => simp only [opv, Option.some.injEq, Prod.mk.injEq] at h; rw [← h.2]; rfl
  | func f => simp only [opv, Option.some.injEq, Prod.mk.injEq] at h; rw [← h.2]; rfl
/-! ## Postconditions -/
/-- What is asked at an exit: of the frame (but at a panic), of the deferred calls and of the heap. -/
abbrev Post := Exit → Env → List Deferred → List Assn → Prop
def PostOf (n : Nat) (Q : Post) : Exit → Act → World → Prop
  | .panic c, a, w => ∃ D L, Q (.panic c) [] D L ∧ a.defers = D ∧ Sat (hp w) L
  | .outgrown, _, _ => False
  | e, a, w => ∃ E D L, Q e E D L ∧ a.tmps.size = n ∧ EnvSat E a.tmps ∧ a.defers = D ∧ Sat (hp w) L
/-- The code, from whatever frame and memory of which this is known. -/
def Wp (P : Program) (n : Nat) (c : Code) (Q : Post) (E : Env) (D : List Deferred) (L : List Assn) : Prop :=
  ∀ a w, a.tmps.size = n → EnvSat E a.tmps → a.defers = D → Sat (hp w) L → c.wp P (PostOf n Q) a w
section
variable {P : Program} {n : Nat} {Q : Post} {E : Env} {D : List Deferred} {L : List Assn}
def Post.then (K : Env → List Deferred → List Assn → Prop) (Q : Post) : Post
  | .normal, E, D, L => K E D L
  | e, E, D, L => Q e E D L
def Post.inBlock (id : Nat) (Q : Post) : Post
  | .exit i, E, D, L => match Nat.beq i id with
    | true => Q .normal E D L
    | false => Q (.exit i) E D L
  | e, E, D, L => Q e E D L
theorem Wp.weaken {c : Code} {E' : Env} {L' : List Assn} (hE : ∀ i a, look i E' = some a → look i E = some a) (hL : ∀ k, Sat k L → Sat k L')
    (h : Wp P n c Q E' D L') : Wp P n c Q E D L := fun a w h1 h2 h3 h4 => h a w h1 (h2.weaken hE) h3 (hL _ h4)
theorem PostOf.mono {Q Q' : Post} (h : ∀ e E D L, Q e E D L → Q' e E D L) : ∀ e a w, PostOf n Q e a w → PostOf n Q' e a w := by
  intro e a w hh
  cases e <;> simp only [PostOf] at hh ⊢
  case panic c => obtain ⟨D, L, h1, h2⟩ := hh; exact ⟨D, L, h _ _ _ _ h1, h2⟩
  all_goals (obtain ⟨E, D, L, h1, h2⟩ := hh; exact ⟨E, D, L, h _ _ _ _ h1, h2⟩)
theorem Wp.mono {c : Code} {Q Q' : Post} (h : Wp P n c Q E D L) (hQ : ∀ e E D L, Q e E D L → Q' e E D L) : Wp P n c Q' E D L :=
  fun a w h1 h2 h3 h4 => wp_mono (h a w h1 h2 h3 h4) (PostOf.mono hQ)
theorem Wp.seq {x y : Code} (h : Wp P n x (Post.then (Wp P n y Q) Q) E D L) : Wp P n (.seq x y) Q E D L := fun a w h1 h2 h3 h4 =>
  wp_seq (wp_mono (h a w h1 h2 h3 h4) fun e a' w' hh => by
    cases e <;> simp only [PostOf, Post.then, Exit.then] at hh ⊢
    case normal => obtain ⟨E, D, L, q, r1, r2, r3, r4⟩ := hh; exact q a' w' r1 r2 r3 r4
    all_goals exact hh)
theorem Wp.skip (h : Q .normal E D L) : Wp P n .skip Q E D L := fun a w h1 h2 h3 h4 => wp_skip ⟨E, D, L, h, h1, h2, h3, h4⟩
theorem Wp.exit {id : Nat} (h : Q (.exit id) E D L) : Wp P n (.exit id) Q E D L := fun a w h1 h2 h3 h4 => wp_exit ⟨E, D, L, h, h1, h2, h3, h4⟩
theorem Wp.ret (h : Q .ret E D L) : Wp P n .ret Q E D L := fun a w h1 h2 h3 h4 => wp_ret ⟨E, D, L, h, h1, h2, h3, h4⟩
theorem Wp.block {id : Nat} {c : Code} (h : Wp P n c (Post.inBlock id Q) E D L) : Wp P n (.block id c) Q E D L := fun a w h1 h2 h3 h4 =>
  wp_block (wp_mono (h a w h1 h2 h3 h4) fun e a' w' hh => by
    cases e <;> simp only [PostOf, Post.inBlock, Exit.inBlock] at hh ⊢
    case exit i =>
      obtain ⟨E, D, L, q, r⟩ := hh
      by_cases hi : i = id
      · subst hi; simp only [Nat.beq_refl, if_true] at q ⊢; exact ⟨E, D, L, q, r⟩
      · have : Nat.beq i id = false := beqF hi
        simp only [this, hi, if_false] at q ⊢; exact ⟨E, D, L, q, r⟩
    all_goals exact hh)
theorem Wp.cond {c : Operand} {x y : Code} {t : Bool} (hc : opv c E = some (true, .bool t)) (h1 : t = true → Wp P n x Q E D L) (h2 : t = false → Wp P n y Q E D L) :
    Wp P n (.cond c x y) Q E D L := fun a w r1 r2 r3 r4 =>
  wp_cond_split (EvG.of (g := true) hc a r2 rfl) (fun h => h1 h a w r1 r2 r3 r4) (fun h => h2 h a w r1 r2 r3 r4)
theorem EnvSat.shadow {E : Env} {t : Array Value} (h : EnvSat E t) {s : Nat} {v v' : Value} (hs : look s E = some (.v v)) (e : v = v') : EnvSat ((s, .v v') :: E) t := by
  intro i b hi
  unfold look at hi
  by_cases e' : i = s
  · subst e'
    simp only [Nat.beq_refl, Option.some.injEq] at hi
    subst hi; subst e
    exact h _ _ hs
  · rw [beqF e'] at hi; exact h _ _ hi
/-- A branch on a temporary, of which one knows it then. -/
theorem Wp.branch {s : Nat} {x y : Code} {t : Bool} (hc : look s E = some (.v (.bool t))) (h1 : t = true → Wp P n x Q ((s, .v (.bool true)) :: E) D L) (h2 : t = false → Wp P n y Q ((s, .v (.bool false)) :: E) D L) :
    Wp P n (.cond (.tmp s) x y) Q E D L := fun a w r1 r2 r3 r4 =>
  wp_cond_split (EvG.v (g := true) hc a r2 rfl) (fun h => h1 h a w r1 (r2.shadow hc (by rw [h])) r3 r4) (fun h => h2 h a w r1 (r2.shadow hc (by rw [h])) r3 r4)
theorem Wp.condT {c : Operand} {x y : Code} (hc : opv c E = some (true, .bool true)) (h1 : Wp P n x Q E D L) : Wp P n (.cond c x y) Q E D L :=
  Wp.cond hc (fun _ => h1) (fun h => by cases h)
theorem Wp.condF {c : Operand} {x y : Code} (hc : opv c E = some (true, .bool false)) (h1 : Wp P n y Q E D L) : Wp P n (.cond c x y) Q E D L :=
  Wp.cond hc (fun h => by cases h) (fun _ => h1)
/-- A loop: what holds at each round's head, told by x; each round's x is smaller. -/
theorem Wp.loop {c : Code} {α : Type} (I : α → Env → List Deferred → List Assn → Prop) (μ : α → Nat) (x0 : α) (h0 : I x0 E D L)
    (round : ∀ x E D L, I x E D L → Wp P n c (Post.then (fun E' D' L' => ∃ y, μ y < μ x ∧ I y E' D' L') Q) E D L) : Wp P n (.loop c) Q E D L := by
  intro a0 w0 h1 h2 h3 h4 b kk cs
  have key : ∀ k x E D L, μ x = k → I x E D L → ∀ a w, a.tmps.size = n → EnvSat E a.tmps → a.defers = D → Sat (hp w) L →
      ∃ e a' w', PostOf n Q e a' w' ∧ Arrives P (lone (b.at a (.code c :: .inLoop c :: kk)) cs w) b kk cs e a' w' := by
    intro k
    induction k using Nat.strongRecOn with
    | _ k ih =>
      intro x E D L hx hI a w h1 h2 h3 h4
      obtain ⟨e, a₁, w₁, hq, harr⟩ := round x E D L hI a w h1 h2 h3 h4 b (.inLoop c :: kk) cs
      cases e with
      | normal =>
        obtain ⟨E', D', L', ⟨y, hy, hIy⟩, r1, r2, r3, r4⟩ := hq
        obtain ⟨e₂, a₂, w₂, hq₂, harr₂⟩ := ih (μ y) (hx ▸ hy) y E' D' L' rfl hIy a₁ w₁ r1 r2 r3 r4
        exact ⟨e₂, a₂, w₂, hq₂, .of_steps (Steps.trans harr (.one step_inLoop)) harr₂⟩
      | exit id => exact ⟨.exit id, a₁, w₁, hq, .pass (x := .inLoop c) rfl (fun _ _ => .inl (by simp)) harr⟩
      | goto l => exact ⟨.goto l, a₁, w₁, hq, .pass (x := .inLoop c) rfl (fun _ _ => .inl (by simp)) harr⟩
      | ret => exact ⟨.ret, a₁, w₁, hq, .pass (x := .inLoop c) rfl (fun _ _ => .inl (by simp)) harr⟩
      | panic ch => exact ⟨.panic ch, a₁, w₁, hq, .pass (x := .inLoop c) rfl (fun _ _ => .inl (by simp)) harr⟩
      | outgrown => exact hq.elim
  obtain ⟨e, a', w', hq, harr⟩ := key _ x0 E D L rfl h0 a0 w0 h1 h2 h3 h4
  exact ⟨e, a', w', hq, .of_steps (.one step_loop) harr⟩
end
end Go.Ab
end
section
/- The calculus: operations, regions in order and regions that draw their order, contracts. -/
namespace Go.Ab
open Go
section
variable {P : Program} {n : Nat} {Q : Post} {E : Env} {D : List Deferred} {L : List Assn} {ops : Array Oper} {o : Oper} {rest : List Oper}
theorem bltLt {a b : Nat} (h : Nat.blt a b = true) : a < b := by rwa [Nat.blt_eq] at h
theorem bleLe {a b : Nat} (h : Nat.ble a b = true) : a ≤ b := by rwa [Nat.ble_eq] at h
/-- An operation that looks at memory alone, or not even that. -/
def Qt (P : Program) (E : Env) (L : List Assn) (o : Oper) (g : Bool) (v : Value) : Prop :=
  ∀ (a : Act) (w : World), EnvSat E a.tmps → Sat (hp w) L → g = true → (execOp a.eval o).run P w = .ok (.value v) w
/-- An operation that may turn memory, or call. -/
def OpT (P : Program) (E : Env) (L : List Assn) (o : Oper) (R : Value → List Assn → Prop) (Rp : List PanicEntry → List Assn → Prop) : Prop :=
  ∀ (a : Act) (w : World) (K : Act → World → Prop) (Q0 : Exit → Act → World → Prop), EnvSat E a.tmps → Sat (hp w) L →
    (∀ v w' L', R v L' → Sat (hp w') L' → K (a.put o.dst v) w') →
    (∀ c w' L', Rp c L' → Sat (hp w') L' → Q0 (.panic c) a w') → o.wp P a w K Q0
def noPanic : List PanicEntry → List Assn → Prop := fun _ _ => False
/-- Operation i may come first. -/
def firstB (ops : Array Oper) (listed : Array Bool) (i : Nat) : Bool := Region.noSelect ops && Region.free .any ops listed i && (Region.ready .any ops listed).contains i
/-- An operation that never turns memory nor calls. -/
def quietB : Op → Bool
  | .move _ | .assign _ | .pick .. | .load .. | .nilCheck _ | .binOp .. | .unOp .. | .convert .. | .makeInterface .. | .makeFunc .. | .slice .. | .fieldAddr .. | .field .. | .indexAddr .. | .index .. | .lookup .. | .extract .. | .build .. | .typeAssert .. => true
  | .call ⟨.builtin b, _, _⟩ => match b with
    | .len | .cap | .max | .min => true
    | _ => false
  | _ => false
def pick (ops : Array Oper) : List Nat → Option (List Oper)
  | [] => some []
  | i :: r => match ops[i]? with
    | some ⟨d, op, ty, pos, af, gd⟩ => match pick ops r with
      | some l => some (⟨d, op, ty, pos, af, gd⟩ :: l)
      | none => none
    | none => none
/-- One after the other: no choice is left. -/
def forced (ops : Array Oper) : Array Bool → List Nat → Bool
  | listed, [] => (Region.ready .any ops listed).isEmpty
  | listed, i :: r => (Region.ready .any ops listed == [i]) && forced ops (listed.setIfInBounds i true) r
/-- b comes behind i, by what binds. -/
def reachB (ops : Array Oper) : Nat → Nat → Nat → Bool
  | 0, _, _ => false
  | f + 1, b, i => match ops[b]? with
    | some ob => ob.after.any (fun e => Region.binds .any e && (e.on == i || reachB ops f e.on i))
    | none => false
def barAfter (ops : Array Oper) (bar i : Nat) : Bool := match ops[bar]? with
  | some _ => reachB ops ops.size bar i
  | none => true
def closedB (ops : Array Oper) (listed : Array Bool) : Bool := (List.range ops.size).all fun x => !(listed.getD x false) || match ops[x]? with
  | some ox => ox.after.all (fun e => !(Region.binds .any e) || listed.getD e.on false)
  | none => true
def Closed (ops : Array Oper) (listed : Array Bool) : Prop := ∀ x ox, ops[x]? = some ox → listed.getD x false = true → ∀ e ∈ ox.after, Region.binds .any e = true → listed.getD e.on false = true
theorem closed_of {listed : Array Bool} (h : closedB ops listed = true) : Closed ops listed := fun x ox hx hl e he hb => by
  unfold closedB at h
  rw [List.all_eq_true] at h
  have h1 := h x (List.mem_range.2 (Array.getElem?_eq_some_iff.1 hx).1)
  rw [hl, hx] at h1
  simp only [Bool.not_true, Bool.false_or] at h1
  have h2 := Array.all_eq_true'.1 h1 e he
  rw [hb] at h2
  simpa using h2
theorem reach_spec {listed : Array Bool} (hcl : Closed ops listed) : ∀ (f b i : Nat) (ob : Oper), ops[b]? = some ob → (∀ e ∈ ob.after, Region.binds .any e = true → listed.getD e.on false = true) → reachB ops f b i = true → listed.getD i false = true
  | 0, _, _, _, _, _, h => by cases h
  | f + 1, b, i, ob, hb, hd, h => by
    unfold reachB at h
    rw [hb] at h
    simp only [] at h
    obtain ⟨e, he, h2⟩ := Array.any_eq_true'.1 h
    simp only [Bool.and_eq_true, Bool.or_eq_true, beq_iff_eq] at h2
    rcases h2.2 with h3 | h3
    · rw [← h3]; exact hd e he h2.1
    · cases hq : ops[e.on]? with
      | none =>
        cases f with
        | zero => cases h3
        | succ f => unfold reachB at h3; rw [hq] at h3; cases h3
      | some oe => exact reach_spec hcl f e.on i oe hq (hcl e.on oe hq (hd e he h2.1)) h3
/-- An order in which a region that draws may be walked: what is quiet as soon as it may, what is not when nothing else may; till the operation 'bar', the k-th, before which all others of them must come; then one after the other. -/
def plan (ops : Array Oper) (bar : Nat) : Nat → Array Bool → List Nat → Bool
  | _, listed, [] => (Region.ready .any ops listed).isEmpty
  | 0, listed, i :: r => i == bar && (Region.ready .any ops listed == [i]) && forced ops (listed.setIfInBounds i true) r
  | k + 1, listed, i :: r => i != bar && (match ops[i]? with
    | some o => if quietB o.op then firstB ops listed i && (barAfter ops bar i && closedB ops listed) else (Region.ready .any ops listed == [i])
    | none => false) && plan ops bar k (listed.setIfInBounds i true) r
/-- Whatever order is picked from here on, and S holds behind each operation before 'bar'. -/
def wpAnyB (P : Program) (ops : Array Oper) (Q : Exit → Act → World → Prop) (S : World → Prop) (bar : Nat) : Nat → Array Bool → Act → World → Prop
  | 0, listed, a, w => Region.ready .any ops listed = [] ∧ Q .normal a w
  | fuel + 1, listed, a, w =>
    (Region.ready .any ops listed = [] → Q .normal a w) ∧
    ∀ i ∈ Region.ready .any ops listed, wpOp P ops Q i (fun a' w' => if i = bar then wpAny P .any ops Q fuel (listed.setIfInBounds i true) a' w' else S w' ∧ wpAnyB P ops Q S bar fuel (listed.setIfInBounds i true) a' w') a w
theorem wpAny_of_bar {Q : Exit → Act → World → Prop} {S : World → Prop} {bar : Nat} : ∀ (fuel : Nat) (listed : Array Bool) (a : Act) (w : World), wpAnyB P ops Q S bar fuel listed a w → wpAny P .any ops Q fuel listed a w
  | 0, _, _, _, h => h
  | fuel + 1, _, _, _, h => ⟨h.1, fun i hi => wpOp_mono (fun a' w' h' => by
      split at h'
      · exact h'
      · exact wpAny_of_bar fuel _ a' w' h'.2) (h.2 i hi)⟩
theorem Closed.set {listed : Array Bool} {j : Nat} (h : Closed ops listed) (hj : j ∈ Region.ready .any ops listed) : Closed ops (listed.setIfInBounds j true) := fun x ox hx hl e he hb => by
  refine getD_set_true ?_
  by_cases hxj : j = x
  · subst hxj
    obtain ⟨_, oj, hoj, hall⟩ := mem_ready.1 hj
    rw [hoj] at hx; simp only [Option.some.injEq] at hx; subst hx
    exact hall e he hb
  · rw [getD_set_ne false hxj] at hl
    exact h x ox hx hl e he hb
theorem wpAnyB_first {Q : Exit → Act → World → Prop} {S : World → Prop} {bar i : Nat} {oi : Oper} {v : Value} (hi : ops[i]? = some oi) (hsel : ∀ (j : Nat) (o : Oper) cs b, ops[j]? = some o → o.op ≠ .select cs b)
    (hQ : ∀ c a w, Q (.panic c) (a.put oi.dst v) w → Q (.panic c) a w) (hib : i ≠ bar) (hba : barAfter ops bar i = true) :
    ∀ (fuel : Nat) (listed : Array Bool) (a : Act) (w : World), Closed ops listed →
      (∀ j oj, ops[j]? = some oj → j ≠ i → listed.getD j true = false → (∀ e ∈ oj.after, Region.binds .any e = true → e.on ≠ i) → oi.apart ops oj = true) →
      i ∈ Region.ready .any ops listed → YieldsIf P ops S oi v a → S w →
      wpAnyB P ops Q S bar fuel (listed.setIfInBounds i true) (a.put oi.dst v) w → wpAnyB P ops Q S bar (fuel + 1) listed a w := by
  intro fuel
  induction fuel with
  | zero =>
    intro listed a w _ _ hr hy hS H
    refine ⟨fun h => (by rw [h] at hr; cases hr), fun j hj => ?_⟩
    by_cases hji : j = i
    · subst hji; simp only [hib, if_false]; exact hy.wpOp hi hS ⟨hS, H⟩
    · have := ready_mono hj hji
      rw [H.1] at this
      cases this
  | succ fuel ih =>
    intro listed a w hcl hfree hr hy hS H
    refine ⟨fun h => (by rw [h] at hr; cases hr), fun j hj => ?_⟩
    by_cases hji : j = i
    · subst hji; simp only [hib, if_false]; exact hy.wpOp hi hS ⟨hS, H⟩
    · have h1 := H.2 j (ready_mono hj hji)
      obtain ⟨hjun, oj, hoj, hall⟩ := mem_ready.1 hj
      have hnot : ∀ e ∈ oj.after, Region.binds .any e = true → e.on ≠ i := fun e he hb heq => by
        have h1 := hall e he hb
        have h0 := (mem_ready.1 hr).1
        rw [heq] at h1
        rcases Nat.lt_or_ge i listed.size with h' | h'
        · simp [h'] at h0 h1; rw [h0] at h1; cases h1
        · simp [Array.getElem?_eq_none h'] at h1
      have hjb : j ≠ bar := by
        rintro rfl
        unfold barAfter at hba
        rw [hoj] at hba
        have h1 := reach_spec hcl _ _ _ oj hoj hall hba
        have h0 := (mem_ready.1 hr).1
        rcases Nat.lt_or_ge i listed.size with h' | h'
        · simp [h'] at h0 h1; rw [h0] at h1; cases h1
        · simp [Array.getElem?_eq_none h'] at h1
      simp only [hjb, if_false] at h1 ⊢
      have h2 := wpOp_putIf hoj (hfree j oj hoj hji hjun hnot) (fun cs b => hsel i oi cs b hi) (fun cs b => hsel j oj cs b hoj) hQ hy h1
      have hfree' : ∀ k ok, ops[k]? = some ok → k ≠ i → (listed.setIfInBounds j true).getD k true = false →
          (∀ e ∈ ok.after, Region.binds .any e = true → e.on ≠ i) → oi.apart ops ok = true := fun k ok hk hki hun hno => by
        refine hfree k ok hk hki ?_ hno
        by_cases hjk : j = k
        · subst hjk; exact hjun
        · rw [getD_set_ne true hjk] at hun; exact hun
      refine wpOp_mono (fun a' w' h3 => ⟨h3.2.1, ih (listed.setIfInBounds j true) a' w' (hcl.set hj) hfree' (ready_mono hr (Ne.symm hji)) h3.1 h3.2.1 ?_⟩) h2
      rw [Array.setIfInBounds_comm _ _ hji]
      exact h3.2.2
theorem wpAnyB_done {Q : Exit → Act → World → Prop} {S : World → Prop} {bar : Nat} {listed : Array Bool} {a : Act} {w : World} (hr : Region.ready .any ops listed = []) (h : Q .normal a w) : ∀ fuel, wpAnyB P ops Q S bar fuel listed a w
  | 0 => ⟨hr, h⟩
  | _ + 1 => ⟨fun _ => h, by rw [hr]; simp⟩
/-- How operations come: in their order (or with no choice left); or with choices, their readings in the parts Ls, till the k-th. -/
inductive Md where
  | seq
  | any (Ls : List Assn) (k : Nat)
class Nxt (m : Md) (m' : outParam Md) : Prop where h : match m with
  | .seq => m' = .seq
  | .any _ 0 => m' = .seq
  | .any Ls (k + 1) => m' = .any Ls k
instance : Nxt .seq .seq := ⟨rfl⟩
instance (Ls : List Assn) : Nxt (.any Ls 0) .seq := ⟨rfl⟩
instance (Ls : List Assn) (k : Nat) : Nxt (.any Ls (k + 1)) (.any Ls k) := ⟨rfl⟩
def WpO (P : Program) (n : Nat) (ops : Array Oper) (Q : Post) (m : Md) (l : List Oper) (E : Env) (D : List Deferred) (L : List Assn) : Prop :=
  match m with
  | .seq => (∀ (a : Act) (w : World), a.tmps.size = n → EnvSat E a.tmps → a.defers = D → Sat (hp w) L → wpList P ops (PostOf n Q) l a w) ∧
      ∀ (pl : List Nat) (listed : Array Bool), pick ops pl = some l → forced ops listed pl = true →
        ∀ (a : Act) (w : World), a.tmps.size = n → EnvSat E a.tmps → a.defers = D → Sat (hp w) L → wpAny P .any ops (PostOf n Q) pl.length listed a w
  | .any Ls k => ∀ (pl : List Nat) (listed : Array Bool) (bar : Nat), pick ops pl = some l → plan ops bar k listed pl = true →
      ∀ (a : Act) (w : World), a.tmps.size = n → EnvSat E a.tmps → a.defers = D → Sat (hp w) L → Sat (hp w) Ls → wpAnyB P ops (PostOf n Q) (fun w => Sat (hp w) Ls) bar pl.length listed a w
@[reducible] def mem (m : Md) (L : List Assn) : List Assn := match m with
  | .seq => L
  | .any _ 0 => L
  | .any Ls (_ + 1) => Ls
/-- What is read there stays. -/
def Keeps (m : Md) (L : List Assn) : Prop := match m with
  | .seq => True
  | .any _ 0 => True
  | .any Ls (_ + 1) => ∀ k, Sat k L → Sat k Ls
/-- The guard says g. -/
def GuardIs (ops : Array Oper) (E : Env) (o : Oper) (g : Bool) : Prop := ∀ a : Act, EnvSat E a.tmps → Region.wanted o (yielded ops a.tmps) = g
theorem GuardIs.none (h : o.guard = none) : GuardIs ops E o true := fun a _ => by simp [Region.wanted, h]
theorem GuardIs.t {j t : Nat} {c : Bool} (h : o.guard = some (j, true)) (hj : (ops[j]?).bind (·.dst) = some t) (hl : look t E = some (.v (.bool c))) : GuardIs ops E o c := fun a ha => by
  have := ha _ _ hl
  cases c <;> simp [Region.wanted, h, yielded, hj, this, AV.den]
theorem GuardIs.f {j t : Nat} {c : Bool} (h : o.guard = some (j, false)) (hj : (ops[j]?).bind (·.dst) = some t) (hl : look t E = some (.v (.bool c))) : GuardIs ops E o (!c) := fun a ha => by
  have := ha _ _ hl
  cases c <;> simp [Region.wanted, h, yielded, hj, this, AV.den]
theorem GuardIs.gt {j t : Nat} {c g : Bool} (h : o.guard = some (j, true)) (hj : (ops[j]?).bind (·.dst) = some t) (hl : look t E = some (.g g (.bool c))) : GuardIs ops E o (g && c) := fun a ha => by
  have := ha _ _ hl
  cases c <;> cases g <;> simp [Region.wanted, h, yielded, hj, this, AV.den, undef]
theorem GuardIs.gf {j t : Nat} {c g : Bool} (h : o.guard = some (j, false)) (hj : (ops[j]?).bind (·.dst) = some t) (hl : look t E = some (.g g (.bool c))) : GuardIs ops E o (g && !c) := fun a ha => by
  have := ha _ _ hl
  cases c <;> cases g <;> simp [Region.wanted, h, yielded, hj, this, AV.den, undef]
def guardOf (ops : Array Oper) (E : Env) (gd : Nat × Bool) : Option Bool :=
  match (ops[gd.1]?).bind (·.dst) with
  | some t => match look t E with
    | some (.v (.bool c)) => match gd.2 with
      | true => some c
      | false => some (!c)
    | some (.g g (.bool c)) => match gd.2 with
      | true => some (g && c)
      | false => some (g && !c)
    | _ => none
  | none => none
theorem GuardIs.of {gd : Nat × Bool} {g : Bool} (hg : o.guard = some gd) (h : guardOf ops E gd = some g) : GuardIs ops E o g := by
  obtain ⟨j, b⟩ := gd
  unfold guardOf at h
  split at h
  · rename_i t ht
    split at h
    · rename_i c hc
      cases b <;> simp only [Option.some.injEq] at h <;> subst h
      · exact GuardIs.f hg ht hc
      · exact GuardIs.t hg ht hc
    · rename_i g' c hc
      cases b <;> simp only [Option.some.injEq] at h <;> subst h
      · exact GuardIs.gf hg ht hc
      · exact GuardIs.gt hg ht hc
    · cases h
  · cases h
theorem Act.put_size (a : Act) (d : Option Tmp) (v : Value) : (a.put d v).tmps.size = a.tmps.size := by cases d <;> simp [Act.put]
theorem Act.put_defers' (a : Act) (d : Option Tmp) (v : Value) : (a.put d v).defers = a.defers := by cases d <;> rfl
theorem wpList_wanted {a : Act} {w : World} {Q0 : Exit → Act → World → Prop} (hw : Region.wanted o (yielded ops a.tmps) = true)
    (h : o.wp P a w (wpList P ops Q0 rest) Q0) : wpList P ops Q0 (o :: rest) a w := by
  unfold wpList; rw [if_pos hw]; exact .inl h
theorem wpOp_wanted {i : Nat} {oi : Oper} {Q0 : Exit → Act → World → Prop} {K : Act → World → Prop} {a : Act} {w : World} (hi : ops[i]? = some oi)
    (hw : Region.wanted oi (yielded ops a.tmps) = true) (h : oi.wp P a w K Q0) : wpOp P ops Q0 i K a w := by
  unfold wpOp; simp only [hi]; rw [if_pos hw]; exact .inl h
variable {m m' : Md}
theorem WpO.nil (h : Q .normal E D L) : WpO P n ops Q m [] E D L := by
  have hpl : ∀ pl, pick ops pl = some [] → pl = [] := fun pl hp => by
    cases pl with
    | nil => rfl
    | cons i r =>
      unfold pick at hp
      split at hp
      · split at hp <;> cases hp
      · cases hp
  cases m with
  | seq =>
    refine ⟨fun a w h1 h2 h3 h4 => ⟨E, D, L, h, h1, h2, h3, h4⟩, fun pl listed hp hb a w h1 h2 h3 h4 => ?_⟩
    obtain rfl := hpl pl hp
    simp only [forced, List.isEmpty_iff] at hb
    exact wpAny_done hb ⟨E, D, L, h, h1, h2, h3, h4⟩ _
  | any Ls k =>
    intro pl listed bar hp hb a w h1 h2 h3 h4 _
    obtain rfl := hpl pl hp
    have hb' : Region.ready .any ops listed = [] := by cases k <;> simpa [plan, List.isEmpty_iff] using hb
    exact wpAnyB_done hb' ⟨E, D, L, h, h1, h2, h3, h4⟩ _
theorem pick_cons {o : Oper} {rest : List Oper} {pl : List Nat} (h : pick ops pl = some (o :: rest)) : ∃ i r, pl = i :: r ∧ ops[i]? = some o ∧ pick ops r = some rest := by
  cases pl with
  | nil => cases h
  | cons i r =>
    unfold pick at h
    split at h
    · rename_i o' ho
      split at h
      · rename_i l hl
        simp only [Option.some.injEq, List.cons.injEq] at h
        obtain ⟨rfl, rfl⟩ := h
        exact ⟨i, r, rfl, ho, hl⟩
      · cases h
    · cases h
theorem Qt.upon {v : Value} {g : Bool} (hq : Qt P E L o g v) {a : Act} {w : World} {K : Act → World → Prop} {Q0 : Exit → Act → World → Prop}
    (h2 : EnvSat E a.tmps) (h4 : Sat (hp w) L) (hg : g = true) (h : K (a.put o.dst v) w) : o.wp P a w K Q0 := by
  unfold Oper.wp; rw [hq a w h2 h4 hg]; exact h
theorem PostOf.panic_put {c : List PanicEntry} {a : Act} {d : Option Tmp} {v : Value} {w : World} (h : PostOf n Q (.panic c) (a.put d v) w) : PostOf n Q (.panic c) a w := by
  obtain ⟨D, L, h1, h2, h3⟩ := h
  exact ⟨D, L, h1, by rw [← h2, Act.put_defers'], h3⟩
/-- The one that must come. -/
theorem wpAny_one {Q0 : Exit → Act → World → Prop} {i : Nat} {fuel : Nat} {listed : Array Bool} {a : Act} {w : World} (hr : Region.ready .any ops listed = [i]) (h : wpOp P ops Q0 i (wpAny P .any ops Q0 fuel (listed.setIfInBounds i true)) a w) : wpAny P .any ops Q0 (fuel + 1) listed a w :=
  wpAny_all hr (by simp) fun j hj => by
    obtain rfl : j = i := by simpa using hj
    exact h
theorem wpAnyB_one {Q0 : Exit → Act → World → Prop} {S : World → Prop} {bar i : Nat} {fuel : Nat} {listed : Array Bool} {a : Act} {w : World} (hr : Region.ready .any ops listed = [i])
    (h : wpOp P ops Q0 i (fun a' w' => if i = bar then wpAny P .any ops Q0 fuel (listed.setIfInBounds i true) a' w' else S w' ∧ wpAnyB P ops Q0 S bar fuel (listed.setIfInBounds i true) a' w') a w) : wpAnyB P ops Q0 S bar (fuel + 1) listed a w :=
  ⟨fun h0 => absurd (hr ▸ h0) (by simp), fun j hj => by
    rw [hr] at hj
    obtain rfl : j = i := by simpa using hj
    exact h⟩
theorem wpOp_quiet {i : Nat} {oi : Oper} {Q0 : Exit → Act → World → Prop} {K : Act → World → Prop} {a : Act} {w : World} {v : Value} {g : Bool} (hi : ops[i]? = some oi) (hg : GuardIs ops E oi g) (h2 : EnvSat E a.tmps) (h4 : Sat (hp w) L)
    (hq : Qt P E L oi g v) (h : K (a.put oi.dst (if g = true then v else undef)) w) : wpOp P ops Q0 i K a w := by
  have hw := hg a h2
  cases g with
  | true => exact wpOp_wanted hi hw (hq.upon h2 h4 rfl h)
  | false => unfold wpOp; simp only [hi]; rw [if_neg (by simp [hw])]; exact h
/-- A quiet operation, under a guard or not. -/
theorem WpO.q0 {d : Nat} {v : Value} {av : AV} {g : Bool} [hnx : Nxt m m'] (hqb : quietB o.op = true) (hdn : Nat.blt d n = true) (hd : o.dst = some d) (hg : GuardIs ops E o g) (hq : Qt P E (mem m L) o g v) (hav : av.den = if g = true then v else undef)
    (h : WpO P n ops Q m' rest ((d, av) :: E) D L) : WpO P n ops Q m (o :: rest) E D L := by
  have hput : ∀ (a : Act), a.tmps.size = n → EnvSat E a.tmps → EnvSat ((d, av) :: E) (a.put o.dst (if g = true then v else undef)).tmps := fun a h1 h2 => by
    have hlt : d < a.tmps.size := by rw [h1]; exact bltLt hdn
    rw [hd, ← hav]; exact EnvSat.put h2 hlt av
  have hnx := hnx.h
  cases m with
  | seq =>
    simp only [] at hnx; subst hnx
    refine ⟨fun a w h1 h2 h3 h4 => ?_, fun pl listed hp hb a w h1 h2 h3 h4 => ?_⟩
    · have hw := hg a h2
      cases g with
      | true => exact wpList_wanted hw (hq.upon h2 h4 rfl (h.1 _ w (by rw [Act.put_size, h1]) (hput a h1 h2) (by rw [Act.put_defers', h3]) h4))
      | false =>
        unfold wpList; rw [if_neg (by simp [hw])]
        exact h.1 _ w (by rw [Act.put_size, h1]) (hput a h1 h2) (by rw [Act.put_defers', h3]) h4
    · obtain ⟨i, r, rfl, hi, hr⟩ := pick_cons hp
      simp only [forced, Bool.and_eq_true, beq_iff_eq] at hb
      exact wpAny_one hb.1 (wpOp_quiet hi hg h2 h4 hq (h.2 r _ hr hb.2 _ w (by rw [Act.put_size, h1]) (hput a h1 h2) (by rw [Act.put_defers', h3]) h4))
  | any Ls k =>
    intro pl listed bar hp hb a w h1 h2 h3 h4 h5
    obtain ⟨i, r, rfl, hi, hr⟩ := pick_cons hp
    cases k with
    | zero =>
      simp only [] at hnx; subst hnx
      simp only [plan, Bool.and_eq_true, beq_iff_eq] at hb
      refine wpAnyB_one hb.1.2 (wpOp_quiet hi hg h2 h4 hq ?_)
      rw [if_pos hb.1.1]
      exact h.2 r _ hr hb.2 _ w (by rw [Act.put_size, h1]) (hput a h1 h2) (by rw [Act.put_defers', h3]) h4
    | succ k =>
      simp only [] at hnx; subst hnx
      unfold plan at hb
      rw [hi] at hb
      simp only [hqb, if_true, Bool.and_eq_true, bne_iff_ne, ne_eq] at hb
      obtain ⟨⟨hb0, hb1, hba, hcl⟩, hb2⟩ := hb
      simp only [firstB, Bool.and_eq_true] at hb1
      have hy : YieldsIf P ops (fun w => Sat (Ab.hp w) Ls) o (if g = true then v else undef) a := by
        have hw := hg a h2
        cases g with
        | true => exact .inl ⟨hw, fun w' hw' => hq a w' h2 hw' rfl⟩
        | false => exact .inr ⟨hw, rfl⟩
      refine wpAnyB_first hi (Region.noSelect_spec hb1.1.1) (fun c a w => PostOf.panic_put) hb0 hba _ _ _ _ (closed_of hcl) (Region.free_spec hi hb1.1.2) (by simpa using hb1.2) hy h5 ?_
      exact h r _ bar hr hb2 _ w (by rw [Act.put_size, h1]) (hput a h1 h2) (by rw [Act.put_defers', h3]) h4 h5
theorem WpO.q {d : Nat} {op : Op} {ty : TypeId} {pos : String} {af : Array Edge} {v : Value} [Nxt m m'] (hqb : quietB op = true) (hdn : Nat.blt d n = true) (hq : Qt P E (mem m L) ⟨some d, op, ty, pos, af, none⟩ true v)
    (h : WpO P n ops Q m' rest ((d, .v v) :: E) D L) : WpO P n ops Q m (⟨some d, op, ty, pos, af, none⟩ :: rest) E D L :=
  WpO.q0 hqb hdn rfl (GuardIs.none rfl) hq rfl h
theorem WpO.qd {d : Nat} {op : Op} {ty : TypeId} {pos : String} {af : Array Edge} {gd : Nat × Bool} {v : Value} {g : Bool} [Nxt m m'] (hqb : quietB op = true) (hdn : Nat.blt d n = true) (hg : guardOf ops E gd = some g) (hq : Qt P E (mem m L) ⟨some d, op, ty, pos, af, some gd⟩ g v)
    (h : WpO P n ops Q m' rest ((d, .g g v) :: E) D L) : WpO P n ops Q m (⟨some d, op, ty, pos, af, some gd⟩ :: rest) E D L :=
  WpO.q0 hqb hdn rfl (GuardIs.of rfl hg) hq rfl h
/-- An operation, quiet by its kind, whose guard says no. -/
theorem WpO.no {d : Nat} {op : Op} {ty : TypeId} {pos : String} {af : Array Edge} {gd : Nat × Bool} [Nxt m m'] (hqb : quietB op = true) (hdn : Nat.blt d n = true) (hg : guardOf ops E gd = some false)
    (h : WpO P n ops Q m' rest ((d, .g false undef) :: E) D L) : WpO P n ops Q m (⟨some d, op, ty, pos, af, some gd⟩ :: rest) E D L :=
  WpO.q0 (v := undef) hqb hdn rfl (GuardIs.of rfl hg) (fun _ _ _ _ h => by cases h) rfl h
/-- An operation that is not quiet: told by what it does to any continuation. -/
theorem WpO.loud [hnx : Nxt m m'] (hqb : quietB o.op = false)
    (hop : ∀ (a : Act) (w : World) (K : Act → World → Prop), a.tmps.size = n → EnvSat E a.tmps → a.defers = D → Sat (hp w) L →
      (∀ (a' : Act) (w' : World) E' D' L', a'.tmps.size = n → EnvSat E' a'.tmps → a'.defers = D' → Sat (hp w') L' → Keeps m L' → WpO P n ops Q m' rest E' D' L' → K a' w') →
      if Region.wanted o (yielded ops a.tmps) then o.wp P a w K (PostOf n Q) else K (a.put o.dst undef) w) : WpO P n ops Q m (o :: rest) E D L := by
  have hwp : ∀ {i : Nat} {a : Act} {w : World} {K : Act → World → Prop}, ops[i]? = some o → (if Region.wanted o (yielded ops a.tmps) then o.wp P a w K (PostOf n Q) else K (a.put o.dst undef) w) → wpOp P ops (PostOf n Q) i K a w := fun hi h => by
    unfold wpOp; simp only [hi]
    split
    · rename_i hw; rw [if_pos hw] at h; exact .inl h
    · rename_i hw; rw [if_neg hw] at h; exact h
  have hnx := hnx.h
  cases m with
  | seq =>
    simp only [] at hnx; subst hnx
    refine ⟨fun a w h1 h2 h3 h4 => ?_, fun pl listed hp hb a w h1 h2 h3 h4 => ?_⟩
    · have := hop a w (wpList P ops (PostOf n Q) rest) h1 h2 h3 h4 fun a' w' E' D' L' q1 q2 q3 q4 _ q5 => q5.1 a' w' q1 q2 q3 q4
      unfold wpList
      split
      · rename_i hw; rw [if_pos hw] at this; exact .inl this
      · rename_i hw; rw [if_neg hw] at this; exact this
    · obtain ⟨i, r, rfl, hi, hr⟩ := pick_cons hp
      simp only [forced, Bool.and_eq_true, beq_iff_eq] at hb
      exact wpAny_one hb.1 (hwp hi (hop a w _ h1 h2 h3 h4 fun a' w' E' D' L' q1 q2 q3 q4 _ q5 => q5.2 r _ hr hb.2 a' w' q1 q2 q3 q4))
  | any Ls k =>
    intro pl listed bar hp hb a w h1 h2 h3 h4 h5
    obtain ⟨i, r, rfl, hi, hr⟩ := pick_cons hp
    cases k with
    | zero =>
      simp only [] at hnx; subst hnx
      simp only [plan, Bool.and_eq_true, beq_iff_eq] at hb
      refine wpAnyB_one hb.1.2 (hwp hi (hop a w _ h1 h2 h3 h4 fun a' w' E' D' L' q1 q2 q3 q4 _ q5 => ?_))
      rw [if_pos hb.1.1]
      exact q5.2 r _ hr hb.2 a' w' q1 q2 q3 q4
    | succ k =>
      simp only [] at hnx; subst hnx
      unfold plan at hb
      rw [hi] at hb
      simp only [hqb, Bool.false_eq_true, if_false, Bool.and_eq_true, beq_iff_eq, bne_iff_ne, ne_eq] at hb
      obtain ⟨⟨hb0, hb1⟩, hb2⟩ := hb
      refine wpAnyB_one hb1 (hwp hi (hop a w _ h1 h2 h3 h4 fun a' w' E' D' L' q1 q2 q3 q4 qk q5 => ?_))
      rw [if_neg hb0]
      have hk := qk _ q4
      exact ⟨hk, q5 r _ bar hr hb2 a' w' q1 q2 q3 q4 hk⟩
/-- An operation that is not quiet. -/
theorem WpO.op0' {R : Value → List Assn → Prop} {Rp : List PanicEntry → List Assn → Prop} [Nxt m m'] (hqb : quietB o.op = false) (hg : GuardIs ops E o true) (ht : OpT P E L o R Rp)
    (hp' : ∀ c L', Rp c L' → Q (.panic c) [] D L')
    (h : ∀ v L', R v L' → Keeps m L' ∧ ∀ a : Act, a.tmps.size = n → EnvSat E a.tmps → ∃ E', EnvSat E' (a.put o.dst v).tmps ∧ WpO P n ops Q m' rest E' D L') : WpO P n ops Q m (o :: rest) E D L :=
  WpO.loud (m' := m') hqb fun a w K h1 h2 h3 h4 hK => by
    rw [if_pos (hg a h2)]
    refine ht a w K _ h2 h4 (fun v w' L' hR hS => ?_) (fun c w' L' hR hS => ⟨D, L', hp' c L' hR, h3, hS⟩)
    obtain ⟨h5, h6⟩ := h v L' hR
    obtain ⟨E', h7, h8⟩ := h6 a h1 h2
    exact hK _ w' E' D L' (by rw [Act.put_size, h1]) h7 (by rw [Act.put_defers', h3]) hS h5 h8
/-- An operation with a result. -/
theorem WpO.op {d : Nat} {op : Op} {ty : TypeId} {pos : String} {af : Array Edge} {R : Value → List Assn → Prop} {Rp : List PanicEntry → List Assn → Prop} [Nxt m m'] (hqb : quietB op = false) (hdn : Nat.blt d n = true) (ht : OpT P E L ⟨some d, op, ty, pos, af, none⟩ R Rp)
    (hp' : ∀ c L', Rp c L' → Q (.panic c) [] D L') (h : ∀ v L', R v L' → Keeps m L' ∧ WpO P n ops Q m' rest ((d, .v v) :: E) D L') :
    WpO P n ops Q m (⟨some d, op, ty, pos, af, none⟩ :: rest) E D L :=
  WpO.op0' hqb (GuardIs.none rfl) ht hp' fun v L' hR => ⟨(h v L' hR).1, fun a h1 h2 => ⟨_, EnvSat.put h2 (by rw [h1]; exact bltLt hdn) (.v v), (h v L' hR).2⟩⟩
/-- An operation without a result. -/
theorem WpO.op0 {op : Op} {ty : TypeId} {pos : String} {af : Array Edge} {R : Value → List Assn → Prop} {Rp : List PanicEntry → List Assn → Prop} [Nxt m m'] (hqb : quietB op = false) (ht : OpT P E L ⟨none, op, ty, pos, af, none⟩ R Rp)
    (hp' : ∀ c L', Rp c L' → Q (.panic c) [] D L') (h : ∀ v L', R v L' → Keeps m L' ∧ WpO P n ops Q m' rest E D L') :
    WpO P n ops Q m (⟨none, op, ty, pos, af, none⟩ :: rest) E D L :=
  WpO.op0' hqb (GuardIs.none rfl) ht hp' fun v L' hR => ⟨(h v L' hR).1, fun a h1 h2 => ⟨E, h2, (h v L' hR).2⟩⟩
theorem Wp.region {id : Nat} {l : List Oper} (h : WpO P n l.toArray Q .seq l E D L) : Wp P n (.region id l.toArray false) Q E D L :=
  fun a w h1 h2 h3 h4 => wp_region_lit (h.1 a w h1 h2 h3 h4)
/-- A region that draws its order. Ls: what its readings look at; the k-th operation of the order pl is the first that may turn what is read. -/
theorem Wp.draw {id : Nat} {l : List Oper} (hm : P.follows .mixedOrders = true) (pl : List Nat) (k bar : Nat) (Ls : List Assn) (hp : pick ops pl = some l) (hb : (Nat.beq pl.length ops.size && plan ops bar k (Array.replicate ops.size false) pl) = true) (hs : ∀ k, Sat k L → Sat k Ls)
    (h : WpO P n ops Q (.any Ls k) l E D L) : Wp P n (.region id ops true) Q E D L :=
  fun a w h1 h2 h3 h4 => wp_region_any hm (by
    rw [Bool.and_eq_true] at hb
    have := wpAny_of_bar _ _ _ _ (h pl _ bar hp hb.2 a { w with drawn := w.drawn + 1 } h1 h2 h3 h4 (hs _ h4))
    rw [Nat.eq_of_beq_eq_true hb.1] at this; exact this)
/-! ### Contracts -/
def Ct (P : Program) (f : FuncId) (args : Array Value) (L : List Assn) (R : Ending → List Assn → Prop) : Prop :=
  ∀ w, Sat (hp w) L → Calls P f args w (fun e w' => e ≠ .outgrown ∧ ∃ L', R e L' ∧ Sat (hp w') L')
/-- It returns. -/
def ret (φ : Value → List Assn → Prop) : Ending → List Assn → Prop
  | .returned v, L => φ v L
  | _, _ => False
theorem Ct.mono {f : FuncId} {args : Array Value} {R R' : Ending → List Assn → Prop} (h : Ct P f args L R) (hR : ∀ e L', R e L' → R' e L') : Ct P f args L R' :=
  fun w hw => (h w hw).mono fun e w' ⟨h0, L', h1, h2⟩ => ⟨h0, L', hR _ _ h1, h2⟩
theorem Ct.weaken {f : FuncId} {args : Array Value} {R : Ending → List Assn → Prop} {L' : List Assn} (h : Ct P f args L' R) (hL : ∀ k, Sat k L → Sat k L') : Ct P f args L R :=
  fun w hw => h w (hL _ hw)
def argEnv : Nat → List Value → Env
  | _, [] => []
  | i, v :: l => (i, .v v) :: argEnv (i + 1) l
theorem argEnv_sat : ∀ (l : List Value) (i : Nat) (t : Array Value), (∀ j v, l[j]? = some v → t[i + j]? = some v) → EnvSat (argEnv i l) t
  | [], _, _, _ => fun _ _ h => by cases h
  | x :: l, i, t, h => fun j b hj => by
    unfold argEnv look at hj
    by_cases e : j = i
    · subst e
      simp only [Nat.beq_refl, Option.some.injEq] at hj
      subst hj
      have := h 0 x rfl
      simpa [AV.den] using this
    · rw [beqF e] at hj
      refine argEnv_sat l (i + 1) t (fun k v hk => ?_) j b hj
      have := h (k + 1) v (by simpa using hk)
      rw [← this]; congr 1; omega
def getV (t : Nat) (E : Env) : Option Value := match look t E with
  | some (.v x) => some x
  | _ => none
theorem getV_sat {t : Nat} {E : Env} {x : Value} (h : getV t E = some x) {a : Array Value} (ha : EnvSat E a) : a.getD t undef = x := by
  unfold getV at h
  split at h
  · rename_i y hy
    simp only [Option.some.injEq] at h
    subst h
    have := ha _ _ hy
    simp [this, AV.den]
  · cases h
def resV : List ResultVar → Env → Option Value
  | [], _ => some (.tuple #[])
  | [.tmp t], E => getV t E
  | [.tmp t, .tmp u], E => match getV t E, getV u E with
    | some x, some y => some (.tuple #[x, y])
    | _, _ => none
  | [.tmp t, .tmp u, .tmp s], E => match getV t E, getV u E, getV s E with
    | some x, some y, some z => some (.tuple #[x, y, z])
    | _, _, _ => none
  | _, _ => none
theorem results_tmp3 {fn : Func} {t u s : Tmp} (h : fn.results = #[.tmp t, .tmp u, .tmp s]) (tmps : Array Value) (P : Program) (w : World) :
    (results fn tmps).run P w = .ok (.tuple #[tmps.getD t undef, tmps.getD u undef, tmps.getD s undef]) w := by
  simp [results, h]
theorem resV_run {fn : Func} {rs : List ResultVar} (hrs : fn.results = rs.toArray) {E : Env} {x : Value} {t : Array Value} (ht : EnvSat E t) (h : resV rs E = some x) (w : World) :
    (results fn t).run P w = .ok x w := by
  unfold resV at h
  split at h
  · simp only [Option.some.injEq] at h; subst h; exact results_none hrs t P w
  · rw [results_tmp hrs, getV_sat h ht]
  · split at h
    · rename_i h1 h2; simp only [Option.some.injEq] at h; subst h; rw [results_tmp2 hrs, getV_sat h1 ht, getV_sat h2 ht]
    · cases h
  · split at h
    · rename_i h1 h2 h3; simp only [Option.some.injEq] at h; subst h; rw [results_tmp3 hrs, getV_sat h1 ht, getV_sat h2 ht, getV_sat h3 ht]
    · cases h
  · cases h
theorem Sat.dropN {L : List Assn} {k : Hp} : ∀ (m : Nat), Sat k L → Sat k (L.drop m) := fun m h => Sat.drop (L.take m) (by rw [List.take_append_drop]; exact h)
def BodyPost (rs : List ResultVar) (R : Ending → List Assn → Prop) : Post
  | .normal, E, D, L | .ret, E, D, L => D = [] ∧ ∃ x L', resV rs E = some x ∧ (∀ k, Sat k L → Sat k L') ∧ R (.returned x) L'
  | .panic c, _, D, L => D = [] ∧ R (.panicked c) L
  | _, _, _, _ => False
theorem Ret {rs : List ResultVar} {R : Ending → List Assn → Prop} (m : Nat) {x : Value} (hv : resV rs E = some x) (h : R (.returned x) (L.drop m)) : BodyPost rs R .ret E [] L := ⟨rfl, x, _, hv, fun _ => Sat.dropN m, h⟩
theorem RetN {rs : List ResultVar} {R : Ending → List Assn → Prop} (m : Nat) {x : Value} (hv : resV rs E = some x) (h : R (.returned x) (L.drop m)) : BodyPost rs R .normal E [] L := ⟨rfl, x, _, hv, fun _ => Sat.dropN m, h⟩
theorem Ct.body {f : FuncId} {fn : Func} {c : Code} {args : Array Value} {R : Ending → List Assn → Prop} {rs : List ResultVar} (hf : P.funcs[f]? = some fn) (hb : fn.body = some c)
    (hn : fn.ntmps = n) (hrs : fn.results = rs.toArray) (hsz : Nat.ble args.size n = true)
    (h : Wp P n c (BodyPost rs R) (argEnv 0 args.toList) [] L) : Ct P f args L R := fun w hw => by
  refine calls_of_wp hf hb (wp_mono (h _ w ?_ ?_ rfl hw) ?_)
  · have := bleLe hsz
    simp; omega
  · refine argEnv_sat _ _ _ fun j v hj => ?_
    have hlt : j < args.size := by
      have := (List.getElem?_eq_some_iff.1 hj).1
      simpa using this
    rw [Nat.zero_add, Array.getElem?_append_left hlt, ← Array.getElem?_toList]
    exact hj
  · intro e a w' hh
    cases e with
    | normal =>
      obtain ⟨E', D', L', ⟨h1, x, L'', h2, hd, h3⟩, _, h4, h5, h6⟩ := hh
      exact ⟨h5.trans h1, x, resV_run hrs h4 h2 w', nofun, L'', h3, hd _ h6⟩
    | ret =>
      obtain ⟨E', D', L', ⟨h1, x, L'', h2, hd, h3⟩, _, h4, h5, h6⟩ := hh
      exact ⟨h5.trans h1, x, resV_run hrs h4 h2 w', nofun, L'', h3, hd _ h6⟩
    | panic c =>
      obtain ⟨D', L', ⟨h1, h2⟩, h5, h6⟩ := hh
      exact ⟨h5.trans h1, nofun, L', h2, h6⟩
    | exit id => obtain ⟨_, _, _, h, _⟩ := hh; exact h
    | goto id => obtain ⟨_, _, _, h, _⟩ := hh; exact h
    | outgrown => exact hh.elim
end
end Go.Ab
end
