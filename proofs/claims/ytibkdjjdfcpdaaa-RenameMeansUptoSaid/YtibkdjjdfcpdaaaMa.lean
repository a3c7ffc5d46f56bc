/- Parts of a proof: Ab Ac Ad Ae Af Ag Ah Ai Aj Ak Al. -/
import Derived.WalkKit
import Derived.OrdersHeld
import Derived.ControlIn
import Derived.TacticsIn
import Derived.OrdersIn
import Derived.Sort.LoopGhostIn
import Derived.RangeFuncCalls
set_option linter.unusedVariables false
set_option linter.unusedSimpArgs false
set_option linter.unusedSectionVars false
section
/- The ground of these proofs: memory as a list of assertions on separate parts of the heap, and a calculus for the code's operations over it. -/
namespace Go.Ab

/-! ## Heaps and assertions -/
/-- Some blocks of a memory, and what stands outside of it. -/
structure Hp where
  blk : Nat → Option Obj
  met : Os × Array (Nat × ByteArray)
  /-- The heap has so many blocks at least. -/
  sz : Nat := 0
instance : CoeFun Hp (fun _ => Nat → Option Obj) := ⟨Hp.blk⟩
def hp (w : World) : Hp := ⟨fun b => w.heap[b]?, (w.os, w.output), w.heap.size⟩
structure Hp.le (h k : Hp) : Prop where
  f : ∀ b o, h b = some o → k b = some o
  m : h.met = k.met
  s : h.sz ≤ k.sz
instance {h k : Hp} : CoeFun (Hp.le h k) (fun _ => ∀ b o, h b = some o → k b = some o) := ⟨Hp.le.f⟩
def Hp.diff (k h : Hp) : Hp := ⟨fun b => if (h b).isSome then none else k b, k.met, k.sz⟩
abbrev Assn := Hp → Prop
def Sat : Hp → List Assn → Prop
  | _, [] => True
  | k, A :: L => ∃ h, Hp.le h k ∧ A h ∧ Sat (Hp.diff k h) L

theorem Hp.le_refl (h : Hp) : Hp.le h h := ⟨fun _ _ e => e, rfl, Nat.le_refl _⟩
theorem Hp.le_trans {a b c : Hp} (h : Hp.le a b) (k : Hp.le b c) : Hp.le a c := ⟨fun x o e => k x o (h x o e), h.m.trans k.m, Nat.le_trans h.s k.s⟩
theorem Hp.diff_le (k h : Hp) : Hp.le (Hp.diff k h) k := ⟨fun b o e => by
  have e : (if (h b).isSome then none else k b) = some o := e
  split at e
  · cases e
  · exact e, rfl, Nat.le_refl _⟩
theorem Hp.diff_mono {k k' : Hp} (h : Hp) (hk : Hp.le k k') : Hp.le (Hp.diff k h) (Hp.diff k' h) := ⟨fun b o e => by
  have e : (if (h b).isSome then none else k b) = some o := e
  show (if (h b).isSome then none else k' b) = some o
  split at e
  · cases e
  · rename_i hn; rw [if_neg hn]; exact hk _ _ e, hk.m, hk.s⟩

theorem Sat.mono : ∀ {L : List Assn} {k k' : Hp}, Hp.le k k' → Sat k L → Sat k' L
  | [], _, _, _, _ => trivial
  | _ :: _, _, _, hk, ⟨h, h1, h2, h3⟩ => ⟨h, Hp.le_trans h1 hk, h2, Sat.mono (Hp.diff_mono h hk) h3⟩

theorem Sat.swap {A B : Assn} {L : List Assn} {k : Hp} (h : Sat k (A :: B :: L)) : Sat k (B :: A :: L) := by
  obtain ⟨h1, l1, a1, h2, l2, a2, s⟩ := h
  refine ⟨h2, Hp.le_trans l2 (Hp.diff_le _ _), a2, h1, ⟨?_, l1.m, l1.s⟩, a1, ?_⟩
  · intro b o e
    have h0 := l1 b o e
    show (if (h2 b).isSome then none else k b) = some o
    split
    · rename_i hs
      obtain ⟨o', ho'⟩ := Option.isSome_iff_exists.1 hs
      have h3 : (if (h1 b).isSome then none else k b) = some o' := l2 b o' ho'
      simp [e] at h3
    · exact h0
  · refine Sat.mono ⟨?_, ?_, ?_⟩ s
    rotate_left
    · rfl
    · exact Nat.le_refl _
    intro b o e
    have e : (if (h2 b).isSome then none else (if (h1 b).isSome then none else k b)) = some o := e
    show (if (h1 b).isSome then none else (if (h2 b).isSome then none else k b)) = some o
    split at e
    · cases e
    · rename_i hb
      split at e
      · cases e
      · rename_i ha
        rw [if_neg ha, if_neg hb]; exact e

theorem Sat.cons_mono {A : Assn} {L L' : List Assn} (hL : ∀ k, Sat k L → Sat k L') {k : Hp} (h : Sat k (A :: L)) : Sat k (A :: L') := by
  obtain ⟨h1, l1, a1, s⟩ := h
  exact ⟨h1, l1, a1, hL _ s⟩

theorem Sat.perm {L L' : List Assn} (hp : L.Perm L') : ∀ {k : Hp}, Sat k L → Sat k L' := by
  induction hp with
  | nil => exact fun h => h
  | cons x _ ih => exact fun h => Sat.cons_mono (fun _ => ih) h
  | swap x y l => exact fun h => h.swap
  | trans _ _ ih1 ih2 => exact fun h => ih2 (ih1 h)

theorem Sat.tail {A : Assn} {L : List Assn} {k : Hp} (h : Sat k (A :: L)) : Sat k L := by
  obtain ⟨_, _, _, s⟩ := h
  exact Sat.mono (Hp.diff_le _ _) s

theorem Sat.drop {L : List Assn} {k : Hp} : ∀ (M : List Assn), Sat k (M ++ L) → Sat k L
  | [], h => h
  | _ :: M, h => Sat.drop M h.tail

theorem Sat.head {A : Assn} {L : List Assn} {k : Hp} (h : Sat k (A :: L)) : ∃ h, Hp.le h k ∧ A h := by
  obtain ⟨h1, l1, a1, _⟩ := h
  exact ⟨h1, l1, a1⟩

theorem Sat.take {L : List Assn} : ∀ {M : List Assn} {k : Hp}, Sat k (M ++ L) → Sat k M
  | [], _, _ => trivial
  | _ :: _, _, ⟨h, l, a, s⟩ => ⟨h, l, a, Sat.take s⟩

/-- What is known of every heap that has these parts. -/
def Ent (L : List Assn) (φ : Hp → Prop) : Prop := ∀ k, Sat k L → φ k
def Mono (φ : Hp → Prop) : Prop := ∀ h k, Hp.le h k → φ h → φ k
theorem Ent.cons {L : List Assn} {φ : Hp → Prop} (h : Ent L φ) {A : Assn} : Ent (A :: L) φ := fun k s => h k s.tail
theorem Ent.app {L : List Assn} {φ : Hp → Prop} (h : Ent L φ) (M : List Assn) : Ent (M ++ L) φ := fun k s => h k (Sat.drop M s)
theorem Ent.imp {L : List Assn} {φ ψ : Hp → Prop} (h : Ent L φ) (hi : ∀ k, φ k → ψ k) : Ent L ψ := fun k s => hi k (h k s)
theorem Ent.of_head {L : List Assn} {A : Assn} {φ : Hp → Prop} (hm : Mono φ) (h : ∀ k, A k → φ k) : Ent (A :: L) φ := fun _ s => by
  obtain ⟨h1, l1, a1, _⟩ := s
  exact hm _ _ l1 (h _ a1)

/-! ### A new block; a block turned -/
theorem hp_push (w : World) (o : Obj) (b : Nat) : hp { w with heap := w.heap.push o } b = if b = w.heap.size then some o else hp w b := by
  show (w.heap.push o)[b]? = if b = w.heap.size then some o else w.heap[b]?
  simp only [Array.getElem?_push]

def Hp.single (w : World) (o : Obj) : Hp := ⟨fun x => if x = w.heap.size then some o else none, (w.os, w.output), 0⟩

theorem Hp.single_at (w : World) (o : Obj) : Hp.single w o w.heap.size = some o := by
  show (if w.heap.size = w.heap.size then some o else none) = _
  rw [if_pos rfl]
theorem hp_at (w : World) (b : Nat) : hp w b = w.heap[b]? := rfl
theorem Hp.ext {h k : Hp} (h1 : ∀ b, h b = k b) (h2 : h.met = k.met) (h3 : h.sz = k.sz := by rfl) : h = k := by
  cases h; cases k
  simp only [Hp.mk.injEq]
  exact ⟨funext h1, h2, h3⟩
theorem Sat.new {w : World} {L : List Assn} {o : Obj} {A : Assn} (hA : A (Hp.single w o)) (h : Sat (hp w) L) :
    Sat (hp { w with heap := w.heap.push o }) (A :: L) := by
  refine ⟨Hp.single w o, ⟨?_, rfl, Nat.zero_le _⟩, hA, Sat.mono ⟨?_, ?_, ?_⟩ h⟩
  rotate_left 2
  · rfl
  · show w.heap.size ≤ (w.heap.push o).size
    simp
  · intro b o' e
    rw [hp_push]
    have e : (if b = w.heap.size then some o else none) = some o' := e
    split at e
    · rename_i hb; rw [if_pos hb]; exact e
    · cases e
  · intro b o' e
    have hb : b < w.heap.size := by
      have e : w.heap[b]? = some o' := e
      rcases Nat.lt_or_ge b w.heap.size with h' | h'
      · exact h'
      · rw [Array.getElem?_eq_none h'] at e; cases e
    have hne : b ≠ w.heap.size := by omega
    show (if (if b = w.heap.size then some o else none).isSome then none else hp { w with heap := w.heap.push o } b) = some o'
    rw [hp_push]
    simp only [hne, if_false, Option.isSome_none, Bool.false_eq_true]
    exact e

/-- The head part's one block is written anew. -/
theorem Sat.turn {k k' : Hp} {b : Nat} {A A' : Assn} {L : List Assn} (h : Sat k (A :: L))
    (hA : ∀ h, A h → ∃ o, h b = some o) (hk : ∀ x, x ≠ b → k' x = k x)
    (hA' : ∀ h, A h → Hp.le h k → A' ⟨fun x => if x = b then k' b else h x, h.met, h.sz⟩) (hb : (k' b).isSome) (hm : k.met = k'.met := by rfl) (hz : k.sz ≤ k'.sz := by first | exact Nat.le_refl _ | exact Nat.le_of_eq (by simp [hp])) : Sat k' (A' :: L) := by
  obtain ⟨h1, l1, a1, s⟩ := h
  obtain ⟨o, ho⟩ := hA h1 a1
  refine ⟨⟨fun x => if x = b then k' b else h1 x, h1.met, h1.sz⟩, ⟨?_, l1.m.trans hm, Nat.le_trans l1.s hz⟩, hA' h1 a1 l1, Sat.mono ⟨?_, ?_, ?_⟩ s⟩
  rotate_left 2
  · exact hm
  · exact hz
  · intro x o' e
    have e : (if x = b then k' b else h1 x) = some o' := e
    split at e
    · rename_i hx; rw [hx]; exact e
    · rename_i hx; rw [hk x hx]; exact l1 _ _ e
  · intro x o' e
    have e : (if (h1 x).isSome then none else k x) = some o' := e
    show (if (if x = b then k' b else h1 x).isSome then none else k' x) = some o'
    split at e
    · cases e
    · rename_i hx
      have hxb : x ≠ b := fun hb => by subst hb; rw [ho] at hx; simp at hx
      simp only [hxb, if_false]
      rw [if_neg hx, hk x hxb]; exact e

end Go.Ab
end

section
/- The calculus: environments of temporaries, code's weakest preconditions over assertions, contracts of functions. -/
namespace Go.Ab
open Go

/-! ## What is known of a temporary -/
inductive AV where
  | v (x : Value)
  | g (c : Bool) (x : Value)      -- x, if c; else nothing was done
abbrev Env := List (Nat × AV)
def AV.den : AV → Value
  | .v x => x
  | .g c x => if c = true then x else undef
def look (t : Nat) : Env → Option AV
  | [] => none
  | (i, a) :: E => match Nat.beq t i with
    | true => some a
    | false => look t E
def EnvSat (E : Env) (t : Array Value) : Prop := ∀ i a, look i E = some a → t[i]? = some a.den

theorem beqF {i j : Nat} (h : i ≠ j) : Nat.beq i j = false := by
  cases hb : Nat.beq i j with
  | true => exact absurd (Nat.eq_of_beq_eq_true hb) h
  | false => rfl

theorem EnvSat.put {E : Env} {t : Array Value} (h : EnvSat E t) {d : Nat} (hd : d < t.size) (a : AV) : EnvSat ((d, a) :: E) (t.setIfInBounds d a.den) := by
  intro i b hi
  unfold look at hi
  by_cases e : i = d
  · subst e
    simp [Nat.beq_refl] at hi
    subst hi
    simp [hd]
  · have : Nat.beq i d = false := beqF e
    rw [this] at hi
    rw [Array.getElem?_setIfInBounds_ne (Ne.symm e)]
    exact h i b hi

theorem EnvSat.weaken {E E' : Env} {t : Array Value} (h : EnvSat E t) (hw : ∀ i a, look i E' = some a → look i E = some a) : EnvSat E' t := fun i a hi => h i a (hw i a hi)

/-- What an operand is, if g. -/
def EvG (E : Env) (x : Operand) (g : Bool) (v : Value) : Prop := ∀ a : Act, EnvSat E a.tmps → g = true → a.eval x = v
theorem EvG.v {E : Env} {t : Nat} {g : Bool} {v : Value} (h : look t E = some (.v v)) : EvG E (.tmp t) g v := fun a ha _ => by
  have := ha _ _ h
  simp [Act.eval, this, AV.den]
theorem EvG.g {E : Env} {t : Nat} {g g' : Bool} {v : Value} (h : look t E = some (.g g' v)) (hg : g = true → g' = true) : EvG E (.tmp t) g v := fun a ha hgt => by
  have := ha _ _ h
  simp [Act.eval, this, AV.den, hg hgt]
theorem EvG.c {E : Env} {v : Value} {g : Bool} : EvG E (.const v) g v := fun _ _ _ => rfl
theorem EvG.f {E : Env} {f : FuncId} {g : Bool} : EvG E (.func f) g (.func (.func f) #[] #[]) := fun _ _ _ => rfl
theorem EvG.gl {E : Env} {n : Nat} {g : Bool} : EvG E (.global n) g (.pointer (some ⟨n, 0, none⟩)) := fun _ _ _ => rfl

/-- An operand by looking: its condition and its value. -/
def opv (x : Operand) (E : Env) : Option (Bool × Value) :=
  match x with
  | .tmp t => match look t E with
    | some (.v v) => some (true, v)
    | some (.g c v) => some (c, v)
    | none => none
  | .const v => some (true, v)
  | .func f => some (true, .func (.func f) #[] #[])
  | .global n => some (true, .pointer (some ⟨n, 0, none⟩))
class Imp (g c : Bool) : Prop where h : g = true → c = true
instance (g : Bool) : Imp g true := ⟨fun _ => rfl⟩
instance (g : Bool) : Imp g g := ⟨fun h => h⟩
instance (a b c : Bool) [Imp a c] : Imp (a && b) c := ⟨fun h => Imp.h (by simp at h; exact h.1)⟩
instance (a b c : Bool) [Imp b c] : Imp (a && b) c := ⟨fun h => Imp.h (by simp at h; exact h.2)⟩
instance (c : Bool) : Imp false c := ⟨nofun⟩
theorem EvG.of {E : Env} {x : Operand} {g c : Bool} {v : Value} (h : opv x E = some (c, v)) [hi : Imp g c] : EvG E x g v := fun a ha hg => by
  cases x with
  | tmp t =>
    unfold opv at h
    simp only [] at h
    split at h
    · rename_i u hu; simp only [Option.some.injEq, Prod.mk.injEq] at h; rw [← h.2]; exact EvG.v hu a ha hg
    · rename_i c' u hu; simp only [Option.some.injEq, Prod.mk.injEq] at h; rw [← h.2]; exact EvG.g hu (fun e => by rw [h.1]; exact hi.h e) a ha hg
    · cases h
  | const u => simp only [opv, Option.some.injEq, Prod.mk.injEq] at h; rw [← h.2]; rfl
  | global n => simp only [opv, Option.some.injEq, Prod.mk.injEq] at h; rw [← h.2]; rfl
  | func f => simp only [opv, Option.some.injEq, Prod.mk.injEq] at h; rw [← h.2]; rfl

/-! ## Postconditions -/
/-- What is asked at an exit: of the frame (but at a panic), of the deferred calls and of the heap. -/
abbrev Post := Exit → Env → List Deferred → List Assn → Prop
def PostOf (n : Nat) (Q : Post) : Exit → Act → World → Prop
  | .panic c, a, w => ∃ D L, Q (.panic c) [] D L ∧ a.defers = D ∧ Sat (hp w) L
  | .outgrown, _, _ => False
  | e, a, w => ∃ E D L, Q e E D L ∧ a.tmps.size = n ∧ EnvSat E a.tmps ∧ a.defers = D ∧ Sat (hp w) L

/-- Where code runs: in a function's own frame, or in a round of a range over a function. -/
def fen : Option Nat → Fence
  | none => Fence.wide
  | some l => Fence.wide.inRound l
def noDeferO (o : Oper) : Bool := match o.op with
  | .defer _ => false
  | _ => true
/-- No defer stands in the code, nor a range over a function. -/
def noDefer : Code → Bool
  | .region _ ops _ => ops.all noDeferO
  | .seq a b => noDefer a && noDefer b
  | .cond _ a b => noDefer a && noDefer b
  | .block _ b => noDefer b
  | .loop b => noDefer b
  | .scope b => noDefer b
  | .rangeFunc .. => false
  | _ => true
/-- The code, from whatever frame and memory of which this is known. -/
def Wp (P : Program) (n : Nat) (c : Code) (Q : Post) (E : Env) (D : List Deferred) (L : List Assn) : Prop :=
  ∀ a w, a.tmps.size = n → EnvSat E a.tmps → a.defers = D → Sat (hp w) L → ∀ r : Option Nat, r = none ∨ noDefer c = true → c.wpIn (fen r) 0 P (PostOf n Q) a w
theorem Wp.wp {P : Program} {n : Nat} {c : Code} {Q : Post} {E : Env} {D : List Deferred} {L : List Assn} (h : Wp P n c Q E D L) : ∀ a w, a.tmps.size = n → EnvSat E a.tmps → a.defers = D → Sat (hp w) L → c.wp P (PostOf n Q) a w :=
  fun a w h1 h2 h3 h4 => wpIn_wide.1 (h a w h1 h2 h3 h4 none (.inl rfl))

section
variable {P : Program} {n : Nat} {Q : Post} {E : Env} {D : List Deferred} {L : List Assn}

def Post.then (K : Env → List Deferred → List Assn → Prop) (Q : Post) : Post
  | .normal, E, D, L => K E D L
  | e, E, D, L => Q e E D L
def Post.inBlock (id : Nat) (Q : Post) : Post
  | .exit i, E, D, L => match Nat.beq i id with
    | true => Q .normal E D L
    | false => Q (.exit i) E D L
  | e, E, D, L => Q e E D L

theorem Wp.weaken {c : Code} {E' : Env} {L' : List Assn} (hE : ∀ i a, look i E' = some a → look i E = some a) (hL : ∀ k, Sat k L → Sat k L')
    (h : Wp P n c Q E' D L') : Wp P n c Q E D L := fun a w h1 h2 h3 h4 => h a w h1 (h2.weaken hE) h3 (hL _ h4)

theorem PostOf.mono {Q Q' : Post} (h : ∀ e E D L, Q e E D L → Q' e E D L) : ∀ e a w, PostOf n Q e a w → PostOf n Q' e a w := by
  intro e a w hh
  cases e <;> simp only [PostOf] at hh ⊢
  case panic c => obtain ⟨D, L, h1, h2⟩ := hh; exact ⟨D, L, h _ _ _ _ h1, h2⟩
  all_goals (obtain ⟨E, D, L, h1, h2⟩ := hh; exact ⟨E, D, L, h _ _ _ _ h1, h2⟩)

theorem Wp.mono {c : Code} {Q Q' : Post} (h : Wp P n c Q E D L) (hQ : ∀ e E D L, Q e E D L → Q' e E D L) : Wp P n c Q' E D L :=
  fun a w h1 h2 h3 h4 r hr => wpIn_mono (h a w h1 h2 h3 h4 r hr) (PostOf.mono hQ)

theorem Wp.seq {x y : Code} (h : Wp P n x (Post.then (Wp P n y Q) Q) E D L) : Wp P n (.seq x y) Q E D L := fun a w h1 h2 h3 h4 r hr =>
  wpIn_seq (wpIn_mono (h a w h1 h2 h3 h4 r (hr.imp id fun h => by simp only [noDefer, Bool.and_eq_true] at h; exact h.1)) fun e a' w' hh => by
    cases e <;> simp only [PostOf, Post.then, Exit.then] at hh ⊢
    case normal => obtain ⟨E, D, L, q, r1, r2, r3, r4⟩ := hh; exact q a' w' r1 r2 r3 r4 r (hr.imp id fun h => by simp only [noDefer, Bool.and_eq_true] at h; exact h.2)
    all_goals exact hh)
theorem Wp.skip (h : Q .normal E D L) : Wp P n .skip Q E D L := fun a w h1 h2 h3 h4 r hr => wpIn_skip ⟨E, D, L, h, h1, h2, h3, h4⟩
theorem Wp.exit {id : Nat} (h : Q (.exit id) E D L) : Wp P n (.exit id) Q E D L := fun a w h1 h2 h3 h4 r hr => wpIn_exit ⟨E, D, L, h, h1, h2, h3, h4⟩
theorem Wp.ret (h : Q .ret E D L) : Wp P n .ret Q E D L := fun a w h1 h2 h3 h4 r hr => wpIn_ret ⟨E, D, L, h, h1, h2, h3, h4⟩
theorem Wp.block {id : Nat} {c : Code} (h : Wp P n c (Post.inBlock id Q) E D L) : Wp P n (.block id c) Q E D L := fun a w h1 h2 h3 h4 r hr =>
  wpIn_block (wpIn_mono (h a w h1 h2 h3 h4 r hr) fun e a' w' hh => by
    cases e <;> simp only [PostOf, Post.inBlock, Exit.inBlock] at hh ⊢
    case exit i =>
      obtain ⟨E, D, L, q, r⟩ := hh
      by_cases hi : i = id
      · subst hi; simp only [Nat.beq_refl, if_true] at q ⊢; exact ⟨E, D, L, q, r⟩
      · have : Nat.beq i id = false := beqF hi
        simp only [this, hi, if_false] at q ⊢; exact ⟨E, D, L, q, r⟩
    all_goals exact hh)
theorem Wp.cond {c : Operand} {x y : Code} {t : Bool} (hc : opv c E = some (true, .bool t)) (h1 : t = true → Wp P n x Q E D L) (h2 : t = false → Wp P n y Q E D L) :
    Wp P n (.cond c x y) Q E D L := fun a w r1 r2 r3 r4 r hr =>
  wpIn_cond_split (EvG.of (g := true) hc a r2 rfl) (fun h => h1 h a w r1 r2 r3 r4 r (hr.imp id fun h => by simp only [noDefer, Bool.and_eq_true] at h; exact h.1)) (fun h => h2 h a w r1 r2 r3 r4 r (hr.imp id fun h => by simp only [noDefer, Bool.and_eq_true] at h; exact h.2))
theorem EnvSat.shadow {E : Env} {t : Array Value} (h : EnvSat E t) {s : Nat} {v v' : Value} (hs : look s E = some (.v v)) (e : v = v') : EnvSat ((s, .v v') :: E) t := by
  intro i b hi
  unfold look at hi
  by_cases e' : i = s
  · subst e'
    simp only [Nat.beq_refl, Option.some.injEq] at hi
    subst hi; subst e
    exact h _ _ hs
  · rw [beqF e'] at hi; exact h _ _ hi
/-- A branch on a temporary, of which one knows it then. -/
theorem Wp.branch {s : Nat} {x y : Code} {t : Bool} (hc : look s E = some (.v (.bool t))) (h1 : t = true → Wp P n x Q ((s, .v (.bool true)) :: E) D L) (h2 : t = false → Wp P n y Q ((s, .v (.bool false)) :: E) D L) :
    Wp P n (.cond (.tmp s) x y) Q E D L := fun a w r1 r2 r3 r4 r hr =>
  wpIn_cond_split (EvG.v (g := true) hc a r2 rfl) (fun h => h1 h a w r1 (r2.shadow hc (by rw [h])) r3 r4 r (hr.imp id fun h => by simp only [noDefer, Bool.and_eq_true] at h; exact h.1)) (fun h => h2 h a w r1 (r2.shadow hc (by rw [h])) r3 r4 r (hr.imp id fun h => by simp only [noDefer, Bool.and_eq_true] at h; exact h.2))
theorem Wp.condT {c : Operand} {x y : Code} (hc : opv c E = some (true, .bool true)) (h1 : Wp P n x Q E D L) : Wp P n (.cond c x y) Q E D L :=
  Wp.cond hc (fun _ => h1) (fun h => by cases h)
theorem Wp.condF {c : Operand} {x y : Code} (hc : opv c E = some (true, .bool false)) (h1 : Wp P n y Q E D L) : Wp P n (.cond c x y) Q E D L :=
  Wp.cond hc (fun h => by cases h) (fun _ => h1)

/-- A loop: what holds at each round's head, told by x; each round's x is smaller. -/
theorem Wp.loop {c : Code} {α : Type} (I : α → Env → List Deferred → List Assn → Prop) (μ : α → Nat) (x0 : α) (h0 : I x0 E D L)
    (round : ∀ x E D L, I x E D L → Wp P n c (Post.then (fun E' D' L' => ∃ y, μ y < μ x ∧ I y E' D' L') Q) E D L) : Wp P n (.loop c) Q E D L := by
  intro a0 w0 h1 h2 h3 h4 r hr
  refine wpIn_loop_ghost (fun k a w => ∃ x E D L, μ x = k ∧ I x E D L ∧ a.tmps.size = n ∧ EnvSat E a.tmps ∧ a.defers = D ∧ Sat (hp w) L) (μ x0) ⟨x0, E, D, L, rfl, h0, h1, h2, h3, h4⟩ ?_
  rintro k a w ⟨x, E, D, L, rfl, hI, r1, r2, r3, r4⟩
  refine wpIn_mono (round x E D L hI a w r1 r2 r3 r4 r hr) fun e a' w' hh => ?_
  cases e <;> simp only [PostOf, Post.then, Exit.then] at hh ⊢
  case normal =>
    obtain ⟨E', D', L', ⟨y, hy, hIy⟩, q1, q2, q3, q4⟩ := hh
    exact ⟨μ y, hy, y, E', D', L', rfl, hIy, q1, q2, q3, q4⟩
  all_goals exact hh
end
end Go.Ab
end

section
/- The calculus: operations, regions in order and regions that draw their order, contracts. -/
namespace Go.Ab
open Go

section
variable {P : Program} {n : Nat} {Q : Post} {E : Env} {D : List Deferred} {L : List Assn} {ops : Array Oper} {o : Oper} {rest : List Oper}

theorem bltLt {a b : Nat} (h : Nat.blt a b = true) : a < b := by rwa [Nat.blt_eq] at h
theorem bleLe {a b : Nat} (h : Nat.ble a b = true) : a ≤ b := by rwa [Nat.ble_eq] at h

/-- An operation that looks at memory alone, or not even that. -/
def Qt (P : Program) (E : Env) (L : List Assn) (o : Oper) (g : Bool) (v : Value) : Prop :=
  ∀ (a : Act) (w : World), EnvSat E a.tmps → Sat (hp w) L → g = true → (execOp a.eval o).run P w = .ok (.value v) w

/-- An operation that may turn memory, or call. -/
def OpT (P : Program) (E : Env) (L : List Assn) (o : Oper) (R : Value → List Assn → Prop) (Rp : List PanicEntry → List Assn → Prop) : Prop :=
  ∀ (a : Act) (w : World) (K : Act → World → Prop) (Q0 : Exit → Act → World → Prop), EnvSat E a.tmps → Sat (hp w) L →
    (∀ v w' L', R v L' → Sat (hp w') L' → K (a.put o.dst v) w') →
    (∀ c w' L', Rp c L' → Sat (hp w') L' → Q0 (.panic c) a w') → o.wp P a w K Q0

def noPanic : List PanicEntry → List Assn → Prop := fun _ _ => False

/-- Operation i may come first. -/
def firstB (ops : Array Oper) (listed : Array Bool) (i : Nat) : Bool := Region.noSelect ops && Region.free .any ops listed i && (Region.ready .any ops listed).contains i
/-- An operation that never turns memory nor calls. -/
def quietB : Op → Bool
  | .move _ | .assign _ | .pick .. | .load .. | .nilCheck _ | .binOp .. | .unOp .. | .convert .. | .makeInterface .. | .makeFunc .. | .slice .. | .fieldAddr .. | .field .. | .indexAddr .. | .index .. | .lookup .. | .extract .. | .build .. | .typeAssert .. => true
  | .call ⟨.builtin b, _, _⟩ => match b with
    | .len | .cap | .max | .min => true
    | _ => false
  | _ => false
def pick (ops : Array Oper) : List Nat → Option (List Oper)
  | [] => some []
  | i :: r => match ops[i]? with
    | some ⟨d, op, ty, pos, af, gd⟩ => match pick ops r with
      | some l => some (⟨d, op, ty, pos, af, gd⟩ :: l)
      | none => none
    | none => none
/-- One after the other: no choice is left. -/
def forced (ops : Array Oper) : Array Bool → List Nat → Bool
  | listed, [] => (Region.ready .any ops listed).isEmpty
  | listed, i :: r => (Region.ready .any ops listed == [i]) && forced ops (listed.setIfInBounds i true) r
/-- b comes behind i, by what binds. -/
def reachB (ops : Array Oper) : Nat → Nat → Nat → Bool
  | 0, _, _ => false
  | f + 1, b, i => match ops[b]? with
    | some ob => ob.after.any (fun e => Region.binds .any e && (e.on == i || reachB ops f e.on i))
    | none => false
def barAfter (ops : Array Oper) (bar i : Nat) : Bool := match ops[bar]? with
  | some _ => reachB ops ops.size bar i
  | none => true
def closedB (ops : Array Oper) (listed : Array Bool) : Bool := (List.range ops.size).all fun x => !(listed.getD x false) || match ops[x]? with
  | some ox => ox.after.all (fun e => !(Region.binds .any e) || listed.getD e.on false)
  | none => true
def Closed (ops : Array Oper) (listed : Array Bool) : Prop := ∀ x ox, ops[x]? = some ox → listed.getD x false = true → ∀ e ∈ ox.after, Region.binds .any e = true → listed.getD e.on false = true
theorem closed_of {listed : Array Bool} (h : closedB ops listed = true) : Closed ops listed := fun x ox hx hl e he hb => by
  unfold closedB at h
  rw [List.all_eq_true] at h
  have h1 := h x (List.mem_range.2 (Array.getElem?_eq_some_iff.1 hx).1)
  rw [hl, hx] at h1
  simp only [Bool.not_true, Bool.false_or] at h1
  have h2 := Array.all_eq_true'.1 h1 e he
  rw [hb] at h2
  simpa using h2
theorem reach_spec {listed : Array Bool} (hcl : Closed ops listed) : ∀ (f b i : Nat) (ob : Oper), ops[b]? = some ob → (∀ e ∈ ob.after, Region.binds .any e = true → listed.getD e.on false = true) → reachB ops f b i = true → listed.getD i false = true
  | 0, _, _, _, _, _, h => by cases h
  | f + 1, b, i, ob, hb, hd, h => by
    unfold reachB at h
    rw [hb] at h
    simp only [] at h
    obtain ⟨e, he, h2⟩ := Array.any_eq_true'.1 h
    simp only [Bool.and_eq_true, Bool.or_eq_true, beq_iff_eq] at h2
    rcases h2.2 with h3 | h3
    · rw [← h3]; exact hd e he h2.1
    · cases hq : ops[e.on]? with
      | none =>
        cases f with
        | zero => cases h3
        | succ f => unfold reachB at h3; rw [hq] at h3; cases h3
      | some oe => exact reach_spec hcl f e.on i oe hq (hcl e.on oe hq (hd e he h2.1)) h3
/-- An order in which a region that draws may be walked: what is quiet as soon as it may, what is not when nothing else may; till the operation 'bar', the k-th, before which all others of them must come; then one after the other. -/
def plan (ops : Array Oper) (bar : Nat) : Nat → Array Bool → List Nat → Bool
  | _, listed, [] => (Region.ready .any ops listed).isEmpty
  | 0, listed, i :: r => i == bar && (Region.ready .any ops listed == [i]) && forced ops (listed.setIfInBounds i true) r
  | k + 1, listed, i :: r => i != bar && (match ops[i]? with
    | some o => if quietB o.op then firstB ops listed i && (barAfter ops bar i && closedB ops listed) else (Region.ready .any ops listed == [i])
    | none => false) && plan ops bar k (listed.setIfInBounds i true) r

/-- Whatever order is picked from here on, and S holds behind each operation before 'bar'. -/
def wpAnyB (P : Program) (ops : Array Oper) (Q : Exit → Act → World → Prop) (S : World → Prop) (bar : Nat) : Nat → Array Bool → Act → World → Prop
  | 0, listed, a, w => Region.ready .any ops listed = [] ∧ Q .normal a w
  | fuel + 1, listed, a, w =>
    (Region.ready .any ops listed = [] → Q .normal a w) ∧
    ∀ i ∈ Region.ready .any ops listed, wpOp P ops Q i (fun a' w' => if i = bar then wpAny P .any ops Q fuel (listed.setIfInBounds i true) a' w' else S w' ∧ wpAnyB P ops Q S bar fuel (listed.setIfInBounds i true) a' w') a w
theorem wpAny_of_bar {Q : Exit → Act → World → Prop} {S : World → Prop} {bar : Nat} : ∀ (fuel : Nat) (listed : Array Bool) (a : Act) (w : World), wpAnyB P ops Q S bar fuel listed a w → wpAny P .any ops Q fuel listed a w
  | 0, _, _, _, h => h
  | fuel + 1, _, _, _, h => ⟨h.1, fun i hi => wpOp_mono (fun a' w' h' => by
      split at h'
      · exact h'
      · exact wpAny_of_bar fuel _ a' w' h'.2) (h.2 i hi)⟩
theorem Closed.set {listed : Array Bool} {j : Nat} (h : Closed ops listed) (hj : j ∈ Region.ready .any ops listed) : Closed ops (listed.setIfInBounds j true) := fun x ox hx hl e he hb => by
  refine getD_set_true ?_
  by_cases hxj : j = x
  · subst hxj
    obtain ⟨_, oj, hoj, hall⟩ := mem_ready.1 hj
    rw [hoj] at hx; simp only [Option.some.injEq] at hx; subst hx
    exact hall e he hb
  · rw [getD_set_ne false hxj] at hl
    exact h x ox hx hl e he hb
theorem wpAnyB_first {Q : Exit → Act → World → Prop} {S : World → Prop} {bar i : Nat} {oi : Oper} {v : Value} (hi : ops[i]? = some oi) (hsel : ∀ (j : Nat) (o : Oper) cs b, ops[j]? = some o → o.op ≠ .select cs b)
    (hQ : ∀ c a w, Q (.panic c) (a.put oi.dst v) w → Q (.panic c) a w) (hib : i ≠ bar) (hba : barAfter ops bar i = true) :
    ∀ (fuel : Nat) (listed : Array Bool) (a : Act) (w : World), Closed ops listed →
      (∀ j oj, ops[j]? = some oj → j ≠ i → listed.getD j true = false → (∀ e ∈ oj.after, Region.binds .any e = true → e.on ≠ i) → oi.apart ops oj = true) →
      i ∈ Region.ready .any ops listed → YieldsIf P ops S oi v a → S w →
      wpAnyB P ops Q S bar fuel (listed.setIfInBounds i true) (a.put oi.dst v) w → wpAnyB P ops Q S bar (fuel + 1) listed a w := by
  intro fuel
  induction fuel with
  | zero =>
    intro listed a w _ _ hr hy hS H
    refine ⟨fun h => (by rw [h] at hr; cases hr), fun j hj => ?_⟩
    by_cases hji : j = i
    · subst hji; simp only [hib, if_false]; exact hy.wpOp hi hS ⟨hS, H⟩
    · have := ready_mono hj hji
      rw [H.1] at this
      cases this
  | succ fuel ih =>
    intro listed a w hcl hfree hr hy hS H
    refine ⟨fun h => (by rw [h] at hr; cases hr), fun j hj => ?_⟩
    by_cases hji : j = i
    · subst hji; simp only [hib, if_false]; exact hy.wpOp hi hS ⟨hS, H⟩
    · have h1 := H.2 j (ready_mono hj hji)
      obtain ⟨hjun, oj, hoj, hall⟩ := mem_ready.1 hj
      have hnot : ∀ e ∈ oj.after, Region.binds .any e = true → e.on ≠ i := fun e he hb heq => by
        have h1 := hall e he hb
        have h0 := (mem_ready.1 hr).1
        rw [heq] at h1
        rcases Nat.lt_or_ge i listed.size with h' | h'
        · simp [h'] at h0 h1; rw [h0] at h1; cases h1
        · simp [Array.getElem?_eq_none h'] at h1
      have hjb : j ≠ bar := by
        rintro rfl
        unfold barAfter at hba
        rw [hoj] at hba
        have h1 := reach_spec hcl _ _ _ oj hoj hall hba
        have h0 := (mem_ready.1 hr).1
        rcases Nat.lt_or_ge i listed.size with h' | h'
        · simp [h'] at h0 h1; rw [h0] at h1; cases h1
        · simp [Array.getElem?_eq_none h'] at h1
      simp only [hjb, if_false] at h1 ⊢
      have h2 := wpOp_putIf hoj (hfree j oj hoj hji hjun hnot) (fun cs b => hsel i oi cs b hi) (fun cs b => hsel j oj cs b hoj) hQ hy h1
      have hfree' : ∀ k ok, ops[k]? = some ok → k ≠ i → (listed.setIfInBounds j true).getD k true = false →
          (∀ e ∈ ok.after, Region.binds .any e = true → e.on ≠ i) → oi.apart ops ok = true := fun k ok hk hki hun hno => by
        refine hfree k ok hk hki ?_ hno
        by_cases hjk : j = k
        · subst hjk; exact hjun
        · rw [getD_set_ne true hjk] at hun; exact hun
      refine wpOp_mono (fun a' w' h3 => ⟨h3.2.1, ih (listed.setIfInBounds j true) a' w' (hcl.set hj) hfree' (ready_mono hr (Ne.symm hji)) h3.1 h3.2.1 ?_⟩) h2
      rw [Array.setIfInBounds_comm _ _ hji]
      exact h3.2.2
theorem wpAnyB_done {Q : Exit → Act → World → Prop} {S : World → Prop} {bar : Nat} {listed : Array Bool} {a : Act} {w : World} (hr : Region.ready .any ops listed = []) (h : Q .normal a w) : ∀ fuel, wpAnyB P ops Q S bar fuel listed a w
  | 0 => ⟨hr, h⟩
  | _ + 1 => ⟨fun _ => h, by rw [hr]; simp⟩

/-- How operations come: in their order (or with no choice left); or with choices, their readings in the parts Ls, till the k-th. -/
inductive Md where
  | seq
  | any (Ls : List Assn) (k : Nat)
class Nxt (m : Md) (m' : outParam Md) : Prop where h : match m with
  | .seq => m' = .seq
  | .any _ 0 => m' = .seq
  | .any Ls (k + 1) => m' = .any Ls k
instance : Nxt .seq .seq := ⟨rfl⟩
instance (Ls : List Assn) : Nxt (.any Ls 0) .seq := ⟨rfl⟩
instance (Ls : List Assn) (k : Nat) : Nxt (.any Ls (k + 1)) (.any Ls k) := ⟨rfl⟩

def WpO (P : Program) (n : Nat) (ops : Array Oper) (Q : Post) (m : Md) (l : List Oper) (E : Env) (D : List Deferred) (L : List Assn) : Prop :=
  match m with
  | .seq => (∀ (a : Act) (w : World), a.tmps.size = n → EnvSat E a.tmps → a.defers = D → Sat (hp w) L → wpList P ops (PostOf n Q) l a w) ∧
      ∀ (pl : List Nat) (listed : Array Bool), pick ops pl = some l → forced ops listed pl = true →
        ∀ (a : Act) (w : World), a.tmps.size = n → EnvSat E a.tmps → a.defers = D → Sat (hp w) L → wpAny P .any ops (PostOf n Q) pl.length listed a w
  | .any Ls k => ∀ (pl : List Nat) (listed : Array Bool) (bar : Nat), pick ops pl = some l → plan ops bar k listed pl = true →
      ∀ (a : Act) (w : World), a.tmps.size = n → EnvSat E a.tmps → a.defers = D → Sat (hp w) L → Sat (hp w) Ls → wpAnyB P ops (PostOf n Q) (fun w => Sat (hp w) Ls) bar pl.length listed a w
@[reducible] def mem (m : Md) (L : List Assn) : List Assn := match m with
  | .seq => L
  | .any _ 0 => L
  | .any Ls (_ + 1) => Ls
/-- What is read there stays. -/
def Keeps (m : Md) (L : List Assn) : Prop := match m with
  | .seq => True
  | .any _ 0 => True
  | .any Ls (_ + 1) => ∀ k, Sat k L → Sat k Ls

/-- The guard says g. -/
def GuardIs (ops : Array Oper) (E : Env) (o : Oper) (g : Bool) : Prop := ∀ a : Act, EnvSat E a.tmps → Region.wanted o (yielded ops a.tmps) = g

theorem GuardIs.none (h : o.guard = none) : GuardIs ops E o true := fun a _ => by simp [Region.wanted, h]
theorem GuardIs.t {j t : Nat} {c : Bool} (h : o.guard = some (j, true)) (hj : (ops[j]?).bind (·.dst) = some t) (hl : look t E = some (.v (.bool c))) : GuardIs ops E o c := fun a ha => by
  have := ha _ _ hl
  cases c <;> simp [Region.wanted, h, yielded, hj, this, AV.den]
theorem GuardIs.f {j t : Nat} {c : Bool} (h : o.guard = some (j, false)) (hj : (ops[j]?).bind (·.dst) = some t) (hl : look t E = some (.v (.bool c))) : GuardIs ops E o (!c) := fun a ha => by
  have := ha _ _ hl
  cases c <;> simp [Region.wanted, h, yielded, hj, this, AV.den]
theorem GuardIs.gt {j t : Nat} {c g : Bool} (h : o.guard = some (j, true)) (hj : (ops[j]?).bind (·.dst) = some t) (hl : look t E = some (.g g (.bool c))) : GuardIs ops E o (g && c) := fun a ha => by
  have := ha _ _ hl
  cases c <;> cases g <;> simp [Region.wanted, h, yielded, hj, this, AV.den, undef]
theorem GuardIs.gf {j t : Nat} {c g : Bool} (h : o.guard = some (j, false)) (hj : (ops[j]?).bind (·.dst) = some t) (hl : look t E = some (.g g (.bool c))) : GuardIs ops E o (g && !c) := fun a ha => by
  have := ha _ _ hl
  cases c <;> cases g <;> simp [Region.wanted, h, yielded, hj, this, AV.den, undef]

def guardOf (ops : Array Oper) (E : Env) (gd : Nat × Bool) : Option Bool :=
  match (ops[gd.1]?).bind (·.dst) with
  | some t => match look t E with
    | some (.v (.bool c)) => match gd.2 with
      | true => some c
      | false => some (!c)
    | some (.g g (.bool c)) => match gd.2 with
      | true => some (g && c)
      | false => some (g && !c)
    | _ => none
  | none => none
theorem GuardIs.of {gd : Nat × Bool} {g : Bool} (hg : o.guard = some gd) (h : guardOf ops E gd = some g) : GuardIs ops E o g := by
  obtain ⟨j, b⟩ := gd
  unfold guardOf at h
  split at h
  · rename_i t ht
    split at h
    · rename_i c hc
      cases b <;> simp only [Option.some.injEq] at h <;> subst h
      · exact GuardIs.f hg ht hc
      · exact GuardIs.t hg ht hc
    · rename_i g' c hc
      cases b <;> simp only [Option.some.injEq] at h <;> subst h
      · exact GuardIs.gf hg ht hc
      · exact GuardIs.gt hg ht hc
    · cases h
  · cases h

theorem Act.put_size (a : Act) (d : Option Tmp) (v : Value) : (a.put d v).tmps.size = a.tmps.size := by cases d <;> simp [Act.put]
theorem Act.put_defers' (a : Act) (d : Option Tmp) (v : Value) : (a.put d v).defers = a.defers := by cases d <;> rfl

theorem wpList_wanted {a : Act} {w : World} {Q0 : Exit → Act → World → Prop} (hw : Region.wanted o (yielded ops a.tmps) = true)
    (h : o.wp P a w (wpList P ops Q0 rest) Q0) : wpList P ops Q0 (o :: rest) a w := by
  unfold wpList; rw [if_pos hw]; exact .inl h
theorem wpOp_wanted {i : Nat} {oi : Oper} {Q0 : Exit → Act → World → Prop} {K : Act → World → Prop} {a : Act} {w : World} (hi : ops[i]? = some oi)
    (hw : Region.wanted oi (yielded ops a.tmps) = true) (h : oi.wp P a w K Q0) : wpOp P ops Q0 i K a w := by
  unfold wpOp; simp only [hi]; rw [if_pos hw]; exact .inl h

variable {m m' : Md}

theorem WpO.nil (h : Q .normal E D L) : WpO P n ops Q m [] E D L := by
  have hpl : ∀ pl, pick ops pl = some [] → pl = [] := fun pl hp => by
    cases pl with
    | nil => rfl
    | cons i r =>
      unfold pick at hp
      split at hp
      · split at hp <;> cases hp
      · cases hp
  cases m with
  | seq =>
    refine ⟨fun a w h1 h2 h3 h4 => ⟨E, D, L, h, h1, h2, h3, h4⟩, fun pl listed hp hb a w h1 h2 h3 h4 => ?_⟩
    obtain rfl := hpl pl hp
    simp only [forced, List.isEmpty_iff] at hb
    exact wpAny_done hb ⟨E, D, L, h, h1, h2, h3, h4⟩ _
  | any Ls k =>
    intro pl listed bar hp hb a w h1 h2 h3 h4 _
    obtain rfl := hpl pl hp
    have hb' : Region.ready .any ops listed = [] := by cases k <;> simpa [plan, List.isEmpty_iff] using hb
    exact wpAnyB_done hb' ⟨E, D, L, h, h1, h2, h3, h4⟩ _

theorem pick_cons {o : Oper} {rest : List Oper} {pl : List Nat} (h : pick ops pl = some (o :: rest)) : ∃ i r, pl = i :: r ∧ ops[i]? = some o ∧ pick ops r = some rest := by
  cases pl with
  | nil => cases h
  | cons i r =>
    unfold pick at h
    split at h
    · rename_i o' ho
      split at h
      · rename_i l hl
        simp only [Option.some.injEq, List.cons.injEq] at h
        obtain ⟨rfl, rfl⟩ := h
        exact ⟨i, r, rfl, ho, hl⟩
      · cases h
    · cases h

theorem Qt.upon {v : Value} {g : Bool} (hq : Qt P E L o g v) {a : Act} {w : World} {K : Act → World → Prop} {Q0 : Exit → Act → World → Prop}
    (h2 : EnvSat E a.tmps) (h4 : Sat (hp w) L) (hg : g = true) (h : K (a.put o.dst v) w) : o.wp P a w K Q0 := by
  unfold Oper.wp; rw [hq a w h2 h4 hg]; exact h

theorem PostOf.panic_put {c : List PanicEntry} {a : Act} {d : Option Tmp} {v : Value} {w : World} (h : PostOf n Q (.panic c) (a.put d v) w) : PostOf n Q (.panic c) a w := by
  obtain ⟨D, L, h1, h2, h3⟩ := h
  exact ⟨D, L, h1, by rw [← h2, Act.put_defers'], h3⟩

/-- The one that must come. -/
theorem wpAny_one {Q0 : Exit → Act → World → Prop} {i : Nat} {fuel : Nat} {listed : Array Bool} {a : Act} {w : World} (hr : Region.ready .any ops listed = [i]) (h : wpOp P ops Q0 i (wpAny P .any ops Q0 fuel (listed.setIfInBounds i true)) a w) : wpAny P .any ops Q0 (fuel + 1) listed a w :=
  wpAny_all hr (by simp) fun j hj => by
    obtain rfl : j = i := by simpa using hj
    exact h
theorem wpAnyB_one {Q0 : Exit → Act → World → Prop} {S : World → Prop} {bar i : Nat} {fuel : Nat} {listed : Array Bool} {a : Act} {w : World} (hr : Region.ready .any ops listed = [i])
    (h : wpOp P ops Q0 i (fun a' w' => if i = bar then wpAny P .any ops Q0 fuel (listed.setIfInBounds i true) a' w' else S w' ∧ wpAnyB P ops Q0 S bar fuel (listed.setIfInBounds i true) a' w') a w) : wpAnyB P ops Q0 S bar (fuel + 1) listed a w :=
  ⟨fun h0 => absurd (hr ▸ h0) (by simp), fun j hj => by
    rw [hr] at hj
    obtain rfl : j = i := by simpa using hj
    exact h⟩

theorem wpOp_quiet {i : Nat} {oi : Oper} {Q0 : Exit → Act → World → Prop} {K : Act → World → Prop} {a : Act} {w : World} {v : Value} {g : Bool} (hi : ops[i]? = some oi) (hg : GuardIs ops E oi g) (h2 : EnvSat E a.tmps) (h4 : Sat (hp w) L)
    (hq : Qt P E L oi g v) (h : K (a.put oi.dst (if g = true then v else undef)) w) : wpOp P ops Q0 i K a w := by
  have hw := hg a h2
  cases g with
  | true => exact wpOp_wanted hi hw (hq.upon h2 h4 rfl h)
  | false => unfold wpOp; simp only [hi]; rw [if_neg (by simp [hw])]; exact h

/-- A quiet operation, under a guard or not. -/
theorem WpO.q0 {d : Nat} {v : Value} {av : AV} {g : Bool} [hnx : Nxt m m'] (hqb : quietB o.op = true) (hdn : Nat.blt d n = true) (hd : o.dst = some d) (hg : GuardIs ops E o g) (hq : Qt P E (mem m L) o g v) (hav : av.den = if g = true then v else undef)
    (h : WpO P n ops Q m' rest ((d, av) :: E) D L) : WpO P n ops Q m (o :: rest) E D L := by
  have hput : ∀ (a : Act), a.tmps.size = n → EnvSat E a.tmps → EnvSat ((d, av) :: E) (a.put o.dst (if g = true then v else undef)).tmps := fun a h1 h2 => by
    have hlt : d < a.tmps.size := by rw [h1]; exact bltLt hdn
    rw [hd, ← hav]; exact EnvSat.put h2 hlt av
  have hnx := hnx.h
  cases m with
  | seq =>
    simp only [] at hnx; subst hnx
    refine ⟨fun a w h1 h2 h3 h4 => ?_, fun pl listed hp hb a w h1 h2 h3 h4 => ?_⟩
    · have hw := hg a h2
      cases g with
      | true => exact wpList_wanted hw (hq.upon h2 h4 rfl (h.1 _ w (by rw [Act.put_size, h1]) (hput a h1 h2) (by rw [Act.put_defers', h3]) h4))
      | false =>
        unfold wpList; rw [if_neg (by simp [hw])]
        exact h.1 _ w (by rw [Act.put_size, h1]) (hput a h1 h2) (by rw [Act.put_defers', h3]) h4
    · obtain ⟨i, r, rfl, hi, hr⟩ := pick_cons hp
      simp only [forced, Bool.and_eq_true, beq_iff_eq] at hb
      exact wpAny_one hb.1 (wpOp_quiet hi hg h2 h4 hq (h.2 r _ hr hb.2 _ w (by rw [Act.put_size, h1]) (hput a h1 h2) (by rw [Act.put_defers', h3]) h4))
  | any Ls k =>
    intro pl listed bar hp hb a w h1 h2 h3 h4 h5
    obtain ⟨i, r, rfl, hi, hr⟩ := pick_cons hp
    cases k with
    | zero =>
      simp only [] at hnx; subst hnx
      simp only [plan, Bool.and_eq_true, beq_iff_eq] at hb
      refine wpAnyB_one hb.1.2 (wpOp_quiet hi hg h2 h4 hq ?_)
      rw [if_pos hb.1.1]
      exact h.2 r _ hr hb.2 _ w (by rw [Act.put_size, h1]) (hput a h1 h2) (by rw [Act.put_defers', h3]) h4
    | succ k =>
      simp only [] at hnx; subst hnx
      unfold plan at hb
      rw [hi] at hb
      simp only [hqb, if_true, Bool.and_eq_true, bne_iff_ne, ne_eq] at hb
      obtain ⟨⟨hb0, hb1, hba, hcl⟩, hb2⟩ := hb
      simp only [firstB, Bool.and_eq_true] at hb1
      have hy : YieldsIf P ops (fun w => Sat (Ab.hp w) Ls) o (if g = true then v else undef) a := by
        have hw := hg a h2
        cases g with
        | true => exact .inl ⟨hw, fun w' hw' => hq a w' h2 hw' rfl⟩
        | false => exact .inr ⟨hw, rfl⟩
      refine wpAnyB_first hi (Region.noSelect_spec hb1.1.1) (fun c a w => PostOf.panic_put) hb0 hba _ _ _ _ (closed_of hcl) (Region.free_spec hi hb1.1.2) (by simpa using hb1.2) hy h5 ?_
      exact h r _ bar hr hb2 _ w (by rw [Act.put_size, h1]) (hput a h1 h2) (by rw [Act.put_defers', h3]) h4 h5

theorem WpO.q {d : Nat} {op : Op} {ty : TypeId} {pos : String} {af : Array Edge} {v : Value} [Nxt m m'] (hqb : quietB op = true) (hdn : Nat.blt d n = true) (hq : Qt P E (mem m L) ⟨some d, op, ty, pos, af, none⟩ true v)
    (h : WpO P n ops Q m' rest ((d, .v v) :: E) D L) : WpO P n ops Q m (⟨some d, op, ty, pos, af, none⟩ :: rest) E D L :=
  WpO.q0 hqb hdn rfl (GuardIs.none rfl) hq rfl h
theorem WpO.qd {d : Nat} {op : Op} {ty : TypeId} {pos : String} {af : Array Edge} {gd : Nat × Bool} {v : Value} {g : Bool} [Nxt m m'] (hqb : quietB op = true) (hdn : Nat.blt d n = true) (hg : guardOf ops E gd = some g) (hq : Qt P E (mem m L) ⟨some d, op, ty, pos, af, some gd⟩ g v)
    (h : WpO P n ops Q m' rest ((d, .g g v) :: E) D L) : WpO P n ops Q m (⟨some d, op, ty, pos, af, some gd⟩ :: rest) E D L :=
  WpO.q0 hqb hdn rfl (GuardIs.of rfl hg) hq rfl h
/-- An operation, quiet by its kind, whose guard says no. -/
theorem WpO.no {d : Nat} {op : Op} {ty : TypeId} {pos : String} {af : Array Edge} {gd : Nat × Bool} [Nxt m m'] (hqb : quietB op = true) (hdn : Nat.blt d n = true) (hg : guardOf ops E gd = some false)
    (h : WpO P n ops Q m' rest ((d, .g false undef) :: E) D L) : WpO P n ops Q m (⟨some d, op, ty, pos, af, some gd⟩ :: rest) E D L :=
  WpO.q0 (v := undef) hqb hdn rfl (GuardIs.of rfl hg) (fun _ _ _ _ h => by cases h) rfl h

/-- An operation that is not quiet: told by what it does to any continuation. -/
theorem WpO.loud [hnx : Nxt m m'] (hqb : quietB o.op = false)
    (hop : ∀ (a : Act) (w : World) (K : Act → World → Prop), a.tmps.size = n → EnvSat E a.tmps → a.defers = D → Sat (hp w) L →
      (∀ (a' : Act) (w' : World) E' D' L', a'.tmps.size = n → EnvSat E' a'.tmps → a'.defers = D' → Sat (hp w') L' → Keeps m L' → WpO P n ops Q m' rest E' D' L' → K a' w') →
      if Region.wanted o (yielded ops a.tmps) then o.wp P a w K (PostOf n Q) else K (a.put o.dst undef) w) : WpO P n ops Q m (o :: rest) E D L := by
  have hwp : ∀ {i : Nat} {a : Act} {w : World} {K : Act → World → Prop}, ops[i]? = some o → (if Region.wanted o (yielded ops a.tmps) then o.wp P a w K (PostOf n Q) else K (a.put o.dst undef) w) → wpOp P ops (PostOf n Q) i K a w := fun hi h => by
    unfold wpOp; simp only [hi]
    split
    · rename_i hw; rw [if_pos hw] at h; exact .inl h
    · rename_i hw; rw [if_neg hw] at h; exact h
  have hnx := hnx.h
  cases m with
  | seq =>
    simp only [] at hnx; subst hnx
    refine ⟨fun a w h1 h2 h3 h4 => ?_, fun pl listed hp hb a w h1 h2 h3 h4 => ?_⟩
    · have := hop a w (wpList P ops (PostOf n Q) rest) h1 h2 h3 h4 fun a' w' E' D' L' q1 q2 q3 q4 _ q5 => q5.1 a' w' q1 q2 q3 q4
      unfold wpList
      split
      · rename_i hw; rw [if_pos hw] at this; exact .inl this
      · rename_i hw; rw [if_neg hw] at this; exact this
    · obtain ⟨i, r, rfl, hi, hr⟩ := pick_cons hp
      simp only [forced, Bool.and_eq_true, beq_iff_eq] at hb
      exact wpAny_one hb.1 (hwp hi (hop a w _ h1 h2 h3 h4 fun a' w' E' D' L' q1 q2 q3 q4 _ q5 => q5.2 r _ hr hb.2 a' w' q1 q2 q3 q4))
  | any Ls k =>
    intro pl listed bar hp hb a w h1 h2 h3 h4 h5
    obtain ⟨i, r, rfl, hi, hr⟩ := pick_cons hp
    cases k with
    | zero =>
      simp only [] at hnx; subst hnx
      simp only [plan, Bool.and_eq_true, beq_iff_eq] at hb
      refine wpAnyB_one hb.1.2 (hwp hi (hop a w _ h1 h2 h3 h4 fun a' w' E' D' L' q1 q2 q3 q4 _ q5 => ?_))
      rw [if_pos hb.1.1]
      exact q5.2 r _ hr hb.2 a' w' q1 q2 q3 q4
    | succ k =>
      simp only [] at hnx; subst hnx
      unfold plan at hb
      rw [hi] at hb
      simp only [hqb, Bool.false_eq_true, if_false, Bool.and_eq_true, beq_iff_eq, bne_iff_ne, ne_eq] at hb
      obtain ⟨⟨hb0, hb1⟩, hb2⟩ := hb
      refine wpAnyB_one hb1 (hwp hi (hop a w _ h1 h2 h3 h4 fun a' w' E' D' L' q1 q2 q3 q4 qk q5 => ?_))
      rw [if_neg hb0]
      have hk := qk _ q4
      exact ⟨hk, q5 r _ bar hr hb2 a' w' q1 q2 q3 q4 hk⟩

/-- An operation that is not quiet. -/
theorem WpO.op0' {R : Value → List Assn → Prop} {Rp : List PanicEntry → List Assn → Prop} [Nxt m m'] (hqb : quietB o.op = false) (hg : GuardIs ops E o true) (ht : OpT P E L o R Rp)
    (hp' : ∀ c L', Rp c L' → Q (.panic c) [] D L')
    (h : ∀ v L', R v L' → Keeps m L' ∧ ∀ a : Act, a.tmps.size = n → EnvSat E a.tmps → ∃ E', EnvSat E' (a.put o.dst v).tmps ∧ WpO P n ops Q m' rest E' D L') : WpO P n ops Q m (o :: rest) E D L :=
  WpO.loud (m' := m') hqb fun a w K h1 h2 h3 h4 hK => by
    rw [if_pos (hg a h2)]
    refine ht a w K _ h2 h4 (fun v w' L' hR hS => ?_) (fun c w' L' hR hS => ⟨D, L', hp' c L' hR, h3, hS⟩)
    obtain ⟨h5, h6⟩ := h v L' hR
    obtain ⟨E', h7, h8⟩ := h6 a h1 h2
    exact hK _ w' E' D L' (by rw [Act.put_size, h1]) h7 (by rw [Act.put_defers', h3]) hS h5 h8
/-- An operation, not quiet by its kind, whose guard says no. -/
theorem WpO.noLoud {d : Nat} {op : Op} {ty : TypeId} {pos : String} {af : Array Edge} {gd : Nat × Bool} [Nxt m m'] (hqb : quietB op = false) (hdn : Nat.blt d n = true) (hg : guardOf ops E gd = some false) (hk : Keeps m L)
    (h : WpO P n ops Q m' rest ((d, .g false undef) :: E) D L) : WpO P n ops Q m (⟨some d, op, ty, pos, af, some gd⟩ :: rest) E D L :=
  WpO.loud (m' := m') hqb fun a w K h1 h2 h3 h4 hK => by
    have hgi : GuardIs ops E ⟨some d, op, ty, pos, af, some gd⟩ false := GuardIs.of rfl hg
    rw [if_neg (by simp [hgi a h2])]
    have hlt : d < a.tmps.size := by rw [h1]; exact bltLt hdn
    exact hK _ w _ D L (by rw [Act.put_size, h1]) (EnvSat.put h2 hlt (.g false undef)) (by rw [Act.put_defers', h3]) h4 hk h

/-- An operation with a result. -/
theorem WpO.op {d : Nat} {op : Op} {ty : TypeId} {pos : String} {af : Array Edge} {R : Value → List Assn → Prop} {Rp : List PanicEntry → List Assn → Prop} [Nxt m m'] (hqb : quietB op = false) (hdn : Nat.blt d n = true) (ht : OpT P E L ⟨some d, op, ty, pos, af, none⟩ R Rp)
    (hp' : ∀ c L', Rp c L' → Q (.panic c) [] D L') (h : ∀ v L', R v L' → Keeps m L' ∧ WpO P n ops Q m' rest ((d, .v v) :: E) D L') :
    WpO P n ops Q m (⟨some d, op, ty, pos, af, none⟩ :: rest) E D L :=
  WpO.op0' hqb (GuardIs.none rfl) ht hp' fun v L' hR => ⟨(h v L' hR).1, fun a h1 h2 => ⟨_, EnvSat.put h2 (by rw [h1]; exact bltLt hdn) (.v v), (h v L' hR).2⟩⟩
/-- .. under a guard that says yes. -/
theorem WpO.opg {d : Nat} {op : Op} {ty : TypeId} {pos : String} {af : Array Edge} {gd : Nat × Bool} {R : Value → List Assn → Prop} {Rp : List PanicEntry → List Assn → Prop} [Nxt m m'] (hqb : quietB op = false) (hdn : Nat.blt d n = true) (hg : guardOf ops E gd = some true) (ht : OpT P E L ⟨some d, op, ty, pos, af, some gd⟩ R Rp)
    (hp' : ∀ c L', Rp c L' → Q (.panic c) [] D L') (h : ∀ v L', R v L' → Keeps m L' ∧ WpO P n ops Q m' rest ((d, .v v) :: E) D L') :
    WpO P n ops Q m (⟨some d, op, ty, pos, af, some gd⟩ :: rest) E D L :=
  WpO.op0' hqb (GuardIs.of rfl hg) ht hp' fun v L' hR => ⟨(h v L' hR).1, fun a h1 h2 => ⟨_, EnvSat.put h2 (by rw [h1]; exact bltLt hdn) (.v v), (h v L' hR).2⟩⟩
/-- An operation without a result. -/
theorem WpO.op0 {op : Op} {ty : TypeId} {pos : String} {af : Array Edge} {R : Value → List Assn → Prop} {Rp : List PanicEntry → List Assn → Prop} [Nxt m m'] (hqb : quietB op = false) (ht : OpT P E L ⟨none, op, ty, pos, af, none⟩ R Rp)
    (hp' : ∀ c L', Rp c L' → Q (.panic c) [] D L') (h : ∀ v L', R v L' → Keeps m L' ∧ WpO P n ops Q m' rest E D L') :
    WpO P n ops Q m (⟨none, op, ty, pos, af, none⟩ :: rest) E D L :=
  WpO.op0' hqb (GuardIs.none rfl) ht hp' fun v L' hR => ⟨(h v L' hR).1, fun a h1 h2 => ⟨E, h2, (h v L' hR).2⟩⟩

/-! ### In a round of a range over a function, operations go as anywhere -/
theorem noLets : ¬ LetsOut (PostOf n Q) := by rintro ⟨_, _, q⟩; exact q
theorem wp_round {o : Oper} {a : Act} {w : World} {K : Act → World → Prop} {Q0 : Exit → Act → World → Prop} {l0 : Nat} (hd : noDeferO o = true) (h : o.wp P a w K Q0) : o.wpIn (fen (some l0)) 0 P a w K Q0 := by
  unfold Oper.wp at h
  refine ⟨fun _ _ => trivial, ?_⟩
  have hs : o.semAt (fen (some l0)).round a.eval = execOp a.eval o := Oper.semAt_some l0 _ _ fun c e => by
    unfold noDeferO at hd; rw [e] at hd; cases hd
  rw [hs]
  generalize (execOp a.eval o).run P w = r at h ⊢
  cases r with
  | ok x w' =>
    cases x with
    | value v => exact h
    | skip => exact h
    | defer d => exact h
    | enter f args => exact ⟨(fun q => by cases q), CallsIn.inRound l0 (callsIn_wide.2 h)⟩
    | row row args =>
      refine ⟨(fun q => by cases q), fun c cs _ => ?_⟩
      obtain ⟨v, w'', r1, r2⟩ := (show Rows P row args w' _ from h) c cs
      exact ⟨v, w'', r1, stepsIn_wide.2 r2⟩
    | _ => exact h.elim
  | halt x w' => cases x <;> exact h
theorem wpList_round {Q0 : Exit → Act → World → Prop} {l0 : Nat} (hno : ¬ LetsOut Q0) : ∀ (l : List Oper) (a : Act) (w : World), l.all noDeferO = true → wpList P ops Q0 l a w → wpListIn (fen (some l0)) 0 P ops Q0 l a w
  | [], _, _, _, h => h
  | o :: l, a, w, hd, h => by
    rw [List.all_cons, Bool.and_eq_true] at hd
    unfold wpList at h
    unfold wpListIn
    split at h
    · rename_i hw
      rw [if_pos hw]
      refine Oper.wpIn_mono (fun a w q => wpList_round hno l a w hd.2 q) (wp_round hd.1 ?_)
      exact h.resolve_right fun q => hno q.2
    · rename_i hw
      rw [if_neg hw]
      exact ⟨fun _ _ => trivial, wpList_round hno l _ w hd.2 h⟩
theorem wpAny_round {Q0 : Exit → Act → World → Prop} {l0 : Nat} (hno : ¬ LetsOut Q0) (hd : ops.all noDeferO = true) : ∀ (fuel : Nat) (listed : Array Bool) (a : Act) (w : World), wpAny P .any ops Q0 fuel listed a w → wpAnyIn (fen (some l0)) 0 P .any ops Q0 fuel listed a w
  | 0, _, _, _, h => h
  | fuel + 1, listed, a, w, h => by
    refine ⟨h.1, fun i hi => ?_⟩
    have h := h.2 i hi
    unfold wpOp at h
    unfold wpOpIn
    cases ho : ops[i]? with
    | none => rw [ho] at h; exact wpAny_round hno hd fuel _ a w h
    | some o =>
      have hdo : noDeferO o = true := by
        rw [Array.all_eq_true] at hd
        obtain ⟨hlt, e⟩ := Array.getElem?_eq_some_iff.1 ho
        rw [← e]; exact hd i hlt
      simp only [ho] at h ⊢
      split at h
      · rename_i hw
        rw [if_pos hw]
        refine Oper.wpIn_mono (fun a w q => wpAny_round hno hd fuel _ a w q) (wp_round hdo ?_)
        exact h.resolve_right fun q => hno q.2
      · rename_i hw
        rw [if_neg hw]
        exact ⟨fun _ _ => trivial, wpAny_round hno hd fuel _ _ w h⟩
theorem region_in {id : Nat} {l : List Oper} {a : Act} {w : World} {r : Option Nat} (hr : r = none ∨ noDefer (.region id l.toArray false) = true) (h : wpList P l.toArray (PostOf n Q) l a w) : (Code.region id l.toArray false).wpIn (fen r) 0 P (PostOf n Q) a w := by
  cases r with
  | none => exact wpIn_wide.2 (wp_region_lit h)
  | some l0 =>
    have hd := hr.resolve_left nofun
    exact wpIn_region_lit (wpList_round noLets l a w (by simpa [noDefer] using hd) h)
theorem draw_in {id : Nat} {a : Act} {w : World} {r : Option Nat} (hm : P.follows .mixedOrders = true) (hr : r = none ∨ noDefer (.region id ops true) = true) (h : wpAny P .any ops (PostOf n Q) ops.size (Array.replicate ops.size false) a { w with drawn := w.drawn + 1 }) : (Code.region id ops true).wpIn (fen r) 0 P (PostOf n Q) a w := by
  cases r with
  | none => exact wpIn_wide.2 (wp_region_any hm h)
  | some l0 =>
    have hd := hr.resolve_left nofun
    exact wpIn_region_any hm (wpAny_round noLets hd _ _ _ _ h)
theorem Wp.region {id : Nat} {l : List Oper} (h : WpO P n l.toArray Q .seq l E D L) : Wp P n (.region id l.toArray false) Q E D L :=
  fun a w h1 h2 h3 h4 _ hr => region_in hr (h.1 a w h1 h2 h3 h4)

/-- A region that draws its order. Ls: what its readings look at; the k-th operation of the order pl is the first that may turn what is read. -/
theorem Wp.draw {id : Nat} {l : List Oper} (hm : P.follows .mixedOrders = true) (pl : List Nat) (k bar : Nat) (Ls : List Assn) (hp : pick ops pl = some l) (hb : (Nat.beq pl.length ops.size && plan ops bar k (Array.replicate ops.size false) pl) = true) (hs : ∀ k, Sat k L → Sat k Ls)
    (h : WpO P n ops Q (.any Ls k) l E D L) : Wp P n (.region id ops true) Q E D L :=
  fun a w h1 h2 h3 h4 _ hr => draw_in hm hr (by
    rw [Bool.and_eq_true] at hb
    have := wpAny_of_bar _ _ _ _ (h pl _ bar hp hb.2 a { w with drawn := w.drawn + 1 } h1 h2 h3 h4 (hs _ h4))
    rw [Nat.eq_of_beq_eq_true hb.1] at this; exact this)

/-! ### Contracts -/
def Ct (P : Program) (f : FuncId) (args : Array Value) (L : List Assn) (R : Ending → List Assn → Prop) : Prop :=
  ∀ w, Sat (hp w) L → Calls P f args w (fun e w' => e ≠ .outgrown ∧ ∃ L', R e L' ∧ Sat (hp w') L')
/-- It returns. -/
def ret (φ : Value → List Assn → Prop) : Ending → List Assn → Prop
  | .returned v, L => φ v L
  | _, _ => False

theorem Ct.mono {f : FuncId} {args : Array Value} {R R' : Ending → List Assn → Prop} (h : Ct P f args L R) (hR : ∀ e L', R e L' → R' e L') : Ct P f args L R' :=
  fun w hw => (h w hw).mono fun e w' ⟨h0, L', h1, h2⟩ => ⟨h0, L', hR _ _ h1, h2⟩
theorem Ct.weaken {f : FuncId} {args : Array Value} {R : Ending → List Assn → Prop} {L' : List Assn} (h : Ct P f args L' R) (hL : ∀ k, Sat k L → Sat k L') : Ct P f args L R :=
  fun w hw => h w (hL _ hw)

def argEnv : Nat → List Value → Env
  | _, [] => []
  | i, v :: l => (i, .v v) :: argEnv (i + 1) l

theorem argEnv_sat : ∀ (l : List Value) (i : Nat) (t : Array Value), (∀ j v, l[j]? = some v → t[i + j]? = some v) → EnvSat (argEnv i l) t
  | [], _, _, _ => fun _ _ h => by cases h
  | x :: l, i, t, h => fun j b hj => by
    unfold argEnv look at hj
    by_cases e : j = i
    · subst e
      simp only [Nat.beq_refl, Option.some.injEq] at hj
      subst hj
      have := h 0 x rfl
      simpa [AV.den] using this
    · rw [beqF e] at hj
      refine argEnv_sat l (i + 1) t (fun k v hk => ?_) j b hj
      have := h (k + 1) v (by simpa using hk)
      rw [← this]; congr 1; omega

def getV (t : Nat) (E : Env) : Option Value := match look t E with
  | some (.v x) => some x
  | _ => none
theorem getV_sat {t : Nat} {E : Env} {x : Value} (h : getV t E = some x) {a : Array Value} (ha : EnvSat E a) : a.getD t undef = x := by
  unfold getV at h
  split at h
  · rename_i y hy
    simp only [Option.some.injEq] at h
    subst h
    have := ha _ _ hy
    simp [this, AV.den]
  · cases h
def resV : List ResultVar → Env → Option Value
  | [], _ => some (.tuple #[])
  | [.tmp t], E => getV t E
  | [.tmp t, .tmp u], E => match getV t E, getV u E with
    | some x, some y => some (.tuple #[x, y])
    | _, _ => none
  | [.tmp t, .tmp u, .tmp s], E => match getV t E, getV u E, getV s E with
    | some x, some y, some z => some (.tuple #[x, y, z])
    | _, _, _ => none
  | _, _ => none

theorem results_tmp3 {fn : Func} {t u s : Tmp} (h : fn.results = #[.tmp t, .tmp u, .tmp s]) (tmps : Array Value) (P : Program) (w : World) :
    (results fn tmps).run P w = .ok (.tuple #[tmps.getD t undef, tmps.getD u undef, tmps.getD s undef]) w := by
  simp [results, h]

theorem resV_run {fn : Func} {rs : List ResultVar} (hrs : fn.results = rs.toArray) {E : Env} {x : Value} {t : Array Value} (ht : EnvSat E t) (h : resV rs E = some x) (w : World) :
    (results fn t).run P w = .ok x w := by
  unfold resV at h
  split at h
  · simp only [Option.some.injEq] at h; subst h; exact results_none hrs t P w
  · rw [results_tmp hrs, getV_sat h ht]
  · split at h
    · rename_i h1 h2; simp only [Option.some.injEq] at h; subst h; rw [results_tmp2 hrs, getV_sat h1 ht, getV_sat h2 ht]
    · cases h
  · split at h
    · rename_i h1 h2 h3; simp only [Option.some.injEq] at h; subst h; rw [results_tmp3 hrs, getV_sat h1 ht, getV_sat h2 ht, getV_sat h3 ht]
    · cases h
  · cases h

theorem Sat.dropN {L : List Assn} {k : Hp} : ∀ (m : Nat), Sat k L → Sat k (L.drop m) := fun m h => Sat.drop (L.take m) (by rw [List.take_append_drop]; exact h)
def BodyPost (rs : List ResultVar) (R : Ending → List Assn → Prop) : Post
  | .normal, E, D, L | .ret, E, D, L => D = [] ∧ ∃ x L', resV rs E = some x ∧ (∀ k, Sat k L → Sat k L') ∧ R (.returned x) L'
  | .panic c, _, D, L => D = [] ∧ R (.panicked c) L
  | _, _, _, _ => False

theorem Ret {rs : List ResultVar} {R : Ending → List Assn → Prop} (m : Nat) {x : Value} (hv : resV rs E = some x) (h : R (.returned x) (L.drop m)) : BodyPost rs R .ret E [] L := ⟨rfl, x, _, hv, fun _ => Sat.dropN m, h⟩
theorem RetN {rs : List ResultVar} {R : Ending → List Assn → Prop} (m : Nat) {x : Value} (hv : resV rs E = some x) (h : R (.returned x) (L.drop m)) : BodyPost rs R .normal E [] L := ⟨rfl, x, _, hv, fun _ => Sat.dropN m, h⟩
theorem Ct.body {f : FuncId} {fn : Func} {c : Code} {args : Array Value} {R : Ending → List Assn → Prop} {rs : List ResultVar} (hf : P.funcs[f]? = some fn) (hb : fn.body = some c)
    (hn : fn.ntmps = n) (hrs : fn.results = rs.toArray) (hsz : Nat.ble args.size n = true)
    (h : Wp P n c (BodyPost rs R) (argEnv 0 args.toList) [] L) : Ct P f args L R := fun w hw => by
  refine calls_of_wp hf hb (wp_mono (h.wp _ w ?_ ?_ rfl hw) ?_)
  · have := bleLe hsz
    simp; omega
  · refine argEnv_sat _ _ _ fun j v hj => ?_
    have hlt : j < args.size := by
      have := (List.getElem?_eq_some_iff.1 hj).1
      simpa using this
    rw [Nat.zero_add, Array.getElem?_append_left hlt, ← Array.getElem?_toList]
    exact hj
  · intro e a w' hh
    cases e with
    | normal =>
      obtain ⟨E', D', L', ⟨h1, x, L'', h2, hd, h3⟩, _, h4, h5, h6⟩ := hh
      exact ⟨h5.trans h1, x, resV_run hrs h4 h2 w', nofun, L'', h3, hd _ h6⟩
    | ret =>
      obtain ⟨E', D', L', ⟨h1, x, L'', h2, hd, h3⟩, _, h4, h5, h6⟩ := hh
      exact ⟨h5.trans h1, x, resV_run hrs h4 h2 w', nofun, L'', h3, hd _ h6⟩
    | panic c =>
      obtain ⟨D', L', ⟨h1, h2⟩, h5, h6⟩ := hh
      exact ⟨h5.trans h1, nofun, L', h2, h6⟩
    | exit id => obtain ⟨_, _, _, h, _⟩ := hh; exact h
    | goto id => obtain ⟨_, _, _, h, _⟩ := hh; exact h
    | outgrown => exact hh.elim
end
end Go.Ab
end

section
/- The calculus: the operations that only reckon. -/
namespace Go.Ab
open Go

/-! ## What is known of types -/
class USlice (P : Program) (t : TypeId) (e : outParam TypeId) : Prop where h : P.underlying t = some (.slice e)
class UStr (P : Program) (t : TypeId) : Prop where h : P.underlying t = some .string
class UBool (P : Program) (t : TypeId) : Prop where h : P.underlying t = some .bool
class UInt (P : Program) (t : TypeId) (k : outParam IntKind) : Prop where h : P.underlying t = some (.int k)
class UMap (P : Program) (t : TypeId) (k e : outParam TypeId) : Prop where h : P.underlying t = some (.map k e)
class NotIface (P : Program) (t : TypeId) : Prop where h : ∃ d, P.underlying t = some d ∧ ∀ ms, d ≠ .interface ms
/-- One variable of the type: how many cells, and whether it is a struct or an array. -/
class TSize (P : Program) (t : TypeId) (sz : outParam Nat) (agg : outParam Bool) : Prop where
  size : ∀ w, (sizeOf t).run P w = .ok sz w
  agg : ∀ w, (isAgg t).run P w = .ok agg w
class TZero (P : Program) (t : TypeId) (z : outParam Value) : Prop where h : ∀ w, (zeroValue t).run P w = .ok z w
class TBytes (P : Program) (t : TypeId) (b : outParam Nat) : Prop where h : ∀ w, ∃ i, (typeInfo t).run P w = .ok i w ∧ i.bytes = b
class FieldAt (P : Program) (s : TypeId) (f : Nat) (off : outParam Nat) : Prop where
  h : ∀ b o w, (Instr.fieldAt s (.pointer (some ⟨b, o, none⟩)) f).run P w = .ok (.pointer (some ⟨b, o + off, none⟩)) w
class BuildOf (P : Program) (t : TypeId) (ps : List Nat) (f : outParam (List Value → Option (List Value))) : Prop where
  h : ∀ vs cs w, f vs = some cs → (Instr.build t (ps.zip vs).toArray).run P w = .ok (.agg cs.toArray) w

section
variable {P : Program} {E : Env} {L : List Assn} {d : Option Tmp} {ty : TypeId} {pos : String} {af : Array Edge} {gd : Option (Nat × Bool)} {g : Bool} {x y z : Operand}

theorem Qt.of0 {o : Oper} {v : Value} (h : ∀ (ρ : Operand → Value) w, (execOp ρ o).run P w = .ok (.value v) w) : Qt P E L o g v := fun a w _ _ _ => h a.eval w
theorem Qt.of1 {o : Oper} {v vx : Value} (h : ∀ (ρ : Operand → Value) w, ρ x = vx → (execOp ρ o).run P w = .ok (.value v) w) (hx : EvG E x g vx) : Qt P E L o g v :=
  fun a w h1 _ h3 => h a.eval w (hx a h1 h3)
theorem Qt.of2 {o : Oper} {v vx vy : Value} (h : ∀ (ρ : Operand → Value) w, ρ x = vx → ρ y = vy → (execOp ρ o).run P w = .ok (.value v) w) (hx : EvG E x g vx) (hy : EvG E y g vy) : Qt P E L o g v :=
  fun a w h1 _ h3 => h a.eval w (hx a h1 h3) (hy a h1 h3)

theorem run_ok {α β : Type} {m : Sem α} {f : α → Sem β} {a : α} {w w' : World} (h : m.run P w = .ok a w') : (m >>= f).run P w = (f a).run P w' := by
  rw [Sem.run_bind, h]; rfl
theorem run_u {t : TypeId} {d : TypeDesc} (h : P.underlying t = some d) (w : World) : (underlying t).run P w = .ok d w := by
  simp [underlying, program, Sem.run, bind, Sem.bind, h, pure]
theorem run_eqGuard {op : BinOp} {t : TypeId} {x y : Operand} {a b : Value} (h1 : ∀ vs, a ≠ .agg vs) (h2 : a ≠ .nilIface) (w : World) : (eqGuard op t x y a b).run P w = .ok () w := by
  cases op <;> first | rfl | (cases a <;> first | exact absurd rfl h2 | exact absurd rfl (h1 _) | rfl)
theorem run_v {m : Sem Value} {v : Value} {w w' : World} (h : m.run P w = .ok v w') : (do pure (Next.value (← m)) : Sem Next).run P w = .ok (.value v) w' := by
  rw [Sem.run_bind, h]; rfl

theorem Qt.move {v : Value} {c_hx : Bool} (hx : opv x E = some (c_hx, v)) [i_hx : Imp g c_hx] : Qt P E L ⟨d, .move x, ty, pos, af, gd⟩ g v :=
  .of1 (fun ρ w h => by simp [execOp, h, Sem.run, pure]) (EvG.of hx)
theorem Qt.assign {v : Value} {c_hx : Bool} (hx : opv x E = some (c_hx, v)) [i_hx : Imp g c_hx] : Qt P E L ⟨d, .assign x, ty, pos, af, gd⟩ g v :=
  .of1 (fun ρ w h => by simp [execOp, h, Sem.run, pure]) (EvG.of hx)

def arith (op : BinOp) (k : IntKind) (a b : Int) : Option Int :=
  match op with
  | .add => some (k.wrap (a + b))
  | .sub => some (k.wrap (a - b))
  | .mul => some (k.wrap (a * b))
  | _ => none
def icmp (op : BinOp) (a b : Int) : Option Bool :=
  match op with
  | .eql => some (decide (a = b))
  | .neq => some (!decide (a = b))
  | .lss => some (decide (a < b))
  | .leq => some (decide (a ≤ b))
  | .gtr => some (decide (b < a))
  | .geq => some (decide (b ≤ a))
  | _ => none
theorem Qt.arith {op : BinOp} {t u : TypeId} {k : IntKind} {a b r : Int}
    {c_hx : Bool} (hx : opv x E = some (c_hx, (.int k a))) [i_hx : Imp g c_hx] {c_hy : Bool} (hy : opv y E = some (c_hy, (.int k b))) [i_hy : Imp g c_hy]
    (hr : arith op k a b = some r)
    : Qt P E L ⟨d, .binOp op t x y u, ty, pos, af, gd⟩ g (.int k r) :=
  .of2 (fun ρ w h1 h2 => by
    cases op <;> simp only [Ab.arith, Option.some.injEq, reduceCtorEq] at hr <;> subst hr <;> simp [execOp, h1, h2, go_sem, eqGuard, binOp, Op.intArith]) (EvG.of hx) (EvG.of hy)
theorem Qt.icmp {op : BinOp} {t u : TypeId} {k : IntKind} {a b : Int} {r : Bool}
    {c_hx : Bool} (hx : opv x E = some (c_hx, (.int k a))) [i_hx : Imp g c_hx] {c_hy : Bool} (hy : opv y E = some (c_hy, (.int k b))) [i_hy : Imp g c_hy]
    (hr : icmp op a b = some r)
    : Qt P E L ⟨d, .binOp op t x y u, ty, pos, af, gd⟩ g (.bool r) :=
  .of2 (fun ρ w h1 h2 => by
    cases op <;> simp only [Ab.icmp, Option.some.injEq, reduceCtorEq] at hr <;> subst hr <;> simp [execOp, h1, h2, go_sem, eqGuard, binOp, Op.intCmp]
    all_goals (first | rfl | (rw [Bool.eq_iff_iff]; simp) | skip)) (EvG.of hx) (EvG.of hy)

/-- A string's bytes. -/
abbrev bs (s : ByteArray) : List UInt8 := s.data.toList
theorem bs_length (s : ByteArray) : (bs s).length = s.size := Array.length_toList
def scmp (op : BinOp) (a b : ByteArray) : Option Bool :=
  match op with
  | .eql => some (decide (bs a = bs b))
  | .neq => some (!decide (bs a = bs b))
  | _ => none
theorem Qt.scmp {op : BinOp} {t u : TypeId} {a b : ByteArray} {r : Bool}
    {c_hx : Bool} (hx : opv x E = some (c_hx, (.string a))) [i_hx : Imp g c_hx] {c_hy : Bool} (hy : opv y E = some (c_hy, (.string b))) [i_hy : Imp g c_hy]
    (hr : scmp op a b = some r)
    : Qt P E L ⟨d, .binOp op t x y u, ty, pos, af, gd⟩ g (.bool r) :=
  .of2 (fun ρ w h1 h2 => by
    simp only [execOp, h1, h2]
    refine run_v ?_
    rw [run_ok (run_eqGuard (by simp) (by simp) w)]
    have hb : (a.toList == b.toList) = decide (bs a = bs b) := by rw [ByteArray.toList_eq, ByteArray.toList_eq, Bool.beq_eq_decide_eq]
    cases op <;> simp only [Ab.scmp, Option.some.injEq, reduceCtorEq] at hr <;> subst hr
    · show Result.ok (Value.bool (a.toList == b.toList)) w = _
      rw [hb]
    · show Result.ok (Value.bool !(a.toList == b.toList)) w = _
      rw [hb]) (EvG.of hx) (EvG.of hy)
theorem run_eqBool {t : TypeId} {a b : Bool} (hu : P.underlying t = some .bool) (w : World) : (Op.equal t (.bool a) (.bool b)).run P w = .ok (a == b) w := by
  unfold Op.equal
  rw [show Op.maxDepth = 9999 + 1 from rfl]
  unfold Op.equalIn
  rw [run_ok (run_u hu w)]; rfl
theorem Qt.bcmp {t u : TypeId} {a b : Bool} [hu : UBool P t]
    {c_hx : Bool} (hx : opv x E = some (c_hx, (.bool a))) [i_hx : Imp g c_hx] {c_hy : Bool} (hy : opv y E = some (c_hy, (.bool b))) [i_hy : Imp g c_hy]
    : Qt P E L ⟨d, .binOp .eql t x y u, ty, pos, af, gd⟩ g (.bool (a == b)) :=
  .of2 (fun ρ w h1 h2 => by
    simp only [execOp, h1, h2]
    refine run_v ?_
    rw [run_ok (run_eqGuard (by simp) (by simp) w)]
    show (do pure (Value.bool (← Op.equal t (.bool a) (.bool b))) : Sem Value).run P w = _
    rw [run_ok (run_eqBool hu.h w)]; rfl) (EvG.of hx) (EvG.of hy)
theorem Qt.bneq {t u : TypeId} {a b : Bool} [hu : UBool P t]
    {c_hx : Bool} (hx : opv x E = some (c_hx, (.bool a))) [i_hx : Imp g c_hx] {c_hy : Bool} (hy : opv y E = some (c_hy, (.bool b))) [i_hy : Imp g c_hy]
    : Qt P E L ⟨d, .binOp .neq t x y u, ty, pos, af, gd⟩ g (.bool (!(a == b))) :=
  .of2 (fun ρ w h1 h2 => by
    simp only [execOp, h1, h2]
    refine run_v ?_
    rw [run_ok (run_eqGuard (by simp) (by simp) w)]
    show (do pure (Value.bool (!(← Op.equal t (.bool a) (.bool b)))) : Sem Value).run P w = _
    rw [run_ok (run_eqBool hu.h w)]; rfl) (EvG.of hx) (EvG.of hy)
theorem Qt.sadd {t u : TypeId} {a b : ByteArray} (hb : (bs a).length + (bs b).length < 9223372036854775808)
    {c_hx : Bool} (hx : opv x E = some (c_hx, (.string a))) [i_hx : Imp g c_hx] {c_hy : Bool} (hy : opv y E = some (c_hy, (.string b))) [i_hy : Imp g c_hy]
    : Qt P E L ⟨d, .binOp .add t x y u, ty, pos, af, gd⟩ g (.string (a ++ b)) :=
  .of2 (fun ρ w h1 h2 => by
    have h3 : ¬ ((a.size + b.size : Nat) : Int) > IntKind.i64.max := by
      have e : IntKind.i64.max = 9223372036854775807 := by decide
      rw [e]
      have e1 : (bs a).length = a.size := bs_length _
      have e2 : (bs b).length = b.size := bs_length _
      omega
    simp only [execOp, h1, h2]
    refine run_v ?_
    rw [run_ok (run_eqGuard (by simp) (by simp) w)]
    show (Op.stringOp .add a b).run P w = _
    simp only [Op.stringOp, h3, if_false]
    rfl) (EvG.of hx) (EvG.of hy)
theorem Qt.not {t : TypeId} {a : Bool} {c_hx : Bool} (hx : opv x E = some (c_hx, (.bool a))) [i_hx : Imp g c_hx] :
    Qt P E L ⟨d, .unOp .not t x, ty, pos, af, gd⟩ g (.bool (!a)) :=
  .of1 (fun ρ w h1 => by
    show (do pure (Next.value (← Op.unary .not (ρ x))) : Sem Next).run P w = _
    rw [h1]; exact run_v rfl) (EvG.of hx)
theorem Qt.neg {t : TypeId} {k : IntKind} {a : Int} {c_hx : Bool} (hx : opv x E = some (c_hx, (.int k a))) [i_hx : Imp g c_hx] :
    Qt P E L ⟨d, .unOp .neg t x, ty, pos, af, gd⟩ g (.int k (k.wrap (0 - a))) :=
  .of1 (fun ρ w h1 => by
    show (do pure (Next.value (← Op.unary .neg (ρ x))) : Sem Next).run P w = _
    rw [h1]; exact run_v rfl) (EvG.of hx)
theorem Qt.extract {i : Nat} {vs : Array Value} {v : Value} {c_hx : Bool} (hx : opv x E = some (c_hx, (.tuple vs))) [i_hx : Imp g c_hx] (hv : vs[i]? = some v) :
    Qt P E L ⟨d, .extract x i, ty, pos, af, gd⟩ g v :=
  .of1 (fun ρ w h1 => by
    simp only [execOp, h1]
    refine run_v ?_
    simp only [Instr.extract, hv]; rfl) (EvG.of hx)
theorem Qt.lenSlice {t : TypeId} {a : Option Addr} {n c : Nat} {e : TypeId} [hu : USlice P t e] {c_hx : Bool} (hx : opv x E = some (c_hx, (.slice a n c))) [i_hx : Imp g c_hx] :
    Qt P E L ⟨d, .call ⟨.builtin .len, #[x], #[t]⟩, ty, pos, af, gd⟩ g (.int .i64 n) :=
  .of1 (fun ρ w h1 => by
    simp only [execOp, resolve, List.map_toArray, List.map_cons, List.map_nil, h1]
    show (do pure (Next.value (← Builtin.len_ #[t] ty #[.slice a n c])) : Sem Next).run P w = _
    refine run_v ?_
    simp only [Builtin.len_]
    rw [show (#[t] : Array TypeId)[0]? = some t from rfl, show (#[Value.slice a n c] : Array Value)[0]? = some (.slice a n c) from rfl]
    simp only []
    rw [run_ok (run_u hu.h w)]; rfl) (EvG.of hx)
theorem Qt.lenStr {t : TypeId} {s : ByteArray} [hu : UStr P t] {c_hx : Bool} (hx : opv x E = some (c_hx, (.string s))) [i_hx : Imp g c_hx] :
    Qt P E L ⟨d, .call ⟨.builtin .len, #[x], #[t]⟩, ty, pos, af, gd⟩ g (.int .i64 ((bs s).length : Nat)) :=
  .of1 (fun ρ w h1 => by
    have e1 : (bs s).length = s.size := bs_length _
    rw [e1]
    simp only [execOp, resolve, List.map_toArray, List.map_cons, List.map_nil, h1]
    show (do pure (Next.value (← Builtin.len_ #[t] ty #[.string s])) : Sem Next).run P w = _
    refine run_v ?_
    simp only [Builtin.len_]
    rw [show (#[t] : Array TypeId)[0]? = some t from rfl, show (#[Value.string s] : Array Value)[0]? = some (.string s) from rfl]
    simp only []
    rw [run_ok (run_u hu.h w)]; rfl) (EvG.of hx)
theorem Qt.fieldAddr {s : TypeId} {f b o off : Nat} [hf : FieldAt P s f off] {c_hx : Bool} (hx : opv x E = some (c_hx, (.pointer (some ⟨b, o, none⟩)))) [i_hx : Imp g c_hx] :
    Qt P E L ⟨d, .fieldAddr s x f, ty, pos, af, gd⟩ g (.pointer (some ⟨b, o + off, none⟩)) :=
  .of1 (fun ρ w h1 => by
    have := hf.h b o w
    simp only [execOp, h1]
    exact run_v this) (EvG.of hx)
theorem Qt.nilCheck {a : Addr} {c_hx : Bool} (hx : opv x E = some (c_hx, (.pointer (some a)))) [i_hx : Imp g c_hx] :
    Qt P E L ⟨d, .nilCheck x, ty, pos, af, gd⟩ g (.pointer (some a)) :=
  .of1 (fun ρ w h1 => by
    unfold execOp; simp only []; rw [h1]; rfl) (EvG.of hx)
theorem Qt.convInt {s t : TypeId} {k k' : IntKind} {a : Int} [hs : UInt P s k] [ht : UInt P t k'] {c_hx : Bool} (hx : opv x E = some (c_hx, (.int k a))) [i_hx : Imp g c_hx] :
    Qt P E L ⟨d, .convert s t x, ty, pos, af, gd⟩ g (.int k' (k'.wrap a)) :=
  .of1 (fun ρ w h1 => by
    simp only [execOp, h1]
    refine run_v ?_
    unfold convert
    rw [run_ok (run_u hs.h w), run_ok (run_u ht.h w)]; rfl) (EvG.of hx)
theorem Qt.makeFunc {f : FuncId} {ca : Array Operand} {cv : List Value} (hc : ∀ a : Act, EnvSat E a.tmps → g = true → (ca.map a.eval).toList = cv) :
    Qt P E L ⟨d, .makeFunc (.func f) #[] ca, ty, pos, af, gd⟩ g (.func (.func f) #[] cv.toArray) := fun a w h1 _ h3 => by
  have : ca.map a.eval = cv.toArray := by rw [← hc a h1 h3]
  simp only [execOp, this]
  simp [Sem.run, pure, bind, Sem.bind, Instr.makeFunc]
theorem Qt.pick0 {v1 v2 : Value} {cb : Bool} {cx : Operand} (hc : EvG E cx g (.bool cb)) (hx : EvG E x (g && cb) v1) (hy : EvG E y (g && !cb) v2) :
    Qt P E L ⟨d, .pick cx x y, ty, pos, af, gd⟩ g (if cb = true then v1 else v2) := fun a w h1 _ h3 => by
  subst h3
  have e1 := hc a h1 rfl
  cases cb with
  | true =>
    have e2 := hx a h1 rfl
    show (do pure (Next.value (if ← asBool (a.eval cx) then a.eval x else a.eval y)) : Sem Next).run P w = _
    rw [e1, e2]; rfl
  | false =>
    have e2 := hy a h1 rfl
    show (do pure (Next.value (if ← asBool (a.eval cx) then a.eval x else a.eval y)) : Sem Next).run P w = _
    rw [e1, e2]; rfl
theorem Qt.pick {v1 v2 : Value} {cb c1 c2 c3 : Bool} {cx : Operand} (hc : opv cx E = some (c1, .bool cb)) [Imp g c1] (hx : opv x E = some (c2, v1)) [Imp (g && cb) c2] (hy : opv y E = some (c3, v2)) [Imp (g && !cb) c3] :
    Qt P E L ⟨d, .pick cx x y, ty, pos, af, gd⟩ g (if cb = true then v1 else v2) := Qt.pick0 (EvG.of hc) (EvG.of hx) (EvG.of hy)
theorem Qt.and {cb b c1 c2 : Bool} {cx : Operand} (hc : opv cx E = some (c1, .bool cb)) [Imp g c1] (hx : opv x E = some (c2, .bool b)) [Imp (g && cb) c2] :
    Qt P E L ⟨d, .pick cx x (.const (.bool false)), ty, pos, af, gd⟩ g (.bool (cb && b)) := fun a w h1 h2 h3 => by
  rw [Qt.pick0 (P := P) (L := L) (EvG.of hc) (EvG.of hx) (EvG.c (v := .bool false)) a w h1 h2 h3]; cases cb <;> rfl
theorem Qt.or {cb b c1 c2 : Bool} {cx : Operand} (hc : opv cx E = some (c1, .bool cb)) [Imp g c1] (hy : opv y E = some (c2, .bool b)) [Imp (g && !cb) c2] :
    Qt P E L ⟨d, .pick cx (.const (.bool true)) y, ty, pos, af, gd⟩ g (.bool (cb || b)) := fun a w h1 h2 h3 => by
  rw [Qt.pick0 (P := P) (L := L) (EvG.of hc) (EvG.c (v := .bool true)) (EvG.of hy) a w h1 h2 h3]; cases cb <;> rfl

/-! ### Those that may panic, where they do not -/
theorem Qt.indexAddr {t e : TypeId} {b o n c sz : Nat} {agg : Bool} {i : Int} {k : IntKind} [hu : USlice P t e] [hz : TSize P e sz agg] (h0 : g = true → 0 ≤ i ∧ i < n)
    {c_hx : Bool} (hx : opv x E = some (c_hx, (.slice (some ⟨b, o, none⟩) n c))) [i_hx : Imp g c_hx] {c_hy : Bool} (hy : opv y E = some (c_hy, (.int k i))) [i_hy : Imp g c_hy] :
    Qt P E L ⟨d, .indexAddr t x y, ty, pos, af, gd⟩ g (.pointer (some ⟨b, o + i.toNat * sz, none⟩)) := fun a w h1 _ h3 => by
  have e1 := EvG.of (g := g) hx a h1 h3
  have e2 := EvG.of (g := g) hy a h1 h3
  have e3 := hz.size w
  have e4 := hu.h
  have e5 := h0 h3
  simp only [execOp, e1, e2]
  refine run_v ?_
  unfold Instr.indexAt
  rw [run_ok (a := (k, i)) (w' := w) rfl]
  simp only []
  rw [run_ok (run_u e4 w)]
  simp only []
  rw [run_ok (a := (some ⟨b, o, none⟩, n, e)) (w' := w) rfl]
  simp only []
  rw [run_ok (run_u e4 w)]
  simp only [e5.1, e5.2, and_self, if_true]
  rw [run_ok e3]
  simp only [Addr.add, Sem.run, pure]
  split
  · rename_i hh; simp [hh]
  · rfl
theorem Qt.indexStr {t : TypeId} {s : ByteArray} {i : Int} {k : IntKind} {ch : UInt8} [hu : UStr P t] (h0 : g = true → 0 ≤ i ∧ (bs s)[i.toNat]? = some ch)
    {c_hx : Bool} (hx : opv x E = some (c_hx, (.string s))) [i_hx : Imp g c_hx] {c_hy : Bool} (hy : opv y E = some (c_hy, (.int k i))) [i_hy : Imp g c_hy] :
    Qt P E L ⟨d, .index t x y, ty, pos, af, gd⟩ g (.int .u8 ch.toNat) := fun a w h1 _ h3 => by
  have e1 := EvG.of (g := g) hx a h1 h3
  have e2 := EvG.of (g := g) hy a h1 h3
  have e4 := hu.h
  obtain ⟨e5, e6⟩ := h0 h3
  have hlt : i.toNat < s.size := (List.getElem?_eq_some_iff.1 e6).1
  have e7 : s[i.toNat]? = some ch := by
    rw [getElem?_pos s i.toNat hlt, ← (List.getElem?_eq_some_iff.1 e6).2]; rfl
  simp only [execOp, e1, e2]
  refine run_v ?_
  unfold Instr.index
  rw [run_ok (a := (k, i)) (w' := w) rfl]
  simp only []
  rw [run_ok (run_u e4 w)]
  simp only [e5, if_true, e7]
  rfl
end
end Go.Ab
end

section
/- The calculus: memory: what is read, variables of one's own, rows that grow. -/
namespace Go.Ab
open Go

/-! ## Lists of parts -/
theorem pull_perm {α : Type} : ∀ (L : List α) (i : Nat) (A : α), L[i]? = some A → (A :: L.eraseIdx i).Perm L
  | [], _, _, h => by simp at h
  | x :: L, 0, A, h => by simp at h; subst h; exact List.Perm.refl _
  | x :: L, i + 1, A, h => by
    have := pull_perm L i A (by simpa using h)
    simp only [List.eraseIdx_cons_succ]
    exact (List.Perm.swap x A _).trans (this.cons x)
theorem set_perm {α : Type} : ∀ (L : List α) (i : Nat) (A : α), i < L.length → (L.set i A).Perm (A :: L.eraseIdx i)
  | [], _, _, h => by simp at h
  | x :: L, 0, A, h => List.Perm.refl _
  | x :: L, i + 1, A, h => by
    have := set_perm L i A (by simpa using h)
    simp only [List.set_cons_succ, List.eraseIdx_cons_succ]
    exact (this.cons x).trans (List.Perm.swap A x _)

theorem Sat.pull {L : List Assn} {k : Hp} {i : Nat} {A : Assn} (hi : L[i]? = some A) (h : Sat k L) : Sat k (A :: L.eraseIdx i) := h.perm (pull_perm L i A hi).symm
theorem Sat.set {L : List Assn} {k : Hp} {i : Nat} {A A' : Assn} (hi : L[i]? = some A) (h : Sat k (A' :: L.eraseIdx i)) : Sat k (L.set i A') :=
  h.perm (set_perm L i A' (List.getElem?_eq_some_iff.1 hi).1).symm
theorem Ent.at {L : List Assn} {i : Nat} {A : Assn} {φ : Hp → Prop} (hi : L[i]? = some A) (hm : Mono φ) (h : ∀ k, A k → φ k) : Ent L φ := fun k s =>
  Ent.of_head hm h k (Sat.pull hi s)

/-! ## What is read -/
def CellsAt (b o : Nat) (vs : List Value) : Hp → Prop := fun h => ∃ c e f, h b = some (.cells c e f) ∧ ∀ i v, vs[i]? = some v → c[o + i]? = some v
theorem CellsAt.mono (b o : Nat) (vs : List Value) : Mono (CellsAt b o vs) := fun _ _ hk ⟨c, e, f, h1, h2⟩ => ⟨c, e, f, hk _ _ h1, h2⟩
def lsub (o n : Nat) (vs : List Value) : List Value := (vs.drop o).take n
theorem CellsAt.sub {b o j n : Nat} {vs ws : List Value} {h : Hp} (hc : CellsAt b o vs h) (hw : (vs.drop j).take n = ws) : CellsAt b (o + j) ws h := by
  obtain ⟨c, e, f, h1, h2⟩ := hc
  refine ⟨c, e, f, h1, fun i v hv => ?_⟩
  subst hw
  rw [List.getElem?_take] at hv
  split at hv
  · rw [List.getElem?_drop] at hv
    rw [Nat.add_assoc]; exact h2 _ _ hv
  · cases hv

def scalar : Value → Bool
  | .agg _ | .tuple _ => false
  | _ => true

section
variable {P : Program} {E : Env} {L : List Assn} {d : Option Tmp} {ty : TypeId} {pos : String} {af : Array Edge} {gd : Option (Nat × Bool)} {g : Bool} {x y z : Operand}

theorem cell_of {w : World} {b o : Nat} {v : Value} (h : CellsAt b o [v] (hp w)) : w.cell? ⟨b, o, none⟩ = some v := by
  obtain ⟨c, e, f, h1, h2⟩ := h
  have := h2 0 v rfl
  have h1 : w.heap[b]? = _ := h1
  simp only [World.cell?, h1, Option.isSome_none, Bool.false_eq_true, if_false]
  exact this

theorem run_load {w : World} {b o : Nat} {v : Value} (h : CellsAt b o [v] (hp w)) : (load ⟨b, o, none⟩).run P w = .ok v w := by
  simp only [load, Sem.run, cell_of h]

theorem Addr.add_eq (b o n : Nat) : Addr.add ⟨b, o, none⟩ n = ⟨b, o + n, none⟩ := by
  unfold Addr.add; split
  · rename_i h; subst h; rfl
  · rfl

theorem run_loadCells {w : World} {b o : Nat} : ∀ (n i : Nat) (vs : List Value) (acc : Array Value), vs.length = n → CellsAt b (o + i) vs (hp w) →
    (loadCellsFrom ⟨b, o, none⟩ i n acc).run P w = .ok (acc ++ vs.toArray) w
  | 0, i, vs, acc, hl, h => by
    obtain rfl : vs = [] := List.length_eq_zero_iff.1 hl
    simp [loadCellsFrom, Sem.run, pure]
  | n + 1, i, v :: vs, acc, hl, h => by
    unfold loadCellsFrom
    rw [Addr.add_eq, run_ok (run_load (v := v) (by have := h.sub (j := 0) (n := 1) (ws := [v]) (by simp); simpa using this))]
    rw [run_loadCells n (i + 1) vs (acc.push v) (by simpa using hl) (by
      have := h.sub (j := 1) (n := vs.length) (ws := vs) (by simp)
      rw [← Nat.add_assoc]; exact this)]
    simp

theorem Qt.load {t : TypeId} {b o : Nat} {v : Value} [hz : TSize P t 1 false] (hE : g = true → Ent L (CellsAt b o [v]))
    {c_hx : Bool} (hx : opv x E = some (c_hx, (.pointer (some ⟨b, o, none⟩)))) [i_hx : Imp g c_hx] : Qt P E L ⟨d, .load t x, ty, pos, af, gd⟩ g v := fun a w h1 h2 h3 => by
  show (do pure (Next.value (← Instr.loadAt t (a.eval x))) : Sem Next).run P w = _
  rw [EvG.of (g := g) hx a h1 h3]
  refine run_v ?_
  show (loadVar t ⟨b, o, none⟩).run P w = _
  unfold loadVar
  rw [run_ok (hz.agg w)]
  exact run_load (hE h3 _ h2)

theorem Qt.loadN {t : TypeId} {b o sz : Nat} {vs : List Value} [hz : TSize P t sz true] (hE : g = true → Ent L (CellsAt b o vs)) (hl : vs.length = sz)
    {c_hx : Bool} (hx : opv x E = some (c_hx, (.pointer (some ⟨b, o, none⟩)))) [i_hx : Imp g c_hx] : Qt P E L ⟨d, .load t x, ty, pos, af, gd⟩ g (.agg vs.toArray) := fun a w h1 h2 h3 => by
  show (do pure (Next.value (← Instr.loadAt t (a.eval x))) : Sem Next).run P w = _
  rw [EvG.of (g := g) hx a h1 h3]
  refine run_v ?_
  show (loadVar t ⟨b, o, none⟩).run P w = _
  unfold loadVar
  rw [run_ok (hz.agg w)]
  simp only [if_true]
  rw [run_ok (hz.size w)]
  have := run_loadCells (P := P) (w := w) (b := b) (o := o) sz 0 vs #[] hl (hE h3 _ h2)
  unfold loadCells
  rw [run_ok this]; simp [Sem.run, pure]

/-! ## A variable of one's own -/
/-- The block b is just these cells. -/
def ptA (b e : Nat) (vs : List Value) : Assn := fun h => h b = some (.cells vs.toArray e (0, 0))
theorem ptA.cells {b e : Nat} {vs : List Value} {h : Hp} (hp : ptA b e vs h) : CellsAt b 0 vs h := ⟨_, e, _, hp, fun i v hv => by simpa using hv⟩
theorem Ent.pt {b e o : Nat} {vs ws : List Value} (i n : Nat) (hi : L[i]? = some (ptA b e vs)) (hw : (vs.drop o).take n = ws) : Ent L (CellsAt b o ws) :=
  Ent.at hi (CellsAt.mono _ _ _) fun _ h => by have := CellsAt.sub h.cells hw; rwa [Nat.zero_add] at this

def lset : List Value → Nat → List Value → List Value
  | l, _, [] => l
  | l, o, v :: vs => lset (l.set o v) (o + 1) vs
theorem lset_length : ∀ (vs l : List Value) (o : Nat), (lset l o vs).length = l.length
  | [], _, _ => rfl
  | v :: vs, l, o => by simp [lset, lset_length vs]
theorem lset_get : ∀ (vs l : List Value) (o i : Nat), (lset l o vs)[i]? = if o ≤ i ∧ i < o + vs.length ∧ i < l.length then vs[i - o]? else l[i]?
  | [], l, o, i => by simp [lset]; intros; omega
  | v :: vs, l, o, i => by
    rw [lset, lset_get vs]
    simp only [List.length_set, List.length_cons, List.getElem?_set]
    by_cases h1 : o = i
    · subst h1
      simp
      by_cases h2 : o < l.length
      · simp [h2]; intros; omega
      · simp [h2]
    · simp only [h1, if_false]
      by_cases h2 : o + 1 ≤ i ∧ i < o + 1 + vs.length ∧ i < l.length
      · rw [if_pos h2, if_pos (by omega), show i - o = (i - (o + 1)) + 1 from by omega]; simp
      · rw [if_neg h2, if_neg (by omega)]

theorem run_storeCells {b e o : Nat} : ∀ (vs : List Value) (i : Nat) (w : World) (c : List Value), w.heap[b]? = some (.cells c.toArray e (0, 0)) → (∀ v ∈ vs, scalar v = true) → o + i + vs.length ≤ c.length →
    (storeCells ⟨b, o, none⟩ vs i).run P w = .ok () { w with heap := w.heap.setIfInBounds b (.cells (lset c (o + i) vs).toArray e (0, 0)) }
  | [], i, w, c, hb, _, _ => by
    have : w.heap.setIfInBounds b (.cells c.toArray e (0, 0)) = w.heap := by
      apply Array.ext_getElem?; intro j
      rw [Array.getElem?_setIfInBounds]
      split
      · rename_i h; subst h; split
        · exact hb.symm
        · rename_i h; rw [Array.getElem?_eq_none (by omega)]
      · rfl
    simp [storeCells, Sem.run, pure, lset, this]
  | v :: vs, i, w, c, hb, hs, hl => by
    have hv := hs v (by simp)
    have hlt : o + i < c.length := by simp at hl; omega
    have hbs : b < w.heap.size := by
      rcases Nat.lt_or_ge b w.heap.size with h | h
      · exact h
      · rw [Array.getElem?_eq_none h] at hb; cases hb
    have hst : (store (Addr.add ⟨b, o, none⟩ i) v).run P w = .ok () { w with heap := w.heap.setIfInBounds b (.cells (c.set (o + i) v).toArray e (0, 0)) } := by
      rw [Addr.add_eq]
      have hc : w.cell? ⟨b, o + i, none⟩ = some c[o + i] := by simp [World.cell?, hb, hlt]
      have hf : w.frozen? ⟨b, o + i, none⟩ = false := by simp [World.frozen?, hb]
      have hw : w.setCell ⟨b, o + i, none⟩ v = { w with heap := w.heap.setIfInBounds b (.cells (c.set (o + i) v).toArray e (0, 0)) } := by
        simp only [World.setCell]
        congr 1
        apply Array.ext_getElem?; intro j
        rw [Array.getElem?_modify, Array.getElem?_setIfInBounds]
        split
        · rename_i h; subst h; rw [hb]; simp [hbs]
        · rfl
      cases v <;> simp [scalar] at hv <;> simp [store, Sem.run, hc, hf, hw]
    unfold storeCells
    rw [run_ok hst, run_storeCells vs (i + 1) _ (c.set (o + i) v) (e := e) (by simp [hbs]) (fun u hu => hs u (by simp [hu])) (by simp at hl ⊢; omega)]
    simp [lset, Nat.add_assoc]

theorem hp_set {w : World} {b : Nat} {o : Obj} : ∀ x, x ≠ b → hp { w with heap := w.heap.setIfInBounds b o } x = hp w x := fun x h => by
  simp only [hp]; rw [Array.getElem?_setIfInBounds_ne (Ne.symm h)]
theorem hp_set_at {w : World} {b : Nat} {o : Obj} (h : b < w.heap.size) : hp { w with heap := w.heap.setIfInBounds b o } b = some o := by
  simp [hp, h]
theorem lt_of_hp {w : World} {b : Nat} {o : Obj} (h : hp w b = some o) : b < w.heap.size := by
  rcases Nat.lt_or_ge b w.heap.size with h' | h'
  · exact h'
  · have h : w.heap[b]? = some o := h
    rw [Array.getElem?_eq_none h'] at h; cases h

theorem OpT.store {t : TypeId} {b e o sz : Nat} {vs ws : List Value} {v : Value} {agg : Bool} {M : List Assn} [hz : TSize P t sz agg] (i : Nat)
    {c_hx : Bool} (hx : opv x E = some (c_hx, (.pointer (some ⟨b, o, none⟩)))) [i_hx : Imp true c_hx] {c_hy : Bool} (hy : opv y E = some (c_hy, v)) [i_hy : Imp true c_hy]
    (hi : L[i]? = some (ptA b e vs)) (hv : v.cells.toList = ws) (hsz : ws.length = sz) (hs : ws.all scalar = true) (hl : Nat.ble (o + ws.length) vs.length = true) (hM : L.set i (ptA b e (lset vs o ws)) = M) :
    OpT P E L ⟨none, .store t x y, ty, pos, af, gd⟩ (fun _ L' => L' = M) noPanic := fun a w K Q0 h1 h2 hK hp' => by
  have hpt := Sat.pull hi h2
  obtain ⟨h0, l0, a0, s0⟩ := hpt
  have hb : w.heap[b]? = some (.cells vs.toArray e (0, 0)) := l0 _ _ a0
  have hrun : (storeVar t ⟨b, o, none⟩ v).run P w = .ok () { w with heap := w.heap.setIfInBounds b (.cells (lset vs o ws).toArray e (0, 0)) } := by
    unfold storeVar
    rw [run_ok (hz.size w), ← hsz]
    have : v.cells.size = ws.length := by rw [← hv]; simp
    simp only [this, ne_eq, not_true_eq_false, if_false]
    rw [hv]
    exact run_storeCells ws 0 w vs hb (by simpa using hs) (by simpa using bleLe hl)
  unfold Oper.wp
  have he : (execOp a.eval ⟨none, .store t x y, ty, pos, af, gd⟩).run P w = .ok .skip { w with heap := w.heap.setIfInBounds b (.cells (lset vs o ws).toArray e (0, 0)) } := by
    show (do Instr.storeAt t (a.eval x) (a.eval y); pure Next.skip : Sem Next).run P w = _
    rw [EvG.of (g := true) hx a h1 rfl, EvG.of (g := true) hy a h1 rfl]
    have hrun' : (Instr.storeAt t (.pointer (some ⟨b, o, none⟩)) v).run P w = .ok () { w with heap := w.heap.setIfInBounds b (.cells (lset vs o ws).toArray e (0, 0)) } := hrun
    rw [run_ok hrun']; rfl
  rw [he]
  refine hK undef _ M rfl ?_
  rw [← hM]
  refine Sat.set hi ?_
  have hbs := lt_of_hp (w := w) (l0 _ _ a0)
  refine Sat.turn (b := b) (Sat.pull hi h2) (fun h ha => ⟨_, ha⟩) hp_set (fun h ha hle => ?_) (by rw [hp_set_at hbs]; rfl)
  show (if b = b then hp _ b else h b) = _
  rw [if_pos rfl, hp_set_at hbs]

/-- A new variable. -/
theorem run_newVar (t : TypeId) (v : Value) (w : World) : (newVar t v).run P w = .ok ⟨w.heap.size, 0, none⟩ { w with heap := w.heap.push (.cells v.cells t) } := rfl

theorem OpT.box {e : TypeId} {v : Value} {vs : List Value} {c_hx : Bool} (hx : opv x E = some (c_hx, v)) [i_hx : Imp true c_hx] (hv : v.cells.toList = vs) :
    OpT P E L ⟨d, .box e x, ty, pos, af, gd⟩ (fun r L' => ∃ b, r = .pointer (some ⟨b, 0, none⟩) ∧ L' = ptA b e vs :: L) noPanic := fun a w K Q0 h1 h2 hK hp' => by
  unfold Oper.wp
  have he : (execOp a.eval ⟨d, .box e x, ty, pos, af, gd⟩).run P w = .ok (.value (.pointer (some ⟨w.heap.size, 0, none⟩))) { w with heap := w.heap.push (.cells v.cells e) } := by
    show (do pure (Next.value (← Instr.box e (a.eval x))) : Sem Next).run P w = _
    rw [EvG.of (g := true) hx a h1 rfl]; rfl
  rw [he]
  refine hK _ _ _ ⟨_, rfl, rfl⟩ (Sat.new ?_ h2)
  refine (Hp.single_at _ _).trans ?_
  rw [← hv]
theorem OpT.alloc {e : TypeId} {v : Value} {vs : List Value} [hz : TZero P e v] (hv : v.cells.toList = vs) :
    OpT P E L ⟨d, .alloc e, ty, pos, af, gd⟩ (fun r L' => ∃ b, r = .pointer (some ⟨b, 0, none⟩) ∧ L' = ptA b e vs :: L) noPanic := fun a w K Q0 h1 h2 hK hp' => by
  unfold Oper.wp
  have he : (execOp a.eval ⟨d, .alloc e, ty, pos, af, gd⟩).run P w = .ok (.value (.pointer (some ⟨w.heap.size, 0, none⟩))) { w with heap := w.heap.push (.cells v.cells e) } := by
    show (do pure (Next.value (← Instr.alloc e true (.tuple #[]))) : Sem Next).run P w = _
    refine run_v ?_
    unfold Instr.alloc
    rw [run_ok (hz.h w)]; rfl
  rw [he]
  refine hK _ _ _ ⟨_, rfl, rfl⟩ (Sat.new ?_ h2)
  refine (Hp.single_at _ _).trans ?_
  rw [← hv]

/-! ## Calls -/
def ev1 (x : Operand) (E : Env) : Option Value :=
  match x with
  | .tmp t => getV t E
  | .const v => some v
  | .func f => some (.func (.func f) #[] #[])
  | .global n => some (.pointer (some ⟨n, 0, none⟩))
def evs : List Operand → Env → Option (List Value)
  | [], _ => some []
  | x :: r, E => match ev1 x E with
    | some v => match evs r E with
      | some vs => some (v :: vs)
      | none => none
    | none => none
theorem ev1_sat {x : Operand} {v : Value} (h : ev1 x E = some v) {a : Act} (ha : EnvSat E a.tmps) : a.eval x = v := by
  cases x with
  | tmp t => exact getV_sat h ha
  | const u => simp only [ev1, Option.some.injEq] at h; subst h; rfl
  | global n => simp only [ev1, Option.some.injEq] at h; subst h; rfl
  | func f => simp only [ev1, Option.some.injEq] at h; subst h; rfl
theorem evs_sat : ∀ {l : List Operand} {vs : List Value}, evs l E = some vs → ∀ {a : Act}, EnvSat E a.tmps → l.map a.eval = vs
  | [], vs, h, a, ha => by simp only [evs, Option.some.injEq] at h; subst h; rfl
  | x :: r, vs, h, a, ha => by
    unfold evs at h
    split at h
    · rename_i v h1
      split at h
      · rename_i us h2
        simp only [Option.some.injEq] at h; subst h
        rw [List.map_cons, ev1_sat h1 ha, evs_sat h2 ha]
      · cases h
    · cases h

theorem OpT.call {f : FuncId} {args : List Operand} {tys : Array TypeId} {vs : List Value} {R : Ending → List Assn → Prop}
    (hc : ∀ (args : Array Value) (w : World), Sem.run P (callFunc f args) w = .ok (.enter f args) w) (hargs : evs args E = some vs) (hct : Ct P f vs.toArray L R) :
    OpT P E L ⟨d, .call ⟨.value (.func f), args.toArray, tys⟩, ty, pos, af, gd⟩ (fun v L' => R (.returned v) L') (fun c L' => R (.panicked c) L') := fun a w K Q0 h1 h2 hK hp' => by
  unfold Oper.wp
  have hm := evs_sat hargs h1
  have he : (execOp a.eval ⟨d, .call ⟨.value (.func f), args.toArray, tys⟩, ty, pos, af, gd⟩).run P w = .ok (.enter f vs.toArray) w := by
    show (callFunc f ((#[] ++ args.toArray.map a.eval) ++ #[])).run P w = _
    have : (#[] ++ args.toArray.map a.eval) ++ #[] = vs.toArray := by rw [← hm]; simp
    rw [this]; exact hc _ w
  rw [he]
  refine (hct w h2).mono fun e w' ⟨h0, L', hR, hS⟩ => ?_
  cases e with
  | returned v => exact hK v w' L' hR hS
  | panicked c => exact hp' c w' L' hR hS
  | outgrown => exact absurd rfl h0
end
end Go.Ab
end

section
/- The calculus: steps that go by themselves. -/
namespace Go.Ab
open Go
section
variable {P : Program} {n : Nat} {Q : Post} {E : Env} {D : List Deferred} {L : List Assn} {ops : Array Oper} {rest : List Oper} {m m' : Md}

theorem Keeps.none {L : List Assn} : Keeps .seq L := trivial
theorem Keeps.last {Ls L : List Assn} : Keeps (.any Ls 0) L := trivial
theorem Keeps.drop {Ls : List Assn} {k : Nat} (M : List Assn) : Keeps (.any Ls (k + 1)) (M ++ Ls) := fun _ h => Sat.drop M h
theorem Keeps.by {Ls L : List Assn} {k : Nat} (h : ∀ k, Sat k L → Sat k Ls) : Keeps (.any Ls (k + 1)) L := h

theorem WpO.store [Nxt m m'] {t : TypeId} {x y : Operand} {ty : TypeId} {pos : String} {af : Array Edge} {b e o sz : Nat} {vs ws : List Value} {v : Value} {agg : Bool} {M : List Assn} [hz : TSize P t sz agg] (i : Nat)
    (hx : opv x E = some (true, .pointer (some ⟨b, o, none⟩))) (hy : opv y E = some (true, v))
    (hi : L[i]? = some (ptA b e vs)) (hv : v.cells.toList = ws) (hsz : ws.length = sz) (hs : ws.all scalar = true) (hl : Nat.ble (o + ws.length) vs.length = true) (hM : L.set i (ptA b e (lset vs o ws)) = M) (hk : Keeps m M)
    (h : WpO P n ops Q m' rest E D M) : WpO P n ops Q m (⟨none, .store t x y, ty, pos, af, none⟩ :: rest) E D L :=
  WpO.op0 rfl (OpT.store i hx hy hi hv hsz hs hl hM) nofun fun _ _ e => by subst e; exact ⟨hk, h⟩

theorem WpO.box [Nxt m m'] {d : Nat} {x : Operand} {ty e : TypeId} {pos : String} {af : Array Edge} {v : Value} {vs : List Value} (hdn : Nat.blt d n = true) (hx : opv x E = some (true, v)) (hv : v.cells.toList = vs) (hk : ∀ b, Keeps m (ptA b e vs :: L))
    (h : ∀ b, WpO P n ops Q m' rest ((d, .v (.pointer (some ⟨b, 0, Option.none⟩))) :: E) D (ptA b e vs :: L)) : WpO P n ops Q m (⟨some d, .box e x, ty, pos, af, none⟩ :: rest) E D L :=
  WpO.op rfl hdn (OpT.box hx hv) nofun fun _ _ ⟨b, e1, e2⟩ => by subst e1; subst e2; exact ⟨hk b, h b⟩
theorem WpO.alloc [Nxt m m'] {d : Nat} {ty e : TypeId} {pos : String} {af : Array Edge} {v : Value} {vs : List Value} [TZero P e v] (hdn : Nat.blt d n = true) (hv : v.cells.toList = vs) (hk : ∀ b, Keeps m (ptA b e vs :: L))
    (h : ∀ b, WpO P n ops Q m' rest ((d, .v (.pointer (some ⟨b, 0, Option.none⟩))) :: E) D (ptA b e vs :: L)) : WpO P n ops Q m (⟨some d, .alloc e, ty, pos, af, none⟩ :: rest) E D L :=
  WpO.op rfl hdn (OpT.alloc hv) nofun fun _ _ ⟨b, e1, e2⟩ => by subst e1; subst e2; exact ⟨hk b, h b⟩

attribute [local irreducible] Wp WpO Qt OpT Ct

section steps
variable {d : Nat} {ty : TypeId} {pos : String} {af : Array Edge} {x y : Operand} {t u : TypeId}
theorem S.move [Nxt m m'] {v : Value} (h0 : Nat.blt d n = true) (hx : opv x E = some (true, v)) (h : WpO P n ops Q m' rest ((d, .v v) :: E) D L) : WpO P n ops Q m (⟨some d, .move x, ty, pos, af, none⟩ :: rest) E D L := WpO.q rfl h0 (Qt.move hx) h
theorem S.assign [Nxt m m'] {v : Value} (h0 : Nat.blt d n = true) (hx : opv x E = some (true, v)) (h : WpO P n ops Q m' rest ((d, .v v) :: E) D L) : WpO P n ops Q m (⟨some d, .assign x, ty, pos, af, none⟩ :: rest) E D L := WpO.q rfl h0 (Qt.assign hx) h
/-- Whatever two-place operation, but on addresses. -/
def bin (op : BinOp) : Value → Value → Option Value
  | .int k a, .int k' b => match decide (k = k') with
    | true => match Ab.arith op k a b with
      | some r => some (.int k r)
      | none => match Ab.icmp op a b with
        | some r => some (.bool r)
        | none => none
    | false => none
  | .string a, .string b => match Ab.scmp op a b with
    | some r => some (.bool r)
    | none => none
  | _, _ => none
theorem Qt.bin {g c1 c2 : Bool} {d : Option Tmp} {gd : Option (Nat × Bool)} {op : BinOp} {a b v : Value} (hx : opv x E = some (c1, a)) [Imp g c1] (hy : opv y E = some (c2, b)) [Imp g c2] (hr : bin op a b = some v) :
    Qt P E L ⟨d, .binOp op t x y u, ty, pos, af, gd⟩ g v := by
  unfold Ab.bin at hr
  split at hr
  · split at hr
    · rename_i k a' k' b' hk
      obtain rfl := of_decide_eq_true hk
      split at hr
      · rename_i r h1; simp only [Option.some.injEq] at hr; subst hr; exact Qt.arith hx hy h1
      · split at hr
        · rename_i r h1; simp only [Option.some.injEq] at hr; subst hr; exact Qt.icmp hx hy h1
        · cases hr
    · cases hr
  · split at hr
    · rename_i r h1; simp only [Option.some.injEq] at hr; subst hr; exact Qt.scmp hx hy h1
    · cases hr
  · cases hr
theorem S.bin [Nxt m m'] {op : BinOp} {a b v : Value} (h0 : Nat.blt d n = true) (hx : opv x E = some (true, a)) (hy : opv y E = some (true, b)) (hr : bin op a b = some v)
    (h : WpO P n ops Q m' rest ((d, .v v) :: E) D L) : WpO P n ops Q m (⟨some d, .binOp op t x y u, ty, pos, af, none⟩ :: rest) E D L := WpO.q rfl h0 (Qt.bin hx hy hr) h
theorem S.not [Nxt m m'] {a : Bool} (h0 : Nat.blt d n = true) (hx : opv x E = some (true, .bool a)) (h : WpO P n ops Q m' rest ((d, .v (.bool (!a))) :: E) D L) : WpO P n ops Q m (⟨some d, .unOp .not t x, ty, pos, af, none⟩ :: rest) E D L := WpO.q rfl h0 (Qt.not hx) h
theorem S.fieldAddr [Nxt m m'] {b o f off : Nat} (h0 : Nat.blt d n = true) (hx : opv x E = some (true, .pointer (some ⟨b, o, none⟩))) (hf : FieldAt P t f off)
    (h : WpO P n ops Q m' rest ((d, .v (.pointer (some ⟨b, o + off, none⟩))) :: E) D L) : WpO P n ops Q m (⟨some d, .fieldAddr t x f, ty, pos, af, none⟩ :: rest) E D L := WpO.q rfl h0 (Qt.fieldAddr hx) h
theorem S.load [Nxt m m'] {b o : Nat} {v : Value} (h0 : Nat.blt d n = true) (hx : opv x E = some (true, .pointer (some ⟨b, o, none⟩))) (hz : TSize P t 1 false) (hE : Ent (mem m L) (CellsAt b o [v]))
    (h : WpO P n ops Q m' rest ((d, .v v) :: E) D L) : WpO P n ops Q m (⟨some d, .load t x, ty, pos, af, none⟩ :: rest) E D L := WpO.q rfl h0 (Qt.load (fun _ => hE) hx) h
theorem S.or [Nxt m m'] {c b : Bool} {cx : Operand} {c2 : Bool} (h0 : Nat.blt d n = true) (hc : opv cx E = some (true, .bool c)) (hy : opv y E = some (c2, .bool b)) (hi : Imp (true && !c) c2)
    (h : WpO P n ops Q m' rest ((d, .v (.bool (c || b))) :: E) D L) : WpO P n ops Q m (⟨some d, .pick cx (.const (.bool true)) y, ty, pos, af, none⟩ :: rest) E D L := WpO.q rfl h0 (Qt.or hc hy) h
theorem S.and [Nxt m m'] {c b : Bool} {cx : Operand} {c2 : Bool} (h0 : Nat.blt d n = true) (hc : opv cx E = some (true, .bool c)) (hx : opv x E = some (c2, .bool b)) (hi : Imp (true && c) c2)
    (h : WpO P n ops Q m' rest ((d, .v (.bool (c && b))) :: E) D L) : WpO P n ops Q m (⟨some d, .pick cx x (.const (.bool false)), ty, pos, af, none⟩ :: rest) E D L := WpO.q rfl h0 (Qt.and hc hx) h
theorem S.lenSlice [Nxt m m'] {a : Option Addr} {ln c e : Nat} (h0 : Nat.blt d n = true) (hx : opv x E = some (true, .slice a ln c)) (hu : USlice P t e)
    (h : WpO P n ops Q m' rest ((d, .v (.int .i64 ln)) :: E) D L) : WpO P n ops Q m (⟨some d, .call ⟨.builtin .len, #[x], #[t]⟩, ty, pos, af, none⟩ :: rest) E D L := WpO.q rfl h0 (Qt.lenSlice hx) h
theorem S.lenStr [Nxt m m'] {s : ByteArray} (h0 : Nat.blt d n = true) (hx : opv x E = some (true, .string s)) (hu : UStr P t)
    (h : WpO P n ops Q m' rest ((d, .v (.int .i64 ((bs s).length : Nat))) :: E) D L) : WpO P n ops Q m (⟨some d, .call ⟨.builtin .len, #[x], #[t]⟩, ty, pos, af, none⟩ :: rest) E D L := WpO.q rfl h0 (Qt.lenStr hx) h
theorem S.extract [Nxt m m'] {i : Nat} {vs : Array Value} {v : Value} (h0 : Nat.blt d n = true) (hx : opv x E = some (true, .tuple vs)) (hv : vs[i]? = some v)
    (h : WpO P n ops Q m' rest ((d, .v v) :: E) D L) : WpO P n ops Q m (⟨some d, .extract x i, ty, pos, af, none⟩ :: rest) E D L := WpO.q rfl h0 (Qt.extract hx hv) h
theorem S.nilCheck [Nxt m m'] {a : Addr} (h0 : Nat.blt d n = true) (hx : opv x E = some (true, .pointer (some a)))
    (h : WpO P n ops Q m' rest ((d, .v (.pointer (some a))) :: E) D L) : WpO P n ops Q m (⟨some d, .nilCheck x, ty, pos, af, none⟩ :: rest) E D L := WpO.q rfl h0 (Qt.nilCheck hx) h
theorem S.convInt [Nxt m m'] {k k' : IntKind} {a : Int} (h0 : Nat.blt d n = true) (hx : opv x E = some (true, .int k a)) (hs : UInt P t k) (ht : UInt P u k')
    (h : WpO P n ops Q m' rest ((d, .v (.int k' (k'.wrap a))) :: E) D L) : WpO P n ops Q m (⟨some d, .convert t u x, ty, pos, af, none⟩ :: rest) E D L := WpO.q rfl h0 (Qt.convInt hx) h
/- The same under a guard. -/
variable {gd : Nat × Bool} {g c1 c2 : Bool}
theorem G.move [Nxt m m'] {v : Value} (h0 : Nat.blt d n = true) (hg : guardOf ops E gd = some g) (hx : opv x E = some (c1, v)) (i1 : Imp g c1) (h : WpO P n ops Q m' rest ((d, .g g v) :: E) D L) :
    WpO P n ops Q m (⟨some d, .move x, ty, pos, af, some gd⟩ :: rest) E D L := WpO.qd rfl h0 hg (Qt.move hx) h
theorem G.bin [Nxt m m'] {op : BinOp} {a b v : Value} (h0 : Nat.blt d n = true) (hg : guardOf ops E gd = some g) (hx : opv x E = some (c1, a)) (i1 : Imp g c1) (hy : opv y E = some (c2, b)) (i2 : Imp g c2) (hr : bin op a b = some v)
    (h : WpO P n ops Q m' rest ((d, .g g v) :: E) D L) : WpO P n ops Q m (⟨some d, .binOp op t x y u, ty, pos, af, some gd⟩ :: rest) E D L := WpO.qd rfl h0 hg (Qt.bin hx hy hr) h
theorem G.not [Nxt m m'] {a : Bool} (h0 : Nat.blt d n = true) (hg : guardOf ops E gd = some g) (hx : opv x E = some (c1, .bool a)) (i1 : Imp g c1) (h : WpO P n ops Q m' rest ((d, .g g (.bool (!a))) :: E) D L) :
    WpO P n ops Q m (⟨some d, .unOp .not t x, ty, pos, af, some gd⟩ :: rest) E D L := WpO.qd rfl h0 hg (Qt.not hx) h
theorem G.fieldAddr [Nxt m m'] {b o f off : Nat} (h0 : Nat.blt d n = true) (hg : guardOf ops E gd = some g) (hx : opv x E = some (c1, .pointer (some ⟨b, o, none⟩))) (i1 : Imp g c1) (hf : FieldAt P t f off)
    (h : WpO P n ops Q m' rest ((d, .g g (.pointer (some ⟨b, o + off, none⟩))) :: E) D L) : WpO P n ops Q m (⟨some d, .fieldAddr t x f, ty, pos, af, some gd⟩ :: rest) E D L := WpO.qd rfl h0 hg (Qt.fieldAddr hx) h
theorem G.load [Nxt m m'] {b o : Nat} {v : Value} (h0 : Nat.blt d n = true) (hg : guardOf ops E gd = some g) (hx : opv x E = some (c1, .pointer (some ⟨b, o, none⟩))) (i1 : Imp g c1) (hz : TSize P t 1 false) (hE : Ent (mem m L) (CellsAt b o [v]))
    (h : WpO P n ops Q m' rest ((d, .g g v) :: E) D L) : WpO P n ops Q m (⟨some d, .load t x, ty, pos, af, some gd⟩ :: rest) E D L := WpO.qd rfl h0 hg (Qt.load (fun _ => hE) hx) h
theorem G.lenSlice [Nxt m m'] {a : Option Addr} {ln c e : Nat} (h0 : Nat.blt d n = true) (hg : guardOf ops E gd = some g) (hx : opv x E = some (c1, .slice a ln c)) (i1 : Imp g c1) (hu : USlice P t e)
    (h : WpO P n ops Q m' rest ((d, .g g (.int .i64 ln)) :: E) D L) : WpO P n ops Q m (⟨some d, .call ⟨.builtin .len, #[x], #[t]⟩, ty, pos, af, some gd⟩ :: rest) E D L := WpO.qd rfl h0 hg (Qt.lenSlice hx) h
theorem G.lenStr [Nxt m m'] {s : ByteArray} (h0 : Nat.blt d n = true) (hg : guardOf ops E gd = some g) (hx : opv x E = some (c1, .string s)) (i1 : Imp g c1) (hu : UStr P t)
    (h : WpO P n ops Q m' rest ((d, .g g (.int .i64 ((bs s).length : Nat))) :: E) D L) : WpO P n ops Q m (⟨some d, .call ⟨.builtin .len, #[x], #[t]⟩, ty, pos, af, some gd⟩ :: rest) E D L := WpO.qd rfl h0 hg (Qt.lenStr hx) h
theorem G.nilCheck [Nxt m m'] {a : Addr} (h0 : Nat.blt d n = true) (hg : guardOf ops E gd = some g) (hx : opv x E = some (c1, .pointer (some a))) (i1 : Imp g c1)
    (h : WpO P n ops Q m' rest ((d, .g g (.pointer (some a))) :: E) D L) : WpO P n ops Q m (⟨some d, .nilCheck x, ty, pos, af, some gd⟩ :: rest) E D L := WpO.qd rfl h0 hg (Qt.nilCheck hx) h
theorem G.or [Nxt m m'] {c b : Bool} {cx : Operand} (h0 : Nat.blt d n = true) (hg : guardOf ops E gd = some g) (hc : opv cx E = some (c1, .bool c)) (i1 : Imp g c1) (hy : opv y E = some (c2, .bool b)) (hi : Imp (g && !c) c2)
    (h : WpO P n ops Q m' rest ((d, .g g (.bool (c || b))) :: E) D L) : WpO P n ops Q m (⟨some d, .pick cx (.const (.bool true)) y, ty, pos, af, some gd⟩ :: rest) E D L := WpO.qd rfl h0 hg (Qt.or hc hy) h
theorem G.and [Nxt m m'] {c b : Bool} {cx : Operand} (h0 : Nat.blt d n = true) (hg : guardOf ops E gd = some g) (hc : opv cx E = some (c1, .bool c)) (i1 : Imp g c1) (hx : opv x E = some (c2, .bool b)) (hi : Imp (g && c) c2)
    (h : WpO P n ops Q m' rest ((d, .g g (.bool (c && b))) :: E) D L) : WpO P n ops Q m (⟨some d, .pick cx x (.const (.bool false)), ty, pos, af, some gd⟩ :: rest) E D L := WpO.qd rfl h0 hg (Qt.and hc hx) h
end steps

end
end Go.Ab
end

section
/- The calculus: slices: what is read through them, rows of one's own, append, make, slicing. -/
namespace Go.Ab
open Go

/-! ## What is known behind the code's back -/
section
variable {P : Program} {n : Nat} {Q : Post} {E : Env} {D : List Deferred} {L : List Assn} {ops : Array Oper} {rest : List Oper}
theorem Wp.know {c : Code} {φ : Prop} (h : ∀ k, Sat k L → φ) (k : φ → Wp P n c Q E D L) : Wp P n c Q E D L := fun a w h1 h2 h3 h4 => k (h _ h4) a w h1 h2 h3 h4
theorem WpO.know {m : Md} {l : List Oper} {φ : Prop} (h : ∀ k, Sat k L → φ) (k : φ → WpO P n ops Q m l E D L) : WpO P n ops Q m l E D L := by
  cases m with
  | seq => exact ⟨fun a w h1 h2 h3 h4 => (k (h _ h4)).1 a w h1 h2 h3 h4, fun pl listed hp hb a w h1 h2 h3 h4 => (k (h _ h4)).2 pl listed hp hb a w h1 h2 h3 h4⟩
  | any Ls j => exact fun pl listed bar hp hb a w h1 h2 h3 h4 h5 => k (h _ h4) pl listed bar hp hb a w h1 h2 h3 h4 h5
theorem Wp.parts {c : Code} {L' : List Assn} (hL : ∀ k, Sat k L → Sat k L') (h : Wp P n c Q E D L') : Wp P n c Q E D L := fun a w h1 h2 h3 h4 => h a w h1 h2 h3 (hL _ h4)
theorem WpO.parts {m : Md} {l : List Oper} {L' : List Assn} (hL : ∀ k, Sat k L → Sat k L') (h : WpO P n ops Q m l E D L') : WpO P n ops Q m l E D L := by
  cases m with
  | seq => exact ⟨fun a w h1 h2 h3 h4 => h.1 a w h1 h2 h3 (hL _ h4), fun pl listed hp hb a w h1 h2 h3 h4 => h.2 pl listed hp hb a w h1 h2 h3 (hL _ h4)⟩
  | any Ls j => exact fun pl listed bar hp hb a w h1 h2 h3 h4 h5 => h pl listed bar hp hb a w h1 h2 h3 (hL _ h4) h5
end

/-! ## Reading through a slice -/
def RowsAt (b o sz : Nat) (rows : List (List Value)) : Hp → Prop := fun h => ∀ i r, rows[i]? = some r → r.length = sz ∧ CellsAt b (o + i * sz) r h
theorem RowsAt.mono (b o sz : Nat) (rows : List (List Value)) : Mono (RowsAt b o sz rows) := fun _ _ hk h i r hr => ⟨(h i r hr).1, CellsAt.mono _ _ _ _ _ hk (h i r hr).2⟩
/-- The slice a, of capacity c, reads as these rows of sz cells. -/
structure Sl (L : List Assn) (a : Option Addr) (c sz : Nat) (rows : List (List Value)) : Prop where
  cap : rows.length ≤ c
  ex : ∃ b o, (rows ≠ [] → a = some ⟨b, o, none⟩) ∧ (∀ r ∈ rows, r.length = sz) ∧ Ent L (RowsAt b o sz rows)
theorem Sl.cons {L : List Assn} {a : Option Addr} {c sz : Nat} {rows : List (List Value)} (h : Sl L a c sz rows) {A : Assn} : Sl (A :: L) a c sz rows :=
  ⟨h.cap, let ⟨b, o, h1, h2, h3⟩ := h.ex; ⟨b, o, h1, h2, h3.cons⟩⟩
theorem Sl.app {L : List Assn} {a : Option Addr} {c sz : Nat} {rows : List (List Value)} (h : Sl L a c sz rows) (M : List Assn) : Sl (M ++ L) a c sz rows :=
  ⟨h.cap, let ⟨b, o, h1, h2, h3⟩ := h.ex; ⟨b, o, h1, h2, h3.app M⟩⟩
theorem Sl.wk {L L' : List Assn} {a : Option Addr} {c sz : Nat} {rows : List (List Value)} (h : Sl L a c sz rows) (hL : ∀ k, Sat k L' → Sat k L) : Sl L' a c sz rows :=
  ⟨h.cap, let ⟨b, o, h1, h2, h3⟩ := h.ex; ⟨b, o, h1, h2, fun k s => h3 k (hL k s)⟩⟩
theorem Sl.at {L : List Assn} {a : Option Addr} {c sz : Nat} {rows : List (List Value)} (h : Sl L a c sz rows) {i : Nat} {r : List Value} (hi : rows[i]? = some r) :
    ∃ b o, a = some ⟨b, o, none⟩ ∧ r.length = sz ∧ Ent L (CellsAt b (o + i * sz) r) := by
  obtain ⟨b, o, h1, h2, h3⟩ := h.ex
  exact ⟨b, o, h1 (by intro e; subst e; simp at hi), h2 r (List.mem_of_getElem? hi), h3.imp fun k hk => (hk i r hi).2⟩
theorem Sl.rowsAt {L : List Assn} {b o : Nat} {c sz : Nat} {rows : List (List Value)} (h : Sl L (some ⟨b, o, none⟩) c sz rows) : Ent L (RowsAt b o sz rows) := by
  obtain ⟨b', o', h1, h2, h3⟩ := h.ex
  by_cases hr : rows = []
  · subst hr; exact fun k _ i r hi => by simp at hi
  · have := h1 hr; simp only [Option.some.injEq, Addr.mk.injEq, and_true] at this
    obtain ⟨rfl, rfl⟩ := this; exact h3
theorem Sl.nil {L : List Assn} {c sz : Nat} : Sl L none c sz [] := ⟨Nat.zero_le _, ⟨0, 0, fun h => absurd rfl h, nofun, fun _ _ i r hi => by simp at hi⟩⟩
theorem Sl.take {L : List Assn} {a : Option Addr} {c sz : Nat} {rows : List (List Value)} (h : Sl L a c sz rows) (m : Nat) : Sl L a c sz (rows.take m) := by
  obtain ⟨h0, ⟨b, o, h1, h2, h3⟩⟩ := h
  refine ⟨by rw [List.length_take]; omega, ⟨b, o, fun hn => h1 (by intro e; subst e; simp at hn), fun r hr => h2 r (List.mem_of_mem_take hr), h3.imp fun k hk i r hi => ?_⟩⟩
  rw [List.getElem?_take] at hi
  split at hi
  · exact hk i r hi
  · cases hi
/-- Where a slice begins that is cut at l. -/
def slA (a : Option Addr) (c l sz : Nat) : Option Addr := if c = l then a else a.map (·.add (l * sz))
theorem Sl.drop {L : List Assn} {a : Option Addr} {c sz : Nat} {rows : List (List Value)} (h : Sl L a c sz rows) (l : Nat) (hl : l ≤ rows.length) : Sl L (slA a c l sz) (c - l) sz (rows.drop l) := by
  obtain ⟨h0, ⟨b, o, h1, h2, h3⟩⟩ := h
  refine ⟨by rw [List.length_drop]; omega, ⟨b, o + l * sz, fun hn => ?_, fun r hr => h2 r (List.mem_of_mem_drop hr), h3.imp fun k hk i r hi => ?_⟩⟩
  · have hlt : l < rows.length := by
      rcases Nat.lt_or_ge l rows.length with h' | h'
      · exact h'
      · exact absurd (List.drop_eq_nil_of_le h') hn
    have := h1 (by intro e; subst e; simp at hlt)
    subst this
    unfold slA; rw [if_neg (by omega)]; simp [Addr.add_eq]
  · rw [List.getElem?_drop] at hi
    have := hk (l + i) r hi
    refine ⟨this.1, ?_⟩
    have h5 := this.2
    rw [Nat.add_mul, ← Nat.add_assoc] at h5; exact h5


theorem Ent.sub {L : List Assn} {b o j : Nat} {vs ws : List Value} (n : Nat) (h : Ent L (CellsAt b o vs)) (hw : (vs.drop j).take n = ws) : Ent L (CellsAt b (o + j) ws) := h.imp fun _ hk => hk.sub hw

section
variable {P : Program} {E : Env} {L : List Assn} {d : Option Tmp} {ty : TypeId} {pos : String} {af : Array Edge} {gd : Option (Nat × Bool)} {g : Bool} {x y z : Operand}

theorem Qt.idx {t e : TypeId} {b o n c sz : Nat} {agg : Bool} {i : Int} {ik : IntKind} [hu : USlice P t e] [hz : TSize P e sz agg] {c1 c2 : Bool} (k : Nat)
    (hx : opv x E = some (c1, .slice (some ⟨b, o, none⟩) n c)) [Imp g c1] (hy : opv y E = some (c2, .int ik i)) [Imp g c2] (h0 : g = true → i = (k : Int) ∧ k < n) :
    Qt P E L ⟨d, .indexAddr t x y, ty, pos, af, gd⟩ g (.pointer (some ⟨b, o + k * sz, none⟩)) := fun a w h1 h2 h3 => by
  obtain ⟨h4, h5⟩ := h0 h3
  have := Qt.indexAddr (P := P) (E := E) (L := L) (d := d) (ty := ty) (pos := pos) (af := af) (gd := gd) (g := g) (x := x) (y := y) (t := t) (i := i) (k := ik) (b := b) (o := o) (n := n) (c := c) (sz := sz) (fun _ => by omega) hx hy a w h1 h2 h3
  rw [this, h4]; simp

/-- What slicing makes. -/
theorem Qt.sliceS {t : TypeId} {s : ByteArray} {lo hi : Option Operand} {l h : Nat} {c1 : Bool} [hu : UStr P t] (hx : opv x E = some (c1, .string s)) [Imp g c1]
    (hlo : ∀ a : Act, EnvSat E a.tmps → g = true → lo.map a.eval = none ∧ l = 0 ∨ ∃ k, lo.map a.eval = some (.int k (l : Int)))
    (hhi : ∀ a : Act, EnvSat E a.tmps → g = true → hi.map a.eval = none ∧ h = (bs s).length ∨ ∃ k, hi.map a.eval = some (.int k (h : Int)))
    (hb : g = true → l ≤ h ∧ h ≤ (bs s).length) :
    Qt P E L ⟨d, .slice t x lo hi none, ty, pos, af, gd⟩ g (.string (s.extract l h)) := fun a w h1 _ h3 => by
  obtain ⟨hb1, hb2⟩ := hb h3
  rw [bs_length] at hb2
  have e0 := EvG.of (g := g) hx a h1 h3
  have e1 := hlo a h1 h3
  have e2 := hhi a h1 h3
  rw [bs_length] at e2
  show (do pure (Next.value (← Instr.sliceAt t (a.eval x) (lo.map a.eval) (hi.map a.eval) none)) : Sem Next).run P w = _
  rw [e0]
  refine run_v ?_
  unfold Instr.sliceAt
  rw [run_ok (run_u hu.h w)]
  simp only []
  unfold Instr.slice
  rw [run_ok (run_u hu.h w)]
  simp only [Option.isSome_none, Bool.false_eq_true, if_false]
  have hbd : (Instr.sliceBounds false s.size s.size (lo.map a.eval) (hi.map a.eval) none).run P w = .ok (l, h, s.size) w := by
    unfold Instr.sliceBounds
    rcases e1 with ⟨e1, rfl⟩ | ⟨k1, e1⟩ <;> rcases e2 with ⟨e2, rfl⟩ | ⟨k2, e2⟩ <;> rw [e1, e2]
    · rfl
    · rw [run_ok (a := s.size) (w' := w) rfl]
      simp only []
      rw [run_ok (a := h) (w' := w) (by
        unfold Instr.sliceBound
        rw [run_ok (a := (k2, (h : Int))) (w' := w) rfl]
        simp only []
        rw [if_pos (by omega)]; rfl)]
      rfl
    · rw [run_ok (a := s.size) (w' := w) rfl]
      simp only []
      rw [run_ok (a := s.size) (w' := w) rfl]
      rw [run_ok (a := l) (w' := w) (by
        unfold Instr.sliceBound
        rw [run_ok (a := (k1, (l : Int))) (w' := w) rfl]
        simp only []
        rw [if_pos (by omega)]; rfl)]
      rfl
    · rw [run_ok (a := s.size) (w' := w) rfl]
      simp only []
      rw [run_ok (a := h) (w' := w) (by
        unfold Instr.sliceBound
        rw [run_ok (a := (k2, (h : Int))) (w' := w) rfl]
        simp only []
        rw [if_pos (by omega)]; rfl)]
      rw [run_ok (a := l) (w' := w) (by
        unfold Instr.sliceBound
        rw [run_ok (a := (k1, (l : Int))) (w' := w) rfl]
        simp only []
        rw [if_pos (by omega)]; rfl)]
      rfl
  rw [run_ok hbd]; rfl

theorem Qt.sliceL {t e : TypeId} {a : Option Addr} {n c sz l h : Nat} {agg : Bool} {lo hi : Option Operand} {c1 : Bool} [hu : USlice P t e] [hz : TSize P e sz agg] (hx : opv x E = some (c1, .slice a n c)) [Imp g c1]
    (hlo : ∀ a : Act, EnvSat E a.tmps → g = true → lo.map a.eval = none ∧ l = 0 ∨ ∃ k, lo.map a.eval = some (.int k (l : Int)))
    (hhi : ∀ a : Act, EnvSat E a.tmps → g = true → hi.map a.eval = none ∧ h = n ∨ ∃ k, hi.map a.eval = some (.int k (h : Int)))
    (hb : g = true → l ≤ h ∧ h ≤ c) :
    Qt P E L ⟨d, .slice t x lo hi none, ty, pos, af, gd⟩ g (.slice (slA a c l sz) (h - l) (c - l)) := fun ac w h1 _ h3 => by
  obtain ⟨hb1, hb2⟩ := hb h3
  have e0 := EvG.of (g := g) hx ac h1 h3
  have e1 := hlo ac h1 h3
  have e2 := hhi ac h1 h3
  show (do pure (Next.value (← Instr.sliceAt t (ac.eval x) (lo.map ac.eval) (hi.map ac.eval) none)) : Sem Next).run P w = _
  rw [e0]
  refine run_v ?_
  unfold Instr.sliceAt
  rw [run_ok (run_u hu.h w)]
  simp only []
  unfold Instr.slice
  rw [run_ok (run_u hu.h w)]
  simp only []
  have hbd : (Instr.sliceBounds true n c (lo.map ac.eval) (hi.map ac.eval) none).run P w = .ok (l, h, c) w := by
    unfold Instr.sliceBounds
    rcases e1 with ⟨e1, rfl⟩ | ⟨k1, e1⟩ <;> rcases e2 with ⟨e2, rfl⟩ | ⟨k2, e2⟩ <;> rw [e1, e2]
    · rfl
    · rw [run_ok (a := c) (w' := w) rfl]
      simp only []
      rw [run_ok (a := h) (w' := w) (by
        unfold Instr.sliceBound
        rw [run_ok (a := (k2, (h : Int))) (w' := w) rfl]
        simp only []
        rw [if_pos (by omega)]; rfl)]
      rfl
    · rw [run_ok (a := c) (w' := w) rfl]
      simp only []
      rw [run_ok (a := h) (w' := w) rfl]
      rw [run_ok (a := l) (w' := w) (by
        unfold Instr.sliceBound
        rw [run_ok (a := (k1, (l : Int))) (w' := w) rfl]
        simp only []
        rw [if_pos (by omega)]; rfl)]
      rfl
    · rw [run_ok (a := c) (w' := w) rfl]
      simp only []
      rw [run_ok (a := h) (w' := w) (by
        unfold Instr.sliceBound
        rw [run_ok (a := (k2, (h : Int))) (w' := w) rfl]
        simp only []
        rw [if_pos (by omega)]; rfl)]
      rw [run_ok (a := l) (w' := w) (by
        unfold Instr.sliceBound
        rw [run_ok (a := (k1, (l : Int))) (w' := w) rfl]
        simp only []
        rw [if_pos (by omega)]; rfl)]
      rfl
  rw [run_ok hbd]
  simp only []
  rw [run_ok (hz.size w)]; rfl
end
end Go.Ab
end

section
/- The calculus: rows of one's own: they grow by append, are made, are written. -/
namespace Go.Ab
open Go

/-- The slice (a, rows.length, c) has its row for itself: the rows, and room up to c. -/
def ownA (e sz : Nat) (a : Option Addr) (c : Nat) (rows : List (List Value)) : Assn := fun h =>
  (∀ r ∈ rows, r.length = sz) ∧ rows.length ≤ c ∧
  ((a = none ∧ c = 0) ∨ ∃ b o cs, a = some ⟨b, o, none⟩ ∧ h b = some (.cells cs e (0, 0)) ∧ o + c * sz ≤ cs.size ∧ ∀ i v, rows.flatten[i]? = some v → cs[o + i]? = some v)

theorem flatten_length {sz : Nat} : ∀ (rows : List (List Value)), (∀ r ∈ rows, r.length = sz) → rows.flatten.length = rows.length * sz
  | [], _ => by simp
  | r :: rows, h => by
    rw [List.flatten_cons, List.length_append, flatten_length rows (fun x hx => h x (by simp [hx])), h r (by simp), List.length_cons, Nat.add_mul]; omega
theorem flatten_get {sz : Nat} : ∀ (rows : List (List Value)) (i j : Nat) (r : List Value) (v : Value), (∀ r ∈ rows, r.length = sz) → rows[i]? = some r → r[j]? = some v → rows.flatten[i * sz + j]? = some v
  | [], i, j, r, v, _, h, _ => by simp at h
  | x :: rows, 0, j, r, v, hl, h, hv => by
    simp at h; subst h
    rw [List.flatten_cons, Nat.zero_mul, Nat.zero_add, List.getElem?_append_left (List.getElem?_eq_some_iff.1 hv).1]; exact hv
  | x :: rows, i + 1, j, r, v, hl, h, hv => by
    have hx := hl x (by simp)
    rw [List.flatten_cons, List.getElem?_append_right (by rw [hx, Nat.add_mul]; omega), hx,
      show (i + 1) * sz + j - sz = i * sz + j from by rw [Nat.add_mul]; omega]
    exact flatten_get rows i j r v (fun y hy => hl y (by simp [hy])) (by simpa using h) hv

theorem ownA.rowsAt {e sz b o c : Nat} {rows : List (List Value)} {h : Hp} (ho : ownA e sz (some ⟨b, o, none⟩) c rows h) : RowsAt b o sz rows h := by
  obtain ⟨h1, h2, h3⟩ := ho
  rcases h3 with ⟨h3, _⟩ | ⟨b', o', cs, h3, h4, h5, h6⟩
  · cases h3
  · simp only [Option.some.injEq, Addr.mk.injEq, and_true] at h3
    obtain ⟨rfl, rfl⟩ := h3
    intro i r hr
    refine ⟨h1 r (List.mem_of_getElem? hr), cs, e, _, h4, fun j v hv => ?_⟩
    rw [Nat.add_assoc]; exact h6 _ _ (flatten_get rows i j r v h1 hr hv)

section
variable {P : Program} {E : Env} {L : List Assn} {d : Option Tmp} {ty : TypeId} {pos : String} {af : Array Edge} {gd : Option (Nat × Bool)} {g : Bool} {x y z : Operand}

/-- What is known of a row of one's own, whatever the memory. -/
theorem own_know {k : Hp} {e sz : Nat} {a : Option Addr} {c : Nat} {rows : List (List Value)} (i : Nat) (hi : L[i]? = some (ownA e sz a c rows)) (hs : Sat k L) :
    rows.length ≤ c ∧ (∀ r ∈ rows, r.length = sz) ∧ ((a = none ∧ c = 0 ∧ rows = []) ∨ ∃ b o, a = some ⟨b, o, none⟩) := by
  obtain ⟨h, _, h1, h2, h3⟩ := (Sat.pull hi hs).head
  refine ⟨h2, h1, ?_⟩
  rcases h3 with ⟨h3, h4⟩ | ⟨b, o, cs, h3, _⟩
  · left; refine ⟨h3, h4, ?_⟩; subst h4; exact List.length_eq_zero_iff.1 (by omega)
  · right; exact ⟨b, o, h3⟩

theorem Ent.own {e sz b o c : Nat} {rows : List (List Value)} (i : Nat) (hi : L[i]? = some (ownA e sz (some ⟨b, o, none⟩) c rows)) : Ent L (RowsAt b o sz rows) :=
  Ent.at hi (RowsAt.mono _ _ _ _) fun _ h => h.rowsAt

/-- A row of one's own, read. -/
theorem Sl.own {e sz : Nat} {a : Option Addr} {c : Nat} {rows : List (List Value)} (i : Nat) (hi : L[i]? = some (ownA e sz a c rows))
    (hk : rows.length ≤ c ∧ (∀ r ∈ rows, r.length = sz) ∧ ((a = none ∧ c = 0 ∧ rows = []) ∨ ∃ b o, a = some ⟨b, o, none⟩)) : Sl L a c sz rows := by
  obtain ⟨h1, h2, h3⟩ := hk
  refine ⟨h1, ?_⟩
  · rcases h3 with ⟨_, _, rfl⟩ | ⟨b, o, rfl⟩
    · exact ⟨0, 0, fun h => absurd rfl h, nofun, fun _ _ i r hi => by simp at hi⟩
    · exact ⟨b, o, fun _ => rfl, h2, Ent.own i hi⟩

theorem Sat.ownNil {k : Hp} {e sz : Nat} (hs : Sat k L) : Sat k (ownA e sz none 0 [] :: L) :=
  ⟨⟨fun _ => none, k.met, 0⟩, ⟨nofun, rfl, Nat.zero_le _⟩, ⟨nofun, Nat.le_refl _, .inl ⟨rfl, rfl⟩⟩, hs⟩
/-- A variable that is a row: literal, or made by an array. -/
theorem ownA.ofPt {b e sz c : Nat} {vs : List Value} {rows : List (List Value)} (hv : rows.flatten = vs) (hr : ∀ r ∈ rows, r.length = sz) (hc : rows.length = c) {h : Hp} (hp : ptA b e vs h) : ownA e sz (some ⟨b, 0, none⟩) c rows h :=
  ⟨hr, by omega, .inr ⟨b, 0, _, rfl, hp, by rw [← hc, ← flatten_length rows hr, hv]; simp, fun i v hi => by rw [hv] at hi; simpa using hi⟩⟩

theorem ownA.take {e sz : Nat} {a : Option Addr} {c : Nat} {rows : List (List Value)} (m : Nat) {h : Hp} (ho : ownA e sz a c rows h) : ownA e sz a c (rows.take m) h := by
  obtain ⟨h1, h2, h3⟩ := ho
  refine ⟨fun r hr => h1 r (List.mem_of_mem_take hr), by rw [List.length_take]; omega, h3.imp id ?_⟩
  rintro ⟨b, o, cs, h3, h4, h5, h6⟩
  refine ⟨b, o, cs, h3, h4, h5, fun i v hi => h6 i v ?_⟩
  rw [← List.take_append_drop m rows, List.flatten_append, List.getElem?_append_left (List.getElem?_eq_some_iff.1 hi).1]; exact hi

theorem ownA.drop {e sz : Nat} {a : Option Addr} {c : Nat} {rows : List (List Value)} (l : Nat) (hl : l ≤ rows.length) {h : Hp} (ho : ownA e sz a c rows h) : ownA e sz (slA a c l sz) (c - l) (rows.drop l) h := by
  obtain ⟨h1, h2, h3⟩ := ho
  refine ⟨fun r hr => h1 r (List.mem_of_mem_drop hr), by rw [List.length_drop]; omega, ?_⟩
  rcases h3 with ⟨rfl, rfl⟩ | ⟨b, o, cs, rfl, h4, h5, h6⟩
  · left; refine ⟨by unfold slA; split <;> rfl, by omega⟩
  · right
    by_cases hc : c = l
    · subst hc
      have h7 : rows.drop c = [] := List.drop_eq_nil_of_le (by omega)
      refine ⟨b, o, cs, by unfold slA; simp, h4, by rw [Nat.sub_self, Nat.zero_mul]; exact Nat.le_trans (by omega) h5, ?_⟩
      rw [h7]; intro i v hi; simp at hi
    · refine ⟨b, o + l * sz, cs, by unfold slA; rw [if_neg hc]; simp [Addr.add_eq], h4, ?_, fun i v hi => ?_⟩
      · have : l * sz + (c - l) * sz = c * sz := by rw [← Nat.add_mul]; congr 1; omega
        omega
      · have h7 : (rows.take l).flatten.length = l * sz := by
          rw [flatten_length _ (fun r hr => h1 r (List.mem_of_mem_take hr)), List.length_take, Nat.min_eq_left hl]
        have : rows.flatten[l * sz + i]? = some v := by
          rw [← List.take_append_drop l rows, List.flatten_append, List.getElem?_append_right (by omega), h7, Nat.add_sub_cancel_left]; exact hi
        rw [Nat.add_assoc]; exact h6 _ _ this

/-! ## append -/
theorem upd_size (c : List Value) (o : Nat) (vs : List Value) : (lset c o vs).toArray.size = c.length := by simp [lset_length]

theorem nextcap_le (need cap : Nat) (h : cap < need) : Builtin.nextslicecap need cap ≤ 2 * need + 1000 := by
  unfold Builtin.nextslicecap
  split
  · omega
  · split
    · omega
    · simp only [Builtin.growBy]
      repeat' split
      all_goals omega

/-- The heap with one block turned. -/
abbrev setBlock (w : World) (b : Nat) (o : Obj) : World := { w with heap := w.heap.setIfInBounds b o }

theorem run_append {t1 t2 e sz bt n m c : Nat} {agg : Bool} {zv : Value} {a : Option Addr} {yv : Value} {new : List Value} {w : World} [hu : USlice P t1 e] (hu2 : ∃ u, P.underlying t2 = some u ∧ ((∃ e2, u = .slice e2) ∨ u = .string)) [hz : TSize P e sz agg] [hzz : TZero P e zv] [hbt : TBytes P e bt]
    (hzl : zv.cells.toList.length = sz) (hlen : ∀ w, (Builtin.lenOf yv).run P w = .ok m w) (hnew : ∀ w', Hp.le (hp w) (hp w') → (Builtin.firstCells sz m yv).run P w' = .ok new.toArray w') (hnl : new.length = m * sz) (hsc : new.all scalar = true)
    (rows : List (List Value)) (hn : rows.length = n) (hb : (n + m) * bt ≤ 1099511627776) (hbt0 : bt ≠ 0) (hbm : bt ≤ 1048576)
    {L : List Assn} (hs : Sat (hp w) (ownA e sz a c rows :: L)) {ys : List (List Value)} (hys : ys.flatten = new) (hyl : ∀ r ∈ ys, r.length = sz) (hym : ys.length = m) :
    ∃ a' c' w', (Builtin.append_ #[t1, t2] ty #[.slice a n c, yv]).run P w = .ok (.slice a' (n + m) c') w' ∧ Sat (hp w') (ownA e sz a' c' (rows ++ ys) :: L) := by
  subst hn
  obtain ⟨h, hle, ⟨o1, o2, o3⟩, hrest⟩ := id hs
  have hrl : ∀ r ∈ rows ++ ys, r.length = sz := fun r hr => by
    rcases List.mem_append.1 hr with hr | hr
    · exact o1 r hr
    · exact hyl r hr
  have hfl := flatten_length rows o1
  unfold Builtin.append_
  rw [show (#[t1, t2] : Array TypeId)[0]? = some t1 from rfl, show (#[t1, t2] : Array TypeId)[1]? = some t2 from rfl, show (#[Value.slice a rows.length c, yv] : Array Value)[0]? = some (.slice a rows.length c) from rfl, show (#[Value.slice a rows.length c, yv] : Array Value)[1]? = some yv from rfl]
  simp only []
  rw [run_ok (run_u hu.h w)]
  simp only []
  obtain ⟨u2, hu2, hu3⟩ := hu2
  rw [run_ok (hz.size w), run_ok (run_u hu2 w), run_ok (a := false) (w' := w) (by rcases hu3 with ⟨e2, rfl⟩ | rfl <;> rfl)]
  simp only [Bool.false_eq_true, if_false, Bool.not_false, if_true]
  rw [run_ok (hlen w)]
  by_cases hroom : rows.length + m ≤ c
  · rw [if_pos hroom, run_ok (hnew w (Hp.le_refl _))]
    rcases o3 with ⟨rfl, rfl⟩ | ⟨b, o, cs, rfl, hb1, hb2, hb3⟩
    · simp only []
      have hr0 : rows = [] := List.length_eq_zero_iff.1 (by omega)
      have hy0 : ys = [] := List.length_eq_zero_iff.1 (by omega)
      subst hr0; subst hy0
      refine ⟨none, 0, w, by rfl, ?_⟩
      exact hs
    · simp only []
      have hbw : w.heap[b]? = some (.cells cs.toList.toArray e (0, 0)) := by rw [Array.toArray_toList]; exact hle _ _ hb1
      have hst := run_storeCells (P := P) (b := b) (e := e) (o := o + rows.length * sz) new 0 w cs.toList hbw (by simpa using hsc) (by
        rw [hnl]; simp only [Array.length_toList, Nat.add_zero]
        have : rows.length * sz + m * sz ≤ c * sz := by rw [← Nat.add_mul]; exact Nat.mul_le_mul_right _ hroom
        omega)
      rw [Addr.add_eq]
      have hst' : (storeCells ⟨b, o + rows.length * sz, none⟩ new.toArray.toList).run P w = .ok () (setBlock w b (.cells (lset cs.toList (o + rows.length * sz + 0) new).toArray e (0, 0))) := by
        simpa using hst
      rw [run_ok hst']
      refine ⟨some ⟨b, o, none⟩, c, _, rfl, ?_⟩
      have hbs := lt_of_hp (w := w) (hle _ _ hb1)
      refine Sat.turn (b := b) hs (fun h' ha => ?_) hp_set (fun h' ha hl' => ?_) (by rw [hp_set_at hbs]; rfl)
      · obtain ⟨_, _, h3⟩ := ha
        rcases h3 with ⟨h3, _⟩ | ⟨b', o', cs', h3, h4, _⟩
        · cases h3
        · simp only [Option.some.injEq, Addr.mk.injEq, and_true] at h3; obtain ⟨rfl, rfl⟩ := h3; exact ⟨_, h4⟩
      · refine ⟨hrl, by rw [List.length_append]; omega, .inr ⟨b, o, _, rfl, by show (if b = b then hp _ b else h' b) = _; rw [if_pos rfl, hp_set_at hbs], by rw [upd_size, Array.length_toList]; exact hb2, fun i v hi => ?_⟩⟩
        rw [List.getElem?_toArray, lset_get, List.flatten_append] at *
        rw [hys] at hi
        by_cases hi2 : i < rows.length * sz
        · rw [if_neg (by omega)]
          rw [List.getElem?_append_left (by omega)] at hi
          simpa using hb3 i v hi
        · rw [List.getElem?_append_right (by omega), hfl] at hi
          have hlt := (List.getElem?_eq_some_iff.1 hi).1
          rw [if_pos ⟨by omega, by omega, by
            simp only [Array.length_toList]
            have : rows.length * sz + m * sz ≤ c * sz := by rw [← Nat.add_mul]; exact Nat.mul_le_mul_right _ hroom
            omega⟩]
          rw [← hi]; congr 1; omega
  · rw [if_neg hroom]
    obtain ⟨ti, hti, htb⟩ := hbt.h w
    have hne : rows.length + m ≠ 0 := by omega
    rw [run_ok hti]
    rw [if_neg (by rintro ⟨_, h2⟩; rcases h2 with h2 | h2; · cases h2
                   · exact hbt0 (htb ▸ h2))]
    have hcap : ¬ Builtin.nextslicecap (rows.length + m) c * ti.bytes > 2 ^ 48 := by
      have h1 := nextcap_le (rows.length + m) c (by omega)
      have h2 : Builtin.nextslicecap (rows.length + m) c * bt ≤ (2 * (rows.length + m) + 1000) * bt := Nat.mul_le_mul_right _ h1
      rw [Nat.add_mul, Nat.mul_assoc] at h2
      rw [htb]
      have : 1000 * bt ≤ 1000 * 1048576 := Nat.mul_le_mul_left _ hbm
      omega
    rw [run_ok hti, if_neg hcap]
    let nc := Question.cut (.appendCap (rows.length + m) c e) (w.tape w.drawn (.appendCap (rows.length + m) c e))
    have hnc : rows.length + m ≤ nc := Nat.le_add_right _ _
    let w1 : World := { w with drawn := w.drawn + 1 }
    have hch : (choose (.appendCap (rows.length + m) c e)).run P w = .ok nc w1 := rfl
    obtain ⟨ti1, hti1, htb1⟩ := hbt.h w1
    have hask : ∀ k, (askRoom k).run P w1 = .ok () w1 := fun k => by unfold askRoom; split <;> rfl
    have hsame : Hp.le (hp w) (hp w1) := Hp.le_refl _
    have hold : (Builtin.firstCells sz rows.length (.slice a rows.length c)).run P w1 = .ok rows.flatten.toArray w1 := by
      rcases o3 with ⟨rfl, rfl⟩ | ⟨b, o, cs, rfl, hb1, hb2, hb3⟩
      · have hr0 : rows = [] := List.length_eq_zero_iff.1 (by omega)
        subst hr0; rfl
      · show (loadCells ⟨b, o, none⟩ (rows.length * sz)).run P w1 = _
        unfold loadCells
        have := run_loadCells (P := P) (w := w1) (b := b) (o := o) (rows.length * sz) 0 rows.flatten #[] hfl ⟨cs, e, _, hle _ _ hb1, fun i v hi => hb3 i v hi⟩
        rw [this]; simp
    rw [run_ok hch, run_ok hti1, run_ok (hask _), run_ok hold, run_ok (hnew w1 hsame), run_ok (hzz.h w1)]
    refine ⟨some ⟨w1.heap.size, 0, none⟩, nc, _, rfl, ?_⟩
    have hs1 : Sat (hp w1) L := hs.tail
    refine Sat.new ?_ hs1
    have hzs : zv.cells.size = sz := by rw [← hzl]; simp
    refine ⟨hrl, by rw [List.length_append]; omega, .inr ⟨_, 0, _, rfl, Hp.single_at _ _, ?_, fun i v hi => ?_⟩⟩
    · simp only [Array.size_append, List.size_toArray, hfl, hnl, Builtin.zeroCells, Array.size_map, Array.size_range, hzs]
      rw [Nat.zero_add, ← Nat.add_mul, ← Nat.add_mul]
      exact Nat.mul_le_mul_right _ (by omega)
    · rw [List.flatten_append, hys] at hi
      have hlt := (List.getElem?_eq_some_iff.1 hi).1
      rw [Nat.zero_add, Array.getElem?_append_left (by simp at hlt ⊢; exact hlt)]
      rw [← hi]; simp
end
end Go.Ab
end

section
/- The calculus: structs and rows out of their parts; append, make, stores into rows of one's own. -/
namespace Go.Ab
open Go

def fillB (place : Nat → Option (Nat × Nat)) : List Value → List (Nat × Value) → Option (List Value)
  | cells, [] => some cells
  | cells, (i, v) :: r => match place i with
    | none => none
    | some (off, size) => match Nat.beq v.cells.toList.length size && Nat.ble (off + size) cells.length with
      | true => fillB place (lset cells off v.cells.toList) r
      | false => none

theorem foldl_lset : ∀ (vs : List Value) (k : Nat) (cells : Array Value) (off : Nat),
    (vs.zipIdx k).foldl (fun (cs : Array Value) (x : Value × Nat) => cs.setIfInBounds (off + x.2) x.1) cells = (lset cells.toList (off + k) vs).toArray
  | [], k, cells, off => by simp [lset]
  | v :: vs, k, cells, off => by
    rw [List.zipIdx_cons, List.foldl_cons, foldl_lset vs (k + 1)]
    simp [lset, Nat.add_assoc]

theorem fill_ok {place : Nat → Option (Nat × Nat)} : ∀ (ps : List (Nat × Value)) (cells : Array Value) (cs : List Value), fillB place cells.toList ps = some cs → Instr.fill place cells ps = some cs.toArray
  | [], cells, cs, h => by simp only [fillB, Option.some.injEq] at h; subst h; simp [Instr.fill]
  | (i, v) :: r, cells, cs, h => by
    unfold fillB at h
    unfold Instr.fill
    split at h
    · cases h
    · rename_i off size hp
      rw [hp]
      simp only []
      split at h
      · rename_i hb
        rw [Bool.and_eq_true] at hb
        have h2 := bleLe hb.2
        have h3 : v.cells.size = size := by have := Nat.eq_of_beq_eq_true hb.1; simpa using this
        rw [Array.length_toList] at h2
        have hc : ¬ ((decide (v.cells.size ≠ size) || decide (off + v.cells.size > cells.size)) = true) := by
          simp only [Bool.or_eq_true, decide_eq_true_eq]; omega
        rw [if_neg hc]
        have := foldl_lset v.cells.toList 0 cells off
        rw [Nat.add_zero] at this
        refine fill_ok r _ cs ?_
        have he : v.cells.zipIdx.foldl (fun cs x => cs.setIfInBounds (off + x.2) x.1) cells = (lset cells.toList off v.cells.toList).toArray := by
          rw [← this, ← Array.foldl_toList, Array.toList_zipIdx]
        rw [he]; exact h
      · cases h

/-- A struct's fields: where each lies and how wide it is; and its zero. -/
class TStruct (P : Program) (t : TypeId) (pl : outParam (List (Nat × Nat))) (z : outParam (List Value)) : Prop where
  h : ∀ (w : World) (ps : Array (Nat × Value)) (cs : List Value), fillB (pl[·]?) z ps.toList = some cs → (Instr.build t ps).run P w = .ok (.agg cs.toArray) w

section
variable {P : Program}
theorem run_mapM {α β : Type} {f : α → Sem β} {gf : α → β} {w : World} : ∀ (l : List α), (∀ x ∈ l, (f x).run P w = .ok (gf x) w) → (l.mapM f).run P w = .ok (l.map gf) w
  | [], _ => rfl
  | x :: l, h => by
    rw [List.mapM_cons, run_ok (h x (by simp)), run_ok (run_mapM l (fun y hy => h y (by simp [hy])))]; rfl
theorem tstruct_of {t : TypeId} {fs : List Field} {z : Value} {zs : List Value} (sz : TypeId → Nat) (hz : ∀ w, (zeroValue t).run P w = .ok z w) (hzs : z.cells.toList = zs) (hu : ∀ w, (underlying t).run P w = .ok (.struct fs.toArray) w)
    (hs : ∀ f ∈ fs, ∀ w, (sizeOf f.type).run P w = .ok (sz f.type) w) {pl : List (Nat × Nat)} (hpl : fs.map (fun f => (f.offset, sz f.type)) = pl) : TStruct P t pl zs := ⟨fun w ps cs h => by
  unfold Instr.build
  rw [run_ok (hz w), run_ok (hu w)]
  simp only []
  have hm : ((fs.toArray).mapM (fun f => do pure (f.offset, ← sizeOf f.type)) : Sem (Array (Nat × Nat))).run P w = .ok pl.toArray w := by
    rw [Array.mapM_eq_mapM_toList, map_eq_pure_bind, run_ok (run_mapM (gf := fun f => (f.offset, sz f.type)) fs (fun f hf => by rw [run_ok (hs f hf w)]; rfl)), ← hpl]; rfl
  rw [run_ok hm]
  have : Instr.fill (fun x => pl.toArray[x]?) z.cells ps.toList = some cs.toArray := fill_ok _ _ _ (by rw [hzs]; simpa using h)
  rw [this]; rfl⟩
end

section
variable {P : Program} {E : Env} {L : List Assn} {d : Option Tmp} {ty : TypeId} {pos : String} {af : Array Edge} {gd : Option (Nat × Bool)} {g : Bool} {x y z : Operand}

def pev : List (Nat × Operand) → Env → Option (List (Nat × Value))
  | [], _ => some []
  | (i, x) :: r, E => match opv x E with
    | some (true, v) => match pev r E with
      | some vs => some ((i, v) :: vs)
      | none => none
    | _ => none
theorem pev_sat : ∀ {l : List (Nat × Operand)} {vs : List (Nat × Value)}, pev l E = some vs → ∀ {a : Act}, EnvSat E a.tmps → l.map (fun p => (p.1, a.eval p.2)) = vs
  | [], vs, h, a, ha => by simp only [pev, Option.some.injEq] at h; subst h; rfl
  | (i, x) :: r, vs, h, a, ha => by
    unfold pev at h
    split at h
    · rename_i v h1
      split at h
      · rename_i us h2
        simp only [Option.some.injEq] at h; subst h
        rw [List.map_cons, EvG.of (g := true) h1 a ha rfl, pev_sat h2 ha]
      · cases h
    · cases h

theorem Qt.build {t : TypeId} {ps : List (Nat × Operand)} {vs : List (Nat × Value)} {cs zs : List Value} {pl : List (Nat × Nat)} (hp : pev ps E = some vs) [ht : TStruct P t pl zs] (hf : fillB (pl[·]?) zs vs = some cs) :
    Qt P E L ⟨d, .build t ps.toArray, ty, pos, af, gd⟩ g (.agg cs.toArray) := fun a w h1 _ _ => by
  have hm := pev_sat hp h1
  show (do pure (Next.value (← Instr.build t (ps.toArray.map fun (i, x) => (i, a.eval x)))) : Sem Next).run P w = _
  refine run_v ?_
  refine ht.h w _ cs ?_
  have : (ps.toArray.map fun (i, x) => (i, a.eval x)).toList = vs := by rw [← hm]; simp
  rw [this]; exact hf

theorem zero_row {zs : List Value} (m : Nat) (h0 : zs.length ≠ 0 ∨ m = 0) : ((Array.range (m * zs.length)).map (zs.toArray[· % zs.toArray.size]!)).toList = (List.replicate m zs).flatten := by
  have hfl := flatten_length (sz := zs.length) (List.replicate m zs) (fun r hr => by rw [List.eq_of_mem_replicate hr])
  rw [List.length_replicate] at hfl
  apply List.ext_getElem?
  intro i
  by_cases hi : i < m * zs.length
  · have hz0 : 0 < zs.length := by
      rcases h0 with h0 | h0
      · omega
      · subst h0; omega
    have h1 : i % zs.length < zs.length := Nat.mod_lt _ hz0
    have h2 : i / zs.length < m := Nat.div_lt_of_lt_mul (by rw [Nat.mul_comm]; exact hi)
    have := flatten_get (sz := zs.length) (List.replicate m zs) (i / zs.length) (i % zs.length) zs zs[i % zs.length] (fun r hr => by rw [List.eq_of_mem_replicate hr]) (by rw [List.getElem?_replicate, if_pos h2]) (List.getElem?_eq_getElem h1)
    rw [Nat.div_add_mod'] at this
    rw [this]
    simp [hi, h1]
  · rw [List.getElem?_eq_none (by simp; omega), List.getElem?_eq_none (by rw [hfl]; omega)]

/-- A row of literals. -/
theorem OpT.buildSlice {t e sz m : Nat} {agg : Bool} {ps : List (Nat × Operand)} {vs : List (Nat × Value)} {cs zs : List Value} {zv : Value} [hu : USlice P t e] [hz : TSize P e sz agg] [hzz : TZero P e zv] (hp : pev ps E = some vs)
    (hzv : zv.cells.toList = zs) (hzl : Nat.beq zs.length sz = true) (hs0 : Nat.beq sz 0 = false) (hsm : Nat.ble (m * sz) 16777216 = true) (hf : fillB (fun i => some (i * sz, sz)) (List.replicate m zs).flatten vs = some cs) :
    OpT P E L ⟨d, .buildSlice t m ps.toArray, ty, pos, af, gd⟩ (fun r L' => ∃ b, r = .slice (some ⟨b, 0, none⟩) m m ∧ L' = ptA b e cs :: L) noPanic := fun a w K Q0 h1 h2 hK _ => by
  have hm := pev_sat hp h1
  have hzl' := Nat.eq_of_beq_eq_true hzl
  have hs0' : sz ≠ 0 := fun h => by rw [h] at hs0; simp at hs0
  have hle := bleLe hsm
  unfold Oper.wp
  have hrun : (Instr.buildSlice t m (ps.toArray.map fun (i, x) => (i, a.eval x))).run P w = .ok (.slice (some ⟨w.heap.size, 0, none⟩) m m) { w with heap := w.heap.push (.cells cs.toArray e) } := by
    unfold Instr.buildSlice
    rw [run_ok (run_u hu.h w)]
    simp only []
    rw [run_ok (hz.size w), if_neg (by omega)]
    have hpar : (ps.toArray.map fun (i, x) => (i, a.eval x)).toList = vs := by rw [← hm]; simp
    have hfin : ∀ zc : Array Value, ((Array.range (m * sz)).map (zc[· % zc.size]!)).toList = (List.replicate m zs).flatten →
        ((match Instr.fill (fun i => some (i * sz, sz)) ((Array.range (m * sz)).map (zc[· % zc.size]!)) (ps.toArray.map fun (i, x) => (i, a.eval x)).toList with
          | some cells => do pure (Value.slice (some (← newRow e cells)) m m)
          | _ => stuck "buildSlice: a part of the wrong size") : Sem Value).run P w = .ok (.slice (some ⟨w.heap.size, 0, none⟩) m m) { w with heap := w.heap.push (.cells cs.toArray e) } := by
      intro zc hzc
      have : Instr.fill (fun i => some (i * sz, sz)) ((Array.range (m * sz)).map (zc[· % zc.size]!)) (ps.toArray.map fun (i, x) => (i, a.eval x)).toList = some cs.toArray := by
        rw [hpar]; exact fill_ok _ _ _ (by rw [hzc]; exact hf)
      rw [this]; rfl
    by_cases hm0 : m * sz = 0
    · rw [if_pos hm0]
      have hm1 : m = 0 := by
        rcases Nat.mul_eq_zero.1 hm0 with h | h
        · exact h
        · exact absurd h hs0'
      subst hm1
      refine hfin #[] ?_
      simp
    · rw [if_neg hm0]
      rw [run_ok (hzz.h w), run_ok (a := zv.cells) (w' := w) rfl]
      refine hfin zv.cells ?_
      have := zero_row (zs := zs) m (.inl (by omega))
      rw [hzl'] at this
      rw [← this, ← hzv]
  have he : (execOp a.eval ⟨d, .buildSlice t m ps.toArray, ty, pos, af, gd⟩).run P w = .ok (.value (.slice (some ⟨w.heap.size, 0, none⟩) m m)) { w with heap := w.heap.push (.cells cs.toArray e) } := by
    show (do pure (Next.value (← Instr.buildSlice t m (ps.toArray.map fun (i, x) => (i, a.eval x)))) : Sem Next).run P w = _
    exact run_v hrun
  rw [he]
  refine hK _ _ _ ⟨_, rfl, rfl⟩ (Sat.new ?_ h2)
  exact Hp.single_at _ _

theorem run_lenSlice (a : Option Addr) (m c : Nat) (w : World) : (Builtin.lenOf (.slice a m c)).run P w = .ok m w := rfl

/-- append of what a slice reads as. -/
theorem OpT.append {t1 t2 e e2 sz bt n m c c' : Nat} {agg : Bool} {zv : Value} {a a' : Option Addr} {c1 c2 : Bool} [USlice P t1 e] [hu2 : USlice P t2 e2] [TSize P e sz agg] [TZero P e zv] [TBytes P e bt] (i : Nat) (rows ys : List (List Value))
    (hx : opv x E = some (c1, .slice a n c)) [Imp true c1] (hy : opv y E = some (c2, .slice a' m c')) [Imp true c2] (hi : L[i]? = some (ownA e sz a c rows)) (hn : n = rows.length) (hm : m = ys.length) (hys : Sl L a' c' sz ys)
    (hzl : Nat.beq zv.cells.toList.length sz = true) (hsc : ys.flatten.all scalar = true) (hbt : (Nat.blt 0 bt && Nat.ble bt 1048576) = true) (hb : (rows.length + ys.length) * bt ≤ 1099511627776) :
    OpT P E L ⟨d, .call ⟨.builtin .append, #[x, y], #[t1, t2]⟩, ty, pos, af, gd⟩ (fun r L' => ∃ a2 c2, r = .slice a2 (rows ++ ys).length c2 ∧ L' = L.set i (ownA e sz a2 c2 (rows ++ ys))) noPanic := fun ac w K Q0 h1 h2 hK _ => by
  unfold Oper.wp
  subst hn; subst hm
  rw [Bool.and_eq_true] at hbt
  obtain ⟨h0, ⟨b', o', e1, e2', e3⟩⟩ := hys
  have hfl := flatten_length ys e2'
  have hnew : ∀ w', Hp.le (hp w) (hp w') → (Builtin.firstCells sz ys.length (.slice a' ys.length c')).run P w' = .ok ys.flatten.toArray w' := fun w' hle => by
    cases a' with
    | none =>
      have : ys = [] := Classical.byContradiction fun h => by have := e1 h; cases this
      subst this; rfl
    | some p =>
      show (loadCells p (ys.length * sz)).run P w' = _
      by_cases hy0 : ys = []
      · subst hy0; simp [loadCells, loadCellsFrom, Sem.run, pure]
      · have := e1 hy0; simp only [Option.some.injEq] at this; subst this
        have hr := RowsAt.mono _ _ _ _ _ _ hle (e3 _ h2)
        unfold loadCells
        have hcells : CellsAt b' (o' + 0) ys.flatten (hp w') := by
          obtain ⟨r0, hr0⟩ : ∃ r, ys[0]? = some r := by
            cases ys with
            | nil => exact absurd rfl hy0
            | cons r _ => exact ⟨r, rfl⟩
          obtain ⟨cs, ee, f, h5, _⟩ := (hr 0 r0 hr0).2
          refine ⟨cs, ee, f, h5, fun j v hj => ?_⟩
          have hlt := (List.getElem?_eq_some_iff.1 hj).1
          rw [hfl] at hlt
          have hs0 : 0 < sz := by
            rcases Nat.eq_zero_or_pos sz with h | h
            · rw [h] at hlt; simp at hlt
            · exact h
          have hjd : j / sz < ys.length := Nat.div_lt_of_lt_mul (by rw [Nat.mul_comm]; exact hlt)
          have hjm : j % sz < sz := Nat.mod_lt _ hs0
          have hrow := List.getElem?_eq_getElem hjd
          have hl := e2' _ (List.getElem_mem hjd)
          have hv := flatten_get ys (j / sz) (j % sz) _ _ e2' hrow (List.getElem?_eq_getElem (by rw [hl]; exact hjm))
          rw [Nat.div_add_mod', hj] at hv
          obtain ⟨cs2, ee2, f2, h6, h7⟩ := (hr (j / sz) _ hrow).2
          rw [h5] at h6; simp only [Option.some.injEq, Obj.cells.injEq] at h6
          obtain ⟨rfl, rfl, rfl⟩ := h6
          have := h7 (j % sz) _ (List.getElem?_eq_getElem (by rw [hl]; exact hjm))
          rw [Nat.add_assoc, Nat.div_add_mod'] at this
          rw [Nat.add_zero, this, hv]
        have := run_loadCells (P := P) (w := w') (b := b') (o := o') (ys.length * sz) 0 ys.flatten #[] hfl hcells
        rw [this]; simp
  obtain ⟨a2, c2', w', hr, hs'⟩ := run_append (P := P) (ty := ty) (t1 := t1) (t2 := t2) (n := rows.length) (m := ys.length) (yv := .slice a' ys.length c') (new := ys.flatten) (w := w) ⟨_, hu2.h, .inl ⟨_, rfl⟩⟩ (Nat.eq_of_beq_eq_true hzl) (fun w => run_lenSlice _ _ _ w) hnew hfl hsc rows rfl hb
    (by have := bltLt hbt.1; omega) (bleLe hbt.2) (Sat.pull hi h2) rfl e2' rfl
  have he : (execOp ac.eval ⟨d, .call ⟨.builtin .append, #[x, y], #[t1, t2]⟩, ty, pos, af, gd⟩).run P w = .ok (.value (.slice a2 (rows.length + ys.length) c2')) w' := by
    simp only [execOp, resolve, List.map_toArray, List.map_cons, List.map_nil, EvG.of (g := true) hx ac h1 rfl, EvG.of (g := true) hy ac h1 rfl]
    exact run_v hr
  rw [he]
  exact hK _ _ _ ⟨a2, c2', by rw [List.length_append], rfl⟩ (Sat.set hi hs')
end
end Go.Ab
end

section
/- The calculus: make, stores into rows, and the steps on rows in one piece. -/
namespace Go.Ab
open Go
section
variable {P : Program} {n : Nat} {Q : Post} {E : Env} {D : List Deferred} {L : List Assn} {ops : Array Oper} {rest : List Oper} {ty : TypeId} {pos : String} {af : Array Edge} {gd : Option (Nat × Bool)} {x y : Operand}

theorem wrap_id {i : Int} (h1 : -9223372036854775808 ≤ i) (h2 : i < 9223372036854775808) : IntKind.i64.wrap i = i := IntWalk.i64_in i ⟨h1, by omega⟩
theorem wrap_nat {m : Nat} (h : m < 9223372036854775808) : IntKind.i64.wrap (m : Int) = m := wrap_id (by omega) (by omega)

theorem OpT.make {d : Option Tmp} {t e sz bt m c : Nat} {agg : Bool} {zv : Value} {zs : List Value} {k1 k2 : IntKind} {i1 i2 : Int} {c1 c2 : Bool} [hu : USlice P t e] [hz : TSize P e sz agg] [hzz : TZero P e zv] [hbt : TBytes P e bt]
    (hx : opv x E = some (c1, .int k1 i1)) [Imp true c1] (hy : opv y E = some (c2, .int k2 i2)) [Imp true c2] (h1 : i1 = (m : Int)) (h2 : i2 = (c : Int)) (hmc : m ≤ c) (hb : c * bt ≤ 1099511627776) (hbt0 : Nat.blt 0 bt = true)
    (hzv : zv.cells.toList = zs) (hzl : Nat.beq zs.length sz = true) (hs0 : Nat.beq sz 0 = false) :
    OpT P E L ⟨d, .makeSlice t x y, ty, pos, af, gd⟩ (fun r L' => ∃ b, r = .slice (some ⟨b, 0, none⟩) m c ∧ L' = ownA e sz (some ⟨b, 0, none⟩) c (List.replicate m zs) :: L) noPanic := fun a w K Q0 e1 e2 hK _ => by
  have hzl' := Nat.eq_of_beq_eq_true hzl
  have hs0' : sz ≠ 0 := fun h => by rw [h] at hs0; simp at hs0
  have hbt1 := bltLt hbt0
  obtain ⟨ti, hti, htb⟩ := hbt.h w
  subst h1; subst h2
  have hc : c < 9223372036854775808 := by
    have : c * 1 ≤ c * bt := Nat.mul_le_mul_left _ hbt1
    omega
  have hbi : ((bt : Int) * (c : Int)) ≤ 1099511627776 := by
    have : ((c * bt : Nat) : Int) ≤ 1099511627776 := by omega
    rw [Int.natCast_mul, Int.mul_comm] at this; exact this
  have hrun : (Instr.makeSlice t (.int k1 m) (.int k2 c)).run P w = .ok (.slice (some ⟨w.heap.size, 0, none⟩) m c)
      { w with heap := w.heap.push (.cells ((Array.range (c * sz)).map (zs.toArray[· % zs.toArray.size]!)) e) } := by
    unfold Instr.makeSlice
    rw [run_ok (run_u hu.h w)]
    simp only []
    rw [run_ok (a := (m : Int)) (w' := w) rfl, run_ok (a := (c : Int)) (w' := w) rfl, run_ok hti]
    rw [wrap_nat hc, wrap_nat (by omega : m < _), htb]
    have hcond : ¬ ((decide ((c : Int) < 0) || decide ((bt : Int) * (c : Int) > 2 ^ 48) || decide ((m : Int) < 0) || decide ((m : Int) > (c : Int))) = true) := by
      have e : ((2 : Int) ^ 48) = 281474976710656 := by decide
      rw [e]
      simp only [Bool.or_eq_true, decide_eq_true_eq]
      omega
    have hcond' : ¬ ((decide ((c : Int) < 0 ∨ (bt : Int) * (c : Int) > 2 ^ 48) || decide ((m : Int) < 0) || decide ((m : Int) > (c : Int))) = true) := by
      have e : ((2 : Int) ^ 48) = 281474976710656 := by decide
      rw [e]
      simp only [Bool.or_eq_true, decide_eq_true_eq]
      omega
    have hask : ∀ k, (askRoom k).run P w = .ok () w := fun k => by unfold askRoom; split <;> rfl
    simp only [Int.toNat_natCast]
    first | rw [if_neg hcond] | rw [if_neg hcond']
    rw [run_ok (hask _), run_ok (hz.size w)]
    by_cases h0 : c * sz = 0
    · rw [if_pos h0, run_ok (a := (#[] : Array Value)) (w' := w) rfl]
      have h1 : ((Array.range (c * sz)).map (fun x => (#[] : Array Value)[x % (#[] : Array Value).size]!)) = ((Array.range (c * sz)).map (zs.toArray[· % zs.toArray.size]!)) := by rw [h0]; simp
      rw [h1]; rfl
    · rw [if_neg h0, run_ok (hzz.h w), run_ok (a := zv.cells) (w' := w) rfl]
      have h1 : zv.cells = zs.toArray := by rw [← hzv]
      rw [h1]; rfl
  unfold Oper.wp
  have he : (execOp a.eval ⟨d, .makeSlice t x y, ty, pos, af, gd⟩).run P w = .ok (.value (.slice (some ⟨w.heap.size, 0, none⟩) m c)) { w with heap := w.heap.push (.cells ((Array.range (c * sz)).map (zs.toArray[· % zs.toArray.size]!)) e) } := by
    show (do pure (Next.value (← Instr.makeSlice t (a.eval x) (a.eval y))) : Sem Next).run P w = _
    rw [EvG.of (g := true) hx a e1 rfl, EvG.of (g := true) hy a e1 rfl]
    exact run_v hrun
  rw [he]
  refine hK _ _ _ ⟨_, rfl, rfl⟩ (Sat.new ?_ e2)
  have hrow := zero_row (zs := zs) c (.inl (by omega))
  rw [hzl'] at hrow
  refine ⟨fun r hr => by rw [List.eq_of_mem_replicate hr]; exact hzl', by simpa using hmc, .inr ⟨_, 0, _, rfl, Hp.single_at _ _, by simp, fun i v hi => ?_⟩⟩
  rw [Nat.zero_add, ← Array.getElem?_toList, hrow]
  have : (List.replicate c zs).flatten = (List.replicate m zs).flatten ++ (List.replicate (c - m) zs).flatten := by
    rw [← List.flatten_append, List.replicate_append_replicate]; congr 2; omega
  rw [this, List.getElem?_append_left (List.getElem?_eq_some_iff.1 hi).1]; exact hi

/-- A store into a row of one's own: at row k, from cell f of it on. -/
theorem OpT.storeRow {t e sz b o c tz : Nat} {agg : Bool} {v : Value} {ws : List Value} {rows : List (List Value)} {r : List Value} {c1 c2 : Bool} [hz : TSize P t tz agg] (i k f : Nat)
    (hx : opv x E = some (c1, .pointer (some ⟨b, o + k * sz + f, none⟩))) [Imp true c1] (hy : opv y E = some (c2, v)) [Imp true c2]
    (hi : L[i]? = some (ownA e sz (some ⟨b, o, none⟩) c rows)) (hr : rows[k]? = some r) (hv : v.cells.toList = ws) (hsz : ws.length = tz) (hs : ws.all scalar = true) (hl : f + ws.length ≤ sz) :
    OpT P E L ⟨none, .store t x y, ty, pos, af, gd⟩ (fun _ L' => L' = L.set i (ownA e sz (some ⟨b, o, none⟩) c (rows.set k (lset r f ws)))) noPanic := fun a w K Q0 h1 h2 hK _ => by
  obtain ⟨h0, l0, ⟨o1, o2, o3⟩, s0⟩ := Sat.pull hi h2
  rcases o3 with ⟨o3, _⟩ | ⟨b', o', cs, o3, o4, o5, o6⟩
  · cases o3
  simp only [Option.some.injEq, Addr.mk.injEq, and_true] at o3
  obtain ⟨rfl, rfl⟩ := o3
  have hk := (List.getElem?_eq_some_iff.1 hr).1
  have hrl := o1 r (List.mem_of_getElem? hr)
  have hbnd : k * sz + sz ≤ c * sz := by
    rw [← Nat.succ_mul]; exact Nat.mul_le_mul_right _ (by omega)
  have hb : w.heap[b]? = some (.cells cs.toList.toArray e (0, 0)) := by rw [Array.toArray_toList]; exact l0 _ _ o4
  have hcl0 : cs.toList.length = cs.size := Array.length_toList
  have hst := run_storeCells (P := P) (b := b) (e := e) (o := o + k * sz + f) ws 0 w cs.toList hb (by simpa using hs) (by omega)
  have hrun : (Instr.storeAt t (.pointer (some ⟨b, o + k * sz + f, none⟩)) v).run P w = .ok () { w with heap := w.heap.setIfInBounds b (.cells (lset cs.toList (o + k * sz + f + 0) ws).toArray e (0, 0)) } := by
    show (storeVar t ⟨b, o + k * sz + f, none⟩ v).run P w = _
    unfold storeVar
    rw [run_ok (hz.size w), ← hsz]
    have : v.cells.size = ws.length := by rw [← hv]; simp
    simp only [this, ne_eq, not_true_eq_false, if_false]
    rw [hv]; exact hst
  unfold Oper.wp
  have he : (execOp a.eval ⟨none, .store t x y, ty, pos, af, gd⟩).run P w = .ok .skip { w with heap := w.heap.setIfInBounds b (.cells (lset cs.toList (o + k * sz + f + 0) ws).toArray e (0, 0)) } := by
    show (do Instr.storeAt t (a.eval x) (a.eval y); pure Next.skip : Sem Next).run P w = _
    rw [EvG.of (g := true) hx a h1 rfl, EvG.of (g := true) hy a h1 rfl]
    rw [run_ok hrun]; rfl
  rw [he]
  refine hK undef _ _ rfl (Sat.set hi ?_)
  have hbs := lt_of_hp (w := w) (l0 _ _ o4)
  refine Sat.turn (b := b) (Sat.pull hi h2) (fun h' ha => ?_) hp_set (fun h' ha hl' => ?_) (by rw [hp_set_at hbs]; rfl)
  · obtain ⟨_, _, h3⟩ := ha
    rcases h3 with ⟨h3, _⟩ | ⟨b', o', cs', h3, h4, _⟩
    · cases h3
    · simp only [Option.some.injEq, Addr.mk.injEq, and_true] at h3; obtain ⟨rfl, rfl⟩ := h3; exact ⟨_, h4⟩
  · have hrl' : ∀ q ∈ rows.set k (lset r f ws), q.length = sz := fun q hq => by
      rcases List.mem_or_eq_of_mem_set hq with h | h
      · exact o1 q h
      · rw [h, lset_length, hrl]
    refine ⟨hrl', by simpa using o2, .inr ⟨b, o, _, rfl, by show (if b = b then hp _ b else h' b) = _; rw [if_pos rfl, hp_set_at hbs], by rw [upd_size, Array.length_toList]; exact o5, fun j u hj => ?_⟩⟩
    rw [List.getElem?_toArray, lset_get]
    have hjl := (List.getElem?_eq_some_iff.1 hj).1
    rw [flatten_length _ hrl', List.length_set] at hjl
    have hs0 : 0 < sz := by
      rcases Nat.eq_zero_or_pos sz with h | h
      · rw [h] at hjl; simp at hjl
      · exact h
    have hjd : j / sz < rows.length := Nat.div_lt_of_lt_mul (by rw [Nat.mul_comm]; exact hjl)
    have hjm : j % sz < sz := Nat.mod_lt _ hs0
    have hjj := Nat.div_add_mod' j sz
    have hcl : rows.length * sz ≤ c * sz := Nat.mul_le_mul_right _ o2
    rw [hcl0]
    -- the value at j of the new rows
    by_cases hjk : j / sz = k
    · subst hjk
      have hv1 := flatten_get (rows.set (j / sz) (lset r f ws)) (j / sz) (j % sz) (lset r f ws) ((lset r f ws)[j % sz]'(by rw [lset_length, hrl]; exact hjm)) hrl' (by rw [List.getElem?_set_self hk]) (List.getElem?_eq_getElem _)
      rw [hjj, hj] at hv1
      simp only [Option.some.injEq] at hv1
      have hv2 : (lset r f ws)[j % sz]? = some u := by rw [List.getElem?_eq_getElem (by rw [lset_length, hrl]; exact hjm), hv1]
      rw [lset_get, hrl] at hv2
      by_cases hin : f ≤ j % sz ∧ j % sz < f + ws.length
      · rw [if_pos ⟨hin.1, hin.2, hjm⟩] at hv2
        rw [if_pos ⟨by omega, by omega, by omega⟩, ← hv2]; congr 1; omega
      · rw [if_neg (by omega)] at hv2
        rw [if_neg (by omega), Array.getElem?_toList]
        refine o6 j u ?_
        have := flatten_get rows (j / sz) (j % sz) r u o1 hr hv2
        rw [hjj] at this; exact this
    · have hne : ¬ (o + k * sz + f + 0 ≤ o + j ∧ o + j < o + k * sz + f + 0 + ws.length ∧ o + j < cs.size) := by
        rintro ⟨q1, q2, _⟩
        apply hjk
        have : j / sz = k := by
          apply Nat.div_eq_of_lt_le
          · omega
          · rw [Nat.succ_mul]; omega
        exact this
      rw [if_neg hne, Array.getElem?_toList]
      refine o6 j u ?_
      have hrow := List.getElem?_eq_getElem hjd
      have hl2 := o1 _ (List.getElem_mem hjd)
      have hv1 := flatten_get (rows.set k (lset r f ws)) (j / sz) (j % sz) rows[j / sz] (rows[j / sz][j % sz]'(by rw [hl2]; exact hjm)) hrl' (by rw [List.getElem?_set_ne (Ne.symm hjk)]; exact hrow) (List.getElem?_eq_getElem _)
      have hv2 := flatten_get rows (j / sz) (j % sz) rows[j / sz] (rows[j / sz][j % sz]'(by rw [hl2]; exact hjm)) o1 hrow (List.getElem?_eq_getElem _)
      rw [hjj] at hv1 hv2
      rw [hv2, ← hv1]; exact hj
end
end Go.Ab
end

section
/- The calculus: the steps in one piece, and the walk by itself with what is known of memory at hand. -/
namespace Go.Ab
open Go
attribute [local irreducible] Wp WpO Qt OpT Ct
section
variable {P : Program} {n : Nat} {Q : Post} {E : Env} {D : List Deferred} {L : List Assn} {ops : Array Oper} {rest : List Oper} {m m' : Md} {d : Nat} {ty : TypeId} {pos : String} {af : Array Edge} {x y : Operand} {t u : TypeId} {gd : Nat × Bool} {g c1 c2 : Bool}

theorem S.idx [Nxt m m'] {e b o ln c sz : Nat} {agg : Bool} {i : Int} {ik : IntKind} (k : Nat) (h0 : Nat.blt d n = true) (hx : opv x E = some (true, .slice (some ⟨b, o, Option.none⟩) ln c)) (hy : opv y E = some (true, .int ik i)) [USlice P t e] [TSize P e sz agg]
    (hi : i = (k : Int)) (hlt : k < ln) (h : WpO P n ops Q m' rest ((d, .v (.pointer (some ⟨b, o + k * sz, Option.none⟩))) :: E) D L) : WpO P n ops Q m (⟨some d, .indexAddr t x y, ty, pos, af, Option.none⟩ :: rest) E D L :=
  WpO.q rfl h0 (Qt.idx k hx hy (fun _ => ⟨hi, hlt⟩)) h
theorem G.idx [Nxt m m'] {e b o ln c sz : Nat} {agg : Bool} {i : Int} {ik : IntKind} (k : Nat) (h0 : Nat.blt d n = true) (hg : guardOf ops E gd = some g) (hx : opv x E = some (c1, .slice (some ⟨b, o, Option.none⟩) ln c)) (i1 : Imp g c1) (hy : opv y E = some (c2, .int ik i)) (i2 : Imp g c2) [USlice P t e] [TSize P e sz agg]
    (hi : g = true → i = (k : Int) ∧ k < ln) (h : WpO P n ops Q m' rest ((d, .g g (.pointer (some ⟨b, o + k * sz, Option.none⟩))) :: E) D L) : WpO P n ops Q m (⟨some d, .indexAddr t x y, ty, pos, af, some gd⟩ :: rest) E D L :=
  WpO.qd rfl h0 hg (Qt.idx k hx hy hi) h
theorem Qt.max2 {L : List Assn} {d : Option Tmp} {gd : Option (Nat × Bool)} {k : IntKind} {a b : Int} (hx : opv x E = some (c1, .int k a)) [Imp g c1] (hy : opv y E = some (c2, .int k b)) [Imp g c2] :
    Qt P E L ⟨d, .call ⟨.builtin .max, #[x, y], #[t, u]⟩, ty, pos, af, gd⟩ g (.int k (max a b)) := by
  unfold Qt
  intro ac w h1 _ h3
  simp only [execOp, resolve, List.map_toArray, List.map_cons, List.map_nil, EvG.of hx ac h1 h3, EvG.of hy ac h1 h3]
  refine run_v ?_
  have : (if b > a then b else a) = max a b := by split <;> omega
  show Result.ok (Value.int k (if b > a then b else a)) w = _
  rw [this]
theorem S.max2 [Nxt m m'] {k : IntKind} {a b : Int} (h0 : Nat.blt d n = true) (hx : opv x E = some (true, .int k a)) (hy : opv y E = some (true, .int k b))
    (h : WpO P n ops Q m' rest ((d, .v (.int k (max a b))) :: E) D L) : WpO P n ops Q m (⟨some d, .call ⟨.builtin .max, #[x, y], #[t, u]⟩, ty, pos, af, Option.none⟩ :: rest) E D L := WpO.q rfl h0 (Qt.max2 hx hy) h
/-- A whole struct is read. -/
theorem S.loadN [Nxt m m'] {b o sz : Nat} {vs : List Value} (h0 : Nat.blt d n = true) (hx : opv x E = some (true, .pointer (some ⟨b, o, Option.none⟩))) [TSize P t sz true] (hE : Ent (mem m L) (CellsAt b o vs)) (hl : vs.length = sz)
    (h : WpO P n ops Q m' rest ((d, .v (.agg vs.toArray)) :: E) D L) : WpO P n ops Q m (⟨some d, .load t x, ty, pos, af, Option.none⟩ :: rest) E D L := WpO.q rfl h0 (Qt.loadN (fun _ => hE) hl hx) h
/-- A call of a function that returns. -/
theorem WpO.call [Nxt m m'] {f : FuncId} {args : List Operand} {tys : Array TypeId} {vs : List Value} {φ : Value → List Assn → Prop} (hc : ∀ (args : Array Value) (w : World), Sem.run P (callFunc f args) w = .ok (.enter f args) w) (h0 : Nat.blt d n = true) (hargs : evs args E = some vs)
    (hct : Ct P f vs.toArray L (ret φ)) (h : ∀ v L', φ v L' → Keeps m L' ∧ WpO P n ops Q m' rest ((d, .v v) :: E) D L') : WpO P n ops Q m (⟨some d, .call ⟨.value (.func f), args.toArray, tys⟩, ty, pos, af, Option.none⟩ :: rest) E D L :=
  WpO.op rfl h0 (OpT.call hc hargs hct) nofun h
/-- .. that leaves memory as it is. -/
theorem WpO.callq [Nxt m m'] {f : FuncId} {args : List Operand} {tys : Array TypeId} {vs : List Value} {v : Value} (hc : ∀ (args : Array Value) (w : World), Sem.run P (callFunc f args) w = .ok (.enter f args) w) (h0 : Nat.blt d n = true) (hargs : evs args E = some vs)
    (hct : Ct P f vs.toArray L (ret fun r L' => r = v ∧ L' = L)) (hk : Keeps m L) (h : WpO P n ops Q m' rest ((d, .v v) :: E) D L) : WpO P n ops Q m (⟨some d, .call ⟨.value (.func f), args.toArray, tys⟩, ty, pos, af, Option.none⟩ :: rest) E D L :=
  WpO.call hc h0 hargs hct fun _ _ ⟨e1, e2⟩ => by subst e1; subst e2; exact ⟨hk, h⟩
theorem WpO.buildSlice [Nxt m m'] {e sz ln : Nat} {agg : Bool} {ps : List (Nat × Operand)} {vs : List (Nat × Value)} {cs zs : List Value} {zv : Value} [USlice P t e] [TSize P e sz agg] [TZero P e zv] (h0 : Nat.blt d n = true) (hp : pev ps E = some vs)
    (hzv : zv.cells.toList = zs) (hzl : Nat.beq zs.length sz = true) (hs0 : Nat.beq sz 0 = false) (hsm : Nat.ble (ln * sz) 16777216 = true) (hf : fillB (fun i => some (i * sz, sz)) (List.replicate ln zs).flatten vs = some cs) (hk : ∀ b, Keeps m (ptA b e cs :: L))
    (h : ∀ b, WpO P n ops Q m' rest ((d, .v (.slice (some ⟨b, 0, Option.none⟩) ln ln)) :: E) D (ptA b e cs :: L)) : WpO P n ops Q m (⟨some d, .buildSlice t ln ps.toArray, ty, pos, af, Option.none⟩ :: rest) E D L :=
  WpO.op rfl h0 (OpT.buildSlice hp hzv hzl hs0 hsm hf) nofun fun _ _ ⟨b, e1, e2⟩ => by subst e1; subst e2; exact ⟨hk b, h b⟩
theorem WpO.append [Nxt m m'] {e e2 sz bt ln lm c c' : Nat} {agg : Bool} {zv : Value} {a a' : Option Addr} [USlice P t e] [USlice P u e2] [TSize P e sz agg] [TZero P e zv] [TBytes P e bt] (i : Nat) {rows : List (List Value)} (ys : List (List Value)) (h0 : Nat.blt d n = true)
    (hx : opv x E = some (c1, .slice a ln c)) [Imp true c1] (hy : opv y E = some (c2, .slice a' lm c')) [Imp true c2] (hi : L[i]? = some (ownA e sz a c rows)) (hn : ln = rows.length) (hm : lm = ys.length) (hys : Sl L a' c' sz ys)
    (hzl : Nat.beq zv.cells.toList.length sz = true) (hsc : ys.flatten.all scalar = true) (hbt : (Nat.blt 0 bt && Nat.ble bt 1048576) = true) (hb : (rows.length + ys.length) * bt ≤ 1099511627776)
    (hk : ∀ a2 k2, Keeps m (L.set i (ownA e sz a2 k2 (rows ++ ys))))
    (h : ∀ a2 k2, WpO P n ops Q m' rest ((d, .v (.slice a2 (rows ++ ys).length k2)) :: E) D (L.set i (ownA e sz a2 k2 (rows ++ ys)))) : WpO P n ops Q m (⟨some d, .call ⟨.builtin .append, #[x, y], #[t, u]⟩, ty, pos, af, Option.none⟩ :: rest) E D L :=
  WpO.op rfl h0 (OpT.append i rows ys hx hy hi hn hm hys hzl hsc hbt hb) nofun fun _ _ ⟨a2, k2, e1, e2⟩ => by subst e1; subst e2; exact ⟨hk a2 k2, h a2 k2⟩
/-- .. of literals, whose row lies first in memory and is let go. -/
theorem WpO.appendLit [Nxt m m'] {e e2 e3 sz bt ln lm c c' b' : Nat} {agg : Bool} {zv : Value} {a : Option Addr} {vs : List Value} [USlice P t e] [USlice P u e2] [TSize P e sz agg] [TZero P e zv] [TBytes P e bt] (i : Nat) {rows : List (List Value)} (ys : List (List Value)) (h0 : Nat.blt d n = true)
    (hx : opv x E = some (c1, .slice a ln c)) [Imp true c1] (hy : opv y E = some (c2, .slice (some ⟨b', 0, Option.none⟩) lm c')) [Imp true c2] (hi : L[i]? = some (ownA e sz a c rows)) (hn : ln = rows.length) (hm : lm = ys.length) (hc' : Nat.ble lm c' = true)
    (hys : ys.flatten = vs) (hyl : (ys.all fun r => Nat.beq r.length sz) = true) 
    (hzl : Nat.beq zv.cells.toList.length sz = true) (hsc : vs.all scalar = true) (hbt : (Nat.blt 0 bt && Nat.ble bt 1048576) = true) (hb : (rows.length + ys.length) * bt ≤ 1099511627776)
    (hk : ∀ a2 k2, Keeps m (L.set i (ownA e sz a2 k2 (rows ++ ys))))
    (h : ∀ a2 k2, WpO P n ops Q m' rest ((d, .v (.slice a2 (rows ++ ys).length k2)) :: E) D (L.set i (ownA e sz a2 k2 (rows ++ ys)))) : WpO P n ops Q m (⟨some d, .call ⟨.builtin .append, #[x, y], #[t, u]⟩, ty, pos, af, Option.none⟩ :: rest) E D (ptA b' e3 vs :: L) := by
  have hl : ∀ r ∈ ys, r.length = sz := fun r hr => by
    rw [List.all_eq_true] at hyl; exact Nat.eq_of_beq_eq_true (hyl r hr)
  refine WpO.op rfl h0 (OpT.append (L := ptA b' e3 vs :: L) (i + 1) rows ys hx hy (by simpa using hi) hn hm ⟨by have := bleLe hc'; omega, ⟨b', 0, fun _ => rfl, hl, ?_⟩⟩ hzl (by rw [hys]; exact hsc) hbt hb) nofun fun _ _ ⟨a2, k2, e1, e2⟩ => ?_
  · intro k hs
    obtain ⟨h1, l1, p1, _⟩ := hs
    refine RowsAt.mono _ _ _ _ _ _ l1 ?_
    have := ownA.ofPt (e := e3) (b := b') (c := ys.length) hys hl rfl p1
    exact this.rowsAt
  · subst e1; subst e2
    rw [List.set_cons_succ]
    refine ⟨?_, WpO.parts (fun k => Sat.tail) (h a2 k2)⟩
    have := hk a2 k2
    cases m with
    | seq => trivial
    | any Ls k => cases k with
      | zero => trivial
      | succ k => exact fun k hs => this k hs.tail
theorem WpO.make [Nxt m m'] {e sz bt : Nat} {agg : Bool} {zv : Value} {zs : List Value} {k1 k2 : IntKind} {i1 i2 : Int} [USlice P t e] [TSize P e sz agg] [TZero P e zv] [TBytes P e bt] (ln c : Nat) (h0 : Nat.blt d n = true)
    (hx : opv x E = some (c1, .int k1 i1)) [Imp true c1] (hy : opv y E = some (c2, .int k2 i2)) [Imp true c2] (h1 : i1 = (ln : Int)) (h2 : i2 = (c : Int)) (hmc : ln ≤ c) (hb : c * bt ≤ 1099511627776) (hbt0 : Nat.blt 0 bt = true)
    (hzv : zv.cells.toList = zs) (hzl : Nat.beq zs.length sz = true) (hs0 : Nat.beq sz 0 = false) (hk : ∀ b, Keeps m (ownA e sz (some ⟨b, 0, Option.none⟩) c (List.replicate ln zs) :: L))
    (h : ∀ b, WpO P n ops Q m' rest ((d, .v (.slice (some ⟨b, 0, Option.none⟩) ln c)) :: E) D (ownA e sz (some ⟨b, 0, Option.none⟩) c (List.replicate ln zs) :: L)) : WpO P n ops Q m (⟨some d, .makeSlice t x y, ty, pos, af, Option.none⟩ :: rest) E D L :=
  WpO.op rfl h0 (OpT.make hx hy h1 h2 hmc hb hbt0 hzv hzl hs0) nofun fun _ _ ⟨b, e1, e2⟩ => by subst e1; subst e2; exact ⟨hk b, h b⟩
theorem WpO.storeRow [Nxt m m'] {e sz b o c tz : Nat} {agg : Bool} {v : Value} {ws : List Value} {rows : List (List Value)} {r : List Value} [TSize P t tz agg] (i k f : Nat)
    (hx : opv x E = some (c1, .pointer (some ⟨b, o + k * sz + f, Option.none⟩))) [Imp true c1] (hy : opv y E = some (c2, v)) [Imp true c2]
    (hi : L[i]? = some (ownA e sz (some ⟨b, o, Option.none⟩) c rows)) (hr : rows[k]? = some r) (hv : v.cells.toList = ws) (hsz : ws.length = tz) (hs : ws.all scalar = true) (hl : f + ws.length ≤ sz) (hk : Keeps m (L.set i (ownA e sz (some ⟨b, o, Option.none⟩) c (rows.set k (lset r f ws)))))
    (h : WpO P n ops Q m' rest E D (L.set i (ownA e sz (some ⟨b, o, Option.none⟩) c (rows.set k (lset r f ws))))) : WpO P n ops Q m (⟨Option.none, .store t x y, ty, pos, af, Option.none⟩ :: rest) E D L :=
  WpO.op0 rfl (OpT.storeRow i k f hx hy hi hr hv hsz hs hl) nofun fun _ _ e => by subst e; exact ⟨hk, h⟩
/-- .. of a whole row of one cell. -/
theorem WpO.storeRow1 [Nxt m m'] {e b o c : Nat} {v : Value} {rows : List (List Value)} [TSize P t 1 false] (i k : Nat)
    (hx : opv x E = some (c1, .pointer (some ⟨b, o + k * 1, Option.none⟩))) [Imp true c1] (hy : opv y E = some (c2, v)) [Imp true c2]
    (hi : L[i]? = some (ownA e 1 (some ⟨b, o, Option.none⟩) c rows)) (hr : k < rows.length) (hsc : v.cells.toList = [v]) (hs : scalar v = true) (hk : Keeps m (L.set i (ownA e 1 (some ⟨b, o, Option.none⟩) c (rows.set k [v]))))
    (hrow : ∀ r ∈ rows, r.length = 1)
    (h : WpO P n ops Q m' rest E D (L.set i (ownA e 1 (some ⟨b, o, Option.none⟩) c (rows.set k [v])))) : WpO P n ops Q m (⟨Option.none, .store t x y, ty, pos, af, Option.none⟩ :: rest) E D L := by
  have hr' := List.getElem?_eq_getElem hr
  have hl := hrow _ (List.getElem_mem hr)
  have he : lset rows[k] 0 [v] = [v] := by
    match hq : rows[k], hl with
    | [q], _ => simp [lset]
  have := WpO.storeRow (P := P) (n := n) (ops := ops) (Q := Q) (m := m) (rest := rest) (D := D) (ty := ty) (pos := pos) (af := af) (t := t) (x := x) (y := y) (tz := 1) (agg := false) (sz := 1) i k 0 hx hy hi hr' hsc rfl (by simp [hs]) (Nat.le_refl _)
  rw [he] at this
  exact this hk h
end

/-- The walk by itself; loads also by what is known in the context. -/
structure Hold (p : Prop) : Prop where
  out : p
theorem pur {G H : Prop} (h : H) (k : Hold H → G := by
  intro k
  repeat (first
    | ((with_reducible apply S.move); rfl; rfl)
    | ((with_reducible apply S.assign); rfl; rfl)
    | ((with_reducible apply S.bin); rfl; rfl; rfl; rfl)
    | ((with_reducible apply S.fieldAddr); rfl; rfl; infer_instance)
    | ((with_reducible apply S.load); rfl; rfl; infer_instance; first | exact Ent.pt 0 1 rfl rfl | exact Ent.pt 1 1 rfl rfl | exact Ent.pt 2 1 rfl rfl | exact Ent.pt 3 1 rfl rfl | exact Ent.pt 4 1 rfl rfl | (focus ((repeat (first | assumption | apply Ent.cons)); done)) | (apply Ent.sub 1; (repeat (first | assumption | apply Ent.cons)); rfl))
    | ((with_reducible apply S.not); rfl; rfl)
    | ((with_reducible apply S.or); rfl; rfl; rfl; infer_instance)
    | ((with_reducible apply S.and); rfl; rfl; rfl; infer_instance)
    | ((with_reducible apply S.lenSlice); rfl; rfl; infer_instance)
    | ((with_reducible apply S.lenStr); rfl; rfl; infer_instance)
    | ((with_reducible apply S.extract); rfl; rfl; rfl)
    | ((with_reducible apply S.nilCheck); rfl; rfl)
    | ((with_reducible apply S.max2); rfl; rfl; rfl)
    | ((with_reducible apply S.convInt); rfl; rfl; infer_instance; infer_instance)
    | ((with_reducible apply WpO.store 0); rfl; rfl; rfl; rfl; rfl; rfl; rfl; rfl; first | exact Keeps.none | exact Keeps.last)
    | ((with_reducible apply WpO.store 1); rfl; rfl; rfl; rfl; rfl; rfl; rfl; rfl; first | exact Keeps.none | exact Keeps.last)
    | ((with_reducible apply WpO.store 2); rfl; rfl; rfl; rfl; rfl; rfl; rfl; rfl; first | exact Keeps.none | exact Keeps.last)
    | ((with_reducible apply G.move); rfl; rfl; rfl; infer_instance)
    | ((with_reducible apply G.bin); rfl; rfl; rfl; infer_instance; rfl; infer_instance; rfl)
    | ((with_reducible apply G.not); rfl; rfl; rfl; infer_instance)
    | ((with_reducible apply G.fieldAddr); rfl; rfl; rfl; infer_instance; infer_instance)
    | ((with_reducible apply G.load); rfl; rfl; rfl; infer_instance; infer_instance; first | exact Ent.pt 0 1 rfl rfl | exact Ent.pt 1 1 rfl rfl | exact Ent.pt 2 1 rfl rfl | exact Ent.pt 3 1 rfl rfl | exact Ent.pt 4 1 rfl rfl | (focus ((repeat (first | assumption | apply Ent.cons)); done)) | (apply Ent.sub 1; (repeat (first | assumption | apply Ent.cons)); rfl))
    | ((with_reducible apply G.lenSlice); rfl; rfl; rfl; infer_instance; infer_instance)
    | ((with_reducible apply G.lenStr); rfl; rfl; rfl; infer_instance; infer_instance)
    | ((with_reducible apply G.nilCheck); rfl; rfl; rfl; infer_instance)
    | ((with_reducible apply G.or); rfl; rfl; rfl; infer_instance; rfl; infer_instance)
    | ((with_reducible apply G.and); rfl; rfl; rfl; infer_instance; rfl; infer_instance)
    | refine WpO.nil ?_ | refine Wp.seq ?_ | refine Wp.region ?_ | refine Wp.block ?_ | refine Wp.skip ?_ | refine Wp.exit ?_ | refine Wp.condT rfl ?_ | refine Wp.condF rfl ?_)
  exact k.out) : G := k ⟨h⟩
end Go.Ab
end
