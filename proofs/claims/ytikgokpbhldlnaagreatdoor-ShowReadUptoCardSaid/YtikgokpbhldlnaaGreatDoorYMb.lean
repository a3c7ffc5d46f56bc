/- Parts of a proof: Ae Af Ag Ah Ai. -/
import Derived.Test.YtikgokpbhldlnaaGreatDoorYMa
set_option linter.unusedVariables false
set_option linter.unusedSimpArgs false
set_option linter.unusedSectionVars false
section
/- The calculus: the operations that only reckon. -/
namespace Go.Ab
open Go
/-! ## What is known of types -/
class USlice (P : Program) (t : TypeId) (e : outParam TypeId) : Prop where h : P.underlying t = some (.slice e)
class UStr (P : Program) (t : TypeId) : Prop where h : P.underlying t = some .string
class UBool (P : Program) (t : TypeId) : Prop where h : P.underlying t = some .bool
class UInt (P : Program) (t : TypeId) (k : outParam IntKind) : Prop where h : P.underlying t = some (.int k)
class NotIface (P : Program) (t : TypeId) : Prop where h : ∃ d, P.underlying t = some d ∧ ∀ ms, d ≠ .interface ms
/-- One variable of the type: how many cells, and whether it is a struct or an array. -/
class TSize (P : Program) (t : TypeId) (sz : outParam Nat) (agg : outParam Bool) : Prop where
  size : ∀ w, (sizeOf t).run P w = .ok sz w
  agg : ∀ w, (isAgg t).run P w = .ok agg w
class TZero (P : Program) (t : TypeId) (z : outParam Value) : Prop where h : ∀ w, (zeroValue t).run P w = .ok z w
class TBytes (P : Program) (t : TypeId) (b : outParam Nat) : Prop where h : ∀ w, ∃ i, (typeInfo t).run P w = .ok i w ∧ i.bytes = b
class FieldAt (P : Program) (s : TypeId) (f : Nat) (off : outParam Nat) : Prop where
  h : ∀ b o w, (Instr.fieldAt s (.pointer (some ⟨b, o, none⟩)) f).run P w = .ok (.pointer (some ⟨b, o + off, none⟩)) w
section
variable {P : Program} {E : Env} {L : List Assn} {d : Option Tmp} {ty : TypeId} {pos : String} {af : Array Edge} {gd : Option (Nat × Bool)} {g : Bool} {x y z : Operand}
theorem Qt.of1 {o : Oper} {v vx : Value} (h : ∀ (ρ : Operand → Value) w, ρ x = vx → (execOp ρ o).run P w = .ok (.value v) w) (hx : EvG E x g vx) : Qt P E L o g v :=
  fun a w h1 _ h3 => h a.eval w (hx a h1 h3)
theorem Qt.of2 {o : Oper} {v vx vy : Value} (h : ∀ (ρ : Operand → Value) w, ρ x = vx → ρ y = vy → (execOp ρ o).run P w = .ok (.value v) w) (hx : EvG E x g vx) (hy : EvG E y g vy) : Qt P E L o g v :=
  fun a w h1 _ h3 => h a.eval w (hx a h1 h3) (hy a h1 h3)
theorem run_ok {α β : Type} {m : Sem α} {f : α → Sem β} {a : α} {w w' : World} (h : m.run P w = .ok a w') : (m >>= f).run P w = (f a).run P w' := by
  rw [Sem.run_bind, h]; rfl
theorem run_u {t : TypeId} {d : TypeDesc} (h : P.underlying t = some d) (w : World) : (underlying t).run P w = .ok d w := by
  simp [underlying, program, Sem.run, bind, Sem.bind, h, pure]
theorem run_eqGuard {op : BinOp} {t : TypeId} {x y : Operand} {a b : Value} (h1 : ∀ vs, a ≠ .agg vs) (h2 : a ≠ .nilIface) (w : World) : (eqGuard op t x y a b).run P w = .ok () w := by
  cases op <;> first | rfl | (cases a <;> first | exact absurd rfl h2 | exact absurd rfl (h1 _) | rfl)
theorem run_v {m : Sem Value} {v : Value} {w w' : World} (h : m.run P w = .ok v w') : (do pure (Next.value (← m)) : Sem Next).run P w = .ok (.value v) w' := by
  rw [Sem.run_bind, h]; rfl
theorem Qt.move {v : Value} {c_hx : Bool} (hx : opv x E = some (c_hx, v)) [i_hx : Imp g c_hx] : Qt P E L ⟨d, .move x, ty, pos, af, gd⟩ g v :=
  .of1 (fun ρ w h => by simp [execOp, h, Sem.run, pure]) (EvG.of hx)
theorem Qt.assign {v : Value} {c_hx : Bool} (hx : opv x E = some (c_hx, v)) [i_hx : Imp g c_hx] : Qt P E L ⟨d, .assign x, ty, pos, af, gd⟩ g v :=
  .of1 (fun ρ w h => by simp [execOp, h, Sem.run, pure]) (EvG.of hx)
def arith (op : BinOp) (k : IntKind) (a b : Int) : Option Int :=
  match op with
  | .add => some (k.wrap (a + b))
  | .sub => some (k.wrap (a - b))
  | .mul => some (k.wrap (a * b))
  | _ => none
def icmp (op : BinOp) (a b : Int) : Option Bool :=
  match op with
  | .eql => some (decide (a = b))
  | .neq => some (!decide (a = b))
  | .lss => some (decide (a < b))
  | .leq => some (decide (a ≤ b))
  | .gtr => some (decide (b < a))
  | .geq => some (decide (b ≤ a))
  | _ => none
theorem Qt.arith {op : BinOp} {t u : TypeId} {k : IntKind} {a b r : Int}
    {c_hx : Bool} (hx : opv x E = some (c_hx, (.int k a))) [i_hx : Imp g c_hx] {c_hy : Bool} (hy : opv y E = some (c_hy, (.int k b))) [i_hy : Imp g c_hy]
    (hr : arith op k a b = some r)
    : Qt P E L ⟨d, .binOp op t x y u, ty, pos, af, gd⟩ g (.int k r) :=
  .of2 (fun ρ w h1 h2 => by
    cases op <;> simp only [Ab.arith, Option.some.injEq, reduceCtorEq] at hr <;> subst hr <;> simp [execOp, h1, h2, go_sem, eqGuard, binOp, Op.intArith]) (EvG.of hx) (EvG.of hy)
theorem Qt.icmp {op : BinOp} {t u : TypeId} {k : IntKind} {a b : Int} {r : Bool}
    {c_hx : Bool} (hx : opv x E = some (c_hx, (.int k a))) [i_hx : Imp g c_hx] {c_hy : Bool} (hy : opv y E = some (c_hy, (.int k b))) [i_hy : Imp g c_hy]
    (hr : icmp op a b = some r)
    : Qt P E L ⟨d, .binOp op t x y u, ty, pos, af, gd⟩ g (.bool r) :=
  .of2 (fun ρ w h1 h2 => by
    cases op <;> simp only [Ab.icmp, Option.some.injEq, reduceCtorEq] at hr <;> subst hr <;> simp [execOp, h1, h2, go_sem, eqGuard, binOp, Op.intCmp]
    all_goals (first | rfl | (rw [Bool.eq_iff_iff]; simp) | skip)) (EvG.of hx) (EvG.of hy)
/-- A string's bytes. -/
abbrev bs (s : ByteArray) : List UInt8 := s.data.toList
theorem bs_length (s : ByteArray) : (bs s).length = s.size := Array.length_toList
def scmp (op : BinOp) (a b : ByteArray) : Option Bool :=
  match op with
  | .eql => some (decide (bs a = bs b))
  | .neq => some (!decide (bs a = bs b))
  | _ => none
theorem Qt.scmp {op : BinOp} {t u : TypeId} {a b : ByteArray} {r : Bool}
    {c_hx : Bool} (hx : opv x E = some (c_hx, (.string a))) [i_hx : Imp g c_hx] {c_hy : Bool} (hy : opv y E = some (c_hy, (.string b))) [i_hy : Imp g c_hy]
    (hr : scmp op a b = some r)
    : Qt P E L ⟨d, .binOp op t x y u, ty, pos, af, gd⟩ g (.bool r) :=
  .of2 (fun ρ w h1 h2 => by
    simp only [execOp, h1, h2]
    refine run_v ?_
    rw [run_ok (run_eqGuard (by simp) (by simp) w)]
    have hb : (a.toList == b.toList) = decide (bs a = bs b) := by rw [ByteArray.toList_eq, ByteArray.toList_eq, Bool.beq_eq_decide_eq]
    cases op <;> simp only [Ab.scmp, Option.some.injEq, reduceCtorEq] at hr <;> subst hr
    · show Result.ok (Value.bool (a.toList == b.toList)) w = _
      rw [hb]
    · show Result.ok (Value.bool !(a.toList == b.toList)) w = _
      rw [hb]) (EvG.of hx) (EvG.of hy)
theorem Qt.sadd {t u : TypeId} {a b : ByteArray} (hb : (bs a).length + (bs b).length < 9223372036854775808)
    {c_hx : Bool} (hx : opv x E = some (c_hx, (.string a))) [i_hx : Imp g c_hx] {c_hy : Bool} (hy : opv y E = some (c_hy, (.string b))) [i_hy : Imp g c_hy]
    : Qt P E L ⟨d, .binOp .add t x y u, ty, pos, af, gd⟩ g (.string (a ++ b)) :=
  .of2 (fun ρ w h1 h2 => by
    have h3 : ¬ ((a.size + b.size : Nat) : Int) > IntKind.i64.max := by
      have e : IntKind.i64.max = 9223372036854775807 := by decide
      rw [e]
      have e1 : (bs a).length = a.size := bs_length _
      have e2 : (bs b).length = b.size := bs_length _
      omega
    simp only [execOp, h1, h2]
    refine run_v ?_
    rw [run_ok (run_eqGuard (by simp) (by simp) w)]
    show (Op.stringOp .add a b).run P w = _
    simp only [Op.stringOp, h3, if_false]
    rfl) (EvG.of hx) (EvG.of hy)
theorem Qt.not {t : TypeId} {a : Bool} {c_hx : Bool} (hx : opv x E = some (c_hx, (.bool a))) [i_hx : Imp g c_hx] :
    Qt P E L ⟨d, .unOp .not t x, ty, pos, af, gd⟩ g (.bool (!a)) :=
  .of1 (fun ρ w h1 => by
    show (do pure (Next.value (← Op.unary .not (ρ x))) : Sem Next).run P w = _
    rw [h1]; exact run_v rfl) (EvG.of hx)
theorem Qt.neg {t : TypeId} {k : IntKind} {a : Int} {c_hx : Bool} (hx : opv x E = some (c_hx, (.int k a))) [i_hx : Imp g c_hx] :
    Qt P E L ⟨d, .unOp .neg t x, ty, pos, af, gd⟩ g (.int k (k.wrap (0 - a))) :=
  .of1 (fun ρ w h1 => by
    show (do pure (Next.value (← Op.unary .neg (ρ x))) : Sem Next).run P w = _
    rw [h1]; exact run_v rfl) (EvG.of hx)
theorem Qt.extract {i : Nat} {vs : Array Value} {v : Value} {c_hx : Bool} (hx : opv x E = some (c_hx, (.tuple vs))) [i_hx : Imp g c_hx] (hv : vs[i]? = some v) :
    Qt P E L ⟨d, .extract x i, ty, pos, af, gd⟩ g v :=
  .of1 (fun ρ w h1 => by
    simp only [execOp, h1]
    refine run_v ?_
    simp only [Instr.extract, hv]; rfl) (EvG.of hx)
theorem Qt.lenSlice {t : TypeId} {a : Option Addr} {n c : Nat} {e : TypeId} [hu : USlice P t e] {c_hx : Bool} (hx : opv x E = some (c_hx, (.slice a n c))) [i_hx : Imp g c_hx] :
    Qt P E L ⟨d, .call ⟨.builtin .len, #[x], #[t]⟩, ty, pos, af, gd⟩ g (.int .i64 n) :=
  .of1 (fun ρ w h1 => by
    simp only [execOp, resolve, List.map_toArray, List.map_cons, List.map_nil, h1]
    show (do pure (Next.value (← Builtin.len_ #[t] ty #[.slice a n c])) : Sem Next).run P w = _
    refine run_v ?_
    simp only [Builtin.len_]
    rw [show (#[t] : Array TypeId)[0]? = some t from rfl, show (#[Value.slice a n c] : Array Value)[0]? = some (.slice a n c) from rfl]
    simp only []
    rw [run_ok (run_u hu.h w)]; rfl) (EvG.of hx)
theorem Qt.lenStr {t : TypeId} {s : ByteArray} [hu : UStr P t] {c_hx : Bool} (hx : opv x E = some (c_hx, (.string s))) [i_hx : Imp g c_hx] :
    Qt P E L ⟨d, .call ⟨.builtin .len, #[x], #[t]⟩, ty, pos, af, gd⟩ g (.int .i64 ((bs s).length : Nat)) :=
  .of1 (fun ρ w h1 => by
    have e1 : (bs s).length = s.size := bs_length _
    rw [e1]
    simp only [execOp, resolve, List.map_toArray, List.map_cons, List.map_nil, h1]
    show (do pure (Next.value (← Builtin.len_ #[t] ty #[.string s])) : Sem Next).run P w = _
    refine run_v ?_
    simp only [Builtin.len_]
    rw [show (#[t] : Array TypeId)[0]? = some t from rfl, show (#[Value.string s] : Array Value)[0]? = some (.string s) from rfl]
    simp only []
    rw [run_ok (run_u hu.h w)]; rfl) (EvG.of hx)
theorem Qt.fieldAddr {s : TypeId} {f b o off : Nat} [hf : FieldAt P s f off] {c_hx : Bool} (hx : opv x E = some (c_hx, (.pointer (some ⟨b, o, none⟩)))) [i_hx : Imp g c_hx] :
    Qt P E L ⟨d, .fieldAddr s x f, ty, pos, af, gd⟩ g (.pointer (some ⟨b, o + off, none⟩)) :=
  .of1 (fun ρ w h1 => by
    have := hf.h b o w
    simp only [execOp, h1]
    exact run_v this) (EvG.of hx)
theorem Qt.nilCheck {a : Addr} {c_hx : Bool} (hx : opv x E = some (c_hx, (.pointer (some a)))) [i_hx : Imp g c_hx] :
    Qt P E L ⟨d, .nilCheck x, ty, pos, af, gd⟩ g (.pointer (some a)) :=
  .of1 (fun ρ w h1 => by
    unfold execOp; simp only []; rw [h1]; rfl) (EvG.of hx)
theorem Qt.convInt {s t : TypeId} {k k' : IntKind} {a : Int} [hs : UInt P s k] [ht : UInt P t k'] {c_hx : Bool} (hx : opv x E = some (c_hx, (.int k a))) [i_hx : Imp g c_hx] :
    Qt P E L ⟨d, .convert s t x, ty, pos, af, gd⟩ g (.int k' (k'.wrap a)) :=
  .of1 (fun ρ w h1 => by
    simp only [execOp, h1]
    refine run_v ?_
    unfold convert
    rw [run_ok (run_u hs.h w), run_ok (run_u ht.h w)]; rfl) (EvG.of hx)
theorem Qt.makeFunc {f : FuncId} {ca : Array Operand} {cv : List Value} (hc : ∀ a : Act, EnvSat E a.tmps → g = true → (ca.map a.eval).toList = cv) :
    Qt P E L ⟨d, .makeFunc (.func f) #[] ca, ty, pos, af, gd⟩ g (.func (.func f) #[] cv.toArray) := fun a w h1 _ h3 => by
  have : ca.map a.eval = cv.toArray := by rw [← hc a h1 h3]
  simp only [execOp, this]
  simp [Sem.run, pure, bind, Sem.bind, Instr.makeFunc]
theorem Qt.pick0 {v1 v2 : Value} {cb : Bool} {cx : Operand} (hc : EvG E cx g (.bool cb)) (hx : EvG E x (g && cb) v1) (hy : EvG E y (g && !cb) v2) :
    Qt P E L ⟨d, .pick cx x y, ty, pos, af, gd⟩ g (if cb = true then v1 else v2) := fun a w h1 _ h3 => by
  subst h3
  have e1 := hc a h1 rfl
  cases cb with
  | true =>
    have e2 := hx a h1 rfl
    show (do pure (Next.value (if ← asBool (a.eval cx) then a.eval x else a.eval y)) : Sem Next).run P w = _
    rw [e1, e2]; rfl
  | false =>
    have e2 := hy a h1 rfl
    show (do pure (Next.value (if ← asBool (a.eval cx) then a.eval x else a.eval y)) : Sem Next).run P w = _
    rw [e1, e2]; rfl
theorem Qt.pick {v1 v2 : Value} {cb c1 c2 c3 : Bool} {cx : Operand} (hc : opv cx E = some (c1, .bool cb)) [Imp g c1] (hx : opv x E = some (c2, v1)) [Imp (g && cb) c2] (hy : opv y E = some (c3, v2)) [Imp (g && !cb) c3] :
    Qt P E L ⟨d, .pick cx x y, ty, pos, af, gd⟩ g (if cb = true then v1 else v2) := Qt.pick0 (EvG.of hc) (EvG.of hx) (EvG.of hy)
theorem Qt.and {cb b c1 c2 : Bool} {cx : Operand} (hc : opv cx E = some (c1, .bool cb)) [Imp g c1] (hx : opv x E = some (c2, .bool b)) [Imp (g && cb) c2] :
    Qt P E L ⟨d, .pick cx x (.const (.bool false)), ty, pos, af, gd⟩ g (.bool (cb && b)) := fun a w h1 h2 h3 => by
  rw [Qt.pick0 (P := P) (L := L) (EvG.of hc) (EvG.of hx) (EvG.c (v := .bool false)) a w h1 h2 h3]; cases cb <;> rfl
theorem Qt.or {cb b c1 c2 : Bool} {cx : Operand} (hc : opv cx E = some (c1, .bool cb)) [Imp g c1] (hy : opv y E = some (c2, .bool b)) [Imp (g && !cb) c2] :
    Qt P E L ⟨d, .pick cx (.const (.bool true)) y, ty, pos, af, gd⟩ g (.bool (cb || b)) := fun a w h1 h2 h3 => by
  rw [Qt.pick0 (P := P) (L := L) (EvG.of hc) (EvG.c (v := .bool true)) (EvG.of hy) a w h1 h2 h3]; cases cb <;> rfl
/-! ### Those that may panic, where they do not -/
theorem Qt.indexAddr {t e : TypeId} {b o n c sz : Nat} {agg : Bool} {i : Int} {k : IntKind} [hu : USlice P t e] [hz : TSize P e sz agg] (h0 : g = true → 0 ≤ i ∧ i < n)
    {c_hx : Bool} (hx : opv x E = some (c_hx, (.slice (some ⟨b, o, none⟩) n c))) [i_hx : Imp g c_hx] {c_hy : Bool} (hy : opv y E = some (c_hy, (.int k i))) [i_hy : Imp g c_hy] :
    Qt P E L ⟨d, .indexAddr t x y, ty, pos, af, gd⟩ g (.pointer (some ⟨b, o + i.toNat * sz, none⟩)) := fun a w h1 _ h3 => by
  have e1 := EvG.of (g := g) hx a h1 h3
  have e2 := EvG.of (g := g) hy a h1 h3
  have e3 := hz.size w
  have e4 := hu.h
  have e5 := h0 h3
  simp only [execOp, e1, e2]
  refine run_v ?_
  unfold Instr.indexAt
  rw [run_ok (a := (k, i)) (w' := w) rfl]
  simp only []
  rw [run_ok (run_u e4 w)]
  simp only []
  rw [run_ok (a := (some ⟨b, o, none⟩, n, e)) (w' := w) rfl]
  simp only []
  rw [run_ok (run_u e4 w)]
  simp only [e5.1, e5.2, and_self, if_true]
  rw [run_ok e3]
  simp only [Addr.add, Sem.run, pure]
  split
  · rename_i hh; simp [hh]
  · rfl
theorem Qt.indexStr {t : TypeId} {s : ByteArray} {i : Int} {k : IntKind} {ch : UInt8} [hu : UStr P t] (h0 : g = true → 0 ≤ i ∧ (bs s)[i.toNat]? = some ch)
    {c_hx : Bool} (hx : opv x E = some (c_hx, (.string s))) [i_hx : Imp g c_hx] {c_hy : Bool} (hy : opv y E = some (c_hy, (.int k i))) [i_hy : Imp g c_hy] :
    Qt P E L ⟨d, .index t x y, ty, pos, af, gd⟩ g (.int .u8 ch.toNat) := fun a w h1 _ h3 => by
  have e1 := EvG.of (g := g) hx a h1 h3
  have e2 := EvG.of (g := g) hy a h1 h3
  have e4 := hu.h
  obtain ⟨e5, e6⟩ := h0 h3
  have hlt : i.toNat < s.size := (List.getElem?_eq_some_iff.1 e6).1
  have e7 : s[i.toNat]? = some ch := by
    rw [getElem?_pos s i.toNat hlt, ← (List.getElem?_eq_some_iff.1 e6).2]; rfl
  simp only [execOp, e1, e2]
  refine run_v ?_
  unfold Instr.index
  rw [run_ok (a := (k, i)) (w' := w) rfl]
  simp only []
  rw [run_ok (run_u e4 w)]
  simp only [e5, if_true, e7]
  rfl
end
end Go.Ab
end
section
/- The calculus: memory: what is read, variables of one's own, rows that grow. -/
namespace Go.Ab
open Go
/-! ## Lists of parts -/
theorem pull_perm {α : Type} : ∀ (L : List α) (i : Nat) (A : α), L[i]? = some A → (A :: L.eraseIdx i).Perm L
  | [], _, _, h => by simp at h
  | x :: L, 0, A, h => by simp at h; subst h; exact List.Perm.refl _
  | x :: L, i + 1, A, h => by
    have := pull_perm L i A (by simpa using h)
    simp only [List.eraseIdx_cons_succ]
    exact (List.Perm.swap x A _).trans (this.cons x)
theorem set_perm {α : Type} : ∀ (L : List α) (i : Nat) (A : α), i < L.length → (L.set i A).Perm (A :: L.eraseIdx i)
  | [], _, _, h => by simp at h
  | x :: L, 0, A, h => List.Perm.refl _
  | x :: L, i + 1, A, h => by
    have := set_perm L i A (by simpa using h)
    simp only [List.set_cons_succ, List.eraseIdx_cons_succ]
    exact (this.cons x).trans (List.Perm.swap A x _)
theorem Sat.pull {L : List Assn} {k : Hp} {i : Nat} {A : Assn} (hi : L[i]? = some A) (h : Sat k L) : Sat k (A :: L.eraseIdx i) := h.perm (pull_perm L i A hi).symm
theorem Sat.set {L : List Assn} {k : Hp} {i : Nat} {A A' : Assn} (hi : L[i]? = some A) (h : Sat k (A' :: L.eraseIdx i)) : Sat k (L.set i A') :=
  h.perm (set_perm L i A' (List.getElem?_eq_some_iff.1 hi).1).symm
theorem Ent.at {L : List Assn} {i : Nat} {A : Assn} {φ : Hp → Prop} (hi : L[i]? = some A) (hm : Mono φ) (h : ∀ k, A k → φ k) : Ent L φ := fun k s =>
  Ent.of_head hm h k (Sat.pull hi s)
/-! ## What is read -/
def CellsAt (b o : Nat) (vs : List Value) : Hp → Prop := fun h => ∃ c e f, h b = some (.cells c e f) ∧ ∀ i v, vs[i]? = some v → c[o + i]? = some v
theorem CellsAt.mono (b o : Nat) (vs : List Value) : Mono (CellsAt b o vs) := fun _ _ hk ⟨c, e, f, h1, h2⟩ => ⟨c, e, f, hk _ _ h1, h2⟩
theorem CellsAt.sub {b o j n : Nat} {vs ws : List Value} {h : Hp} (hc : CellsAt b o vs h) (hw : (vs.drop j).take n = ws) : CellsAt b (o + j) ws h := by
  obtain ⟨c, e, f, h1, h2⟩ := hc
  refine ⟨c, e, f, h1, fun i v hv => ?_⟩
  subst hw
  rw [List.getElem?_take] at hv
  split at hv
  · rw [List.getElem?_drop] at hv
    rw [Nat.add_assoc]; exact h2 _ _ hv
  · cases hv
def scalar : Value → Bool
  | .agg _ | .tuple _ => false
  | _ => true
section
variable {P : Program} {E : Env} {L : List Assn} {d : Option Tmp} {ty : TypeId} {pos : String} {af : Array Edge} {gd : Option (Nat × Bool)} {g : Bool} {x y z : Operand}
theorem cell_of {w : World} {b o : Nat} {v : Value} (h : CellsAt b o [v] (hp w)) : w.cell? ⟨b, o, none⟩ = some v := by
  obtain ⟨c, e, f, h1, h2⟩ := h
  have := h2 0 v rfl
  have h1 : w.heap[b]? = _ := h1
  simp only [World.cell?, h1, Option.isSome_none, Bool.false_eq_true, if_false]
  exact this
theorem run_load {w : World} {b o : Nat} {v : Value} (h : CellsAt b o [v] (hp w)) : (load ⟨b, o, none⟩).run P w = .ok v w := by
  simp only [load, Sem.run, cell_of h]
theorem Addr.add_eq (b o n : Nat) : Addr.add ⟨b, o, none⟩ n = ⟨b, o + n, none⟩ := by
  unfold Addr.add; split
  · rename_i h; subst h; rfl
  · rfl
theorem run_loadCells {w : World} {b o : Nat} : ∀ (n i : Nat) (vs : List Value) (acc : Array Value), vs.length = n → CellsAt b (o + i) vs (hp w) →
    (loadCellsFrom ⟨b, o, none⟩ i n acc).run P w = .ok (acc ++ vs.toArray) w
  | 0, i, vs, acc, hl, h => by
    obtain rfl : vs = [] := List.length_eq_zero_iff.1 hl
    simp [loadCellsFrom, Sem.run, pure]
  | n + 1, i, v :: vs, acc, hl, h => by
    unfold loadCellsFrom
    rw [Addr.add_eq, run_ok (run_load (v := v) (by have := h.sub (j := 0) (n := 1) (ws := [v]) (by simp); simpa using this))]
    rw [run_loadCells n (i + 1) vs (acc.push v) (by simpa using hl) (by
      have := h.sub (j := 1) (n := vs.length) (ws := vs) (by simp)
      rw [← Nat.add_assoc]; exact this)]
    simp
theorem Qt.load {t : TypeId} {b o : Nat} {v : Value} [hz : TSize P t 1 false] (hE : g = true → Ent L (CellsAt b o [v]))
    {c_hx : Bool} (hx : opv x E = some (c_hx, (.pointer (some ⟨b, o, none⟩)))) [i_hx : Imp g c_hx] : Qt P E L ⟨d, .load t x, ty, pos, af, gd⟩ g v := fun a w h1 h2 h3 => by
  show (do pure (Next.value (← Instr.loadAt t (a.eval x))) : Sem Next).run P w = _
  rw [EvG.of (g := g) hx a h1 h3]
  refine run_v ?_
  show (loadVar t ⟨b, o, none⟩).run P w = _
  unfold loadVar
  rw [run_ok (hz.agg w)]
  exact run_load (hE h3 _ h2)
theorem Qt.loadN {t : TypeId} {b o sz : Nat} {vs : List Value} [hz : TSize P t sz true] (hE : g = true → Ent L (CellsAt b o vs)) (hl : vs.length = sz)
    {c_hx : Bool} (hx : opv x E = some (c_hx, (.pointer (some ⟨b, o, none⟩)))) [i_hx : Imp g c_hx] : Qt P E L ⟨d, .load t x, ty, pos, af, gd⟩ g (.agg vs.toArray) := fun a w h1 h2 h3 => by
  show (do pure (Next.value (← Instr.loadAt t (a.eval x))) : Sem Next).run P w = _
  rw [EvG.of (g := g) hx a h1 h3]
  refine run_v ?_
  show (loadVar t ⟨b, o, none⟩).run P w = _
  unfold loadVar
  rw [run_ok (hz.agg w)]
  simp only [if_true]
  rw [run_ok (hz.size w)]
  have := run_loadCells (P := P) (w := w) (b := b) (o := o) sz 0 vs #[] hl (hE h3 _ h2)
  unfold loadCells
  rw [run_ok this]; simp [Sem.run, pure]
/-! ## A variable of one's own -/
/-- The block b is just these cells. -/
def ptA (b e : Nat) (vs : List Value) : Assn := fun h => h b = some (.cells vs.toArray e (0, 0))
theorem ptA.cells {b e : Nat} {vs : List Value} {h : Hp} (hp : ptA b e vs h) : CellsAt b 0 vs h := ⟨_, e, _, hp, fun i v hv => by simpa using hv⟩
theorem Ent.pt {b e o : Nat} {vs ws : List Value} (i n : Nat) (hi : L[i]? = some (ptA b e vs)) (hw : (vs.drop o).take n = ws) : Ent L (CellsAt b o ws) :=
  Ent.at hi (CellsAt.mono _ _ _) fun _ h => by have := CellsAt.sub h.cells hw; rwa [Nat.zero_add] at this
def lset : List Value → Nat → List Value → List Value
  | l, _, [] => l
  | l, o, v :: vs => lset (l.set o v) (o + 1) vs
theorem lset_length : ∀ (vs l : List Value) (o : Nat), (lset l o vs).length = l.length
  | [], _, _ => rfl
  | v :: vs, l, o => by simp [lset, lset_length vs]
theorem lset_get : ∀ (vs l : List Value) (o i : Nat), (lset l o vs)[i]? = if o ≤ i ∧ i < o + vs.length ∧ i < l.length then vs[i - o]? else l[i]?
  | [], l, o, i => by simp [lset]; intros; omega
  | v :: vs, l, o, i => by
    rw [lset, lset_get vs]
    simp only [List.length_set, List.length_cons, List.getElem?_set]
    by_cases h1 : o = i
    · subst h1
      simp
      by_cases h2 : o < l.length
      · simp [h2]; intros; omega
      · simp [h2]
    · simp only [h1, if_false]
      by_cases h2 : o + 1 ≤ i ∧ i < o + 1 + vs.length ∧ i < l.length
      · rw [if_pos h2, if_pos (by omega), show i - o = (i - (o + 1)) + 1 from by omega]; simp
      · rw [if_neg h2, if_neg (by omega)]
theorem run_storeCells {b e o : Nat} : ∀ (vs : List Value) (i : Nat) (w : World) (c : List Value), w.heap[b]? = some (.cells c.toArray e (0, 0)) → (∀ v ∈ vs, scalar v = true) → o + i + vs.length ≤ c.length →
    (storeCells ⟨b, o, none⟩ vs i).run P w = .ok () { w with heap := w.heap.setIfInBounds b (.cells (lset c (o + i) vs).toArray e (0, 0)) }
  | [], i, w, c, hb, _, _ => by
    have : w.heap.setIfInBounds b (.cells c.toArray e (0, 0)) = w.heap := by
      apply Array.ext_getElem?; intro j
      rw [Array.getElem?_setIfInBounds]
      split
      · rename_i h; subst h; split
        · exact hb.symm
        · rename_i h; rw [Array.getElem?_eq_none (by omega)]
      · rfl
    simp [storeCells, Sem.run, pure, lset, this]
  | v :: vs, i, w, c, hb, hs, hl => by
    have hv := hs v (by simp)
    have hlt : o + i < c.length := by simp at hl; omega
    have hbs : b < w.heap.size := by
      rcases Nat.lt_or_ge b w.heap.size with h | h
      · exact h
      · rw [Array.getElem?_eq_none h] at hb; cases hb
    have hst : (store (Addr.add ⟨b, o, none⟩ i) v).run P w = .ok () { w with heap := w.heap.setIfInBounds b (.cells (c.set (o + i) v).toArray e (0, 0)) } := by
      rw [Addr.add_eq]
      have hc : w.cell? ⟨b, o + i, none⟩ = some c[o + i] := by simp [World.cell?, hb, hlt]
      have hf : w.frozen? ⟨b, o + i, none⟩ = false := by simp [World.frozen?, hb]
      have hw : w.setCell ⟨b, o + i, none⟩ v = { w with heap := w.heap.setIfInBounds b (.cells (c.set (o + i) v).toArray e (0, 0)) } := by
        simp only [World.setCell]
        congr 1
        apply Array.ext_getElem?; intro j
        rw [Array.getElem?_modify, Array.getElem?_setIfInBounds]
        split
        · rename_i h; subst h; rw [hb]; simp [hbs]
        · rfl
      cases v <;> simp [scalar] at hv <;> simp [store, Sem.run, hc, hf, hw]
    unfold storeCells
    rw [run_ok hst, run_storeCells vs (i + 1) _ (c.set (o + i) v) (e := e) (by simp [hbs]) (fun u hu => hs u (by simp [hu])) (by simp at hl ⊢; omega)]
    simp [lset, Nat.add_assoc]
theorem hp_set {w : World} {b : Nat} {o : Obj} : ∀ x, x ≠ b → hp { w with heap := w.heap.setIfInBounds b o } x = hp w x := fun x h => by
  simp only [hp]; rw [Array.getElem?_setIfInBounds_ne (Ne.symm h)]
theorem hp_set_at {w : World} {b : Nat} {o : Obj} (h : b < w.heap.size) : hp { w with heap := w.heap.setIfInBounds b o } b = some o := by
  simp [hp, h]
theorem lt_of_hp {w : World} {b : Nat} {o : Obj} (h : hp w b = some o) : b < w.heap.size := by
  rcases Nat.lt_or_ge b w.heap.size with h' | h'
  · exact h'
  · have h : w.heap[b]? = some o := h
    rw [Array.getElem?_eq_none h'] at h; cases h
theorem OpT.store {t : TypeId} {b e o sz : Nat} {vs ws : List Value} {v : Value} {agg : Bool} {M : List Assn} [hz : TSize P t sz agg] (i : Nat)
    {c_hx : Bool} (hx : opv x E = some (c_hx, (.pointer (some ⟨b, o, none⟩)))) [i_hx : Imp true c_hx] {c_hy : Bool} (hy : opv y E = some (c_hy, v)) [i_hy : Imp true c_hy]
    (hi : L[i]? = some (ptA b e vs)) (hv : v.cells.toList = ws) (hsz : ws.length = sz) (hs : ws.all scalar = true) (hl : Nat.ble (o + ws.length) vs.length = true) (hM : L.set i (ptA b e (lset vs o ws)) = M) :
    OpT P E L ⟨none, .store t x y, ty, pos, af, gd⟩ (fun _ L' => L' = M) noPanic := fun a w K Q0 h1 h2 hK hp' => by
  have hpt := Sat.pull hi h2
  obtain ⟨h0, l0, a0, s0⟩ := hpt
  have hb : w.heap[b]? = some (.cells vs.toArray e (0, 0)) := l0 _ _ a0
  have hrun : (storeVar t ⟨b, o, none⟩ v).run P w = .ok () { w with heap := w.heap.setIfInBounds b (.cells (lset vs o ws).toArray e (0, 0)) } := by
    unfold storeVar
    rw [run_ok (hz.size w), ← hsz]
    have : v.cells.size = ws.length := by rw [← hv]; simp
    simp only [this, ne_eq, not_true_eq_false, if_false]
    rw [hv]
    exact run_storeCells ws 0 w vs hb (by simpa using hs) (by simpa using bleLe hl)
  unfold Oper.wp
  have he : (execOp a.eval ⟨none, .store t x y, ty, pos, af, gd⟩).run P w = .ok .skip { w with heap := w.heap.setIfInBounds b (.cells (lset vs o ws).toArray e (0, 0)) } := by
    show (do Instr.storeAt t (a.eval x) (a.eval y); pure Next.skip : Sem Next).run P w = _
    rw [EvG.of (g := true) hx a h1 rfl, EvG.of (g := true) hy a h1 rfl]
    have hrun' : (Instr.storeAt t (.pointer (some ⟨b, o, none⟩)) v).run P w = .ok () { w with heap := w.heap.setIfInBounds b (.cells (lset vs o ws).toArray e (0, 0)) } := hrun
    rw [run_ok hrun']; rfl
  rw [he]
  refine hK undef _ M rfl ?_
  rw [← hM]
  refine Sat.set hi ?_
  have hbs := lt_of_hp (w := w) (l0 _ _ a0)
  refine Sat.turn (b := b) (Sat.pull hi h2) (fun h ha => ⟨_, ha⟩) hp_set (fun h ha hle => ?_) (by rw [hp_set_at hbs]; rfl)
  show (if b = b then hp _ b else h b) = _
  rw [if_pos rfl, hp_set_at hbs]
theorem OpT.box {e : TypeId} {v : Value} {vs : List Value} {c_hx : Bool} (hx : opv x E = some (c_hx, v)) [i_hx : Imp true c_hx] (hv : v.cells.toList = vs) :
    OpT P E L ⟨d, .box e x, ty, pos, af, gd⟩ (fun r L' => ∃ b, r = .pointer (some ⟨b, 0, none⟩) ∧ L' = ptA b e vs :: L) noPanic := fun a w K Q0 h1 h2 hK hp' => by
  unfold Oper.wp
  have he : (execOp a.eval ⟨d, .box e x, ty, pos, af, gd⟩).run P w = .ok (.value (.pointer (some ⟨w.heap.size, 0, none⟩))) { w with heap := w.heap.push (.cells v.cells e) } := by
    show (do pure (Next.value (← Instr.box e (a.eval x))) : Sem Next).run P w = _
    rw [EvG.of (g := true) hx a h1 rfl]; rfl
  rw [he]
  refine hK _ _ _ ⟨_, rfl, rfl⟩ (Sat.new ?_ h2)
  refine (Hp.single_at _ _).trans ?_
  rw [← hv]
theorem OpT.alloc {e : TypeId} {v : Value} {vs : List Value} [hz : TZero P e v] (hv : v.cells.toList = vs) :
    OpT P E L ⟨d, .alloc e, ty, pos, af, gd⟩ (fun r L' => ∃ b, r = .pointer (some ⟨b, 0, none⟩) ∧ L' = ptA b e vs :: L) noPanic := fun a w K Q0 h1 h2 hK hp' => by
  unfold Oper.wp
  have he : (execOp a.eval ⟨d, .alloc e, ty, pos, af, gd⟩).run P w = .ok (.value (.pointer (some ⟨w.heap.size, 0, none⟩))) { w with heap := w.heap.push (.cells v.cells e) } := by
    show (do pure (Next.value (← Instr.alloc e true (.tuple #[]))) : Sem Next).run P w = _
    refine run_v ?_
    unfold Instr.alloc
    rw [run_ok (hz.h w)]; rfl
  rw [he]
  refine hK _ _ _ ⟨_, rfl, rfl⟩ (Sat.new ?_ h2)
  refine (Hp.single_at _ _).trans ?_
  rw [← hv]
/-! ## Calls -/
def ev1 (x : Operand) (E : Env) : Option Value :=
  match x with
  | .tmp t => getV t E
  | .const v => some v
  | .func f => some (.func (.func f) #[] #[])
  | .global n => some (.pointer (some ⟨n, 0, none⟩))
def evs : List Operand → Env → Option (List Value)
  | [], _ => some []
  | x :: r, E => match ev1 x E with
    | some v => match evs r E with
      | some vs => some (v :: vs)
      | none => none
    | none => none
theorem ev1_sat {x : Operand} {v : Value} (h : ev1 x E = some v) {a : Act} (ha : EnvSat E a.tmps) : a.eval x = v := by
  cases x with
  | tmp t => exact getV_sat h ha
  | const u => simp only [ev1, Option.some.injEq] at h; subst h; rfl
  | global n => simp only [ev1, Option.some.injEq] at h; subst h; rfl
  | func f => simp only [ev1, Option.some.injEq] at h; subst h; rfl
theorem evs_sat : ∀ {l : List Operand} {vs : List Value}, evs l E = some vs → ∀ {a : Act}, EnvSat E a.tmps → l.map a.eval = vs
  | [], vs, h, a, ha => by simp only [evs, Option.some.injEq] at h; subst h; rfl
  | x :: r, vs, h, a, ha => by
    unfold evs at h
    split at h
    · rename_i v h1
      split at h
      · rename_i us h2
        simp only [Option.some.injEq] at h; subst h
        rw [List.map_cons, ev1_sat h1 ha, evs_sat h2 ha]
      · cases h
    · cases h
theorem OpT.call {f : FuncId} {args : List Operand} {tys : Array TypeId} {vs : List Value} {R : Ending → List Assn → Prop}
    (hc : ∀ (args : Array Value) (w : World), Sem.run P (callFunc f args) w = .ok (.enter f args) w) (hargs : evs args E = some vs) (hct : Ct P f vs.toArray L R) :
    OpT P E L ⟨d, .call ⟨.value (.func f), args.toArray, tys⟩, ty, pos, af, gd⟩ (fun v L' => R (.returned v) L') (fun c L' => R (.panicked c) L') := fun a w K Q0 h1 h2 hK hp' => by
  unfold Oper.wp
  have hm := evs_sat hargs h1
  have he : (execOp a.eval ⟨d, .call ⟨.value (.func f), args.toArray, tys⟩, ty, pos, af, gd⟩).run P w = .ok (.enter f vs.toArray) w := by
    show (callFunc f ((#[] ++ args.toArray.map a.eval) ++ #[])).run P w = _
    have : (#[] ++ args.toArray.map a.eval) ++ #[] = vs.toArray := by rw [← hm]; simp
    rw [this]; exact hc _ w
  rw [he]
  refine (hct w h2).mono fun e w' ⟨h0, L', hR, hS⟩ => ?_
  cases e with
  | returned v => exact hK v w' L' hR hS
  | panicked c => exact hp' c w' L' hR hS
  | outgrown => exact absurd rfl h0
end
end Go.Ab
end
section
/- The calculus: steps that go by themselves. -/
namespace Go.Ab
open Go
section
variable {P : Program} {n : Nat} {Q : Post} {E : Env} {D : List Deferred} {L : List Assn} {ops : Array Oper} {rest : List Oper} {m m' : Md}
theorem Keeps.none {L : List Assn} : Keeps .seq L := trivial
theorem Keeps.last {Ls L : List Assn} : Keeps (.any Ls 0) L := trivial
theorem Keeps.drop {Ls : List Assn} {k : Nat} (M : List Assn) : Keeps (.any Ls (k + 1)) (M ++ Ls) := fun _ h => Sat.drop M h
theorem Keeps.by {Ls L : List Assn} {k : Nat} (h : ∀ k, Sat k L → Sat k Ls) : Keeps (.any Ls (k + 1)) L := h
theorem WpO.store [Nxt m m'] {t : TypeId} {x y : Operand} {ty : TypeId} {pos : String} {af : Array Edge} {b e o sz : Nat} {vs ws : List Value} {v : Value} {agg : Bool} {M : List Assn} [hz : TSize P t sz agg] (i : Nat)
    (hx : opv x E = some (true, .pointer (some ⟨b, o, none⟩))) (hy : opv y E = some (true, v))
    (hi : L[i]? = some (ptA b e vs)) (hv : v.cells.toList = ws) (hsz : ws.length = sz) (hs : ws.all scalar = true) (hl : Nat.ble (o + ws.length) vs.length = true) (hM : L.set i (ptA b e (lset vs o ws)) = M) (hk : Keeps m M)
    (h : WpO P n ops Q m' rest E D M) : WpO P n ops Q m (⟨none, .store t x y, ty, pos, af, none⟩ :: rest) E D L :=
  WpO.op0 rfl (OpT.store i hx hy hi hv hsz hs hl hM) nofun fun _ _ e => by subst e; exact ⟨hk, h⟩
theorem WpO.box [Nxt m m'] {d : Nat} {x : Operand} {ty e : TypeId} {pos : String} {af : Array Edge} {v : Value} {vs : List Value} (hdn : Nat.blt d n = true) (hx : opv x E = some (true, v)) (hv : v.cells.toList = vs) (hk : ∀ b, Keeps m (ptA b e vs :: L))
    (h : ∀ b, WpO P n ops Q m' rest ((d, .v (.pointer (some ⟨b, 0, Option.none⟩))) :: E) D (ptA b e vs :: L)) : WpO P n ops Q m (⟨some d, .box e x, ty, pos, af, none⟩ :: rest) E D L :=
  WpO.op rfl hdn (OpT.box hx hv) nofun fun _ _ ⟨b, e1, e2⟩ => by subst e1; subst e2; exact ⟨hk b, h b⟩
theorem WpO.alloc [Nxt m m'] {d : Nat} {ty e : TypeId} {pos : String} {af : Array Edge} {v : Value} {vs : List Value} [TZero P e v] (hdn : Nat.blt d n = true) (hv : v.cells.toList = vs) (hk : ∀ b, Keeps m (ptA b e vs :: L))
    (h : ∀ b, WpO P n ops Q m' rest ((d, .v (.pointer (some ⟨b, 0, Option.none⟩))) :: E) D (ptA b e vs :: L)) : WpO P n ops Q m (⟨some d, .alloc e, ty, pos, af, none⟩ :: rest) E D L :=
  WpO.op rfl hdn (OpT.alloc hv) nofun fun _ _ ⟨b, e1, e2⟩ => by subst e1; subst e2; exact ⟨hk b, h b⟩
attribute [local irreducible] Wp WpO Qt OpT Ct
section steps
variable {d : Nat} {ty : TypeId} {pos : String} {af : Array Edge} {x y : Operand} {t u : TypeId}
theorem S.move [Nxt m m'] {v : Value} (h0 : Nat.blt d n = true) (hx : opv x E = some (true, v)) (h : WpO P n ops Q m' rest ((d, .v v) :: E) D L) : WpO P n ops Q m (⟨some d, .move x, ty, pos, af, none⟩ :: rest) E D L := WpO.q rfl h0 (Qt.move hx) h
theorem S.assign [Nxt m m'] {v : Value} (h0 : Nat.blt d n = true) (hx : opv x E = some (true, v)) (h : WpO P n ops Q m' rest ((d, .v v) :: E) D L) : WpO P n ops Q m (⟨some d, .assign x, ty, pos, af, none⟩ :: rest) E D L := WpO.q rfl h0 (Qt.assign hx) h
/-- Whatever two-place operation, but on addresses. -/
def bin (op : BinOp) : Value → Value → Option Value
  | .int k a, .int k' b => match decide (k = k') with
    | true => match Ab.arith op k a b with
      | some r => some (.int k r)
      | none => match Ab.icmp op a b with
        | some r => some (.bool r)
        | none => none
    | false => none
  | .string a, .string b => match Ab.scmp op a b with
    | some r => some (.bool r)
    | none => none
  | _, _ => none
theorem Qt.bin {g c1 c2 : Bool} {d : Option Tmp} {gd : Option (Nat × Bool)} {op : BinOp} {a b v : Value} (hx : opv x E = some (c1, a)) [Imp g c1] (hy : opv y E = some (c2, b)) [Imp g c2] (hr : bin op a b = some v) :
    Qt P E L ⟨d, .binOp op t x y u, ty, pos, af, gd⟩ g v := by
  unfold Ab.bin at hr
  split at hr
  · split at hr
    · rename_i k a' k' b' hk
      obtain rfl := of_decide_eq_true hk
      split at hr
      · rename_i r h1; simp only [Option.some.injEq] at hr; subst hr; exact Qt.arith hx hy h1
      · split at hr
        · rename_i r h1; simp only [Option.some.injEq] at hr; subst hr; exact Qt.icmp hx hy h1
        · cases hr
    · cases hr
  · split at hr
    · rename_i r h1; simp only [Option.some.injEq] at hr; subst hr; exact Qt.scmp hx hy h1
    · cases hr
  · cases hr
theorem S.bin [Nxt m m'] {op : BinOp} {a b v : Value} (h0 : Nat.blt d n = true) (hx : opv x E = some (true, a)) (hy : opv y E = some (true, b)) (hr : bin op a b = some v)
    (h : WpO P n ops Q m' rest ((d, .v v) :: E) D L) : WpO P n ops Q m (⟨some d, .binOp op t x y u, ty, pos, af, none⟩ :: rest) E D L := WpO.q rfl h0 (Qt.bin hx hy hr) h
theorem S.not [Nxt m m'] {a : Bool} (h0 : Nat.blt d n = true) (hx : opv x E = some (true, .bool a)) (h : WpO P n ops Q m' rest ((d, .v (.bool (!a))) :: E) D L) : WpO P n ops Q m (⟨some d, .unOp .not t x, ty, pos, af, none⟩ :: rest) E D L := WpO.q rfl h0 (Qt.not hx) h
theorem S.fieldAddr [Nxt m m'] {b o f off : Nat} (h0 : Nat.blt d n = true) (hx : opv x E = some (true, .pointer (some ⟨b, o, none⟩))) (hf : FieldAt P t f off)
    (h : WpO P n ops Q m' rest ((d, .v (.pointer (some ⟨b, o + off, none⟩))) :: E) D L) : WpO P n ops Q m (⟨some d, .fieldAddr t x f, ty, pos, af, none⟩ :: rest) E D L := WpO.q rfl h0 (Qt.fieldAddr hx) h
theorem S.load [Nxt m m'] {b o : Nat} {v : Value} (h0 : Nat.blt d n = true) (hx : opv x E = some (true, .pointer (some ⟨b, o, none⟩))) (hz : TSize P t 1 false) (hE : Ent (mem m L) (CellsAt b o [v]))
    (h : WpO P n ops Q m' rest ((d, .v v) :: E) D L) : WpO P n ops Q m (⟨some d, .load t x, ty, pos, af, none⟩ :: rest) E D L := WpO.q rfl h0 (Qt.load (fun _ => hE) hx) h
theorem S.or [Nxt m m'] {c b : Bool} {cx : Operand} {c2 : Bool} (h0 : Nat.blt d n = true) (hc : opv cx E = some (true, .bool c)) (hy : opv y E = some (c2, .bool b)) (hi : Imp (true && !c) c2)
    (h : WpO P n ops Q m' rest ((d, .v (.bool (c || b))) :: E) D L) : WpO P n ops Q m (⟨some d, .pick cx (.const (.bool true)) y, ty, pos, af, none⟩ :: rest) E D L := WpO.q rfl h0 (Qt.or hc hy) h
theorem S.and [Nxt m m'] {c b : Bool} {cx : Operand} {c2 : Bool} (h0 : Nat.blt d n = true) (hc : opv cx E = some (true, .bool c)) (hx : opv x E = some (c2, .bool b)) (hi : Imp (true && c) c2)
    (h : WpO P n ops Q m' rest ((d, .v (.bool (c && b))) :: E) D L) : WpO P n ops Q m (⟨some d, .pick cx x (.const (.bool false)), ty, pos, af, none⟩ :: rest) E D L := WpO.q rfl h0 (Qt.and hc hx) h
theorem S.lenSlice [Nxt m m'] {a : Option Addr} {ln c e : Nat} (h0 : Nat.blt d n = true) (hx : opv x E = some (true, .slice a ln c)) (hu : USlice P t e)
    (h : WpO P n ops Q m' rest ((d, .v (.int .i64 ln)) :: E) D L) : WpO P n ops Q m (⟨some d, .call ⟨.builtin .len, #[x], #[t]⟩, ty, pos, af, none⟩ :: rest) E D L := WpO.q rfl h0 (Qt.lenSlice hx) h
theorem S.lenStr [Nxt m m'] {s : ByteArray} (h0 : Nat.blt d n = true) (hx : opv x E = some (true, .string s)) (hu : UStr P t)
    (h : WpO P n ops Q m' rest ((d, .v (.int .i64 ((bs s).length : Nat))) :: E) D L) : WpO P n ops Q m (⟨some d, .call ⟨.builtin .len, #[x], #[t]⟩, ty, pos, af, none⟩ :: rest) E D L := WpO.q rfl h0 (Qt.lenStr hx) h
theorem S.extract [Nxt m m'] {i : Nat} {vs : Array Value} {v : Value} (h0 : Nat.blt d n = true) (hx : opv x E = some (true, .tuple vs)) (hv : vs[i]? = some v)
    (h : WpO P n ops Q m' rest ((d, .v v) :: E) D L) : WpO P n ops Q m (⟨some d, .extract x i, ty, pos, af, none⟩ :: rest) E D L := WpO.q rfl h0 (Qt.extract hx hv) h
theorem S.nilCheck [Nxt m m'] {a : Addr} (h0 : Nat.blt d n = true) (hx : opv x E = some (true, .pointer (some a)))
    (h : WpO P n ops Q m' rest ((d, .v (.pointer (some a))) :: E) D L) : WpO P n ops Q m (⟨some d, .nilCheck x, ty, pos, af, none⟩ :: rest) E D L := WpO.q rfl h0 (Qt.nilCheck hx) h
theorem S.convInt [Nxt m m'] {k k' : IntKind} {a : Int} (h0 : Nat.blt d n = true) (hx : opv x E = some (true, .int k a)) (hs : UInt P t k) (ht : UInt P u k')
    (h : WpO P n ops Q m' rest ((d, .v (.int k' (k'.wrap a))) :: E) D L) : WpO P n ops Q m (⟨some d, .convert t u x, ty, pos, af, none⟩ :: rest) E D L := WpO.q rfl h0 (Qt.convInt hx) h
/- The same under a guard. -/
variable {gd : Nat × Bool} {g c1 c2 : Bool}
theorem G.move [Nxt m m'] {v : Value} (h0 : Nat.blt d n = true) (hg : guardOf ops E gd = some g) (hx : opv x E = some (c1, v)) (i1 : Imp g c1) (h : WpO P n ops Q m' rest ((d, .g g v) :: E) D L) :
    WpO P n ops Q m (⟨some d, .move x, ty, pos, af, some gd⟩ :: rest) E D L := WpO.qd rfl h0 hg (Qt.move hx) h
theorem G.bin [Nxt m m'] {op : BinOp} {a b v : Value} (h0 : Nat.blt d n = true) (hg : guardOf ops E gd = some g) (hx : opv x E = some (c1, a)) (i1 : Imp g c1) (hy : opv y E = some (c2, b)) (i2 : Imp g c2) (hr : bin op a b = some v)
    (h : WpO P n ops Q m' rest ((d, .g g v) :: E) D L) : WpO P n ops Q m (⟨some d, .binOp op t x y u, ty, pos, af, some gd⟩ :: rest) E D L := WpO.qd rfl h0 hg (Qt.bin hx hy hr) h
theorem G.not [Nxt m m'] {a : Bool} (h0 : Nat.blt d n = true) (hg : guardOf ops E gd = some g) (hx : opv x E = some (c1, .bool a)) (i1 : Imp g c1) (h : WpO P n ops Q m' rest ((d, .g g (.bool (!a))) :: E) D L) :
    WpO P n ops Q m (⟨some d, .unOp .not t x, ty, pos, af, some gd⟩ :: rest) E D L := WpO.qd rfl h0 hg (Qt.not hx) h
theorem G.fieldAddr [Nxt m m'] {b o f off : Nat} (h0 : Nat.blt d n = true) (hg : guardOf ops E gd = some g) (hx : opv x E = some (c1, .pointer (some ⟨b, o, none⟩))) (i1 : Imp g c1) (hf : FieldAt P t f off)
    (h : WpO P n ops Q m' rest ((d, .g g (.pointer (some ⟨b, o + off, none⟩))) :: E) D L) : WpO P n ops Q m (⟨some d, .fieldAddr t x f, ty, pos, af, some gd⟩ :: rest) E D L := WpO.qd rfl h0 hg (Qt.fieldAddr hx) h
theorem G.load [Nxt m m'] {b o : Nat} {v : Value} (h0 : Nat.blt d n = true) (hg : guardOf ops E gd = some g) (hx : opv x E = some (c1, .pointer (some ⟨b, o, none⟩))) (i1 : Imp g c1) (hz : TSize P t 1 false) (hE : Ent (mem m L) (CellsAt b o [v]))
    (h : WpO P n ops Q m' rest ((d, .g g v) :: E) D L) : WpO P n ops Q m (⟨some d, .load t x, ty, pos, af, some gd⟩ :: rest) E D L := WpO.qd rfl h0 hg (Qt.load (fun _ => hE) hx) h
theorem G.lenSlice [Nxt m m'] {a : Option Addr} {ln c e : Nat} (h0 : Nat.blt d n = true) (hg : guardOf ops E gd = some g) (hx : opv x E = some (c1, .slice a ln c)) (i1 : Imp g c1) (hu : USlice P t e)
    (h : WpO P n ops Q m' rest ((d, .g g (.int .i64 ln)) :: E) D L) : WpO P n ops Q m (⟨some d, .call ⟨.builtin .len, #[x], #[t]⟩, ty, pos, af, some gd⟩ :: rest) E D L := WpO.qd rfl h0 hg (Qt.lenSlice hx) h
theorem G.lenStr [Nxt m m'] {s : ByteArray} (h0 : Nat.blt d n = true) (hg : guardOf ops E gd = some g) (hx : opv x E = some (c1, .string s)) (i1 : Imp g c1) (hu : UStr P t)
    (h : WpO P n ops Q m' rest ((d, .g g (.int .i64 ((bs s).length : Nat))) :: E) D L) : WpO P n ops Q m (⟨some d, .call ⟨.builtin .len, #[x], #[t]⟩, ty, pos, af, some gd⟩ :: rest) E D L := WpO.qd rfl h0 hg (Qt.lenStr hx) h
theorem G.nilCheck [Nxt m m'] {a : Addr} (h0 : Nat.blt d n = true) (hg : guardOf ops E gd = some g) (hx : opv x E = some (c1, .pointer (some a))) (i1 : Imp g c1)
    (h : WpO P n ops Q m' rest ((d, .g g (.pointer (some a))) :: E) D L) : WpO P n ops Q m (⟨some d, .nilCheck x, ty, pos, af, some gd⟩ :: rest) E D L := WpO.qd rfl h0 hg (Qt.nilCheck hx) h
theorem G.or [Nxt m m'] {c b : Bool} {cx : Operand} (h0 : Nat.blt d n = true) (hg : guardOf ops E gd = some g) (hc : opv cx E = some (c1, .bool c)) (i1 : Imp g c1) (hy : opv y E = some (c2, .bool b)) (hi : Imp (g && !c) c2)
    (h : WpO P n ops Q m' rest ((d, .g g (.bool (c || b))) :: E) D L) : WpO P n ops Q m (⟨some d, .pick cx (.const (.bool true)) y, ty, pos, af, some gd⟩ :: rest) E D L := WpO.qd rfl h0 hg (Qt.or hc hy) h
theorem G.and [Nxt m m'] {c b : Bool} {cx : Operand} (h0 : Nat.blt d n = true) (hg : guardOf ops E gd = some g) (hc : opv cx E = some (c1, .bool c)) (i1 : Imp g c1) (hx : opv x E = some (c2, .bool b)) (hi : Imp (g && c) c2)
    (h : WpO P n ops Q m' rest ((d, .g g (.bool (c && b))) :: E) D L) : WpO P n ops Q m (⟨some d, .pick cx x (.const (.bool false)), ty, pos, af, some gd⟩ :: rest) E D L := WpO.qd rfl h0 hg (Qt.and hc hx) h
end steps
end
end Go.Ab
end
section
/- The calculus: slices: what is read through them, rows of one's own, append, make, slicing. -/
namespace Go.Ab
open Go
/-! ## What is known behind the code's back -/
section
variable {P : Program} {n : Nat} {Q : Post} {E : Env} {D : List Deferred} {L : List Assn} {ops : Array Oper} {rest : List Oper}
theorem Wp.know {c : Code} {φ : Prop} (h : ∀ k, Sat k L → φ) (k : φ → Wp P n c Q E D L) : Wp P n c Q E D L := fun a w h1 h2 h3 h4 => k (h _ h4) a w h1 h2 h3 h4
theorem WpO.know {m : Md} {l : List Oper} {φ : Prop} (h : ∀ k, Sat k L → φ) (k : φ → WpO P n ops Q m l E D L) : WpO P n ops Q m l E D L := by
  cases m with
  | seq => exact ⟨fun a w h1 h2 h3 h4 => (k (h _ h4)).1 a w h1 h2 h3 h4, fun pl listed hp hb a w h1 h2 h3 h4 => (k (h _ h4)).2 pl listed hp hb a w h1 h2 h3 h4⟩
  | any Ls j => exact fun pl listed bar hp hb a w h1 h2 h3 h4 h5 => k (h _ h4) pl listed bar hp hb a w h1 h2 h3 h4 h5
theorem Wp.parts {c : Code} {L' : List Assn} (hL : ∀ k, Sat k L → Sat k L') (h : Wp P n c Q E D L') : Wp P n c Q E D L := fun a w h1 h2 h3 h4 => h a w h1 h2 h3 (hL _ h4)
theorem WpO.parts {m : Md} {l : List Oper} {L' : List Assn} (hL : ∀ k, Sat k L → Sat k L') (h : WpO P n ops Q m l E D L') : WpO P n ops Q m l E D L := by
  cases m with
  | seq => exact ⟨fun a w h1 h2 h3 h4 => h.1 a w h1 h2 h3 (hL _ h4), fun pl listed hp hb a w h1 h2 h3 h4 => h.2 pl listed hp hb a w h1 h2 h3 (hL _ h4)⟩
  | any Ls j => exact fun pl listed bar hp hb a w h1 h2 h3 h4 h5 => h pl listed bar hp hb a w h1 h2 h3 (hL _ h4) h5
end
/-! ## Reading through a slice -/
def RowsAt (b o sz : Nat) (rows : List (List Value)) : Hp → Prop := fun h => ∀ i r, rows[i]? = some r → r.length = sz ∧ CellsAt b (o + i * sz) r h
theorem RowsAt.mono (b o sz : Nat) (rows : List (List Value)) : Mono (RowsAt b o sz rows) := fun _ _ hk h i r hr => ⟨(h i r hr).1, CellsAt.mono _ _ _ _ _ hk (h i r hr).2⟩
/-- The slice a, of capacity c, reads as these rows of sz cells. -/
structure Sl (L : List Assn) (a : Option Addr) (c sz : Nat) (rows : List (List Value)) : Prop where
  cap : rows.length ≤ c
  ex : ∃ b o, (rows ≠ [] → a = some ⟨b, o, none⟩) ∧ (∀ r ∈ rows, r.length = sz) ∧ Ent L (RowsAt b o sz rows)
theorem Sl.cons {L : List Assn} {a : Option Addr} {c sz : Nat} {rows : List (List Value)} (h : Sl L a c sz rows) {A : Assn} : Sl (A :: L) a c sz rows :=
  ⟨h.cap, let ⟨b, o, h1, h2, h3⟩ := h.ex; ⟨b, o, h1, h2, h3.cons⟩⟩
theorem Sl.app {L : List Assn} {a : Option Addr} {c sz : Nat} {rows : List (List Value)} (h : Sl L a c sz rows) (M : List Assn) : Sl (M ++ L) a c sz rows :=
  ⟨h.cap, let ⟨b, o, h1, h2, h3⟩ := h.ex; ⟨b, o, h1, h2, h3.app M⟩⟩
theorem Sl.wk {L L' : List Assn} {a : Option Addr} {c sz : Nat} {rows : List (List Value)} (h : Sl L a c sz rows) (hL : ∀ k, Sat k L' → Sat k L) : Sl L' a c sz rows :=
  ⟨h.cap, let ⟨b, o, h1, h2, h3⟩ := h.ex; ⟨b, o, h1, h2, fun k s => h3 k (hL k s)⟩⟩
theorem Sl.at {L : List Assn} {a : Option Addr} {c sz : Nat} {rows : List (List Value)} (h : Sl L a c sz rows) {i : Nat} {r : List Value} (hi : rows[i]? = some r) :
    ∃ b o, a = some ⟨b, o, none⟩ ∧ r.length = sz ∧ Ent L (CellsAt b (o + i * sz) r) := by
  obtain ⟨b, o, h1, h2, h3⟩ := h.ex
  exact ⟨b, o, h1 (by intro e; subst e; simp at hi), h2 r (List.mem_of_getElem? hi), h3.imp fun k hk => (hk i r hi).2⟩
theorem Sl.rowsAt {L : List Assn} {b o : Nat} {c sz : Nat} {rows : List (List Value)} (h : Sl L (some ⟨b, o, none⟩) c sz rows) : Ent L (RowsAt b o sz rows) := by
  obtain ⟨b', o', h1, h2, h3⟩ := h.ex
  by_cases hr : rows = []
  · subst hr; exact fun k _ i r hi => by simp at hi
  · have := h1 hr; simp only [Option.some.injEq, Addr.mk.injEq, and_true] at this
    obtain ⟨rfl, rfl⟩ := this; exact h3
theorem Sl.nil {L : List Assn} {c sz : Nat} : Sl L none c sz [] := ⟨Nat.zero_le _, ⟨0, 0, fun h => absurd rfl h, nofun, fun _ _ i r hi => by simp at hi⟩⟩
theorem Sl.take {L : List Assn} {a : Option Addr} {c sz : Nat} {rows : List (List Value)} (h : Sl L a c sz rows) (m : Nat) : Sl L a c sz (rows.take m) := by
  obtain ⟨h0, ⟨b, o, h1, h2, h3⟩⟩ := h
  refine ⟨by rw [List.length_take]; omega, ⟨b, o, fun hn => h1 (by intro e; subst e; simp at hn), fun r hr => h2 r (List.mem_of_mem_take hr), h3.imp fun k hk i r hi => ?_⟩⟩
  rw [List.getElem?_take] at hi
  split at hi
  · exact hk i r hi
  · cases hi
/-- Where a slice begins that is cut at l. -/
def slA (a : Option Addr) (c l sz : Nat) : Option Addr := if c = l then a else a.map (·.add (l * sz))
theorem Sl.drop {L : List Assn} {a : Option Addr} {c sz : Nat} {rows : List (List Value)} (h : Sl L a c sz rows) (l : Nat) (hl : l ≤ rows.length) : Sl L (slA a c l sz) (c - l) sz (rows.drop l) := by
  obtain ⟨h0, ⟨b, o, h1, h2, h3⟩⟩ := h
  refine ⟨by rw [List.length_drop]; omega, ⟨b, o + l * sz, fun hn => ?_, fun r hr => h2 r (List.mem_of_mem_drop hr), h3.imp fun k hk i r hi => ?_⟩⟩
  · have hlt : l < rows.length := by
      rcases Nat.lt_or_ge l rows.length with h' | h'
      · exact h'
      · exact absurd (List.drop_eq_nil_of_le h') hn
    have := h1 (by intro e; subst e; simp at hlt)
    subst this
    unfold slA; rw [if_neg (by omega)]; simp [Addr.add_eq]
  · rw [List.getElem?_drop] at hi
    have := hk (l + i) r hi
    refine ⟨this.1, ?_⟩
    have h5 := this.2
    rw [Nat.add_mul, ← Nat.add_assoc] at h5; exact h5
theorem Ent.sub {L : List Assn} {b o j : Nat} {vs ws : List Value} (n : Nat) (h : Ent L (CellsAt b o vs)) (hw : (vs.drop j).take n = ws) : Ent L (CellsAt b (o + j) ws) := h.imp fun _ hk => hk.sub hw
section
variable {P : Program} {E : Env} {L : List Assn} {d : Option Tmp} {ty : TypeId} {pos : String} {af : Array Edge} {gd : Option (Nat × Bool)} {g : Bool} {x y z : Operand}
theorem Qt.idx {t e : TypeId} {b o n c sz : Nat} {agg : Bool} {i : Int} {ik : IntKind} [hu : USlice P t e] [hz : TSize P e sz agg] {c1 c2 : Bool} (k : Nat)
    (hx : opv x E = some (c1, .slice (some ⟨b, o, none⟩) n c)) [Imp g c1] (hy : opv y E = some (c2, .int ik i)) [Imp g c2] (h0 : g = true → i = (k : Int) ∧ k < n) :
    Qt P E L ⟨d, .indexAddr t x y, ty, pos, af, gd⟩ g (.pointer (some ⟨b, o + k * sz, none⟩)) := fun a w h1 h2 h3 => by
  obtain ⟨h4, h5⟩ := h0 h3
  have := Qt.indexAddr (P := P) (E := E) (L := L) (d := d) (ty := ty) (pos := pos) (af := af) (gd := gd) (g := g) (x := x) (y := y) (t := t) (i := i) (k := ik) (b := b) (o := o) (n := n) (c := c) (sz := sz) (fun _ => by omega) hx hy a w h1 h2 h3
  rw [this, h4]; simp
/-- What slicing makes. -/
theorem Qt.sliceS {t : TypeId} {s : ByteArray} {lo hi : Option Operand} {l h : Nat} {c1 : Bool} [hu : UStr P t] (hx : opv x E = some (c1, .string s)) [Imp g c1]
    (hlo : ∀ a : Act, EnvSat E a.tmps → g = true → lo.map a.eval = none ∧ l = 0 ∨ ∃ k, lo.map a.eval = some (.int k (l : Int)))
    (hhi : ∀ a : Act, EnvSat E a.tmps → g = true → hi.map a.eval = none ∧ h = (bs s).length ∨ ∃ k, hi.map a.eval = some (.int k (h : Int)))
    (hb : g = true → l ≤ h ∧ h ≤ (bs s).length) :
    Qt P E L ⟨d, .slice t x lo hi none, ty, pos, af, gd⟩ g (.string (s.extract l h)) := fun a w h1 _ h3 => by
  obtain ⟨hb1, hb2⟩ := hb h3
  rw [bs_length] at hb2
  have e0 := EvG.of (g := g) hx a h1 h3
  have e1 := hlo a h1 h3
  have e2 := hhi a h1 h3
  rw [bs_length] at e2
  show (do pure (Next.value (← Instr.sliceAt t (a.eval x) (lo.map a.eval) (hi.map a.eval) none)) : Sem Next).run P w = _
  rw [e0]
  refine run_v ?_
  unfold Instr.sliceAt
  rw [run_ok (run_u hu.h w)]
  simp only []
  unfold Instr.slice
  rw [run_ok (run_u hu.h w)]
  simp only [Option.isSome_none, Bool.false_eq_true, if_false]
  have hbd : (Instr.sliceBounds false s.size s.size (lo.map a.eval) (hi.map a.eval) none).run P w = .ok (l, h, s.size) w := by
    unfold Instr.sliceBounds
    rcases e1 with ⟨e1, rfl⟩ | ⟨k1, e1⟩ <;> rcases e2 with ⟨e2, rfl⟩ | ⟨k2, e2⟩ <;> rw [e1, e2]
    · rfl
    · rw [run_ok (a := s.size) (w' := w) rfl]
      simp only []
      rw [run_ok (a := h) (w' := w) (by
        unfold Instr.sliceBound
        rw [run_ok (a := (k2, (h : Int))) (w' := w) rfl]
        simp only []
        rw [if_pos (by omega)]; rfl)]
      rfl
    · rw [run_ok (a := s.size) (w' := w) rfl]
      simp only []
      rw [run_ok (a := s.size) (w' := w) rfl]
      rw [run_ok (a := l) (w' := w) (by
        unfold Instr.sliceBound
        rw [run_ok (a := (k1, (l : Int))) (w' := w) rfl]
        simp only []
        rw [if_pos (by omega)]; rfl)]
      rfl
    · rw [run_ok (a := s.size) (w' := w) rfl]
      simp only []
      rw [run_ok (a := h) (w' := w) (by
        unfold Instr.sliceBound
        rw [run_ok (a := (k2, (h : Int))) (w' := w) rfl]
        simp only []
        rw [if_pos (by omega)]; rfl)]
      rw [run_ok (a := l) (w' := w) (by
        unfold Instr.sliceBound
        rw [run_ok (a := (k1, (l : Int))) (w' := w) rfl]
        simp only []
        rw [if_pos (by omega)]; rfl)]
      rfl
  rw [run_ok hbd]; rfl
theorem Qt.sliceL {t e : TypeId} {a : Option Addr} {n c sz l h : Nat} {agg : Bool} {lo hi : Option Operand} {c1 : Bool} [hu : USlice P t e] [hz : TSize P e sz agg] (hx : opv x E = some (c1, .slice a n c)) [Imp g c1]
    (hlo : ∀ a : Act, EnvSat E a.tmps → g = true → lo.map a.eval = none ∧ l = 0 ∨ ∃ k, lo.map a.eval = some (.int k (l : Int)))
    (hhi : ∀ a : Act, EnvSat E a.tmps → g = true → hi.map a.eval = none ∧ h = n ∨ ∃ k, hi.map a.eval = some (.int k (h : Int)))
    (hb : g = true → l ≤ h ∧ h ≤ c) :
    Qt P E L ⟨d, .slice t x lo hi none, ty, pos, af, gd⟩ g (.slice (slA a c l sz) (h - l) (c - l)) := fun ac w h1 _ h3 => by
  obtain ⟨hb1, hb2⟩ := hb h3
  have e0 := EvG.of (g := g) hx ac h1 h3
  have e1 := hlo ac h1 h3
  have e2 := hhi ac h1 h3
  show (do pure (Next.value (← Instr.sliceAt t (ac.eval x) (lo.map ac.eval) (hi.map ac.eval) none)) : Sem Next).run P w = _
  rw [e0]
  refine run_v ?_
  unfold Instr.sliceAt
  rw [run_ok (run_u hu.h w)]
  simp only []
  unfold Instr.slice
  rw [run_ok (run_u hu.h w)]
  simp only []
  have hbd : (Instr.sliceBounds true n c (lo.map ac.eval) (hi.map ac.eval) none).run P w = .ok (l, h, c) w := by
    unfold Instr.sliceBounds
    rcases e1 with ⟨e1, rfl⟩ | ⟨k1, e1⟩ <;> rcases e2 with ⟨e2, rfl⟩ | ⟨k2, e2⟩ <;> rw [e1, e2]
    · rfl
    · rw [run_ok (a := c) (w' := w) rfl]
      simp only []
      rw [run_ok (a := h) (w' := w) (by
        unfold Instr.sliceBound
        rw [run_ok (a := (k2, (h : Int))) (w' := w) rfl]
        simp only []
        rw [if_pos (by omega)]; rfl)]
      rfl
    · rw [run_ok (a := c) (w' := w) rfl]
      simp only []
      rw [run_ok (a := h) (w' := w) rfl]
      rw [run_ok (a := l) (w' := w) (by
        unfold Instr.sliceBound
        rw [run_ok (a := (k1, (l : Int))) (w' := w) rfl]
        simp only []
        rw [if_pos (by omega)]; rfl)]
      rfl
    · rw [run_ok (a := c) (w' := w) rfl]
      simp only []
      rw [run_ok (a := h) (w' := w) (by
        unfold Instr.sliceBound
        rw [run_ok (a := (k2, (h : Int))) (w' := w) rfl]
        simp only []
        rw [if_pos (by omega)]; rfl)]
      rw [run_ok (a := l) (w' := w) (by
        unfold Instr.sliceBound
        rw [run_ok (a := (k1, (l : Int))) (w' := w) rfl]
        simp only []
        rw [if_pos (by omega)]; rfl)]
      rfl
  rw [run_ok hbd]
  simp only []
  rw [run_ok (hz.size w)]; rfl
end
end Go.Ab
end
section
/- The calculus: rows of one's own: they grow by append, are made, are written. -/
namespace Go.Ab
open Go
/-- The slice (a, rows.length, c) has its row for itself: the rows, and room up to c. -/
def ownA (e sz : Nat) (a : Option Addr) (c : Nat) (rows : List (List Value)) : Assn := fun h =>
  (∀ r ∈ rows, r.length = sz) ∧ rows.length ≤ c ∧
  ((a = none ∧ c = 0) ∨ ∃ b o cs, a = some ⟨b, o, none⟩ ∧ h b = some (.cells cs e (0, 0)) ∧ o + c * sz ≤ cs.size ∧ ∀ i v, rows.flatten[i]? = some v → cs[o + i]? = some v)
theorem flatten_length {sz : Nat} : ∀ (rows : List (List Value)), (∀ r ∈ rows, r.length = sz) → rows.flatten.length = rows.length * sz
  | [], _ => by simp
  | r :: rows, h => by
    rw [List.flatten_cons, List.length_append, flatten_length rows (fun x hx => h x (by simp [hx])), h r (by simp), List.length_cons, Nat.add_mul]; omega
theorem flatten_get {sz : Nat} : ∀ (rows : List (List Value)) (i j : Nat) (r : List Value) (v : Value), (∀ r ∈ rows, r.length = sz) → rows[i]? = some r → r[j]? = some v → rows.flatten[i * sz + j]? = some v
  | [], i, j, r, v, _, h, _ => by simp at h
  | x :: rows, 0, j, r, v, hl, h, hv => by
    simp at h; subst h
    rw [List.flatten_cons, Nat.zero_mul, Nat.zero_add, List.getElem?_append_left (List.getElem?_eq_some_iff.1 hv).1]; exact hv
  | x :: rows, i + 1, j, r, v, hl, h, hv => by
    have hx := hl x (by simp)
    rw [List.flatten_cons, List.getElem?_append_right (by rw [hx, Nat.add_mul]; omega), hx,
      show (i + 1) * sz + j - sz = i * sz + j from by rw [Nat.add_mul]; omega]
    exact flatten_get rows i j r v (fun y hy => hl y (by simp [hy])) (by simpa using h) hv
theorem ownA.rowsAt {e sz b o c : Nat} {rows : List (List Value)} {h : Hp} (ho : ownA e sz (some ⟨b, o, none⟩) c rows h) : RowsAt b o sz rows h := by
  obtain ⟨h1, h2, h3⟩ := ho
  rcases h3 with ⟨h3, _⟩ | ⟨b', o', cs, h3, h4, h5, h6⟩
  · cases h3
  · simp only [Option.some.injEq, Addr.mk.injEq, and_true] at h3
    obtain ⟨rfl, rfl⟩ := h3
    intro i r hr
    refine ⟨h1 r (List.mem_of_getElem? hr), cs, e, _, h4, fun j v hv => ?_⟩
    rw [Nat.add_assoc]; exact h6 _ _ (flatten_get rows i j r v h1 hr hv)
section
variable {P : Program} {E : Env} {L : List Assn} {d : Option Tmp} {ty : TypeId} {pos : String} {af : Array Edge} {gd : Option (Nat × Bool)} {g : Bool} {x y z : Operand}
/-- What is known of a row of one's own, whatever the memory. -/
theorem own_know {k : Hp} {e sz : Nat} {a : Option Addr} {c : Nat} {rows : List (List Value)} (i : Nat) (hi : L[i]? = some (ownA e sz a c rows)) (hs : Sat k L) :
    rows.length ≤ c ∧ (∀ r ∈ rows, r.length = sz) ∧ ((a = none ∧ c = 0 ∧ rows = []) ∨ ∃ b o, a = some ⟨b, o, none⟩) := by
  obtain ⟨h, _, h1, h2, h3⟩ := (Sat.pull hi hs).head
  refine ⟨h2, h1, ?_⟩
  rcases h3 with ⟨h3, h4⟩ | ⟨b, o, cs, h3, _⟩
  · left; refine ⟨h3, h4, ?_⟩; subst h4; exact List.length_eq_zero_iff.1 (by omega)
  · right; exact ⟨b, o, h3⟩
theorem Ent.own {e sz b o c : Nat} {rows : List (List Value)} (i : Nat) (hi : L[i]? = some (ownA e sz (some ⟨b, o, none⟩) c rows)) : Ent L (RowsAt b o sz rows) :=
  Ent.at hi (RowsAt.mono _ _ _ _) fun _ h => h.rowsAt
/-- A row of one's own, read. -/
theorem Sl.own {e sz : Nat} {a : Option Addr} {c : Nat} {rows : List (List Value)} (i : Nat) (hi : L[i]? = some (ownA e sz a c rows))
    (hk : rows.length ≤ c ∧ (∀ r ∈ rows, r.length = sz) ∧ ((a = none ∧ c = 0 ∧ rows = []) ∨ ∃ b o, a = some ⟨b, o, none⟩)) : Sl L a c sz rows := by
  obtain ⟨h1, h2, h3⟩ := hk
  refine ⟨h1, ?_⟩
  · rcases h3 with ⟨_, _, rfl⟩ | ⟨b, o, rfl⟩
    · exact ⟨0, 0, fun h => absurd rfl h, nofun, fun _ _ i r hi => by simp at hi⟩
    · exact ⟨b, o, fun _ => rfl, h2, Ent.own i hi⟩
theorem Sat.ownNil {k : Hp} {e sz : Nat} (hs : Sat k L) : Sat k (ownA e sz none 0 [] :: L) :=
  ⟨⟨fun _ => none, k.met⟩, ⟨nofun, rfl⟩, ⟨nofun, Nat.le_refl _, .inl ⟨rfl, rfl⟩⟩, hs⟩
/-- A variable that is a row: literal, or made by an array. -/
theorem ownA.ofPt {b e sz c : Nat} {vs : List Value} {rows : List (List Value)} (hv : rows.flatten = vs) (hr : ∀ r ∈ rows, r.length = sz) (hc : rows.length = c) {h : Hp} (hp : ptA b e vs h) : ownA e sz (some ⟨b, 0, none⟩) c rows h :=
  ⟨hr, by omega, .inr ⟨b, 0, _, rfl, hp, by rw [← hc, ← flatten_length rows hr, hv]; simp, fun i v hi => by rw [hv] at hi; simpa using hi⟩⟩
theorem ownA.take {e sz : Nat} {a : Option Addr} {c : Nat} {rows : List (List Value)} (m : Nat) {h : Hp} (ho : ownA e sz a c rows h) : ownA e sz a c (rows.take m) h := by
  obtain ⟨h1, h2, h3⟩ := ho
  refine ⟨fun r hr => h1 r (List.mem_of_mem_take hr), by rw [List.length_take]; omega, h3.imp id ?_⟩
  rintro ⟨b, o, cs, h3, h4, h5, h6⟩
  refine ⟨b, o, cs, h3, h4, h5, fun i v hi => h6 i v ?_⟩
  rw [← List.take_append_drop m rows, List.flatten_append, List.getElem?_append_left (List.getElem?_eq_some_iff.1 hi).1]; exact hi
theorem ownA.drop {e sz : Nat} {a : Option Addr} {c : Nat} {rows : List (List Value)} (l : Nat) (hl : l ≤ rows.length) {h : Hp} (ho : ownA e sz a c rows h) : ownA e sz (slA a c l sz) (c - l) (rows.drop l) h := by
  obtain ⟨h1, h2, h3⟩ := ho
  refine ⟨fun r hr => h1 r (List.mem_of_mem_drop hr), by rw [List.length_drop]; omega, ?_⟩
  rcases h3 with ⟨rfl, rfl⟩ | ⟨b, o, cs, rfl, h4, h5, h6⟩
  · left; refine ⟨by unfold slA; split <;> rfl, by omega⟩
  · right
    by_cases hc : c = l
    · subst hc
      have h7 : rows.drop c = [] := List.drop_eq_nil_of_le (by omega)
      refine ⟨b, o, cs, by unfold slA; simp, h4, by rw [Nat.sub_self, Nat.zero_mul]; exact Nat.le_trans (by omega) h5, ?_⟩
      rw [h7]; intro i v hi; simp at hi
    · refine ⟨b, o + l * sz, cs, by unfold slA; rw [if_neg hc]; simp [Addr.add_eq], h4, ?_, fun i v hi => ?_⟩
      · have : l * sz + (c - l) * sz = c * sz := by rw [← Nat.add_mul]; congr 1; omega
        omega
      · have h7 : (rows.take l).flatten.length = l * sz := by
          rw [flatten_length _ (fun r hr => h1 r (List.mem_of_mem_take hr)), List.length_take, Nat.min_eq_left hl]
        have : rows.flatten[l * sz + i]? = some v := by
          rw [← List.take_append_drop l rows, List.flatten_append, List.getElem?_append_right (by omega), h7, Nat.add_sub_cancel_left]; exact hi
        rw [Nat.add_assoc]; exact h6 _ _ this
/-! ## append -/
theorem upd_size (c : List Value) (o : Nat) (vs : List Value) : (lset c o vs).toArray.size = c.length := by simp [lset_length]
theorem nextcap_le (need cap : Nat) (h : cap < need) : Builtin.nextslicecap need cap ≤ 2 * need + 1000 := by
  unfold Builtin.nextslicecap
  split
  · omega
  · split
    · omega
    · simp only [Builtin.growBy]
      repeat' split
      all_goals omega
/-- The heap with one block turned. -/
abbrev setBlock (w : World) (b : Nat) (o : Obj) : World := { w with heap := w.heap.setIfInBounds b o }
theorem run_append {t1 t2 e sz bt n m c : Nat} {agg : Bool} {zv : Value} {a : Option Addr} {yv : Value} {new : List Value} {w : World} [hu : USlice P t1 e] (hu2 : ∃ u, P.underlying t2 = some u ∧ ((∃ e2, u = .slice e2) ∨ u = .string)) [hz : TSize P e sz agg] [hzz : TZero P e zv] [hbt : TBytes P e bt]
    (hzl : zv.cells.toList.length = sz) (hlen : ∀ w, (Builtin.lenOf yv).run P w = .ok m w) (hnew : ∀ w', Hp.le (hp w) (hp w') → (Builtin.firstCells sz m yv).run P w' = .ok new.toArray w') (hnl : new.length = m * sz) (hsc : new.all scalar = true)
    (rows : List (List Value)) (hn : rows.length = n) (hb : (n + m) * bt ≤ 1099511627776) (hbt0 : bt ≠ 0) (hbm : bt ≤ 1048576)
    {L : List Assn} (hs : Sat (hp w) (ownA e sz a c rows :: L)) {ys : List (List Value)} (hys : ys.flatten = new) (hyl : ∀ r ∈ ys, r.length = sz) (hym : ys.length = m) :
    ∃ a' c' w', (Builtin.append_ #[t1, t2] ty #[.slice a n c, yv]).run P w = .ok (.slice a' (n + m) c') w' ∧ Sat (hp w') (ownA e sz a' c' (rows ++ ys) :: L) := by
  subst hn
  obtain ⟨h, hle, ⟨o1, o2, o3⟩, hrest⟩ := id hs
  have hrl : ∀ r ∈ rows ++ ys, r.length = sz := fun r hr => by
    rcases List.mem_append.1 hr with hr | hr
    · exact o1 r hr
    · exact hyl r hr
  have hfl := flatten_length rows o1
  unfold Builtin.append_
  rw [show (#[t1, t2] : Array TypeId)[0]? = some t1 from rfl, show (#[t1, t2] : Array TypeId)[1]? = some t2 from rfl, show (#[Value.slice a rows.length c, yv] : Array Value)[0]? = some (.slice a rows.length c) from rfl, show (#[Value.slice a rows.length c, yv] : Array Value)[1]? = some yv from rfl]
  simp only []
  rw [run_ok (run_u hu.h w)]
  simp only []
  obtain ⟨u2, hu2, hu3⟩ := hu2
  rw [run_ok (hz.size w), run_ok (run_u hu2 w), run_ok (a := false) (w' := w) (by rcases hu3 with ⟨e2, rfl⟩ | rfl <;> rfl)]
  simp only [Bool.false_eq_true, if_false, Bool.not_false, if_true]
  rw [run_ok (hlen w)]
  by_cases hroom : rows.length + m ≤ c
  · rw [if_pos hroom, run_ok (hnew w (Hp.le_refl _))]
    rcases o3 with ⟨rfl, rfl⟩ | ⟨b, o, cs, rfl, hb1, hb2, hb3⟩
    · simp only []
      have hr0 : rows = [] := List.length_eq_zero_iff.1 (by omega)
      have hy0 : ys = [] := List.length_eq_zero_iff.1 (by omega)
      subst hr0; subst hy0
      refine ⟨none, 0, w, by rfl, ?_⟩
      exact hs
    · simp only []
      have hbw : w.heap[b]? = some (.cells cs.toList.toArray e (0, 0)) := by rw [Array.toArray_toList]; exact hle _ _ hb1
      have hst := run_storeCells (P := P) (b := b) (e := e) (o := o + rows.length * sz) new 0 w cs.toList hbw (by simpa using hsc) (by
        rw [hnl]; simp only [Array.length_toList, Nat.add_zero]
        have : rows.length * sz + m * sz ≤ c * sz := by rw [← Nat.add_mul]; exact Nat.mul_le_mul_right _ hroom
        omega)
      rw [Addr.add_eq]
      have hst' : (storeCells ⟨b, o + rows.length * sz, none⟩ new.toArray.toList).run P w = .ok () (setBlock w b (.cells (lset cs.toList (o + rows.length * sz + 0) new).toArray e (0, 0))) := by
        simpa using hst
      rw [run_ok hst']
      refine ⟨some ⟨b, o, none⟩, c, _, rfl, ?_⟩
      have hbs := lt_of_hp (w := w) (hle _ _ hb1)
      refine Sat.turn (b := b) hs (fun h' ha => ?_) hp_set (fun h' ha hl' => ?_) (by rw [hp_set_at hbs]; rfl)
      · obtain ⟨_, _, h3⟩ := ha
        rcases h3 with ⟨h3, _⟩ | ⟨b', o', cs', h3, h4, _⟩
        · cases h3
        · simp only [Option.some.injEq, Addr.mk.injEq, and_true] at h3; obtain ⟨rfl, rfl⟩ := h3; exact ⟨_, h4⟩
      · refine ⟨hrl, by rw [List.length_append]; omega, .inr ⟨b, o, _, rfl, by show (if b = b then hp _ b else h' b) = _; rw [if_pos rfl, hp_set_at hbs], by rw [upd_size, Array.length_toList]; exact hb2, fun i v hi => ?_⟩⟩
        rw [List.getElem?_toArray, lset_get, List.flatten_append] at *
        rw [hys] at hi
        by_cases hi2 : i < rows.length * sz
        · rw [if_neg (by omega)]
          rw [List.getElem?_append_left (by omega)] at hi
          simpa using hb3 i v hi
        · rw [List.getElem?_append_right (by omega), hfl] at hi
          have hlt := (List.getElem?_eq_some_iff.1 hi).1
          rw [if_pos ⟨by omega, by omega, by
            simp only [Array.length_toList]
            have : rows.length * sz + m * sz ≤ c * sz := by rw [← Nat.add_mul]; exact Nat.mul_le_mul_right _ hroom
            omega⟩]
          rw [← hi]; congr 1; omega
  · rw [if_neg hroom]
    obtain ⟨ti, hti, htb⟩ := hbt.h w
    have hne : rows.length + m ≠ 0 := by omega
    rw [run_ok hti]
    rw [if_neg (by rintro ⟨_, h2⟩; rcases h2 with h2 | h2; · cases h2
                   · exact hbt0 (htb ▸ h2))]
    have hcap : ¬ Builtin.nextslicecap (rows.length + m) c * ti.bytes > 2 ^ 48 := by
      have h1 := nextcap_le (rows.length + m) c (by omega)
      have h2 : Builtin.nextslicecap (rows.length + m) c * bt ≤ (2 * (rows.length + m) + 1000) * bt := Nat.mul_le_mul_right _ h1
      rw [Nat.add_mul, Nat.mul_assoc] at h2
      rw [htb]
      have : 1000 * bt ≤ 1000 * 1048576 := Nat.mul_le_mul_left _ hbm
      omega
    rw [run_ok hti, if_neg hcap]
    let nc := Question.cut (.appendCap (rows.length + m) c e) (w.tape w.drawn (.appendCap (rows.length + m) c e))
    have hnc : rows.length + m ≤ nc := Nat.le_add_right _ _
    let w1 : World := { w with drawn := w.drawn + 1 }
    have hch : (choose (.appendCap (rows.length + m) c e)).run P w = .ok nc w1 := rfl
    obtain ⟨ti1, hti1, htb1⟩ := hbt.h w1
    have hask : ∀ k, (askRoom k).run P w1 = .ok () w1 := fun k => by unfold askRoom; split <;> rfl
    have hsame : Hp.le (hp w) (hp w1) := Hp.le_refl _
    have hold : (Builtin.firstCells sz rows.length (.slice a rows.length c)).run P w1 = .ok rows.flatten.toArray w1 := by
      rcases o3 with ⟨rfl, rfl⟩ | ⟨b, o, cs, rfl, hb1, hb2, hb3⟩
      · have hr0 : rows = [] := List.length_eq_zero_iff.1 (by omega)
        subst hr0; rfl
      · show (loadCells ⟨b, o, none⟩ (rows.length * sz)).run P w1 = _
        unfold loadCells
        have := run_loadCells (P := P) (w := w1) (b := b) (o := o) (rows.length * sz) 0 rows.flatten #[] hfl ⟨cs, e, _, hle _ _ hb1, fun i v hi => hb3 i v hi⟩
        rw [this]; simp
    rw [run_ok hch, run_ok hti1, run_ok (hask _), run_ok hold, run_ok (hnew w1 hsame), run_ok (hzz.h w1)]
    refine ⟨some ⟨w1.heap.size, 0, none⟩, nc, _, rfl, ?_⟩
    have hs1 : Sat (hp w1) L := hs.tail
    refine Sat.new ?_ hs1
    have hzs : zv.cells.size = sz := by rw [← hzl]; simp
    refine ⟨hrl, by rw [List.length_append]; omega, .inr ⟨_, 0, _, rfl, Hp.single_at _ _, ?_, fun i v hi => ?_⟩⟩
    · simp only [Array.size_append, List.size_toArray, hfl, hnl, Builtin.zeroCells, Array.size_map, Array.size_range, hzs]
      rw [Nat.zero_add, ← Nat.add_mul, ← Nat.add_mul]
      exact Nat.mul_le_mul_right _ (by omega)
    · rw [List.flatten_append, hys] at hi
      have hlt := (List.getElem?_eq_some_iff.1 hi).1
      rw [Nat.zero_add, Array.getElem?_append_left (by simp at hlt ⊢; exact hlt)]
      rw [← hi]; simp
end
end Go.Ab
end
