/- Parts of a proof: Ga Gb Ha Hb Hc Hd Ia Ib Ja Ka Kb Kc. -/
import Derived.Test.YtibkdjjdfcpdaaaMb
import Derived.Test.YtibkdjjdfcpdaaaMc
import Derived.MapKept
import Derived.Carry
set_option linter.unusedVariables false
set_option linter.unusedSimpArgs false
set_option linter.unusedSectionVars false
section
/- Maps: a map that lies in memory, as a list of keys and values; looking up, laying, taking away. -/
namespace Go.Proofs.Ytibkdjjdfcpdaaa
open Go Go.Ab
set_option linter.unusedSectionVars false

/-- What a key is in the model. -/
class MKey (κ : Type) [DecidableEq κ] where
  enc : κ → Value
  desc : TypeDesc
  now : ∀ a b : κ, Instr.sameNow desc (enc a) (enc b) = some (decide (a = b))
  bits : ∀ a : κ, Instr.sameBits 10000 (enc a) (enc a) = true
  key : ∀ a : κ, MapKept.IsKey desc (enc a)
instance : MKey (List UInt8) where
  enc s := .string (ofL s)
  desc := .string
  now a b := by
    show some (ofL a == ofL b) = _
    congr 1
    rw [Bool.eq_iff_iff, MapKept.bytes_beq, decide_eq_true_eq]
    exact ⟨fun q => by have := congrArg bs q; rwa [bs_ofL, bs_ofL] at this, fun q => by rw [q]⟩
  bits a := (MapKept.bytes_beq _ _).2 rfl
  key a := trivial
instance : MKey Int where
  enc i := .int .i64 i
  desc := .int .i64
  now a b := by
    show (if IntKind.i64 = IntKind.i64 then some (a == b) else none) = _
    rw [if_pos rfl]
    congr 1
  bits a := by simp [Instr.sameBits]
  key a := rfl
section
variable {κ : Type} [DecidableEq κ] [MKey κ]
def mget : List (κ × Value) → κ → Option Value
  | [], _ => none
  | e :: r, k => if e.1 = k then some e.2 else mget r k
def mset : List (κ × Value) → κ → Value → List (κ × Value)
  | [], k, v => [(k, v)]
  | e :: r, k, v => if e.1 = k then (k, v) :: r else e :: mset r k v
def mdel : List (κ × Value) → κ → List (κ × Value)
  | [], _ => []
  | e :: r, k => if e.1 = k then r else e :: mdel r k
def midx : List (κ × Value) → κ → Nat → Option (Nat × Value)
  | [], _, _ => none
  | e :: r, k, i => if e.1 = k then some (i, e.2) else midx r k (i + 1)
def encM (m : List (κ × Value)) : List (Value × Value) := m.map fun e => (MKey.enc e.1, e.2)
def prM (e : MapEntry) : Value × Value := (e.key, e.val)
theorem midx_get : ∀ (m : List (κ × Value)) (k : κ) (i : Nat), (midx m k i).map (·.2) = mget m k
  | [], _, _ => rfl
  | e :: r, k, i => by
    unfold midx mget
    split
    · rfl
    · exact midx_get r k (i + 1)
theorem find_now : ∀ (m : List (κ × Value)) (k : κ) (es : List MapEntry) (i : Nat), es.map prM = encM m → Instr.findNow (MKey.desc κ) (MKey.enc k) es i = some (midx m k i)
  | [], k, es, i, h => by
    obtain rfl : es = [] := by simpa [encM] using h
    rfl
  | e :: r, k, [], i, h => by simp [encM] at h
  | e :: r, k, x :: es, i, h => by
    simp only [List.map_cons, encM, List.cons.injEq] at h
    obtain ⟨h1, h2⟩ := h
    have hk : x.key = MKey.enc e.1 := congrArg Prod.fst h1
    have hv : x.val = e.2 := congrArg Prod.snd h1
    unfold Instr.findNow
    rw [hk, MKey.now]
    unfold midx
    by_cases q : k = e.1
    · rw [decide_eq_true q, if_pos q.symm, hv]
    · rw [decide_eq_false q, if_neg (fun z => q z.symm)]
      exact find_now r k es (i + 1) h2
theorem midx_set : ∀ (m : List (κ × Value)) (k : κ) (v : Value) (es : List MapEntry) (i j : Nat) (u : Value), es.map prM = encM m → midx m k i = some (i + j, u) →
    (es.modify j fun e => { e with key := MKey.enc k, val := v }).map prM = encM (mset m k v) ∧ ∃ e, es[j]? = some e ∧ e.key = MKey.enc k
  | [], _, _, _, _, _, _, _, h => by cases h
  | e :: r, k, v, [], i, j, u, h, _ => by simp [encM] at h
  | e :: r, k, v, x :: es, i, j, u, h, hi => by
    simp only [List.map_cons, encM, List.cons.injEq] at h
    obtain ⟨h1, h2⟩ := h
    have hk : x.key = MKey.enc e.1 := congrArg Prod.fst h1
    unfold midx at hi
    unfold mset
    by_cases q : e.1 = k
    · rw [if_pos q] at hi ⊢
      simp only [Option.some.injEq, Prod.mk.injEq] at hi
      obtain rfl : j = 0 := by omega
      refine ⟨?_, x, rfl, by rw [hk, q]⟩
      simp only [List.modify_zero_cons, List.map_cons, encM, h2]
      rfl
    · rw [if_neg q] at hi ⊢
      have hj : ∃ j', j = j' + 1 := by
        have : ∀ (m : List (κ × Value)) (i n : Nat) (u : Value), midx m k i = some (n, u) → i ≤ n := by
          intro m
          induction m with
          | nil => intro i n u h; cases h
          | cons e r ih =>
            intro i n u h
            unfold midx at h
            split at h
            · simp only [Option.some.injEq, Prod.mk.injEq] at h; omega
            · have := ih _ _ _ h; omega
        have := this _ _ _ _ hi
        exact ⟨j - 1, by omega⟩
      obtain ⟨j, rfl⟩ := hj
      obtain ⟨w1, y, w2, w3⟩ := midx_set r k v es (i + 1) j u h2 (by rw [hi, show i + 1 + j = i + (j + 1) by omega])
      refine ⟨?_, y, by simpa using w2, w3⟩
      simp only [List.modify_succ_cons, List.map_cons, encM] at w1 ⊢
      rw [w1, ← h1]
theorem mset_new : ∀ (m : List (κ × Value)) (k : κ) (v : Value) (i : Nat), midx m k i = none → mset m k v = m ++ [(k, v)]
  | [], _, _, _, _ => rfl
  | e :: r, k, v, i, h => by
    unfold midx at h
    unfold mset
    split at h
    · cases h
    · rename_i q
      rw [if_neg q, mset_new r k v (i + 1) h]; rfl
theorem midx_del : ∀ (m : List (κ × Value)) (k : κ) (es : List MapEntry) (i j : Nat) (u : Value), es.map prM = encM m → midx m k i = some (i + j, u) → (es.eraseIdx j).map prM = encM (mdel m k)
  | [], _, _, _, _, _, _, h => by cases h
  | e :: r, k, [], i, j, u, h, _ => by simp [encM] at h
  | e :: r, k, x :: es, i, j, u, h, hi => by
    simp only [List.map_cons, encM, List.cons.injEq] at h
    obtain ⟨h1, h2⟩ := h
    unfold midx at hi
    unfold mdel
    by_cases q : e.1 = k
    · rw [if_pos q] at hi ⊢
      simp only [Option.some.injEq, Prod.mk.injEq] at hi
      obtain rfl : j = 0 := by omega
      exact h2
    · rw [if_neg q] at hi ⊢
      have hj : ∃ j', j = j' + 1 := by
        have : ∀ (m : List (κ × Value)) (i n : Nat) (u : Value), midx m k i = some (n, u) → i ≤ n := by
          intro m
          induction m with
          | nil => intro i n u h; cases h
          | cons e r ih =>
            intro i n u h
            unfold midx at h
            split at h
            · simp only [Option.some.injEq, Prod.mk.injEq] at h; omega
            · have := ih _ _ _ h; omega
        have := this _ _ _ _ hi
        exact ⟨j - 1, by omega⟩
      obtain ⟨j, rfl⟩ := hj
      have w1 := midx_del r k es (i + 1) j u h2 (by rw [hi, show i + 1 + j = i + (j + 1) by omega])
      simp only [List.eraseIdx_cons_succ, List.map_cons, encM] at w1 ⊢
      rw [w1, ← h1]
theorem mdel_none : ∀ (m : List (κ × Value)) (k : κ) (i : Nat), midx m k i = none → mdel m k = m
  | [], _, _, _ => rfl
  | e :: r, k, i, h => by
    unfold midx at h
    unfold mdel
    split at h
    · cases h
    · rename_i q
      rw [if_neg q, mdel_none r k (i + 1) h]
/-- The block b is this map. -/
def mapA (b : Nat) (m : List (κ × Value)) : Assn := fun h => ∃ es clock, h b = some (.map es clock) ∧ es.toList.map prM = encM m
theorem mapA_mono (b : Nat) (m : List (κ × Value)) : Mono (mapA b m) := fun h k hle ⟨es, c, h1, h2⟩ => ⟨es, c, hle b _ h1, h2⟩
theorem Ent.map {L : List Assn} {b : Nat} {m : List (κ × Value)} (i : Nat) (hi : L[i]? = some (mapA b m)) : Ent L (mapA b m) := fun k hs => by
  obtain ⟨h1, l1, a1, _⟩ := Sat.pull hi hs
  exact mapA_mono b m _ _ l1 a1
section
variable {P : Program} {w : World} {b : Nat} {m : List (κ × Value)} {t kt et : TypeId}
theorem run_mlookup (ht : P.underlying t = some (.map kt et)) (hk : P.underlying kt = some (MKey.desc κ)) {z : Value} (hz : (zeroValue et).run P w = .ok z w) (h : mapA b m (hp w)) (k : κ) (ok : Bool) :
    (Instr.lookup t (.map (some b)) (MKey.enc k) ok).run P w = .ok (if ok then .tuple #[(mget m k).getD z, .bool (mget m k).isSome] else (mget m k).getD z) w := by
  obtain ⟨es, c, h1, h2⟩ := h
  have hf := find_now m k es.toList 0 h2
  have hm := midx_get m k 0
  unfold Instr.lookup
  simp only [Sem.run_bind, run_underlying ht, Result.andThen, MapKept.run_getObj_map (show w.heap[b]? = _ from h1), MapKept.run_checkKey hk (MKey.key k), MapKept.run_findKey hk hf]
  rw [← hm]
  have hf' := MapKept.run_findKey (P := P) (w := w) hk hf
  cases hx : midx m k 0 with
  | none =>
    rw [hx] at hf'
    simp [hz, hf', Result.andThen]
    try (cases ok <;> simp [hz, Result.andThen])
  | some y =>
    rw [hx] at hf'
    cases ok <;> simp [hf', Result.andThen]
theorem run_mupdate (ht : P.underlying t = some (.map kt et)) (hk : P.underlying kt = some (MKey.desc κ)) (h : mapA b m (hp w)) (k : κ) (v : Value) :
    ∃ es c, (Instr.mapUpdate t (.map (some b)) (MKey.enc k) v).run P w = .ok () { w with heap := w.heap.setIfInBounds b (.map es c) } ∧ es.toList.map prM = encM (mset m k v) := by
  obtain ⟨es, c, h1, h2⟩ := h
  have h1 : w.heap[b]? = some (.map es c) := h1
  have hf := find_now m k es.toList 0 h2
  have hf' := MapKept.run_findKey (P := P) (w := w) hk hf
  have hck := MapKept.run_checkKey (P := P) (w := w) hk (MKey.key k) false 9999
  cases hx : midx m k 0 with
  | none =>
    rw [hx] at hf'
    refine ⟨es.push { key := MKey.enc k, val := v, born := c }, c + 1, ?_, ?_⟩
    · simp [Instr.mapUpdate, run_underlying ht, MapKept.run_getObj_map h1, hck, hf', MapKept.run_setObj_map _ h1, Result.andThen]
    · rw [mset_new m k v 0 hx, Array.toList_push, List.map_append, h2]; simp [encM, prM]
  | some y =>
    rw [hx] at hf'
    obtain ⟨i, u⟩ := y
    obtain ⟨w1, e, w2, w3⟩ := midx_set m k v es.toList 0 i u h2 (by rw [hx, Nat.zero_add])
    refine ⟨es.modify i fun e => { e with key := MKey.enc k, val := v }, c, ?_, by rw [Array.toList_modify]; exact w1⟩
    have hst : (Instr.keyThatStays ((es[i]?.map (·.key)).getD (MKey.enc k)) (MKey.enc k)).run P w = .ok (MKey.enc k) w := by
      rw [show es[i]? = some e by rw [← w2]; simp]
      simp [Instr.keyThatStays, w3, MKey.bits]
    simp [Instr.mapUpdate, run_underlying ht, MapKept.run_getObj_map h1, hck, hf', hst, MapKept.run_setObj_map _ h1, Result.andThen]
theorem run_mdelete (ty : TypeId) (ht : P.underlying t = some (.map kt et)) (hk : P.underlying kt = some (MKey.desc κ)) (h : mapA b m (hp w)) (k : κ) :
    ∃ es c, (Builtin.delete_ #[t, kt] ty #[.map (some b), MKey.enc k]).run P w = .ok (.tuple #[]) { w with heap := w.heap.setIfInBounds b (.map es c) } ∧ es.toList.map prM = encM (mdel m k) := by
  obtain ⟨es, c, h1, h2⟩ := h
  have h1 : w.heap[b]? = some (.map es c) := h1
  have hf := find_now m k es.toList 0 h2
  have hf' := MapKept.run_findKey (P := P) (w := w) hk hf
  have hck := MapKept.run_checkKey (P := P) (w := w) hk (MKey.key k) es.isEmpty 9999
  cases hx : midx m k 0 with
  | none =>
    rw [hx] at hf'
    refine ⟨es, c, ?_, by rw [mdel_none m k 0 hx]; exact h2⟩
    simp [Builtin.delete_, run_underlying ht, MapKept.run_getObj_map h1, hck, hf', MapKept.run_setObj_map _ h1, Result.andThen]
  | some y =>
    rw [hx] at hf'
    obtain ⟨i, u⟩ := y
    have w1 := midx_del m k es.toList 0 i u h2 (by rw [hx, Nat.zero_add])
    refine ⟨es.eraseIdxIfInBounds i, c, ?_, by rw [Array.toList_eraseIdxIfInBounds]; exact w1⟩
    simp [Builtin.delete_, run_underlying ht, MapKept.run_getObj_map h1, hck, hf', MapKept.run_setObj_map _ h1, Result.andThen]
theorem run_mlen (ty : TypeId) (ht : P.underlying t = some (.map kt et)) (h : mapA b m (hp w)) :
    (Builtin.len_ #[t] ty #[.map (some b)]).run P w = .ok (.int .i64 m.length) w := by
  obtain ⟨es, c, h1, h2⟩ := h
  have h1 : w.heap[b]? = some (.map es c) := h1
  have hl : es.size = m.length := by
    have := congrArg List.length h2
    simpa [encM] using this
  simp [Builtin.len_, run_underlying ht, MapKept.run_getObj_map h1, Result.andThen, goInt, hl]
end
end
end Go.Proofs.Ytibkdjjdfcpdaaa
end

section
/- Maps: the operations. -/
namespace Go.Proofs.Ytibkdjjdfcpdaaa
open Go Go.Ab
set_option linter.unusedSectionVars false

class UKey (P : Program) (t : TypeId) (κ : outParam Type) [DecidableEq κ] [MKey κ] : Prop where h : P.underlying t = some (MKey.desc κ)
instance {P : Program} {t : TypeId} [h : UStr P t] : UKey P t (List UInt8) := ⟨h.h⟩
instance {P : Program} {t : TypeId} [h : UInt P t .i64] : UKey P t Int := ⟨h.h⟩
section
variable {κ : Type} [DecidableEq κ] [MKey κ] {P : Program} {n : Nat} {Q : Post} {E : Env} {D : List Deferred} {L : List Assn} {ops : Array Oper} {rest : List Oper} {m m' : Md} {ty : TypeId} {pos : String} {af : Array Edge} {x y z : Operand} {t kt et : TypeId} {g c1 c2 : Bool} {mp : List (κ × Value)} {b : Nat}
theorem Qt.mlook {d : Option Tmp} {gd : Option (Nat × Bool)} [ht : UMap P t kt et] [hk : UKey P kt κ] {zv : Value} [hz : TZero P et zv] (k : κ) (ok : Bool) (hE : g = true → Ent L (mapA b mp)) (hx : opv x E = some (c1, .map (some b))) [Imp g c1] (hy : opv y E = some (c2, MKey.enc k)) [Imp g c2] :
    Qt P E L ⟨d, .lookup t x y ok, ty, pos, af, gd⟩ g (if ok then .tuple #[(mget mp k).getD zv, .bool (mget mp k).isSome] else (mget mp k).getD zv) := fun a w h1 h2 h3 => by
  show (do pure (Next.value (← Instr.lookup t (a.eval x) (a.eval y) ok)) : Sem Next).run P w = _
  rw [EvG.of (g := g) hx a h1 h3, EvG.of (g := g) hy a h1 h3]
  exact run_v (run_mlookup ht.h hk.h (hz.h w) (hE h3 _ h2) k ok)
theorem OpT.mmake {d : Option Tmp} {gd : Option (Nat × Bool)} : OpT P E L ⟨d, .makeMap t none, ty, pos, af, gd⟩ (fun r L' => ∃ b, r = .map (some b) ∧ L' = mapA (κ := κ) b [] :: L) noPanic := fun a w K Q0 h1 h2 hK hp' => by
  unfold Oper.wp
  have he : (execOp a.eval ⟨d, .makeMap t none, ty, pos, af, gd⟩).run P w = .ok (.value (.map (some w.heap.size))) { w with heap := w.heap.push (.map #[] 0) } := by
    show (do pure (Next.value (← Instr.makeMap t none)) : Sem Next).run P w = _
    exact run_v rfl
  rw [he]
  exact hK _ _ _ ⟨_, rfl, rfl⟩ (Sat.new ⟨#[], 0, Hp.single_at _ _, rfl⟩ h2)
theorem map_turn {w : World} (i : Nat) (hi : L[i]? = some (mapA b mp)) (h2 : Sat (hp w) L) {mp' : List (κ × Value)} {es : Array MapEntry} {c : Nat} (he : es.toList.map prM = encM mp') : Sat (hp { w with heap := w.heap.setIfInBounds b (.map es c) }) (L.set i (mapA b mp')) := by
  refine Sat.set hi ?_
  obtain ⟨h0, l0, ⟨es0, c0, a0, _⟩, _⟩ := Sat.pull hi h2
  have hbs := lt_of_hp (w := w) (l0 _ _ a0)
  refine Sat.turn (b := b) (Sat.pull hi h2) (fun h ⟨es1, c1, ha, _⟩ => ⟨_, ha⟩) hp_set (fun h ha hle => ?_) (by rw [hp_set_at hbs]; rfl)
  refine ⟨es, c, ?_, he⟩
  show (if b = b then hp _ b else h b) = _
  rw [if_pos rfl, hp_set_at hbs]
theorem OpT.mset {d : Option Tmp} {gd : Option (Nat × Bool)} [ht : UMap P t kt et] [hk : UKey P kt κ] {v : Value} (k : κ) (i : Nat) (hx : opv x E = some (c1, .map (some b))) [Imp true c1] (hy : opv y E = some (c2, MKey.enc k)) [Imp true c2] {c3 : Bool} (hz : opv z E = some (c3, v)) [Imp true c3]
    (hi : L[i]? = some (mapA b mp)) : OpT P E L ⟨d, .mapUpdate t x y z, ty, pos, af, gd⟩ (fun _ L' => L' = L.set i (mapA b (mset mp k v))) noPanic := fun a w K Q0 h1 h2 hK hp' => by
  obtain ⟨es, c, e1, e2⟩ := run_mupdate (P := P) (w := w) ht.h hk.h (Ent.map i hi _ h2) k v
  unfold Oper.wp
  have he : (execOp a.eval ⟨d, .mapUpdate t x y z, ty, pos, af, gd⟩).run P w = .ok .skip { w with heap := w.heap.setIfInBounds b (.map es c) } := by
    show (do Instr.mapUpdate t (a.eval x) (a.eval y) (a.eval z); pure Next.skip : Sem Next).run P w = _
    rw [EvG.of (g := true) hx a h1 rfl, EvG.of (g := true) hy a h1 rfl, EvG.of (g := true) hz a h1 rfl, run_ok e1]; rfl
  rw [he]
  exact hK undef _ _ rfl (map_turn i hi h2 e2)
theorem OpT.mdel {d : Option Tmp} {gd : Option (Nat × Bool)} [ht : UMap P t kt et] [hk : UKey P kt κ] (k : κ) (i : Nat) (hx : opv x E = some (c1, .map (some b))) [Imp true c1] (hy : opv y E = some (c2, MKey.enc k)) [Imp true c2]
    (hi : L[i]? = some (mapA b mp)) : OpT P E L ⟨d, .call ⟨.builtin .delete, #[x, y], #[t, kt]⟩, ty, pos, af, gd⟩ (fun r L' => r = .tuple #[] ∧ L' = L.set i (mapA b (mdel mp k))) noPanic := fun a w K Q0 h1 h2 hK hp' => by
  obtain ⟨es, c, e1, e2⟩ := run_mdelete (P := P) (w := w) ty ht.h hk.h (Ent.map i hi _ h2) k
  unfold Oper.wp
  have he : (execOp a.eval ⟨d, .call ⟨.builtin .delete, #[x, y], #[t, kt]⟩, ty, pos, af, gd⟩).run P w = .ok (.value (.tuple #[])) { w with heap := w.heap.setIfInBounds b (.map es c) } := by
    have hx' := EvG.of (g := true) hx a h1 rfl
    have hy' := EvG.of (g := true) hy a h1 rfl
    simp only [execOp, resolve, List.map_toArray, List.map_cons, List.map_nil, hx', hy']
    show (do pure (Next.value (← Builtin.delete_ #[t, kt] ty #[.map (some b), MKey.enc k])) : Sem Next).run P w = _
    exact run_v e1
  rw [he]
  exact hK _ _ _ ⟨rfl, rfl⟩ (map_turn i hi h2 e2)
theorem Qt.mlen {d : Option Tmp} {gd : Option (Nat × Bool)} [ht : UMap P t kt et] (hE : g = true → Ent L (mapA b mp)) (hx : opv x E = some (c1, .map (some b))) [Imp g c1] :
    Qt P E L ⟨d, .call ⟨.builtin .len, #[x], #[t]⟩, ty, pos, af, gd⟩ g (.int .i64 mp.length) := fun a w h1 h2 h3 => by
  have hx' := EvG.of (g := g) hx a h1 h3
  simp only [execOp, resolve, List.map_toArray, List.map_cons, List.map_nil, hx']
  show (do pure (Next.value (← Builtin.len_ #[t] ty #[.map (some b)])) : Sem Next).run P w = _
  exact run_v (run_mlen ty ht.h (hE h3 _ h2))
theorem Qt.mlen0 {d : Option Tmp} {gd : Option (Nat × Bool)} [ht : UMap P t kt et] (hx : opv x E = some (c1, .map none)) [Imp g c1] :
    Qt P E L ⟨d, .call ⟨.builtin .len, #[x], #[t]⟩, ty, pos, af, gd⟩ g (.int .i64 0) := fun a w h1 h2 h3 => by
  have hx' := EvG.of (g := g) hx a h1 h3
  simp only [execOp, resolve, List.map_toArray, List.map_cons, List.map_nil, hx']
  show (do pure (Next.value (← Builtin.len_ #[t] ty #[.map none])) : Sem Next).run P w = _
  refine run_v ?_
  simp [Builtin.len_, run_underlying ht.h, Result.andThen, goInt]
end
/-! ### A pointer held against nil -/
section
variable {P : Program} {E : Env} {L : List Assn} {d : Option Tmp} {gd : Option (Nat × Bool)} {ty : TypeId} {pos : String} {af : Array Edge} {x y : Operand} {t u e : TypeId} {g c1 c2 : Bool}
theorem run_eqPN {w : World} {a : Addr} (hu : P.underlying t = some (.pointer e)) : (Op.equal t (.pointer (some a)) (.pointer none)).run P w = .ok false w := by
  unfold Op.equal
  rw [show Op.maxDepth = 9999 + 1 from rfl]
  unfold Op.equalIn
  rw [run_ok (run_u hu w)]; rfl
theorem Qt.pnil {a : Addr} (hu : P.underlying t = some (.pointer e)) (hx : opv x E = some (c1, .pointer (some a))) [Imp g c1] (hy : opv y E = some (c2, .pointer none)) [Imp g c2] : Qt P E L ⟨d, .binOp .eql t x y u, ty, pos, af, gd⟩ g (.bool false) :=
  .of2 (fun ρ w h1 h2 => by
    simp only [execOp, h1, h2]
    refine run_v ?_
    rw [run_ok (run_eqGuard (by simp) (by simp) w)]
    show (do pure (Value.bool (← Op.equal t (.pointer (some a)) (.pointer none))) : Sem Value).run P w = _
    rw [run_ok (run_eqPN hu)]; rfl) (EvG.of hx) (EvG.of hy)
theorem Qt.pnnil {a : Addr} (hu : P.underlying t = some (.pointer e)) (hx : opv x E = some (c1, .pointer (some a))) [Imp g c1] (hy : opv y E = some (c2, .pointer none)) [Imp g c2] : Qt P E L ⟨d, .binOp .neq t x y u, ty, pos, af, gd⟩ g (.bool true) :=
  .of2 (fun ρ w h1 h2 => by
    simp only [execOp, h1, h2]
    refine run_v ?_
    rw [run_ok (run_eqGuard (by simp) (by simp) w)]
    show (do pure (Value.bool (!(← Op.equal t (.pointer (some a)) (.pointer none)))) : Sem Value).run P w = _
    rw [run_ok (run_eqPN hu)]; rfl) (EvG.of hx) (EvG.of hy)
end
attribute [local irreducible] Wp WpO Qt OpT Ct
section
variable {κ : Type} [DecidableEq κ] [MKey κ] {P : Program} {n : Nat} {Q : Post} {E : Env} {D : List Deferred} {L : List Assn} {ops : Array Oper} {rest : List Oper} {m m' : Md} {d : Nat} {ty : TypeId} {pos : String} {af : Array Edge} {x y z : Operand} {t kt et : TypeId} {c1 c2 : Bool} {mp : List (κ × Value)} {b : Nat}
theorem WpO.mmake [Nxt m m'] (hdn : Nat.blt d n = true) (hk : ∀ b, Keeps m (mapA (κ := κ) b [] :: L)) (h : ∀ b, WpO P n ops Q m' rest ((d, .v (.map (some b))) :: E) D (mapA (κ := κ) b [] :: L)) : WpO P n ops Q m (⟨some d, .makeMap t none, ty, pos, af, none⟩ :: rest) E D L :=
  WpO.op rfl hdn (OpT.mmake (κ := κ)) nofun fun _ _ ⟨b, e1, e2⟩ => by subst e1; subst e2; exact ⟨hk b, h b⟩
theorem WpO.mset [Nxt m m'] [ht : UMap P t kt et] [hu : UKey P kt κ] {v : Value} (k : κ) (i : Nat) (hx : opv x E = some (c1, .map (some b))) [Imp true c1] (hy : opv y E = some (c2, MKey.enc k)) [Imp true c2] {c3 : Bool} (hz : opv z E = some (c3, v)) [Imp true c3] (hi : L[i]? = some (mapA b mp)) {M : List Assn} (hM : L.set i (mapA b (mset mp k v)) = M) (hk : Keeps m M)
    (h : WpO P n ops Q m' rest E D M) : WpO P n ops Q m (⟨none, .mapUpdate t x y z, ty, pos, af, none⟩ :: rest) E D L :=
  WpO.op0 rfl (OpT.mset k i hx hy hz hi) nofun fun _ _ e => by subst e; rw [hM]; exact ⟨hk, h⟩
theorem WpO.mdel [Nxt m m'] [ht : UMap P t kt et] [hu : UKey P kt κ] (k : κ) (i : Nat) (hdn : Nat.blt d n = true) (hx : opv x E = some (c1, .map (some b))) [Imp true c1] (hy : opv y E = some (c2, MKey.enc k)) [Imp true c2] (hi : L[i]? = some (mapA b mp)) {M : List Assn} (hM : L.set i (mapA b (mdel mp k)) = M) (hk : Keeps m M)
    (h : WpO P n ops Q m' rest ((d, .v (.tuple #[])) :: E) D M) : WpO P n ops Q m (⟨some d, .call ⟨.builtin .delete, #[x, y], #[t, kt]⟩, ty, pos, af, none⟩ :: rest) E D L :=
  WpO.op rfl hdn (OpT.mdel k i hx hy hi) nofun fun _ _ ⟨e1, e2⟩ => by subst e1; subst e2; rw [hM]; exact ⟨hk, h⟩
theorem S.mlook [Nxt m m'] [ht : UMap P t kt et] [hk : UKey P kt κ] {zv : Value} [hz : TZero P et zv] (k : κ) (hdn : Nat.blt d n = true) (hE : Ent (mem m L) (mapA b mp)) (hx : opv x E = some (c1, .map (some b))) [Imp true c1] (hy : opv y E = some (c2, MKey.enc k)) [Imp true c2]
    (h : WpO P n ops Q m' rest ((d, .v (.tuple #[(mget mp k).getD zv, .bool (mget mp k).isSome])) :: E) D L) : WpO P n ops Q m (⟨some d, .lookup t x y true, ty, pos, af, none⟩ :: rest) E D L :=
  WpO.q rfl hdn (Qt.mlook k true (fun _ => hE) hx hy) h
theorem S.mlook1 [Nxt m m'] [ht : UMap P t kt et] [hk : UKey P kt κ] {zv : Value} [hz : TZero P et zv] (k : κ) (hdn : Nat.blt d n = true) (hE : Ent (mem m L) (mapA b mp)) (hx : opv x E = some (c1, .map (some b))) [Imp true c1] (hy : opv y E = some (c2, MKey.enc k)) [Imp true c2]
    (h : WpO P n ops Q m' rest ((d, .v ((mget mp k).getD zv)) :: E) D L) : WpO P n ops Q m (⟨some d, .lookup t x y false, ty, pos, af, none⟩ :: rest) E D L :=
  WpO.q rfl hdn (Qt.mlook k false (fun _ => hE) hx hy) h
theorem S.mlen [Nxt m m'] [ht : UMap P t kt et] (hdn : Nat.blt d n = true) (hE : Ent (mem m L) (mapA b mp)) (hx : opv x E = some (c1, .map (some b))) [Imp true c1]
    (h : WpO P n ops Q m' rest ((d, .v (.int .i64 mp.length)) :: E) D L) : WpO P n ops Q m (⟨some d, .call ⟨.builtin .len, #[x], #[t]⟩, ty, pos, af, none⟩ :: rest) E D L :=
  WpO.q rfl hdn (Qt.mlen (fun _ => hE) hx) h
theorem S.pnil [Nxt m m'] {u e : TypeId} {a : Addr} (hu : P.underlying t = some (.pointer e)) (hdn : Nat.blt d n = true) (hx : opv x E = some (true, .pointer (some a))) (hy : opv y E = some (true, .pointer none))
    (h : WpO P n ops Q m' rest ((d, .v (.bool false)) :: E) D L) : WpO P n ops Q m (⟨some d, .binOp .eql t x y u, ty, pos, af, none⟩ :: rest) E D L := WpO.q rfl hdn (Qt.pnil hu hx hy) h
theorem S.pnnil [Nxt m m'] {u e : TypeId} {a : Addr} (hu : P.underlying t = some (.pointer e)) (hdn : Nat.blt d n = true) (hx : opv x E = some (true, .pointer (some a))) (hy : opv y E = some (true, .pointer none))
    (h : WpO P n ops Q m' rest ((d, .v (.bool true)) :: E) D L) : WpO P n ops Q m (⟨some d, .binOp .neq t x y u, ty, pos, af, none⟩ :: rest) E D L := WpO.q rfl hdn (Qt.pnnil hu hx hy) h
end
end Go.Proofs.Ytibkdjjdfcpdaaa
end

section
/- Scopes in memory. -/
namespace Go.Proofs.Ytibkdjjdfcpdaaa
open Go Go.Ab
attribute [local irreducible] Wp WpO Qt OpT Ct Ent

/-- A frame, as it lies: its map, its list of keys. -/
structure Fr where
  mb : Nat
  m : List (List UInt8 × Int)
  ka : Option Addr
  kc : Nat
  ks : List (List UInt8)
def vM (m : List (List UInt8 × Int)) : List (List UInt8 × Value) := m.map fun e => (e.1, .int .i64 e.2)
def strRs (l : List (List UInt8)) : List (List Value) := l.map fun s => [.string (ofL s)]
def frRow (f : Fr) : List Value := [.map (some f.mb), .slice f.ka f.ks.length f.kc]
def frA (f : Fr) : List Assn := [mapA f.mb (vM f.m), ownA 9 1 f.ka f.kc (strRs f.ks)]
def frP (fs : List Fr) : Assn := pkgA fun M => M = (fs.reverse.map frA).flatten
@[reducible] def scM (sb : Nat) (fa : Option Addr) (fc : Nat) (fs : List Fr) (L : List Assn) : List Assn :=
  ptA sb 84 [.slice fa fs.length fc] :: ownA 100 2 fa fc (fs.map frRow) :: frP fs :: L
/-- The scope at sb has these frames, the innermost one last. -/
def scA (sb : Nat) (fs : List (List (List UInt8 × Int))) : Assn := pkgA fun M => ∃ fa fc, ∃ frs : List Fr, (frs.map Fr.m = fs ∧ ∀ f ∈ frs, f.ks.length = f.m.length) ∧ M = scM sb fa fc frs []
section
variable {sb : Nat} {fs : List (List (List UInt8 × Int))} {L : List Assn}
theorem closeSc {fa : Option Addr} {fc : Nat} {frs : List Fr} (h : frs.map Fr.m = fs ∧ ∀ f ∈ frs, f.ks.length = f.m.length) : LeL (scM sb fa fc frs L) (scA sb fs :: L) := LeL.closeP (M := scM sb fa fc frs []) ⟨fa, fc, frs, h, rfl⟩
theorem Ct.openSc {f : FuncId} {args : Array Value} {R : Ending → List Assn → Prop} (h : ∀ fa fc frs, (frs.map Fr.m = fs ∧ ∀ f ∈ frs, f.ks.length = f.m.length) → Ct Try.prog f args (scM sb fa fc frs L) R) : Ct Try.prog f args (scA sb fs :: L) R :=
  Ct.openP 0 rfl fun M ⟨fa, fc, frs, h1, h2⟩ => by subst h2; exact h fa fc frs h1
theorem level_ct (M : List Assn) (hl : fs.length ≤ 1048576) (h1 : 1 ≤ fs.length) : Ct Try.prog 67 #[.pointer (some ⟨sb, 0, none⟩)] (scA sb fs :: M) (ret fun v L' => v = .int .i64 ((fs.length - 1 : Nat) : Int) ∧ L' = scA sb fs :: M) := by
  refine Ct.openSc fun fa fc frs hf => ?_
  have hfl : frs.length = fs.length := by rw [← hf.1, List.length_map]
  refine Ct.body Try.func67 rfl Try.ntmps67 Try.results67 rfl ?_
  refine pur ?_
  refine S.pnil Try.underlying57 rfl rfl rfl ?_
  refine pur ?_
  refine Wp.ret (RetL rfl (closeSc hf) ⟨?_, rfl⟩)
  rw [hfl, wrap_id (by omega) (by omega)]
  congr 1; omega
theorem RetNL {E : Env} {L : List Assn} {rs : List ResultVar} {R : Ending → List Assn → Prop} {L' : List Assn} {x : Value} (hv : resV rs E = some x) (hL : LeL L L') (h : R (.returned x) L') : BodyPost rs R .normal E [] L := ⟨rfl, x, _, hv, hL, h⟩
theorem frP_snoc {frs : List Fr} {f : Fr} {L : List Assn} : LeL (frA f ++ frP frs :: L) (frP (frs ++ [f]) :: L) := fun k s => by
  have s1 : Sat k (frP frs :: (frA f ++ L)) := s.perm List.perm_middle
  obtain ⟨M, hM, s2⟩ := Sat.openP s1
  subst hM
  refine Sat.closeP (M := frA f ++ (frs.reverse.map frA).flatten) (by rw [List.reverse_append]; simp) (s2.perm ?_)
  rw [← List.append_assoc]
  exact List.perm_append_comm.append_right L
theorem openClose {fa : Option Addr} {fc : Nat} {mb : Nat} {frs : List Fr} {M : List Assn} (hf : frs.map Fr.m = fs ∧ ∀ f ∈ frs, f.ks.length = f.m.length) : LeL (mapA (κ := List UInt8) mb [] :: ptA sb 84 [.slice fa (frs.map frRow ++ [[Value.map (some mb), Value.slice none 0 0]]).length fc] :: ownA 100 2 fa fc (frs.map frRow ++ [[Value.map (some mb), Value.slice none 0 0]]) :: frP frs :: M) (scA sb (fs ++ [[]]) :: M) := fun k s => by
  refine closeSc (fa := fa) (fc := fc) (frs := frs ++ [⟨mb, [], none, 0, []⟩]) ⟨by simp [hf.1], fun f hx => by
    rcases List.mem_append.1 hx with hx | hx
    · exact hf.2 f hx
    · obtain rfl := List.mem_singleton.1 hx; rfl⟩ k ?_
  have s1 : Sat k (ptA sb 84 [.slice fa (frs.map frRow ++ [[Value.map (some mb), Value.slice none 0 0]]).length fc] :: ownA 100 2 fa fc (frs.map frRow ++ [[Value.map (some mb), Value.slice none 0 0]]) :: mapA (κ := List UInt8) mb [] :: frP frs :: M) := s.perm ((List.Perm.swap _ _ _).trans (List.Perm.cons _ (List.Perm.swap _ _ _)))
  have e1 : (frs.map frRow ++ [[Value.map (some mb), Value.slice none 0 0]]) = (frs ++ [(⟨mb, [], none, 0, []⟩ : Fr)]).map frRow := by simp [frRow]
  have e2 : (frs.map frRow ++ [[Value.map (some mb), Value.slice none 0 0]]).length = (frs ++ [(⟨mb, [], none, 0, []⟩ : Fr)]).length := by simp
  rw [e2, e1] at s1
  refine Sat.cons_mono (fun k s => Sat.cons_mono (fun k s => ?_) s) s1
  exact frP_snoc (f := ⟨mb, [], none, 0, []⟩) k (Sat.swap (Sat.ownNil s))
set_option maxHeartbeats 1000000 in
theorem open_ct (M : List Assn) (hl : fs.length ≤ 1048576) : Ct Try.prog 39 #[.pointer (some ⟨sb, 0, none⟩)] (scA sb fs :: M) (ret fun v L' => L' = scA sb (fs ++ [[]]) :: M) := by
  refine Ct.openSc fun fa fc frs hf => ?_
  have hfl : frs.length = fs.length := by rw [← hf.1, List.length_map]
  refine Ct.body Try.func39 rfl Try.ntmps39 Try.results39 rfl ?_
  refine pur ?_
  refine S.pnnil Try.underlying57 rfl rfl rfl ?_
  refine pur ?_
  refine WpO.mmake (κ := List UInt8) rfl (fun _ => Keeps.none) fun mb => ?_
  refine S.build rfl rfl rfl ?_
  refine WpO.buildSlice rfl rfl rfl rfl rfl rfl rfl (fun _ => Keeps.none) fun b6 => ?_
  refine WpO.appendLit 2 [[Value.map (some mb), Value.slice none 0 0]] rfl rfl rfl rfl (by simp) rfl rfl rfl rfl rfl rfl rfl (by simp; omega) (fun _ _ => Keeps.none) fun a2 k2 => ?_
  dsimp only [List.set]
  refine pur ?_
  exact RetNL rfl (openClose hf) rfl
end
end Go.Proofs.Ytibkdjjdfcpdaaa
end

section
/- Scopes in memory: Close. -/
namespace Go.Proofs.Ytibkdjjdfcpdaaa
open Go Go.Ab
attribute [local irreducible] Wp WpO Qt OpT Ct Ent
section
variable {sb : Nat} {fs : List (List (List UInt8 × Int))} {L : List Assn}
theorem frP_drop {frs : List Fr} {f : Fr} {L : List Assn} : LeL (frP (frs ++ [f]) :: L) (frP frs :: L) := fun k s => by
  obtain ⟨M, hM, s2⟩ := Sat.openP s
  subst hM
  refine Sat.closeP (M := (frs.reverse.map frA).flatten) rfl ?_
  rw [List.reverse_append] at s2
  simp only [List.reverse_cons, List.reverse_nil, List.nil_append, List.singleton_append, List.map_cons, List.flatten_cons, List.append_assoc] at s2
  exact Sat.drop (frA f) s2
theorem own_at {e sz : Nat} {a : Option Addr} {c : Nat} {rows : List (List Value)} {k : Hp} (i : Nat) (hi : L[i]? = some (ownA e sz a c rows)) (hs : Sat k L) (h0 : rows ≠ []) : ∃ b o, a = some ⟨b, o, none⟩ := by
  have hk := own_know i hi hs
  rcases hk.2.2 with ⟨_, _, q⟩ | q
  · exact absurd q h0
  · exact q
set_option maxHeartbeats 2000000 in
theorem close_ct (g : List (List UInt8 × Int)) (M : List Assn) (hl : fs.length ≤ 1048576) (h1 : 1 ≤ fs.length) : Ct Try.prog 48 #[.pointer (some ⟨sb, 0, none⟩)] (scA sb (fs ++ [g]) :: M) (ret fun v L' => v = .int .i64 0 ∧ L' = scA sb fs :: M) := by
  refine Ct.openSc fun fa fc frs ⟨hf, hks⟩ => ?_
  obtain ⟨frs, f, rfl⟩ : ∃ r x, frs = r ++ [x] := by
    rcases List.eq_nil_or_concat frs with rfl | ⟨r, x, rfl⟩
    · simp at hf
    · exact ⟨r, x, List.concat_eq_append⟩
  have hf' : frs.map Fr.m = fs := by
    rw [List.map_append] at hf
    exact (List.append_inj' hf rfl).1
  have hfl : frs.length = fs.length := by rw [← hf', List.length_map]
  have hfl2 : (frs ++ [f]).length = fs.length + 1 := by rw [List.length_append, hfl]; rfl
  refine Ct.body Try.func48 rfl Try.ntmps48 Try.results48 rfl ?_
  refine Wp.know (fun k hs => own_at (rows := (frs ++ [f]).map frRow) 1 rfl hs (by simp)) fun ⟨fb, fo, hfa⟩ => ?_
  refine Wp.know (fun k hs => own_know (rows := (frs ++ [f]).map frRow) 1 rfl hs) fun hk => ?_
  subst hfa
  have hkc : fs.length + 1 ≤ fc := by have := hk.1; simpa [hfl] using this
  refine pur ?_
  refine S.pnil Try.underlying57 rfl rfl rfl ?_
  refine pur ?_
  refine Wp.branch rfl (fun h => ?_) (fun h => ?_)
  · exfalso
    rw [hfl2] at h
    simp at h; omega
  refine pur ?_
  have hw : IntKind.i64.wrap (((frs ++ [f]).length : Int) - 1) = ((frs.length : Nat) : Int) := by rw [hfl2, wrap_id (by omega) (by omega)]; omega
  rw [hw]
  refine S.build rfl rfl rfl ?_
  refine S.idx frs.length rfl rfl rfl rfl (by simp) ?_
  refine WpO.storeRow (v := .agg #[.map none, .slice none 0 0]) (r := frRow f) 1 frs.length 0 rfl rfl rfl (by simp) rfl rfl rfl (by decide) Keeps.none ?_
  dsimp only [List.set]
  refine pur ?_
  refine S.sliceL 0 frs.length rfl rfl Bd.no (Bd.at _ rfl (by infer_instance) (fun _ => rfl)) ⟨Nat.zero_le _, by omega⟩ ?_
  refine pur ?_
  refine Wp.ret (RetL rfl (fun k s => ?_) ⟨rfl, rfl⟩)
  dsimp only [List.set] at s
  have e : slA (some ⟨fb, fo, none⟩) fc 0 2 = some ⟨fb, fo, none⟩ := by
    unfold slA
    split
    · rfl
    · rw [Nat.zero_mul]; rfl
  rw [e] at s
  refine closeSc (fa := some ⟨fb, fo, none⟩) (fc := fc) ⟨hf', fun x hx => hks x (by simp [hx])⟩ k ?_
  have s : Sat k (ptA sb 84 [.slice (some ⟨fb, fo, none⟩) frs.length fc] :: ownA 100 2 (some ⟨fb, fo, none⟩) fc (((frs ++ [f]).map frRow).set frs.length (lset (frRow f) 0 [.map none, .slice none 0 0])) :: frP (frs ++ [f]) :: M) := s
  refine Sat.cons_mono (fun k s => ?_) s
  obtain ⟨h1, l1, a1, s1⟩ := s
  refine ⟨h1, l1, ?_, frP_drop _ s1⟩
  have := ownA.take frs.length a1
  rwa [show (((frs ++ [f]).map frRow).set frs.length (lset (frRow f) 0 [.map none, .slice none 0 0])).take frs.length = frs.map frRow from by simp] at this
end
end Go.Proofs.Ytibkdjjdfcpdaaa
end

section
/- Scopes in memory: Bind. -/
namespace Go.Proofs.Ytibkdjjdfcpdaaa
open Go Go.Ab
attribute [local irreducible] Wp WpO Qt OpT Ct Ent
section
variable {sb : Nat} {fs : List (List (List UInt8 × Int))} {L : List Assn}
theorem frP_open {frs : List Fr} {f : Fr} {L : List Assn} : LeL (frP (frs ++ [f]) :: L) (mapA f.mb (vM f.m) :: ownA 9 1 f.ka f.kc (strRs f.ks) :: frP frs :: L) := fun k s => by
  obtain ⟨M, hM, s2⟩ := Sat.openP s
  subst hM
  rw [List.reverse_append] at s2
  simp only [List.reverse_cons, List.reverse_nil, List.nil_append, List.singleton_append, List.map_cons, List.flatten_cons, List.append_assoc] at s2
  refine Sat.cons_mono (fun k s => Sat.cons_mono (fun k s => ?_) s) (show Sat k (mapA f.mb (vM f.m) :: ownA 9 1 f.ka f.kc (strRs f.ks) :: ((frs.reverse.map frA).flatten ++ L)) from s2)
  exact Sat.closeP (M := (frs.reverse.map frA).flatten) rfl s
def sget : List (List UInt8 × Int) → List UInt8 → Option Int
  | [], _ => none
  | e :: r, k => if e.1 = k then some e.2 else sget r k
theorem mget_vM : ∀ (m : List (List UInt8 × Int)) (k : List UInt8), mget (vM m) k = (sget m k).map fun v => .int .i64 v
  | [], _ => rfl
  | e :: r, k => by
    show (if e.1 = k then some (Value.int .i64 e.2) else mget (vM r) k) = _
    unfold sget
    split
    · rfl
    · exact mget_vM r k
theorem mset_vM : ∀ (m : List (List UInt8 × Int)) (k : List UInt8) (v : Int), sget m k = none → mset (vM m) k (.int .i64 v) = vM (m ++ [(k, v)])
  | [], _, _, _ => rfl
  | e :: r, k, v, h => by
    unfold sget at h
    split at h
    · cases h
    · rename_i hn
      show (if e.1 = k then _ else (e.1, Value.int .i64 e.2) :: mset (vM r) k (.int .i64 v)) = _
      rw [if_neg hn, mset_vM r k v h]; rfl
theorem row_ent {e sz fb fo c : Nat} {rows : List (List Value)} {r : List Value} (i n : Nat) (hi : L[i]? = some (ownA e sz (some ⟨fb, fo, none⟩) c rows)) (hr : rows[n]? = some r) (hk : rows.length ≤ c ∧ (∀ r ∈ rows, r.length = sz) ∧ (((some ⟨fb, fo, none⟩ : Option Addr) = none ∧ c = 0 ∧ rows = []) ∨ ∃ b o, (some ⟨fb, fo, none⟩ : Option Addr) = some ⟨b, o, none⟩)) : Ent L (CellsAt fb (fo + n * sz) r) := by
  obtain ⟨b0, o0, e0, _, hE⟩ := (Sl.own i hi hk).at hr
  simp only [Option.some.injEq, Addr.mk.injEq, and_true] at e0
  obtain ⟨rfl, rfl⟩ := e0
  exact hE
set_option maxHeartbeats 2000000 in
theorem bind_ct (g : List (List UInt8 × Int)) (k : ByteArray) (v : Int) (M : List Assn) (hl : fs.length ≤ 1048576) (hgl : g.length ≤ 1048576) : Ct Try.prog 40 #[.pointer (some ⟨sb, 0, none⟩), .string k, .int .i64 v] (scA sb (fs ++ [g]) :: M)
    (ret fun r L' => r = .int .i64 (if (sget g (bs k)).isSome then 5 else 0) ∧ L' = scA sb (if (sget g (bs k)).isSome then fs ++ [g] else fs ++ [g ++ [(bs k, v)]]) :: M) := by
  refine Ct.openSc fun fa fc frs ⟨hf, hks⟩ => ?_
  obtain ⟨frs, f, rfl⟩ : ∃ r x, frs = r ++ [x] := by
    rcases List.eq_nil_or_concat frs with rfl | ⟨r, x, rfl⟩
    · simp at hf
    · exact ⟨r, x, List.concat_eq_append⟩
  have hf' : frs.map Fr.m = fs ∧ f.m = g := by
    rw [List.map_append] at hf
    have := List.append_inj' hf rfl
    exact ⟨this.1, by simpa using this.2⟩
  obtain ⟨hf', hg⟩ := hf'
  have hkl : f.ks.length ≤ 1048576 := by rw [hks f (by simp), hg]; exact hgl
  have hfl : frs.length = fs.length := by rw [← hf', List.length_map]
  have hfl2 : (frs ++ [f]).length = fs.length + 1 := by rw [List.length_append, hfl]; rfl
  refine Ct.body Try.func40 rfl Try.ntmps40 Try.results40 rfl ?_
  refine Wp.know (fun k hs => own_at (rows := (frs ++ [f]).map frRow) 1 rfl hs (by simp)) fun ⟨fb, fo, hfa⟩ => ?_
  refine Wp.know (fun k hs => own_know (rows := (frs ++ [f]).map frRow) 1 rfl hs) fun hk => ?_
  subst hfa
  refine Wp.parts (L' := ptA sb 84 [.slice (some ⟨fb, fo, none⟩) (frs ++ [f]).length fc] :: ownA 100 2 (some ⟨fb, fo, none⟩) fc ((frs ++ [f]).map frRow) :: mapA f.mb (vM f.m) :: ownA 9 1 f.ka f.kc (strRs f.ks) :: frP frs :: M) (fun k s => Sat.cons_mono (fun k s => Sat.cons_mono (fun k s => frP_open k s) s) s) ?_
  refine pur ?_
  refine S.pnil Try.underlying57 rfl rfl rfl ?_
  refine pur ?_
  refine Wp.draw rfl [0,1,2,3,4,5,6,7,8,9,10,11] 12 12 _ rfl (by decide +kernel) (fun _ h => h) ?_
  refine pur ?_
  have hw : IntKind.i64.wrap (((frs ++ [f]).length : Int) - 1) = ((frs.length : Nat) : Int) := by rw [hfl2, wrap_id (by omega) (by omega)]; omega
  rw [hw]
  refine S.idx frs.length rfl rfl rfl rfl (by simp) ?_
  refine pur ?_
  obtain ⟨b0, o0, e0, _, hE⟩ := (Sl.own (L := ptA sb 84 [.slice (some ⟨fb, fo, none⟩) (frs ++ [f]).length fc] :: ownA 100 2 (some ⟨fb, fo, none⟩) fc ((frs ++ [f]).map frRow) :: mapA f.mb (vM f.m) :: ownA 9 1 f.ka f.kc (strRs f.ks) :: frP frs :: M) 1 rfl hk).at (i := frs.length) (r := frRow f) (by simp)
  simp only [Option.some.injEq, Addr.mk.injEq, and_true] at e0
  obtain ⟨rfl, rfl⟩ := e0
  refine S.load (v := .map (some f.mb)) rfl rfl (by infer_instance) (Ent.sub 1 (j := 0) hE rfl) ?_
  refine pur ?_
  refine S.mlook (bs k) rfl (Ent.map 2 rfl) rfl rfl ?_
  refine pur ?_
  rw [mget_vM, hg]
  refine Wp.branch rfl (fun h => ?_) (fun h => ?_)
  · refine pur ?_
    have hsome : (sget g (bs k)).isSome = true := by
      cases hq : sget g (bs k) with
      | none => rw [hq] at h; cases h
      | some x => rfl
    refine Wp.ret (RetL rfl (fun k' s => ?_) ⟨by rw [if_pos hsome], rfl⟩)
    rw [if_pos hsome]
    refine closeSc (fa := some ⟨fb, fo, none⟩) (fc := fc) ⟨hf, hks⟩ k' ?_
    refine Sat.cons_mono (fun k' s => Sat.cons_mono (fun k' s => ?_) s) s
    rw [← hg] at s
    exact frP_snoc (f := f) k' s
  refine pur ?_
  have hrow : ((frs ++ [f]).map frRow)[frs.length]? = some (frRow f) := by simp
  refine S.load (v := .map (some f.mb)) rfl rfl (by infer_instance) (Ent.sub 1 (j := 0) (row_ent 1 frs.length rfl hrow hk) rfl) ?_
  refine pur ?_
  refine WpO.mset (bs k) 2 rfl rfl rfl rfl rfl Keeps.none ?_
  dsimp only [List.set]
  refine pur ?_
  refine S.load (v := .slice f.ka f.ks.length f.kc) rfl rfl (by infer_instance) (Ent.sub 1 (j := 1) (row_ent 1 frs.length rfl hrow hk) rfl) ?_
  refine pur ?_
  refine WpO.buildSlice rfl rfl rfl rfl rfl rfl rfl (fun _ => Keeps.none) fun b6 => ?_
  refine WpO.appendLit 3 [[.string k]] rfl rfl rfl rfl (by simp [strRs]) rfl rfl rfl rfl rfl rfl rfl (by simp [strRs]; omega) (fun _ _ => Keeps.none) fun a2 k2 => ?_
  dsimp only [List.set]
  refine pur ?_
  refine WpO.storeRow (v := .slice a2 (strRs f.ks ++ [[Value.string k]]).length k2) (r := frRow f) 1 frs.length 1 rfl rfl rfl hrow rfl rfl rfl (Nat.le_refl 2) Keeps.none ?_
  dsimp only [List.set]
  refine pur ?_
  refine Wp.ret (RetL rfl (fun k' s => ?_) ⟨?_, rfl⟩)
  · have hn : sget g (bs k) = none := by
      cases hq : sget g (bs k) with
      | none => rfl
      | some x => rw [hq] at h; cases h
    rw [hn]
    rw [mset_vM g (bs k) v hn] at s
    have hm : (⟨f.mb, g ++ [(bs k, v)], a2, k2, f.ks ++ [bs k]⟩ : Fr).ks.length = (g ++ [(bs k, v)]).length := by
      have := hks f (by simp)
      rw [hg] at this
      show (f.ks ++ [bs k]).length = _
      rw [List.length_append, List.length_append, this]; rfl
    refine closeSc (fa := some ⟨fb, fo, none⟩) (fc := fc) (frs := frs ++ [⟨f.mb, g ++ [(bs k, v)], a2, k2, f.ks ++ [bs k]⟩]) ⟨by simp [hf'], fun x hx => by
      rcases List.mem_append.1 hx with hx | hx
      · exact hks x (by simp [hx])
      · obtain rfl := List.mem_singleton.1 hx; exact hm⟩ k' ?_
    have e1 : ((frs ++ [f]).map frRow).set frs.length (lset (frRow f) 1 (Value.slice a2 (strRs f.ks ++ [[Value.string k]]).length k2).cells.toList) = (frs ++ [(⟨f.mb, g ++ [(bs k, v)], a2, k2, f.ks ++ [bs k]⟩ : Fr)]).map frRow := by
      have e0 : lset (frRow f) 1 (Value.slice a2 (strRs f.ks ++ [[Value.string k]]).length k2).cells.toList = frRow ⟨f.mb, g ++ [(bs k, v)], a2, k2, f.ks ++ [bs k]⟩ := by
        show [Value.map (some f.mb), Value.slice a2 (strRs f.ks ++ [[Value.string k]]).length k2] = [Value.map (some f.mb), Value.slice a2 (f.ks ++ [bs k]).length k2]
        rw [show (strRs f.ks ++ [[Value.string k]]).length = (f.ks ++ [bs k]).length from by simp [strRs]]
      rw [e0, List.map_append, List.map_append, List.set_append_right _ _ (by simp)]
      simp
    have e2 : strRs f.ks ++ [[Value.string k]] = strRs (f.ks ++ [bs k]) := by
      simp only [strRs, List.map_append, List.map_cons, List.map_nil]; rfl
    rw [e1] at s
    rw [e2] at s
    have e3 : (frs ++ [f]).length = (frs ++ [(⟨f.mb, g ++ [(bs k, v)], a2, k2, f.ks ++ [bs k]⟩ : Fr)]).length := by simp
    rw [e3] at s
    refine Sat.cons_mono (fun k' s => Sat.cons_mono (fun k' s => ?_) s) s
    exact frP_snoc (f := ⟨f.mb, g ++ [(bs k, v)], a2, k2, f.ks ++ [bs k]⟩) k' s
  · have hn : sget g (bs k) = none := by
      cases hq : sget g (bs k) with
      | none => rfl
      | some x => rw [hq] at h; cases h
    rw [hn]; rfl
end
end Go.Proofs.Ytibkdjjdfcpdaaa
end

section
/- Scopes in memory: New. -/
namespace Go.Proofs.Ytibkdjjdfcpdaaa
open Go Go.Ab
attribute [local irreducible] Wp WpO Qt OpT Ct Ent
theorem new_ct (L : List Assn) : Ct Try.prog 16 #[] L (ret fun v L' => ∃ sb, v = .pointer (some ⟨sb, 0, none⟩) ∧ L' = scA sb [[]] :: L) := by
  refine Ct.body Try.func16 rfl Try.ntmps16 Try.results16 rfl ?_
  refine pur ?_
  refine S.build rfl rfl rfl ?_
  refine WpO.box rfl rfl rfl (fun _ => Keeps.none) fun sb => ?_
  refine pur ?_
  refine WpO.parts (L' := scA sb [] :: L) (fun k s => ?_) ?_
  · refine closeSc (fa := none) (fc := 0) (frs := []) ⟨rfl, nofun⟩ k ?_
    refine Sat.cons_mono (fun k s => ?_) s
    refine Sat.ownNil ?_
    exact Sat.closeP (M := []) rfl s
  refine WpO.call Try.call39 rfl rfl (open_ct (fs := []) L (Nat.zero_le _)) fun v L' e => ⟨Keeps.none, ?_⟩
  subst e
  refine pur ?_
  exact Wp.ret (Ret 0 rfl ⟨sb, rfl, rfl⟩)
end Go.Proofs.Ytibkdjjdfcpdaaa
end

section
/- An index of numbers in memory: New, Find. -/
namespace Go.Proofs.Ytibkdjjdfcpdaaa
open Go Go.Ab
attribute [local irreducible] Wp WpO Qt OpT Ct Ent

/-- The things' numbers, as the map has them. -/
def iM : List Int → Nat → List (Int × Value)
  | [], _ => []
  | x :: r, n => (x, .int .i64 n) :: iM r (n + 1)
def ifind : List Int → Int → Nat → Option Nat
  | [], _, _ => none
  | x :: r, k, n => if x = k then some n else ifind r k (n + 1)
theorem mget_iM : ∀ (xs : List Int) (k : Int) (n : Nat), mget (iM xs n) k = (ifind xs k n).map fun i => .int .i64 (i : Int)
  | [], _, _ => rfl
  | x :: r, k, n => by
    show (if x = k then some (Value.int .i64 (n : Int)) else mget (iM r (n + 1)) k) = _
    unfold ifind
    split
    · rfl
    · exact mget_iM r k (n + 1)
theorem mset_iM : ∀ (xs : List Int) (k : Int) (n : Nat), ifind xs k n = none → mset (iM xs n) k (.int .i64 ((n + xs.length : Nat) : Int)) = iM (xs ++ [k]) n
  | [], _, _, _ => rfl
  | x :: r, k, n, h => by
    unfold ifind at h
    split at h
    · cases h
    · rename_i hn
      show (if x = k then _ else (x, Value.int .i64 (n : Int)) :: mset (iM r (n + 1)) k _) = _
      rw [if_neg hn, show (n + (x :: r).length) = n + 1 + r.length by simp; omega, mset_iM r k (n + 1) h]; rfl
@[reducible] def ixM (ib mb : Nat) (ta : Option Addr) (tc : Nat) (xs : List Int) (L : List Assn) : List Assn :=
  ptA ib 165 [.map (some mb), .slice ta xs.length tc] :: mapA mb (iM xs 0) :: ownA 3 1 ta tc (ints xs) :: L
def ixA (ib : Nat) (xs : List Int) : Assn := pkgA fun M => ∃ mb ta tc, M = ixM ib mb ta tc xs []
section
variable {ib : Nat} {xs : List Int} {L : List Assn}
theorem closeIx {mb : Nat} {ta : Option Addr} {tc : Nat} : LeL (ixM ib mb ta tc xs L) (ixA ib xs :: L) := LeL.closeP (M := ixM ib mb ta tc xs []) ⟨mb, ta, tc, rfl⟩
theorem Ct.openIx {f : FuncId} {args : Array Value} {R : Ending → List Assn → Prop} (h : ∀ mb ta tc, Ct Try.prog f args (ixM ib mb ta tc xs L) R) : Ct Try.prog f args (ixA ib xs :: L) R :=
  Ct.openP 0 rfl fun M ⟨mb, ta, tc, h2⟩ => by subst h2; exact h mb ta tc
set_option maxHeartbeats 1000000 in
theorem ifind_ct (k : Int) (M : List Assn) : Ct Try.prog 88 #[.pointer (some ⟨ib, 0, none⟩), .int .i64 k] (ixA ib xs :: M)
    (ret fun v L' => v = (match ifind xs k 0 with | some i => .tuple #[.int .i64 (i : Int), .int .i64 0] | none => .tuple #[.int .i64 0, .int .i64 6]) ∧ L' = ixA ib xs :: M) := by
  refine Ct.openIx fun mb ta tc => ?_
  refine Ct.body Try.func88 rfl Try.ntmps88 Try.results88 rfl ?_
  refine pur ?_
  refine S.pnil Try.underlying135 rfl rfl rfl ?_
  refine pur ?_
  refine S.mlook k rfl (Ent.map 1 rfl) rfl rfl ?_
  refine pur ?_
  rw [mget_iM]
  cases hq : ifind xs k 0 with
  | none =>
    refine pur ?_
    exact Wp.ret (RetL rfl closeIx ⟨rfl, rfl⟩)
  | some i =>
    refine pur ?_
    exact Wp.ret (RetL rfl closeIx ⟨rfl, rfl⟩)
end
end Go.Proofs.Ytibkdjjdfcpdaaa
end

section
/- An index of numbers in memory: New, Number. -/
namespace Go.Proofs.Ytibkdjjdfcpdaaa
open Go Go.Ab
attribute [local irreducible] Wp WpO Qt OpT Ct Ent
section
variable {ib : Nat} {xs : List Int} {L : List Assn}
theorem inew_ct (L : List Assn) : Ct Try.prog 86 #[] L (ret fun v L' => ∃ ib, v = .pointer (some ⟨ib, 0, none⟩) ∧ L' = ixA ib [] :: L) := by
  refine Ct.body Try.func86 rfl Try.ntmps86 Try.results86 rfl ?_
  refine pur ?_
  refine WpO.mmake (κ := Int) rfl (fun _ => Keeps.none) fun mb => ?_
  refine pur ?_
  refine S.build rfl rfl rfl ?_
  refine WpO.box rfl rfl rfl (fun _ => Keeps.none) fun ib => ?_
  refine pur ?_
  refine Wp.ret (RetL rfl (fun k s => ?_) ⟨ib, rfl, rfl⟩)
  refine closeIx (mb := mb) (ta := none) (tc := 0) k ?_
  refine Sat.cons_mono (fun k s => Sat.swap (Sat.ownNil s)) s
set_option maxHeartbeats 1000000 in
theorem inumber_ct (k : Int) (M : List Assn) (hx : xs.length ≤ 1048576) : Ct Try.prog 87 #[.pointer (some ⟨ib, 0, none⟩), .int .i64 k] (ixA ib xs :: M)
    (ret fun v L' => v = .tuple #[.int .i64 ((match ifind xs k 0 with | some i => i | none => xs.length : Nat) : Int), .int .i64 0] ∧ L' = ixA ib (match ifind xs k 0 with | some _ => xs | none => xs ++ [k]) :: M) := by
  refine Ct.openIx fun mb ta tc => ?_
  refine Ct.body Try.func87 rfl Try.ntmps87 Try.results87 rfl ?_
  refine pur ?_
  refine S.pnil Try.underlying135 rfl rfl rfl ?_
  refine pur ?_
  refine S.mlook k rfl (Ent.map 1 rfl) rfl rfl ?_
  refine pur ?_
  rw [mget_iM]
  cases hq : ifind xs k 0 with
  | some i =>
    refine pur ?_
    exact Wp.ret (RetL rfl closeIx ⟨rfl, rfl⟩)
  | none =>
    refine pur ?_
    refine WpO.mset k 1 rfl rfl rfl rfl rfl Keeps.none ?_
    dsimp only [List.set]
    refine pur ?_
    refine WpO.buildSlice rfl rfl rfl rfl rfl rfl rfl (fun _ => Keeps.none) fun b6 => ?_
    refine WpO.appendLit 2 [[.int .i64 k]] rfl rfl rfl rfl (by simp [ints]) rfl rfl rfl rfl rfl rfl rfl (by simp [ints]; omega) (fun _ _ => Keeps.none) fun a2 k2 => ?_
    dsimp only [List.set]
    refine pur ?_
    refine Wp.ret (RetL rfl (fun k' s => ?_) ⟨rfl, rfl⟩)
    dsimp only [List.set] at s
    refine closeIx (mb := mb) (ta := a2) (tc := k2) k' ?_
    have e1 : mset (iM xs 0) k (.int .i64 (xs.length : Int)) = iM (xs ++ [k]) 0 := by
      have := mset_iM xs k 0 hq
      rwa [Nat.zero_add] at this
    have e2 : ints xs ++ [[Value.int .i64 k]] = ints (xs ++ [k]) := by simp [ints]
    rw [e1] at s
    rw [e2] at s
    have e3 : (ints (xs ++ [k])).length = (xs ++ [k]).length := by simp [ints]
    rw [e3] at s
    exact s
end
end Go.Proofs.Ytibkdjjdfcpdaaa
end

section
/- rename gives up, if so. -/
namespace Go.Proofs.Ytibkdjjdfcpdaaa
open Go Go.Ab
attribute [local irreducible] Wp WpO Qt OpT Ct Ent
instance tsMis : TStruct Try.prog 54 [] [] := tstruct_of (fun _ => 0) Try.zeroValue54 rfl Try.runUnderlying54 (fun f hf w => by simp at hf) rfl
def misV : Value := .iface 54 (.agg #[])
theorem concM : Try.prog.concrete 54 = true := by kernel_rfl
theorem rfail_ct (b : Bool) (L : List Assn) : Ct Try.prog 24 #[.bool b] L (retP (fun _ L' => b = false ∧ L' = L) (fun v L' => b = true ∧ v = misV ∧ L' = L)) := by
  refine Ct.body Try.func24 rfl Try.ntmps24 Try.results24 rfl ?_
  refine pur ?_
  refine Wp.branch rfl (fun h => ?_) (fun h => ?_)
  · refine pur ?_
    refine S.build rfl rfl rfl ?_
    refine S.mkiface concM rfl rfl ?_
    exact WpO.panic rfl ⟨rfl, _, rfl, h, rfl, rfl⟩
  · refine pur ?_
    exact RetN 0 rfl ⟨h, rfl⟩
end Go.Proofs.Ytibkdjjdfcpdaaa
end

section
/- The walk through a graph, as a plain function; what it meets. -/
namespace Go.Proofs.Ytibkdjjdfcpdaaa
/-- A walk under way: what was met, what is finished, the path with its end ahead. -/
structure Ws where
  seen : List Bool
  done : List Nat
  path : List (Nat × Nat)
def succs (g : List (List Nat)) (a : Nat) : List Nat := g[a]?.getD []
def met (s : List Bool) (a : Nat) : Bool := s[a]?.getD true
def stepW (g : List (List Nat)) (s : Ws) : Ws := match s.path with
  | [] => s
  | (a, k) :: p => match (succs g a)[k]? with
    | none => ⟨s.seen, s.done ++ [a], p⟩
    | some b => if met s.seen b then ⟨s.seen, s.done, (a, k + 1) :: p⟩ else ⟨s.seen.set b true, s.done, (b, 0) :: (a, k + 1) :: p⟩
def unm (g : List (List Nat)) : List Bool → Nat → Nat
  | [], _ => 0
  | b :: r, i => (if b then 0 else (succs g i).length + 2) + unm g r (i + 1)
def pathM (g : List (List Nat)) : List (Nat × Nat) → Nat
  | [] => 0
  | x :: r => ((succs g x.1).length - x.2 + 1) + pathM g r
def measW (g : List (List Nat)) (s : Ws) : Nat := unm g s.seen 0 + pathM g s.path
theorem unm_set (g : List (List Nat)) : ∀ (s : List Bool) (i b : Nat), s[b]? = some false → unm g (s.set b true) i + ((succs g (i + b)).length + 2) = unm g s i
  | [], _, _, h => by simp at h
  | x :: r, i, 0, h => by
    simp only [List.getElem?_cons_zero, Option.some.injEq] at h
    subst h
    simp only [List.set_cons_zero, unm, if_true, if_false, Nat.add_zero, Bool.false_eq_true]
    omega
  | x :: r, i, b + 1, h => by
    simp only [List.getElem?_cons_succ] at h
    have := unm_set g r (i + 1) b h
    simp only [List.set_cons_succ, unm]
    rw [show i + (b + 1) = i + 1 + b by omega]
    omega
theorem met_false {s : List Bool} {b : Nat} (h : met s b = false) : s[b]? = some false := by
  unfold met at h
  cases hb : s[b]? with
  | none => rw [hb] at h; cases h
  | some v => rw [hb] at h; simpa using h
theorem stepW_lt (g : List (List Nat)) (s : Ws) (h : s.path ≠ []) : measW g (stepW g s) < measW g s := by
  obtain ⟨seen, done, path⟩ := s
  cases path with
  | nil => exact absurd rfl h
  | cons x p =>
    obtain ⟨a, k⟩ := x
    unfold stepW measW
    simp only []
    cases hb : (succs g a)[k]? with
    | none => simp only [pathM]; omega
    | some b =>
      have hk : k < (succs g a).length := (List.getElem?_eq_some_iff.1 hb).1
      simp only []
      cases hm : met seen b with
      | true => simp only [if_true, pathM]; omega
      | false =>
        have := unm_set g seen 0 b (met_false hm)
        rw [Nat.zero_add] at this
        simp only [if_false, pathM, Bool.false_eq_true]
        omega
def iterW (g : List (List Nat)) : Nat → Ws → Ws
  | 0, s => s
  | n + 1, s => match s.path with
    | [] => s
    | _ :: _ => iterW g n (stepW g s)
theorem iterW_nil (g : List (List Nat)) (n : Nat) (s : Ws) (h : s.path = []) : iterW g n s = s := by
  cases n with
  | zero => rfl
  | succ n => unfold iterW; rw [h]
theorem iterW_more (g : List (List Nat)) : ∀ (n m : Nat) (s : Ws), measW g s ≤ n → measW g s ≤ m → iterW g n s = iterW g m s := by
  intro n
  induction n with
  | zero =>
    intro m s h1 h2
    have : s.path = [] := by
      cases hp : s.path with
      | nil => rfl
      | cons x p => unfold measW at h1; rw [hp] at h1; simp only [pathM] at h1; omega
    rw [iterW_nil g m s this, iterW_nil g 0 s this]
  | succ n ih =>
    intro m s h1 h2
    cases hp : s.path with
    | nil => rw [iterW_nil g m s hp, iterW_nil g _ s hp]
    | cons x p =>
      have hlt := stepW_lt g s (by rw [hp]; exact List.cons_ne_nil _ _)
      cases m with
      | zero => omega
      | succ m =>
        unfold iterW
        rw [hp]
        exact ih m _ (by omega) (by omega)
def runW (g : List (List Nat)) (s : Ws) : Ws := iterW g (measW g s) s
theorem runW_nil (g : List (List Nat)) (s : Ws) (h : s.path = []) : runW g s = s := iterW_nil g _ s h
theorem runW_step (g : List (List Nat)) (s : Ws) (h : s.path ≠ []) : runW g s = runW g (stepW g s) := by
  have hlt := stepW_lt g s h
  unfold runW
  obtain ⟨m, hm⟩ : ∃ m, measW g s = m + 1 := ⟨measW g s - 1, by omega⟩
  rw [hm]
  cases hp : s.path with
  | nil => exact absurd hp h
  | cons x p =>
    show (match s.path with | [] => s | _ :: _ => iterW g m (stepW g s)) = _
    rw [hp]
    exact iterW_more g _ _ _ (by omega) (Nat.le_refl _)
/-- What holds of every state on the way holds at the end, where the path is empty. -/
theorem runW_inv (g : List (List Nat)) (I : Ws → Prop) (hI : ∀ s, s.path ≠ [] → I s → I (stepW g s)) : ∀ (m : Nat) (s : Ws), measW g s ≤ m → I s → I (runW g s) ∧ (runW g s).path = [] := by
  intro m
  induction m with
  | zero =>
    intro s h1 h2
    have : s.path = [] := by
      cases hp : s.path with
      | nil => rfl
      | cons x p => unfold measW at h1; rw [hp] at h1; simp only [pathM] at h1; omega
    rw [runW_nil g s this]; exact ⟨h2, this⟩
  | succ m ih =>
    intro s h1 h2
    by_cases hp : s.path = []
    · rw [runW_nil g s hp]; exact ⟨h2, hp⟩
    · rw [runW_step g s hp]
      have hlt := stepW_lt g s hp
      exact ih _ (by omega) (hI s hp h2)
/-- What walk answers: what was met then, the list. -/
def walkF (g : List (List Nat)) (fr : Nat) (seen : List Bool) (done : List Nat) : List Bool × List Nat :=
  if met seen fr then (seen, done) else ((runW g ⟨seen.set fr true, done, [(fr, 0)]⟩).seen, (runW g ⟨seen.set fr true, done, [(fr, 0)]⟩).done)

/-- A way through the graph, over things of which ok is true. -/
inductive Rch (g : List (List Nat)) (ok : Nat → Prop) : Nat → Nat → Prop
  | refl {a : Nat} : ok a → Rch g ok a a
  | step {a b c : Nat} : ok a → b ∈ succs g a → Rch g ok b c → Rch g ok a c
theorem Rch.trans {g : List (List Nat)} {ok : Nat → Prop} {a b c : Nat} (h : Rch g ok a b) (k : Rch g ok b c) : Rch g ok a c := by
  induction h with
  | refl _ => exact k
  | step h1 h2 _ ih => exact .step h1 h2 (ih k)
theorem Rch.mono {g : List (List Nat)} {ok ok' : Nat → Prop} (hi : ∀ x, ok x → ok' x) {a b : Nat} (h : Rch g ok a b) : Rch g ok' a b := by
  induction h with
  | refl h1 => exact .refl (hi _ h1)
  | step h1 h2 _ ih => exact .step (hi _ h1) h2 ih
theorem Rch.ends {g : List (List Nat)} {ok : Nat → Prop} {a b : Nat} (h : Rch g ok a b) : ok a ∧ ok b := by
  induction h with
  | refl h1 => exact ⟨h1, h1⟩
  | step h1 _ _ ih => exact ⟨h1, ih.2⟩
theorem Rch.snoc {g : List (List Nat)} {ok : Nat → Prop} {a b c : Nat} (h : Rch g ok a b) (hb : c ∈ succs g b) (hc : ok c) : Rch g ok a c :=
  h.trans (.step h.ends.2 hb (.refl hc))

/-- What holds on the way of a walk: S: what was met ahead of it; D: what was finished. -/
structure WInv (g : List (List Nat)) (S : List Bool) (D : List Nat) (root : Nat) (s : Ws) (new : List Nat) : Prop where
  len : s.seen.length = S.length
  done : s.done = D ++ new
  seen : ∀ x, met s.seen x = true ↔ met S x = true ∨ x ∈ new ∨ x ∈ s.path.map (·.1)
  nodup : (new ++ s.path.map (·.1)).Nodup
  fresh : ∀ x ∈ new ++ s.path.map (·.1), met S x = false
  closed : ∀ x ∈ new, ∀ y ∈ succs g x, met s.seen y = true
  part : ∀ p ∈ s.path, ∀ y ∈ (succs g p.1).take p.2, met s.seen y = true
  chain : (s.path.map (·.1)).Pairwise (fun a b => Rch g (fun x => met S x = false) b a)
  reach : ∀ x ∈ new ++ s.path.map (·.1), Rch g (fun x => met S x = false) root x
  back : ∀ D1 u D2, new = D1 ++ u :: D2 → ∀ x ∈ D1 ++ [u], ∀ y ∈ succs g x, y ∉ D1 ++ [u] → met S y = false → Rch g (fun x => met S x = false) y u
  root : root ∈ new ++ s.path.map (·.1)
theorem met_set {s : List Bool} {b : Nat} (hb : s[b]? = some false) (x : Nat) : met (s.set b true) x = true ↔ met s x = true ∨ x = b := by
  unfold met
  by_cases h : x = b
  · subst h
    have := (List.getElem?_eq_some_iff.1 hb).1
    simp [this]
  · rw [List.getElem?_set_ne (Ne.symm h)]
    simp [h]
theorem WInv.step {g : List (List Nat)} {S : List Bool} {D : List Nat} {root : Nat} {s : Ws} {new : List Nat} (h : WInv g S D root s new) (hp : s.path ≠ []) : ∃ new', WInv g S D root (stepW g s) new' := by
  obtain ⟨seen, done, path⟩ := s
  cases path with
  | nil => exact absurd rfl hp
  | cons x p =>
    obtain ⟨a, k⟩ := x
    obtain ⟨h1, h2, h3, h4, h5, h6, h7, h8, h9, h10, h11⟩ := h
    simp only [List.map_cons] at h1 h2 h3 h4 h5 h6 h7 h8 h9 h10 h11
    unfold stepW
    simp only []
    cases hb : (succs g a)[k]? with
    | none =>
      have hk : (succs g a).length ≤ k := List.getElem?_eq_none_iff.1 hb
      have hall : ∀ y ∈ succs g a, met seen y = true := fun y hy => h7 (a, k) (by simp) y (by rw [List.take_of_length_le hk]; exact hy)
      have hperm : (new ++ a :: p.map (·.1)).Perm ((new ++ [a]) ++ p.map (·.1)) := by simp
      refine ⟨new ++ [a], h1, by simp [h2], ?_, hperm.nodup_iff.1 h4, fun x hx => h5 x (hperm.symm.subset hx), ?_, fun q hq => h7 q (by simp [hq]), (List.pairwise_cons.1 h8).2, fun x hx => h9 x (hperm.symm.subset hx), ?_, hperm.subset h11⟩
      · intro x
        rw [h3 x]
        simp only [List.mem_append, List.mem_cons, List.mem_singleton]
        constructor
        · rintro (q | q | q | q)
          · exact .inl q
          · exact .inr (.inl (.inl q))
          · exact .inr (.inl (.inr (by simpa using q)))
          · exact .inr (.inr q)
        · rintro (q | (q | q) | q)
          · exact .inl q
          · exact .inr (.inl q)
          · exact .inr (.inr (.inl (by simpa using q)))
          · exact .inr (.inr (.inr q))
      · intro x hx y hy
        rcases List.mem_append.1 hx with hx | hx
        · exact h6 x hx y hy
        · obtain rfl := List.mem_singleton.1 hx
          exact hall y hy
      · intro D1 u D2 hD x hx y hy hny hSy
        rcases List.eq_nil_or_concat D2 with rfl | ⟨D3, z, rfl⟩
        · have hD' := List.append_inj' hD rfl
          obtain ⟨rfl, hau⟩ := hD'
          simp only [List.cons.injEq, and_true] at hau
          subst hau
          have hmy : met seen y = true := by
            rcases List.mem_append.1 hx with hx | hx
            · exact h6 x hx y hy
            · obtain rfl := List.mem_singleton.1 hx
              exact hall y hy
          rcases (h3 y).1 hmy with q | q | q
          · rw [hSy] at q; cases q
          · exact absurd (List.mem_append_left _ q) hny
          · rcases List.mem_cons.1 q with q | q
            · exact absurd (by simp [q]) hny
            · exact (List.pairwise_cons.1 h8).1 y q
        · have hD' : new ++ [a] = (D1 ++ u :: D3) ++ [z] := by rw [hD]; simp
          have := List.append_inj' hD' rfl
          exact h10 D1 u D3 this.1 x hx y hy hny hSy
    | some b =>
      simp only []
      have hab : b ∈ succs g a := List.mem_of_getElem? hb
      have htake : (succs g a).take (k + 1) = (succs g a).take k ++ [b] := by rw [List.take_add_one, hb]; rfl
      cases hm : met seen b with
      | true =>
        simp only [if_true]
        refine ⟨new, h1, h2, h3, h4, h5, h6, ?_, h8, h9, h10, h11⟩
        intro q hq y hy
        rcases List.mem_cons.1 hq with rfl | hq
        · simp only [htake] at hy
          rcases List.mem_append.1 hy with hy | hy
          · exact h7 (a, k) (by simp) y hy
          · obtain rfl := List.mem_singleton.1 hy; exact hm
        · exact h7 q (by simp [hq]) y hy
      | false =>
        simp only [if_false, Bool.false_eq_true]
        have hset := met_set (met_false hm)
        have hSb : met S b = false := by
          cases hq : met S b with
          | false => rfl
          | true => rw [(h3 b).2 (.inl hq)] at hm; cases hm
        have hnb : b ∉ new ++ a :: p.map (·.1) := fun hin => by
          rw [(h3 b).2 (.inr (by simpa using hin))] at hm; cases hm
        have hra : Rch g (fun x => met S x = false) root b := (h9 a (by simp)).snoc hab hSb
        refine ⟨new, by simpa using h1, h2, ?_, ?_, ?_, ?_, ?_, ?_, ?_, h10, ?_⟩
        · intro x
          rw [hset x, h3 x]
          simp only [List.map_cons, List.mem_cons]
          constructor
          · rintro ((q | q | q) | q)
            · exact .inl q
            · exact .inr (.inl q)
            · exact .inr (.inr (.inr q))
            · exact .inr (.inr (.inl q))
          · rintro (q | q | q | q)
            · exact .inl (.inl q)
            · exact .inl (.inr (.inl q))
            · exact .inr q
            · exact .inl (.inr (.inr q))
        · have : (b :: (new ++ a :: p.map (·.1))).Nodup := List.nodup_cons.2 ⟨hnb, h4⟩
          exact (List.Perm.nodup_iff (by simpa using (List.perm_middle (a := b) (l₁ := new) (l₂ := a :: p.map (·.1))).symm)).1 this
        · intro x hx
          simp only [List.map_cons, List.mem_append, List.mem_cons] at hx
          rcases hx with hx | hx | hx
          · exact h5 x (by simp [hx])
          · subst hx; exact hSb
          · exact h5 x (by simp only [List.mem_append, List.mem_cons]; exact .inr hx)
        · intro x hx y hy
          exact (hset y).2 (.inl (h6 x hx y hy))
        · intro q hq y hy
          rcases List.mem_cons.1 hq with rfl | hq
          · simp at hy
          rcases List.mem_cons.1 hq with rfl | hq
          · simp only [htake] at hy
            rcases List.mem_append.1 hy with hy | hy
            · exact (hset y).2 (.inl (h7 (a, k) (by simp) y hy))
            · exact (hset y).2 (.inr (List.mem_singleton.1 hy))
          · exact (hset y).2 (.inl (h7 q (by simp [hq]) y hy))
        · simp only [List.map_cons]
          refine List.pairwise_cons.2 ⟨fun y hy => ?_, h8⟩
          have hya : Rch g (fun x => met S x = false) y a := by
            rcases List.mem_cons.1 hy with rfl | hy
            · exact .refl (h5 y (by simp))
            · exact (List.pairwise_cons.1 h8).1 y hy
          exact hya.snoc hab hSb
        · intro x hx
          simp only [List.map_cons, List.mem_append, List.mem_cons] at hx
          rcases hx with hx | hx | hx
          · exact h9 x (by simp [hx])
          · subst hx; exact hra
          · exact h9 x (by simp only [List.mem_append, List.mem_cons]; exact .inr hx)
        · simp only [List.map_cons, List.mem_append, List.mem_cons] at h11 ⊢
          rcases h11 with q | q
          · exact .inl q
          · exact .inr (.inr q)
/-- What a walk does, from what was not met. -/
structure Walked (g : List (List Nat)) (S : List Bool) (root : Nat) (S' : List Bool) (new : List Nat) : Prop where
  len : S'.length = S.length
  seen : ∀ x, met S' x = true ↔ met S x = true ∨ x ∈ new
  nodup : new.Nodup
  fresh : ∀ x ∈ new, met S x = false
  closed : ∀ x ∈ new, ∀ y ∈ succs g x, met S' y = true
  reach : ∀ x ∈ new, Rch g (fun x => met S x = false) root x
  back : ∀ D1 u D2, new = D1 ++ u :: D2 → ∀ x ∈ D1 ++ [u], ∀ y ∈ succs g x, y ∉ D1 ++ [u] → met S y = false → Rch g (fun x => met S x = false) y u
  root : root ∈ new
theorem walkF_met {g : List (List Nat)} {fr : Nat} {seen : List Bool} {done : List Nat} (h : met seen fr = true) : walkF g fr seen done = (seen, done) := by unfold walkF; rw [if_pos h]
theorem walkF_new {g : List (List Nat)} {fr : Nat} {seen : List Bool} {done : List Nat} (h : met seen fr = false) : ∃ new, (walkF g fr seen done).2 = done ++ new ∧ Walked g seen fr (walkF g fr seen done).1 new := by
  have h0 : WInv g seen done fr ⟨seen.set fr true, done, [(fr, 0)]⟩ [] := by
    refine ⟨by simp, by simp, fun x => ?_, by simp, fun x hx => ?_, nofun, fun p hp y hy => ?_, by simp, fun x hx => ?_, fun D1 u D2 hD => by simp at hD, by simp⟩
    · rw [met_set (met_false h)]; simp
    · simp at hx; subst hx; exact h
    · simp at hp; subst hp; simp at hy
    · simp at hx; subst hx; exact .refl h
  obtain ⟨⟨new, q1, q2, q3, q4, q5, q6, q7, q8, q9, q10, q11⟩, hp⟩ := runW_inv g (fun s => ∃ new, WInv g seen done fr s new) (fun s hs ⟨new, hw⟩ => hw.step hs) _ _ (Nat.le_refl _) ⟨[], h0⟩
  rw [hp] at q3 q4 q5 q7 q9 q11
  unfold walkF
  rw [if_neg (by rw [h]; exact Bool.false_ne_true)]
  exact ⟨new, q2, q1, fun x => by rw [q3 x]; simp, by simpa using q4, fun x hx => q5 x (by simpa using hx), q6, fun x hx => q9 x (by simpa using hx), q10, by simpa using q11⟩
end Go.Proofs.Ytibkdjjdfcpdaaa
end

section
/- The groups of a graph, as plain functions: the strongly connected parts. -/
namespace Go.Proofs.Ytibkdjjdfcpdaaa
/-- All ends of the graph's edges are things. -/
def Rng (g : List (List Nat)) : Prop := ∀ a, ∀ b ∈ succs g a, b < g.length
abbrev Rc (g : List (List Nat)) (a b : Nat) : Prop := Rch g (fun _ => True) a b
theorem succs_lt {g : List (List Nat)} {a b : Nat} (h : b ∈ succs g a) : a < g.length := by
  unfold succs at h
  cases ha : g[a]? with
  | none => rw [ha] at h; simp at h
  | some l => exact (List.getElem?_eq_some_iff.1 ha).1
theorem met_lt {S : List Bool} {x : Nat} (h : met S x = false) : x < S.length := (List.getElem?_eq_some_iff.1 (met_false h)).1
def walksF (g : List (List Nat)) (l : List Nat) (s : List Bool × List Nat) : List Bool × List Nat := l.foldl (fun s i => walkF g i s.1 s.2) s
/-- What holds between two walks: what was met is what is finished. -/
structure Dfs (g : List (List Nat)) (S : List Bool) (D : List Nat) : Prop where
  len : S.length = g.length
  seen : ∀ x, met S x = true ↔ g.length ≤ x ∨ x ∈ D
  nodup : D.Nodup
  lt : ∀ x ∈ D, x < g.length
  back : ∀ D1 u D2, D = D1 ++ u :: D2 → ∀ x ∈ D1 ++ [u], ∀ y ∈ succs g x, y ∉ D1 ++ [u] → Rc g y u
theorem Dfs.start (g : List (List Nat)) : Dfs g (List.replicate g.length false) [] := by
  refine ⟨by simp, fun x => ?_, List.nodup_nil, nofun, fun D1 u D2 h => by simp at h⟩
  unfold met
  rw [List.getElem?_replicate]
  split <;> simp <;> omega
theorem Dfs.walk {g : List (List Nat)} (hr : Rng g) {S : List Bool} {D : List Nat} (h : Dfs g S D) (hc : ∀ x ∈ D, ∀ y ∈ succs g x, met S y = true) (i : Nat) (hi : i < g.length) :
    Dfs g (walkF g i S D).1 (walkF g i S D).2 ∧ (∀ x ∈ (walkF g i S D).2, ∀ y ∈ succs g x, met (walkF g i S D).1 y = true) ∧ i ∈ (walkF g i S D).2 ∧ ∀ x ∈ D, x ∈ (walkF g i S D).2 := by
  cases hm : met S i with
  | true =>
    rw [walkF_met hm]
    refine ⟨h, hc, ?_, fun x hx => hx⟩
    rcases (h.seen i).1 hm with q | q
    · omega
    · exact q
  | false =>
    obtain ⟨new, e1, hw⟩ := walkF_new (g := g) (fr := i) (seen := S) (done := D) hm
    rw [e1]
    generalize (walkF g i S D).1 = S' at hw ⊢
    refine ⟨⟨hw.len.trans h.len, fun x => ?_, ?_, fun x hx => ?_, fun D1 u D2 hD x hx y hy hny => ?_⟩, fun x hx y hy => ?_, List.mem_append_right _ hw.root, fun x hx => List.mem_append_left _ hx⟩
    · rw [hw.seen x, h.seen x, List.mem_append]
      constructor
      · rintro ((q | q) | q)
        · exact .inl q
        · exact .inr (.inl q)
        · exact .inr (.inr q)
      · rintro (q | q | q)
        · exact .inl (.inl q)
        · exact .inl (.inr q)
        · exact .inr q
    · refine List.nodup_append.2 ⟨h.nodup, hw.nodup, fun x hx y hy e => ?_⟩
      subst e
      have := hw.fresh x hy
      rw [(h.seen x).2 (.inr hx)] at this
      cases this
    · rcases List.mem_append.1 hx with hx | hx
      · exact h.lt x hx
      · have := met_lt (hw.fresh x hx)
        rw [h.len] at this; exact this
    · rcases List.append_eq_append_iff.1 hD with ⟨D3, e2, e3⟩ | ⟨D3, e2, e3⟩
      · -- in the new part
        subst e2
        cases hmy : met S y with
        | true =>
          rcases (h.seen y).1 hmy with q | q
          · have := hr x y hy; omega
          · exact absurd (by simp [q]) hny
        | false =>
          rw [List.append_assoc] at hx
          rcases List.mem_append.1 hx with hx | hx
          · rw [hc x hx y hy] at hmy; cases hmy
          · refine (hw.back D3 u D2 e3 x hx y hy (fun hin => hny ?_) hmy).mono fun _ _ => trivial
            rw [List.append_assoc]
            exact List.mem_append_right _ hin
      · cases D3 with
        | nil =>
          simp only [List.append_nil] at e2
          subst e2
          cases hmy : met S y with
          | true =>
            rcases (h.seen y).1 hmy with q | q
            · have := hr x y hy; omega
            · exact absurd (by simp [q]) hny
          | false =>
            rcases List.mem_append.1 hx with hx | hx
            · rw [hc x hx y hy] at hmy; cases hmy
            · refine (hw.back [] u D2 (by simpa using e3.symm) x (by simpa using hx) y hy (fun hin => hny ?_) hmy).mono fun _ _ => trivial
              exact List.mem_append_right _ (by simpa using hin)
        | cons z D3 =>
          simp only [List.cons_append, List.cons.injEq] at e3
          obtain ⟨rfl, _⟩ := e3
          exact h.back D1 u D3 e2 x hx y hy hny
    · rcases List.mem_append.1 hx with hx | hx
      · exact (hw.seen y).2 (.inl (hc x hx y hy))
      · exact hw.closed x hx y hy
theorem walks_dfs {g : List (List Nat)} (hr : Rng g) : ∀ (l : List Nat) (S : List Bool) (D : List Nat), Dfs g S D → (∀ x ∈ D, ∀ y ∈ succs g x, met S y = true) → (∀ i ∈ l, i < g.length) →
    Dfs g (walksF g l (S, D)).1 (walksF g l (S, D)).2 ∧ (∀ i ∈ l, i ∈ (walksF g l (S, D)).2) ∧ ∀ x ∈ D, x ∈ (walksF g l (S, D)).2
  | [], S, D, h, _, _ => ⟨h, nofun, fun x hx => hx⟩
  | i :: l, S, D, h, hc, hl => by
    obtain ⟨w1, w2, w3, w4⟩ := h.walk hr hc i (hl i (by simp))
    obtain ⟨v1, v2, v3⟩ := walks_dfs hr l _ _ w1 w2 (fun j hj => hl j (by simp [hj]))
    refine ⟨v1, fun j hj => ?_, fun x hx => v3 x (w4 x hx)⟩
    rcases List.mem_cons.1 hj with rfl | hj
    · exact v3 _ w3
    · exact v2 j hj
/-- The order in which the things are finished. -/
def doneF (g : List (List Nat)) : List Nat := (walksF g (List.range g.length) (List.replicate g.length false, [])).2
theorem done_dfs {g : List (List Nat)} (hr : Rng g) : ∃ S, Dfs g S (doneF g) ∧ ∀ i, i < g.length → i ∈ doneF g := by
  obtain ⟨v1, v2, _⟩ := walks_dfs hr (List.range g.length) _ _ (Dfs.start g) nofun (fun i hi => List.mem_range.1 hi)
  exact ⟨_, v1, fun i hi => v2 i (List.mem_range.2 hi)⟩

/-! ### The graph turned round -/
def backRow (a : Nat) (l : List Nat) (bk : List (List Nat)) : List (List Nat) := l.foldl (fun bk b => bk.modify b (· ++ [a])) bk
def backFrom : List (List Nat) → Nat → List (List Nat) → List (List Nat)
  | [], _, bk => bk
  | l :: r, a, bk => backFrom r (a + 1) (backRow a l bk)
def backOf (g : List (List Nat)) : List (List Nat) := backFrom g 0 (List.replicate g.length [])
theorem backRow_length (a : Nat) : ∀ (l : List Nat) (bk : List (List Nat)), (backRow a l bk).length = bk.length
  | [], _ => rfl
  | b :: l, bk => by
    show (backRow a l (bk.modify b (· ++ [a]))).length = _
    rw [backRow_length a l, List.length_modify]
theorem backFrom_length : ∀ (g : List (List Nat)) (a : Nat) (bk : List (List Nat)), (backFrom g a bk).length = bk.length
  | [], _, _ => rfl
  | l :: r, a, bk => by
    show (backFrom r (a + 1) (backRow a l bk)).length = _
    rw [backFrom_length r, backRow_length]
theorem backOf_length (g : List (List Nat)) : (backOf g).length = g.length := by unfold backOf; rw [backFrom_length]; simp
theorem succs_modify {bk : List (List Nat)} {b : Nat} (hb : b < bk.length) (a x c : Nat) : x ∈ succs (bk.modify b (· ++ [a])) c ↔ x ∈ succs bk c ∨ (c = b ∧ x = a) := by
  unfold succs
  rw [List.getElem?_modify]
  by_cases h : b = c
  · subst h
    simp [hb]
  · have h' : ¬ c = b := fun e => h e.symm
    simp [h, h']
theorem backRow_mem (a x c : Nat) : ∀ (l : List Nat) (bk : List (List Nat)), (∀ b ∈ l, b < bk.length) → (x ∈ succs (backRow a l bk) c ↔ x ∈ succs bk c ∨ (c ∈ l ∧ x = a))
  | [], bk, _ => by simp [backRow]
  | b :: l, bk, h => by
    show x ∈ succs (backRow a l (bk.modify b (· ++ [a]))) c ↔ _
    rw [backRow_mem a x c l _ (fun b' hb' => by rw [List.length_modify]; exact h b' (by simp [hb'])), succs_modify (h b (by simp))]
    simp only [List.mem_cons]
    constructor
    · rintro ((q | q) | q)
      · exact .inl q
      · exact .inr ⟨.inl q.1, q.2⟩
      · exact .inr ⟨.inr q.1, q.2⟩
    · rintro (q | ⟨q | q, e⟩)
      · exact .inl (.inl q)
      · exact .inl (.inr ⟨q, e⟩)
      · exact .inr ⟨q, e⟩
theorem backFrom_mem (x c : Nat) : ∀ (g : List (List Nat)) (a : Nat) (bk : List (List Nat)), (∀ l ∈ g, ∀ b ∈ l, b < bk.length) → (x ∈ succs (backFrom g a bk) c ↔ x ∈ succs bk c ∨ (a ≤ x ∧ c ∈ succs g (x - a)))
  | [], a, bk, _ => by simp [backFrom, succs]
  | l :: r, a, bk, h => by
    show x ∈ succs (backFrom r (a + 1) (backRow a l bk)) c ↔ _
    rw [backFrom_mem x c r (a + 1) _ (fun l' hl' b hb => by rw [backRow_length]; exact h l' (by simp [hl']) b hb), backRow_mem a x c l bk (h l (by simp))]
    constructor
    · rintro ((q | ⟨q, rfl⟩) | ⟨q1, q2⟩)
      · exact .inl q
      · exact .inr ⟨Nat.le_refl _, by simpa [succs] using q⟩
      · refine .inr ⟨by omega, ?_⟩
        rw [show x - a = (x - (a + 1)) + 1 by omega]
        simpa [succs] using q2
    · rintro (q | ⟨q1, q2⟩)
      · exact .inl (.inl q)
      · by_cases e : x = a
        · subst e
          exact .inl (.inr ⟨by simpa [succs] using q2, rfl⟩)
        · refine .inr ⟨by omega, ?_⟩
          rw [show x - a = (x - (a + 1)) + 1 by omega] at q2
          simpa [succs] using q2
theorem backOf_mem {g : List (List Nat)} (hr : Rng g) (x c : Nat) : x ∈ succs (backOf g) c ↔ c ∈ succs g x := by
  unfold backOf
  rw [backFrom_mem x c g 0 _ (fun l hl b hb => by
    obtain ⟨i, hi⟩ := List.getElem?_of_mem hl
    simp only [List.length_replicate]
    exact hr i b (by unfold succs; rw [hi]; exact hb))]
  have : x ∉ succs (List.replicate g.length ([] : List Nat)) c := by
    unfold succs
    rw [List.getElem?_replicate]
    split <;> simp
  simp [this]
theorem back_rng {g : List (List Nat)} (hr : Rng g) : Rng (backOf g) := fun a b hb => by
  rw [backOf_length]
  exact succs_lt ((backOf_mem hr b a).1 hb)
theorem back_rch {g : List (List Nat)} (hr : Rng g) {ok : Nat → Prop} {a b : Nat} (h : Rch (backOf g) ok a b) : Rch g ok b a := by
  induction h with
  | refl h1 => exact .refl h1
  | step h1 h2 _ ih => exact ih.snoc ((backOf_mem hr _ _).1 h2) h1

/-! ### The groups -/
def circStep (bk : List (List Nat)) (s : List Nat × Nat × List Bool) (i : Nat) : List Nat × Nat × List Bool :=
  ((walkF bk i s.2.2 []).2.foldl (fun l k => l.set k s.2.1) s.1, if (walkF bk i s.2.2 []).2 = [] then s.2.1 else s.2.1 + 1, (walkF bk i s.2.2 []).1)
def circF (g : List (List Nat)) : List Nat × Nat × List Bool := (doneF g).reverse.foldl (circStep (backOf g)) (List.replicate g.length 0, 0, List.replicate g.length false)
def gOf (l : List Nat) (x : Nat) : Nat := l[x]?.getD 0
theorem sets_length (c : Nat) : ∀ (ks : List Nat) (l : List Nat), (ks.foldl (fun l k => l.set k c) l).length = l.length
  | [], _ => rfl
  | k :: ks, l => by
    rw [List.foldl_cons, sets_length c ks, List.length_set]
theorem sets_get (c x : Nat) : ∀ (ks : List Nat) (l : List Nat), (∀ k ∈ ks, k < l.length) → gOf (ks.foldl (fun l k => l.set k c) l) x = if x ∈ ks then c else gOf l x
  | [], l, _ => by simp
  | k :: ks, l, h => by
    rw [List.foldl_cons, sets_get c x ks _ (fun j hj => by rw [List.length_set]; exact h j (by simp [hj]))]
    by_cases hx : x ∈ ks
    · simp [hx]
    · simp only [hx, if_false, List.mem_cons, or_false]
      unfold gOf
      by_cases e : x = k
      · subst e; simp [h x (by simp)]
      · rw [List.getElem?_set_ne (Ne.symm e)]; simp [e]
/-- What holds between two groups: those that were met have their groups. -/
structure Circ (g : List (List Nat)) (s : List Nat × Nat × List Bool) : Prop where
  len : s.1.length = g.length
  slen : s.2.2.length = g.length
  lt : ∀ x, x < g.length → met s.2.2 x = true → gOf s.1 x < s.2.1
  onto : ∀ c, c < s.2.1 → ∃ x, x < g.length ∧ met s.2.2 x = true ∧ gOf s.1 x = c
  edge : ∀ a b, b ∈ succs g a → met s.2.2 b = true → met s.2.2 a = true ∧ gOf s.1 a ≤ gOf s.1 b
  scc : ∀ x y, x < g.length → y < g.length → met s.2.2 x = true → met s.2.2 y = true → (gOf s.1 x = gOf s.1 y ↔ Rc g x y ∧ Rc g y x)
theorem Circ.closed {g : List (List Nat)} {s : List Nat × Nat × List Bool} (h : Circ g s) {a b : Nat} (hp : Rc g a b) (hb : met s.2.2 b = true) : met s.2.2 a = true := by
  induction hp with
  | refl _ => exact hb
  | step _ h2 _ ih => exact (h.edge _ _ h2 (ih hb)).1
/-- From what comes ahead of i in the order of finishing, and leads to i over such, i leads back. -/
theorem dfs_back {g : List (List Nat)} {S : List Bool} {D D1 D2 : List Nat} {i : Nat} (h : Dfs g S D) (hD : D = D1 ++ i :: D2) {ok : Nat → Prop} (hok : ∀ y, ok y → y ∈ D1 ++ [i]) {x j : Nat} (hp : Rch g ok x j) (hj : j = i) :
    Rc g i x ∧ ∀ A : List Nat, x ∈ A → i ∉ A → ∃ z y, z ∈ A ∧ y ∈ succs g z ∧ y ∉ A ∧ Rc g i y := by
  induction hp with
  | refl h1 =>
    subst hj
    exact ⟨.refl trivial, fun A h2 h3 => absurd h2 h3⟩
  | @step a b c h1 h2 h3 ih =>
    obtain ⟨i1, i2⟩ := ih hj
    have hA : ∀ A : List Nat, a ∈ A → i ∉ A → ∃ z y, z ∈ A ∧ y ∈ succs g z ∧ y ∉ A ∧ Rc g i y := fun A ha hi => by
      by_cases hb : b ∈ A
      · exact i2 A hb hi
      · exact ⟨a, b, ha, h2, hb, i1⟩
    refine ⟨?_, hA⟩
    rcases List.mem_append.1 (hok _ h1) with q | q
    · obtain ⟨E1, E2, rfl⟩ := List.append_of_mem q
      have hnd := h.nodup
      rw [hD] at hnd
      have hi : i ∉ E1 ++ [a] := fun hin => by
        have h4 := (List.nodup_append.1 hnd).2.2 i (by
          rcases List.mem_append.1 hin with w | w
          · simp [w]
          · simp [List.mem_singleton.1 w]) i (by simp)
        exact h4 rfl
      obtain ⟨z, y, z1, z2, z3, z4⟩ := hA (E1 ++ [a]) (by simp) hi
      exact z4.trans (h.back E1 a (E2 ++ i :: D2) (by rw [hD]; simp) z z1 y z2 z3)
    · obtain rfl := List.mem_singleton.1 q
      exact .refl trivial
theorem Circ.step {g : List (List Nat)} (hr : Rng g) {S : List Bool} {D D1 D2 : List Nat} {i : Nat} (h : Dfs g S D) (hD : D = D1 ++ i :: D2) {s : List Nat × Nat × List Bool} (hs : Circ g s)
    (hun : ∀ x, met s.2.2 x = false → x ∈ D1 ++ [i]) : Circ g (circStep (backOf g) s i) ∧ met (circStep (backOf g) s i).2.2 i = true ∧ ∀ x, met s.2.2 x = true → met (circStep (backOf g) s i).2.2 x = true := by
  obtain ⟨gr, cnt, seen⟩ := s
  unfold circStep
  simp only [] at hun ⊢
  cases hm : met seen i with
  | true =>
    rw [walkF_met hm]
    simp only [List.foldl_nil, if_true]
    exact ⟨hs, hm, fun x hx => hx⟩
  | false =>
    obtain ⟨new, e1, hw⟩ := walkF_new (g := backOf g) (fr := i) (seen := seen) (done := []) hm
    rw [e1, List.nil_append]
    generalize (walkF (backOf g) i seen []).1 = S' at hw ⊢
    have hne : new ≠ [] := fun e => by have := hw.root; rw [e] at this; cases this
    rw [if_neg hne]
    have hs2 : seen.length = g.length := hs.slen
    have hnl : ∀ k ∈ new, k < gr.length := fun k hk => by
      have h1 := met_lt (hw.fresh k hk)
      have h2 : gr.length = g.length := hs.len
      omega
    have hget : ∀ x, gOf (new.foldl (fun l k => l.set k cnt) gr) x = if x ∈ new then cnt else gOf gr x := fun x => sets_get cnt x new gr hnl
    have hmut : ∀ x ∈ new, Rc g i x ∧ Rc g x i := fun x hx => by
      have hp := back_rch hr (hw.reach x hx)
      exact ⟨(dfs_back h hD hun hp rfl).1, hp.mono fun _ _ => trivial⟩
    have hold : ∀ x, met seen x = true → x ∉ new := fun x hx hin => by rw [hw.fresh x hin] at hx; cases hx
    refine ⟨⟨?_, ?_, fun x hx hmx => ?_, fun c hc => ?_, fun a b hb hmb => ?_, fun x y hx hy hmx hmy => ?_⟩, (hw.seen i).2 (.inr hw.root), fun x hx => (hw.seen x).2 (.inl hx)⟩
    · show (new.foldl (fun l k => l.set k cnt) gr).length = _
      rw [sets_length]; exact hs.len
    · show S'.length = _
      rw [hw.len]; exact hs.slen
    · show gOf (new.foldl (fun l k => l.set k cnt) gr) x < cnt + 1
      rw [hget x]
      split
      · omega
      · rename_i hn
        rcases (hw.seen x).1 hmx with q | q
        · have : gOf gr x < cnt := hs.lt x hx q
          omega
        · exact absurd q hn
    · show ∃ x, x < g.length ∧ met S' x = true ∧ gOf (new.foldl (fun l k => l.set k cnt) gr) x = c
      have hc : c < cnt + 1 := hc
      by_cases e : c = cnt
      · refine ⟨i, by rw [← hs2]; exact met_lt hm, (hw.seen i).2 (.inr hw.root), ?_⟩
        rw [hget i, if_pos hw.root, e]
      · obtain ⟨x, x1, x2, x3⟩ := hs.onto c (by show c < cnt; omega)
        refine ⟨x, x1, (hw.seen x).2 (.inl x2), ?_⟩
        rw [hget x, if_neg (hold x x2)]; exact x3
    · show met S' a = true ∧ gOf (new.foldl (fun l k => l.set k cnt) gr) a ≤ gOf (new.foldl (fun l k => l.set k cnt) gr) b
      rcases (hw.seen b).1 hmb with q | q
      · obtain ⟨w1, w2⟩ := hs.edge a b hb q
        refine ⟨(hw.seen a).2 (.inl w1), ?_⟩
        rw [hget a, hget b, if_neg (hold a w1), if_neg (hold b q)]; exact w2
      · have ha : met S' a = true := hw.closed b q a ((backOf_mem hr a b).2 hb)
        refine ⟨ha, ?_⟩
        rw [hget a, hget b, if_pos q]
        split
        · exact Nat.le_refl _
        · rename_i hn
          rcases (hw.seen a).1 ha with z | z
          · have : gOf gr a < cnt := hs.lt a (succs_lt hb) z
            omega
          · exact absurd z hn
    · show gOf (new.foldl (fun l k => l.set k cnt) gr) x = gOf (new.foldl (fun l k => l.set k cnt) gr) y ↔ _
      have hmix : ∀ x y, x ∈ new → met seen y = true → ¬ Rc g x y := fun x y hxn hyo hp => by
        have := hs.closed hp hyo
        have h2 := hw.fresh x hxn
        have h3 : met seen x = true := this
        rw [h3] at h2; cases h2
      rw [hget x, hget y]
      rcases (hw.seen x).1 hmx with q | q <;> rcases (hw.seen y).1 hmy with z | z
      · rw [if_neg (hold x q), if_neg (hold y z)]
        exact hs.scc x y hx hy q z
      · rw [if_neg (hold x q), if_pos z]
        have : gOf gr x < cnt := hs.lt x hx q
        exact ⟨fun e => by omega, fun w => absurd w.2 (hmix y x z q)⟩
      · rw [if_pos q, if_neg (hold y z)]
        have : gOf gr y < cnt := hs.lt y hy z
        exact ⟨fun e => by omega, fun w => absurd w.1 (hmix x y q z)⟩
      · rw [if_pos q, if_pos z]
        exact ⟨fun _ => ⟨(hmut x q).2.trans (hmut y z).1, (hmut y z).2.trans (hmut x q).1⟩, fun _ => rfl⟩
theorem circ_fold {g : List (List Nat)} (hr : Rng g) {S : List Bool} {D : List Nat} (h : Dfs g S D) : ∀ (l D1 : List Nat) (D2 : List Nat), D = D1 ++ D2 → l = D1.reverse → ∀ s, Circ g s → (∀ x, met s.2.2 x = false → x ∈ D1) →
    Circ g (l.foldl (circStep (backOf g)) s) ∧ ∀ x, met (l.foldl (circStep (backOf g)) s).2.2 x = false → False := by
  intro l
  induction l with
  | nil =>
    intro D1 D2 hD hl s hs hun
    have : D1 = [] := by simpa using hl.symm
    subst this
    exact ⟨hs, fun x hx => absurd (hun x hx) (by simp)⟩
  | cons i l ih =>
    intro D1 D2 hD hl s hs hun
    obtain ⟨D3, rfl⟩ : ∃ D3, D1 = D3 ++ [i] := by
      have := congrArg List.reverse hl
      rw [List.reverse_reverse, List.reverse_cons] at this
      exact ⟨_, this.symm⟩
    obtain ⟨w1, w2, w3⟩ := hs.step hr h (D1 := D3) (D2 := D2) (i := i) (by rw [hD]; simp) hun
    refine ih D3 (i :: D2) (by rw [hD]; simp) (by simpa using hl) _ w1 fun x hx => ?_
    have hx0 : met s.2.2 x = false := by
      cases hq : met s.2.2 x with
      | false => rfl
      | true => rw [w3 x hq] at hx; cases hx
    rcases List.mem_append.1 (hun x hx0) with q | q
    · exact q
    · obtain rfl := List.mem_singleton.1 q
      rw [w2] at hx; cases hx
/-- The groups of the things: the strongly connected parts; an edge leads to the same group or to a later one. -/
theorem circF_spec {g : List (List Nat)} (hr : Rng g) : (circF g).1.length = g.length ∧ (∀ x, x < g.length → gOf (circF g).1 x < (circF g).2.1) ∧ (∀ c, c < (circF g).2.1 → ∃ x, x < g.length ∧ gOf (circF g).1 x = c) ∧
    (∀ a b, b ∈ succs g a → gOf (circF g).1 a ≤ gOf (circF g).1 b) ∧ ∀ x y, x < g.length → y < g.length → (gOf (circF g).1 x = gOf (circF g).1 y ↔ Rc g x y ∧ Rc g y x) := by
  obtain ⟨S, h, hall⟩ := done_dfs hr
  have hm0 : ∀ x, met (List.replicate g.length false) x = true → g.length ≤ x := fun x hx => by
    unfold met at hx
    rw [List.getElem?_replicate] at hx
    split at hx
    · simp at hx
    · omega
  have h0 : Circ g (List.replicate g.length 0, 0, List.replicate g.length false) := by
    refine ⟨by simp, by simp, fun x hx hm => ?_, fun c hc => absurd hc (Nat.not_lt_zero _), fun a b hb hm => ?_, fun x y hx hy hm _ => ?_⟩
    · have := hm0 x hm; omega
    · have := hm0 b hm
      have := hr a b hb
      omega
    · have := hm0 x hm; omega
  obtain ⟨w1, w2⟩ := circ_fold hr h (doneF g).reverse (doneF g) [] (by simp) rfl _ h0 (fun x hx => by
    refine hall x ?_
    have := met_lt hx
    simpa using this)
  have hmet : ∀ x, met (circF g).2.2 x = true := fun x => by
    cases hq : met (circF g).2.2 x with
    | true => rfl
    | false => exact (w2 x hq).elim
  exact ⟨w1.len, fun x hx => w1.lt x hx (hmet x), fun c hc => by
    obtain ⟨x, x1, _, x3⟩ := w1.onto c hc
    exact ⟨x, x1, x3⟩, fun a b hb => (w1.edge a b hb (hmet b)).2, fun x y hx hy => w1.scc x y hx hy (hmet x) (hmet y)⟩
end Go.Proofs.Ytibkdjjdfcpdaaa
end

section
/- The order in which the groups are told, as a plain function; what it answers is one and only one list. -/
namespace Go.Proofs.Ytibkdjjdfcpdaaa
def waitSet (ws : List (List Nat)) (a b : Nat) : List (List Nat) := ws.modify a fun s => if b ∈ s then s else s ++ [b]
def waitRow (gr : List Nat) (a : Nat) (l : List Nat) (ws : List (List Nat)) : List (List Nat) := l.foldl (fun ws b => if gOf gr a = gOf gr b then ws else waitSet ws (gOf gr a) (gOf gr b)) ws
def waitFrom (gr : List Nat) : List (List Nat) → Nat → List (List Nat) → List (List Nat)
  | [], _, ws => ws
  | l :: r, a, ws => waitFrom gr r (a + 1) (waitRow gr a l ws)
def waitsF (g : List (List Nat)) (gr : List Nat) (cnt : Nat) : List (List Nat) := waitFrom gr g 0 (List.replicate cnt [])
theorem waitSet_length (ws : List (List Nat)) (a b : Nat) : (waitSet ws a b).length = ws.length := by simp [waitSet]
theorem waitRow_length (gr : List Nat) (a : Nat) : ∀ (l : List Nat) (ws : List (List Nat)), (waitRow gr a l ws).length = ws.length
  | [], _ => rfl
  | b :: l, ws => by
    show (waitRow gr a l (if gOf gr a = gOf gr b then ws else waitSet ws (gOf gr a) (gOf gr b))).length = _
    rw [waitRow_length gr a l]
    split
    · rfl
    · exact waitSet_length _ _ _
theorem waitFrom_length (gr : List Nat) : ∀ (g : List (List Nat)) (a : Nat) (ws : List (List Nat)), (waitFrom gr g a ws).length = ws.length
  | [], _, _ => rfl
  | l :: r, a, ws => by
    show (waitFrom gr r (a + 1) (waitRow gr a l ws)).length = _
    rw [waitFrom_length gr r, waitRow_length]
theorem waitsF_length (g : List (List Nat)) (gr : List Nat) (cnt : Nat) : (waitsF g gr cnt).length = cnt := by unfold waitsF; rw [waitFrom_length]; simp
theorem waitSet_mem {ws : List (List Nat)} {a : Nat} (ha : a < ws.length) (b n c : Nat) : c ∈ succs (waitSet ws a b) n ↔ c ∈ succs ws n ∨ (n = a ∧ c = b) := by
  unfold waitSet succs
  rw [List.getElem?_modify]
  by_cases h : a = n
  · subst h
    rw [List.getElem?_eq_getElem ha]
    simp only [if_true, Option.map_eq_map, Option.map_some, Option.getD_some, true_and]
    split
    · rename_i hb
      constructor
      · exact .inl
      · rintro (q | rfl)
        · exact q
        · exact hb
    · simp
  · have h' : ¬ n = a := fun e => h e.symm
    simp [h, h']
theorem waitSet_nodup {ws : List (List Nat)} (h : ∀ n, (succs ws n).Nodup) (a b n : Nat) : (succs (waitSet ws a b) n).Nodup := by
  have hn := h n
  unfold waitSet succs at *
  rw [List.getElem?_modify]
  by_cases e : a = n
  · subst e
    cases hq : ws[a]? with
    | none => simp
    | some s =>
      rw [hq] at hn
      simp only [if_true, Option.map_eq_map, Option.map_some, Option.getD_some] at hn ⊢
      split
      · exact hn
      · rename_i hb
        refine List.nodup_append.2 ⟨hn, by simp, fun x hx y hy exy => ?_⟩
        obtain rfl := List.mem_singleton.1 hy
        subst exy
        exact hb hx
  · simpa [e] using hn
theorem waitRow_mem (gr : List Nat) (a n c : Nat) : ∀ (l : List Nat) (ws : List (List Nat)), gOf gr a < ws.length → (c ∈ succs (waitRow gr a l ws) n ↔ c ∈ succs ws n ∨ (n = gOf gr a ∧ n ≠ c ∧ ∃ b ∈ l, gOf gr b = c))
  | [], ws, _ => by simp [waitRow]
  | b :: l, ws, h => by
    show c ∈ succs (waitRow gr a l (if gOf gr a = gOf gr b then ws else waitSet ws (gOf gr a) (gOf gr b))) n ↔ _
    by_cases e : gOf gr a = gOf gr b
    · rw [if_pos e, waitRow_mem gr a n c l ws h]
      constructor
      · rintro (q | ⟨q1, q2, b', q3, q4⟩)
        · exact .inl q
        · exact .inr ⟨q1, q2, b', by simp [q3], q4⟩
      · rintro (q | ⟨q1, q2, b', q3, q4⟩)
        · exact .inl q
        · rcases List.mem_cons.1 q3 with rfl | q3
          · exact absurd (q1.trans (e.trans q4)) q2
          · exact .inr ⟨q1, q2, b', q3, q4⟩
    · rw [if_neg e, waitRow_mem gr a n c l _ (by rw [waitSet_length]; exact h), waitSet_mem h]
      constructor
      · rintro ((q | ⟨rfl, rfl⟩) | ⟨q1, q2, b', q3, q4⟩)
        · exact .inl q
        · exact .inr ⟨rfl, e, b, by simp, rfl⟩
        · exact .inr ⟨q1, q2, b', by simp [q3], q4⟩
      · rintro (q | ⟨q1, q2, b', q3, q4⟩)
        · exact .inl (.inl q)
        · rcases List.mem_cons.1 q3 with rfl | q3
          · exact .inl (.inr ⟨q1, q4.symm⟩)
          · exact .inr ⟨q1, q2, b', q3, q4⟩
theorem waitRow_nodup (gr : List Nat) (a : Nat) : ∀ (l : List Nat) (ws : List (List Nat)), (∀ n, (succs ws n).Nodup) → ∀ n, (succs (waitRow gr a l ws) n).Nodup
  | [], _, h, n => h n
  | b :: l, ws, h, n => by
    show (succs (waitRow gr a l (if gOf gr a = gOf gr b then ws else waitSet ws (gOf gr a) (gOf gr b))) n).Nodup
    refine waitRow_nodup gr a l _ (fun m => ?_) n
    split
    · exact h m
    · exact waitSet_nodup h _ _ m
theorem waitFrom_mem (gr : List Nat) (n c : Nat) : ∀ (g : List (List Nat)) (a : Nat) (ws : List (List Nat)), (∀ i, i < g.length → gOf gr (a + i) < ws.length) → (c ∈ succs (waitFrom gr g a ws) n ↔ c ∈ succs ws n ∨ ∃ x b, a ≤ x ∧ b ∈ succs g (x - a) ∧ n = gOf gr x ∧ n ≠ c ∧ gOf gr b = c)
  | [], a, ws, _ => by simp [waitFrom, succs]
  | l :: r, a, ws, h => by
    show c ∈ succs (waitFrom gr r (a + 1) (waitRow gr a l ws)) n ↔ _
    rw [waitFrom_mem gr n c r (a + 1) _ (fun i hi => by
      rw [waitRow_length]
      have := h (i + 1) (by simp; omega)
      rwa [show a + 1 + i = a + (i + 1) by omega]), waitRow_mem gr a n c l ws (by simpa using h 0 (by simp))]
    constructor
    · rintro ((q | ⟨rfl, q2, b, q3, q4⟩) | ⟨x, b, q1, q2, q3, q4, q5⟩)
      · exact .inl q
      · exact .inr ⟨a, b, Nat.le_refl _, by simpa [succs] using q3, rfl, q2, q4⟩
      · refine .inr ⟨x, b, by omega, ?_, q3, q4, q5⟩
        rw [show x - a = (x - (a + 1)) + 1 by omega]
        simpa [succs] using q2
    · rintro (q | ⟨x, b, q1, q2, q3, q4, q5⟩)
      · exact .inl (.inl q)
      · by_cases e : x = a
        · subst e
          exact .inl (.inr ⟨q3, q4, b, by simpa [succs] using q2, q5⟩)
        · refine .inr ⟨x, b, by omega, ?_, q3, q4, q5⟩
          rw [show x - a = (x - (a + 1)) + 1 by omega] at q2
          simpa [succs] using q2
theorem waitFrom_nodup (gr : List Nat) : ∀ (g : List (List Nat)) (a : Nat) (ws : List (List Nat)), (∀ n, (succs ws n).Nodup) → ∀ n, (succs (waitFrom gr g a ws) n).Nodup
  | [], _, _, h, n => h n
  | l :: r, a, ws, h, n => waitFrom_nodup gr r (a + 1) _ (waitRow_nodup gr a l ws h) n
theorem succs_rep (cnt n : Nat) : succs (List.replicate cnt ([] : List Nat)) n = [] := by
  unfold succs
  rw [List.getElem?_replicate]
  split <;> rfl
/-- For which group a group waits: one that a thing of it uses. -/
def Waits (g : List (List Nat)) (gr : List Nat) (n c : Nat) : Prop := n ≠ c ∧ ∃ x b, b ∈ succs g x ∧ n = gOf gr x ∧ gOf gr b = c
theorem waitsF_mem {g : List (List Nat)} {gr : List Nat} {cnt : Nat} (h : ∀ i, i < g.length → gOf gr i < cnt) (n c : Nat) : c ∈ succs (waitsF g gr cnt) n ↔ Waits g gr n c := by
  unfold waitsF Waits
  rw [waitFrom_mem gr n c g 0 _ (fun i hi => by simpa using h i hi), succs_rep]
  constructor
  · rintro (q | ⟨x, b, _, q2, q3, q4, q5⟩)
    · cases q
    · exact ⟨q4, x, b, by simpa using q2, q3, q5⟩
  · rintro ⟨q4, x, b, q2, q3, q5⟩
    exact .inr ⟨x, b, Nat.zero_le _, by simpa using q2, q3, q4, q5⟩

/-! ### The order -/
def readyF (T : List Nat) (ws : List (List Nat)) (n : Nat) : Bool := !decide (n ∈ T) && (succs ws n).isEmpty
def tellStep (gr : List Nat) (s : List Nat × List (List Nat)) : List Nat × List (List Nat) := match gr.find? (readyF s.1 s.2) with
  | none => s
  | some n => (s.1 ++ [n], s.2.map fun l => l.erase n)
def tellN (gr : List Nat) : Nat → List Nat × List (List Nat) → List Nat × List (List Nat)
  | 0, s => s
  | k + 1, s => tellN gr k (tellStep gr s)
def tellF (g : List (List Nat)) : List Nat := (tellN (circF g).1 (circF g).2.1 ([], waitsF g (circF g).1 (circF g).2.1)).1
/-- What holds between two tellings. -/
structure Tell (g : List (List Nat)) (gr : List Nat) (cnt : Nat) (s : List Nat × List (List Nat)) : Prop where
  len : s.2.length = cnt
  nodup : s.1.Nodup
  lt : ∀ n ∈ s.1, n < cnt
  waits : ∀ n c, c ∈ succs s.2 n ↔ Waits g gr n c ∧ c ∉ s.1
  wnd : ∀ n, (succs s.2 n).Nodup
theorem succs_map (f : List Nat → List Nat) (hf : f [] = []) (ws : List (List Nat)) (n : Nat) : succs (ws.map f) n = f (succs ws n) := by
  unfold succs
  rw [List.getElem?_map]
  cases ws[n]? with
  | none => exact hf.symm
  | some l => rfl
theorem exists_max (p : Nat → Prop) : ∀ (cnt : Nat), (∃ n, n < cnt ∧ p n) → ∃ n, n < cnt ∧ p n ∧ ∀ m, n < m → m < cnt → ¬ p m := by
  intro cnt
  induction cnt with
  | zero => rintro ⟨n, h, _⟩; omega
  | succ cnt ih =>
    intro h
    by_cases hc : p cnt
    · exact ⟨cnt, Nat.lt_succ_self _, hc, fun m h1 h2 => by omega⟩
    · obtain ⟨n, h1, h2⟩ := h
      have hne : n ≠ cnt := fun e => by subst e; exact hc h2
      obtain ⟨m, m1, m2, m3⟩ := ih ⟨n, by omega, h2⟩
      refine ⟨m, by omega, m2, fun k k1 k2 => ?_⟩
      by_cases e : k = cnt
      · subst e; exact hc
      · exact m3 k k1 (by omega)
theorem nodup_le : ∀ {l m : List Nat}, l.Nodup → (∀ x ∈ l, x ∈ m) → l.length ≤ m.length
  | [], _, _, _ => Nat.zero_le _
  | x :: l, m, h, hs => by
    obtain ⟨h1, h2⟩ := List.nodup_cons.1 h
    have hx := hs x (by simp)
    have := nodup_le (m := m.erase x) h2 fun y hy => by
      have hne : y ≠ x := fun e => by subst e; exact h1 hy
      exact (List.mem_erase_of_ne hne).2 (hs y (by simp [hy]))
    rw [List.length_erase_of_mem hx] at this
    have := List.length_pos_of_mem hx
    simp only [List.length_cons]
    omega
theorem untold {T : List Nat} {cnt : Nat} (hn : T.Nodup) (hl : T.length < cnt) : ∃ n, n < cnt ∧ n ∉ T := by
  refine Classical.byContradiction fun hc => ?_
  have hall : ∀ n, n < cnt → n ∈ T := fun n h => Classical.byContradiction fun q => hc ⟨n, h, q⟩
  have := nodup_le (m := T) (List.nodup_range (n := cnt)) fun n h => hall n (List.mem_range.1 h)
  rw [List.length_range] at this
  omega
theorem Tell.find {g : List (List Nat)} {gr : List Nat} {cnt : Nat} {s : List Nat × List (List Nat)} (h : Tell g gr cnt s) (hl : s.1.length < cnt) (honto : ∀ c, c < cnt → ∃ x, x < gr.length ∧ gOf gr x = c) (hglt : ∀ x, x < gr.length → gOf gr x < cnt)
    (hrng : ∀ a b, b ∈ succs g a → b < gr.length) (hedge : ∀ a b, b ∈ succs g a → gOf gr a ≤ gOf gr b) : ∃ n, gr.find? (readyF s.1 s.2) = some n ∧ n < cnt ∧ n ∉ s.1 ∧ n ∈ gr := by
  obtain ⟨n, n1, n2, n3⟩ := exists_max (fun n => n ∉ s.1) cnt (untold h.nodup hl)
  obtain ⟨x, x1, x2⟩ := honto n n1
  have hng : n ∈ gr := by
    unfold gOf at x2
    rw [List.getElem?_eq_getElem x1] at x2
    rw [← x2]
    exact List.getElem_mem x1
  have hready : readyF s.1 s.2 n = true := by
    unfold readyF
    have he : succs s.2 n = [] := by
      refine List.eq_nil_iff_forall_not_mem.2 fun c hc => ?_
      obtain ⟨⟨w1, a, b, w2, w3, w4⟩, w5⟩ := (h.waits n c).1 hc
      have h1 := hedge a b w2
      have h2 := hglt b (hrng a b w2)
      exact n3 c (by omega) (by omega) w5
    rw [he]; simp [n2]
  cases hf : gr.find? (readyF s.1 s.2) with
  | none => exact absurd hready (by have := List.find?_eq_none.1 hf n hng; simpa using this)
  | some m =>
    have hm := List.find?_some hf
    have hmg := List.mem_of_find?_eq_some hf
    obtain ⟨i, hi⟩ := List.getElem?_of_mem hmg
    have hil := (List.getElem?_eq_some_iff.1 hi).1
    have := hglt i hil
    unfold gOf at this
    rw [hi] at this
    refine ⟨m, rfl, by simpa using this, ?_, hmg⟩
    unfold readyF at hm
    simp only [Bool.and_eq_true, Bool.not_eq_true', decide_eq_false_iff_not] at hm
    exact hm.1
theorem Tell.step {g : List (List Nat)} {gr : List Nat} {cnt : Nat} {s : List Nat × List (List Nat)} (h : Tell g gr cnt s) {n : Nat} (hf : gr.find? (readyF s.1 s.2) = some n) (hn : n < cnt) (hns : n ∉ s.1) : Tell g gr cnt (tellStep gr s) ∧ (tellStep gr s).1 = s.1 ++ [n] := by
  unfold tellStep
  rw [hf]
  refine ⟨⟨by simpa using h.len, ?_, fun m hm => ?_, fun m c => ?_, fun m => ?_⟩, rfl⟩
  · refine List.nodup_append.2 ⟨h.nodup, by simp, fun x hx y hy e => ?_⟩
    obtain rfl := List.mem_singleton.1 hy
    subst e; exact hns hx
  · rcases List.mem_append.1 hm with q | q
    · exact h.lt m q
    · obtain rfl := List.mem_singleton.1 q; exact hn
  · show c ∈ succs (s.2.map fun l => l.erase n) m ↔ Waits g gr m c ∧ c ∉ s.1 ++ [n]
    rw [succs_map (fun l => l.erase n) rfl, (h.wnd m).mem_erase_iff, h.waits m c, List.mem_append, List.mem_singleton]
    constructor
    · rintro ⟨q1, q2, q3⟩
      exact ⟨q2, fun q => q.elim q3 q1⟩
    · rintro ⟨q1, q2⟩
      exact ⟨fun e => q2 (.inr e), q1, fun q => q2 (.inl q)⟩
  · show (succs (s.2.map fun l => l.erase n) m).Nodup
    rw [succs_map (fun l => l.erase n) rfl]
    exact (h.wnd m).erase n

/-! ### One list alone -/
/-- x has its turn: it is not told, and all that it reaches and that isn't of its group is told. -/
def Turn (g : List (List Nat)) (T : List Nat) (x : Nat) : Prop := x < g.length ∧ x ∉ T ∧ ∀ y, Rc g x y → ¬ Rc g y x → y ∈ T
/-- The groups that are told behind those of T. -/
inductive GSpec (g : List (List Nat)) : List Nat → List (List Nat) → Prop
  | nil {T : List Nat} : (∀ x, x < g.length → x ∈ T) → GSpec g T []
  | cons {T : List Nat} {x : Nat} {c : List Nat} {r : List (List Nat)} : Turn g T x → (∀ y, y < x → ¬ Turn g T y) → c.Pairwise (· < ·) → (∀ y, y ∈ c ↔ y < g.length ∧ Rc g x y ∧ Rc g y x) → GSpec g (T ++ c) r → GSpec g T (c :: r)
theorem sorted_ext : ∀ {c d : List Nat}, c.Pairwise (· < ·) → d.Pairwise (· < ·) → (∀ y, y ∈ c ↔ y ∈ d) → c = d
  | [], [], _, _, _ => rfl
  | [], y :: _, _, _, h => absurd ((h y).2 (by simp)) (by simp)
  | x :: _, [], _, _, h => absurd ((h x).1 (by simp)) (by simp)
  | x :: c, y :: d, h1, h2, h => by
    obtain ⟨p1, p2⟩ := List.pairwise_cons.1 h1
    obtain ⟨q1, q2⟩ := List.pairwise_cons.1 h2
    have hxy : x = y := by
      rcases List.mem_cons.1 ((h x).1 (by simp)) with e | e
      · exact e
      · rcases List.mem_cons.1 ((h y).2 (by simp)) with e' | e'
        · exact e'.symm
        · have := q1 x e; have := p1 y e'; omega
    subst hxy
    congr 1
    refine sorted_ext p2 q2 fun z => ⟨fun hz => ?_, fun hz => ?_⟩
    · rcases List.mem_cons.1 ((h z).1 (by simp [hz])) with e | e
      · have := p1 z hz; omega
      · exact e
    · rcases List.mem_cons.1 ((h z).2 (by simp [hz])) with e | e
      · have := q1 z hz; omega
      · exact e
theorem GSpec.one {g : List (List Nat)} {T : List Nat} {o1 : List (List Nat)} (h1 : GSpec g T o1) : ∀ {o2 : List (List Nat)}, GSpec g T o2 → o1 = o2 := by
  induction h1 with
  | nil ha =>
    intro o2 h2
    cases h2 with
    | nil _ => rfl
    | cons hx _ _ _ _ => exact absurd (ha _ hx.1) hx.2.1
  | @cons T x c r hx hmin hc1 hc2 _ ih =>
    intro o2 h2
    cases h2 with
    | nil ha => exact absurd (ha _ hx.1) hx.2.1
    | @cons _ x' c' r' hx' hmin' hc1' hc2' h3 =>
      have e : x = x' := by
        rcases Nat.lt_trichotomy x x' with q | q | q
        · exact absurd hx (hmin' x q)
        · exact q
        · exact absurd hx' (hmin x' q)
      subst e
      have ec : c = c' := sorted_ext hc1 hc1' fun y => (hc2 y).trans (hc2' y).symm
      subst ec
      rw [ih h3]
/-- The things of a group. -/
def memF (gr : List Nat) (n : Nat) : List Nat := (List.range gr.length).filter fun x => decide (gOf gr x = n)
def groupsIx (g : List (List Nat)) : List (List Nat) := (tellF g).map (memF (circF g).1)
theorem find_first {gr : List Nat} {p : Nat → Bool} {n : Nat} (h : gr.find? p = some n) : ∃ x, x < gr.length ∧ gOf gr x = n ∧ p n = true ∧ ∀ y, y < x → p (gOf gr y) = false := by
  obtain ⟨h1, az, bs, h2, h3⟩ := List.find?_eq_some_iff_append.1 h
  refine ⟨az.length, by rw [h2]; simp, by unfold gOf; rw [h2]; simp, h1, fun y hy => ?_⟩
  unfold gOf
  rw [h2, List.getElem?_append_left hy, List.getElem?_eq_getElem hy]
  have := h3 _ (List.getElem_mem hy)
  simpa using this
theorem tell_spec {g : List (List Nat)} (hr : Rng g) : ∀ (k : Nat) (s : List Nat × List (List Nat)), Tell g (circF g).1 (circF g).2.1 s → s.1.length + k = (circF g).2.1 →
    (∀ x y, x < g.length → Rc g x y → gOf (circF g).1 x ∈ s.1 → gOf (circF g).1 y ∈ s.1) →
    ∃ R, (tellN (circF g).1 k s).1 = s.1 ++ R ∧ (s.1 ++ R).Nodup ∧ (∀ n ∈ s.1 ++ R, n < (circF g).2.1) ∧ (s.1 ++ R).length = (circF g).2.1 ∧ GSpec g (s.1.map (memF (circF g).1)).flatten (R.map (memF (circF g).1)) := by
  obtain ⟨c1, c2, c3, c4, c5⟩ := circF_spec hr
  generalize (circF g).1 = gr at *
  generalize (circF g).2.1 = cnt at *
  have hmem : ∀ (T : List Nat) (x : Nat), x ∈ (T.map (memF gr)).flatten ↔ x < g.length ∧ gOf gr x ∈ T := fun T x => by
    simp only [List.mem_flatten, List.mem_map]
    constructor
    · rintro ⟨_, ⟨n, hn, rfl⟩, hx⟩
      unfold memF at hx
      rw [List.mem_filter, List.mem_range, decide_eq_true_eq, c1] at hx
      rw [hx.2]; exact ⟨hx.1, hn⟩
    · rintro ⟨h1, h2⟩
      exact ⟨_, ⟨_, h2, rfl⟩, by unfold memF; rw [List.mem_filter, List.mem_range, c1]; simp [h1]⟩
  have hrc : ∀ x y, x < g.length → Rc g x y → y < g.length := fun x y hx hp => by
    induction hp with
    | refl _ => exact hx
    | step _ h2 _ ih => exact ih (hr _ _ h2)
  intro k
  induction k with
  | zero =>
    intro s h hl hcl
    refine ⟨[], by simp [tellN], by simpa using h.nodup, by simpa using h.lt, by simpa using hl, .nil fun x hx => (hmem _ x).2 ⟨hx, ?_⟩⟩
    refine Classical.byContradiction fun hc => ?_
    have h1 := c2 x hx
    have : (gOf gr x :: s.1).Nodup := List.nodup_cons.2 ⟨hc, h.nodup⟩
    have := nodup_le (m := List.range cnt) this fun n hn => List.mem_range.2 (by
      rcases List.mem_cons.1 hn with rfl | hn
      · exact h1
      · exact h.lt n hn)
    simp at this
    omega
  | succ k ih =>
    intro s h hl hcl
    obtain ⟨n, n1, n2, n3, n4⟩ := h.find (by omega) (fun c hc => by obtain ⟨x, x1, x2⟩ := c3 c hc; exact ⟨x, by rw [c1]; exact x1, x2⟩) (fun x hx => c2 x (by rw [← c1]; exact hx)) (fun a b hb => by rw [c1]; exact hr a b hb) c4
    obtain ⟨w1, w2⟩ := h.step n1 n2 n3
    obtain ⟨x, x1, x2, x3, x4⟩ := find_first n1
    rw [c1] at x1
    have hready : ∀ m, readyF s.1 s.2 m = true ↔ m ∉ s.1 ∧ ∀ c, Waits g gr m c → c ∈ s.1 := fun m => by
      unfold readyF
      simp only [Bool.and_eq_true, Bool.not_eq_true', decide_eq_false_iff_not, List.isEmpty_iff]
      refine and_congr_right fun _ => ⟨fun he c hc => Classical.byContradiction fun q => ?_, fun hc => List.eq_nil_iff_forall_not_mem.2 fun c hcm => ?_⟩
      · have := (h.waits m c).2 ⟨hc, q⟩
        rw [he] at this; cases this
      · obtain ⟨q1, q2⟩ := (h.waits m c).1 hcm
        exact q2 (hc c q1)
    -- what a thing of a group that is ready reaches is told, or of its group
    have hreach : ∀ z, z < g.length → readyF s.1 s.2 (gOf gr z) = true → ∀ y, Rc g z y → gOf gr y ∈ s.1 ∨ gOf gr y = gOf gr z := fun z hz hrz y hp => by
      obtain ⟨_, r2⟩ := (hready _).1 hrz
      generalize hm : gOf gr z = m at *
      induction hp with
      | refl _ => exact .inr hm
      | @step a b c _ h2 h3 ih =>
        by_cases e : gOf gr b = m
        · exact ih (hr _ _ h2) e
        · have := r2 (gOf gr b) ⟨fun q => e q.symm, a, b, h2, hm.symm, rfl⟩
          exact .inl (hcl b c (hr _ _ h2) h3 this)
    have hturn : ∀ z, z < g.length → (Turn g (s.1.map (memF gr)).flatten z ↔ readyF s.1 s.2 (gOf gr z) = true) := fun z hz => by
      constructor
      · rintro ⟨_, t2, t3⟩
        refine (hready _).2 ⟨fun q => t2 ((hmem _ z).2 ⟨hz, q⟩), ?_⟩
        rintro c ⟨q1, a, b, q2, q3, q4⟩
        have hal := succs_lt q2
        have hza := (c5 z a hz hal).1 q3
        have hzb : Rc g z b := hza.1.snoc q2 trivial
        have hbl := hr a b q2
        refine q4 ▸ ((hmem _ b).1 (t3 b hzb fun hbz => ?_)).2
        exact q1 (by rw [← q4]; exact (c5 z b hz hbl).2 ⟨hzb, hbz⟩)
      · intro hrz
        refine ⟨hz, fun q => ((hready _).1 hrz).1 ((hmem _ z).1 q).2, fun y hy hny => ?_⟩
        have hyl := hrc z y hz hy
        rcases hreach z hz hrz y hy with q | q
        · exact (hmem _ y).2 ⟨hyl, q⟩
        · exact absurd ((c5 y z hyl hz).1 q).1 hny
    have hrx : readyF s.1 s.2 (gOf gr x) = true := by rw [x2]; exact x3
    obtain ⟨R, r1, r2, r3, r4, r5⟩ := ih (tellStep gr s) w1 (by rw [w2]; simp; omega) (fun y z hy hp hin => by
      rw [w2] at hin ⊢
      rcases List.mem_append.1 hin with q | q
      · exact List.mem_append_left _ (hcl y z hy hp q)
      · have hyn : gOf gr y = n := List.mem_singleton.1 q
        rcases hreach y hy (by rw [hyn]; exact x3) z hp with q | q
        · exact List.mem_append_left _ q
        · rw [q, hyn]; simp)
    rw [w2] at r1 r2 r3 r4 r5
    rw [List.append_assoc] at r1 r2 r3 r4
    refine ⟨n :: R, r1, r2, r3, r4, ?_⟩
    rw [List.map_append, List.flatten_append] at r5
    refine .cons ((hturn x x1).2 hrx) (fun y hy ht => ?_) ?_ (fun y => ?_) (by simpa using r5)
    · have := (hturn y (by omega)).1 ht
      rw [x4 y hy] at this; cases this
    · unfold memF
      exact List.Pairwise.filter _ List.pairwise_lt_range
    · unfold memF
      rw [List.mem_filter, List.mem_range, c1, decide_eq_true_eq, ← x2]
      refine and_congr_right fun hy => ?_
      rw [eq_comm]
      exact c5 x y x1 hy
/-- What the groups are, and how many. -/
theorem groupsIx_spec {g : List (List Nat)} (hr : Rng g) : GSpec g [] (groupsIx g) ∧ (tellF g).Nodup ∧ (∀ n ∈ tellF g, n < (circF g).2.1) ∧ (tellF g).length = (circF g).2.1 := by
  obtain ⟨c1, c2, c3, c4, c5⟩ := circF_spec hr
  obtain ⟨R, r1, r2, r3, r4, r5⟩ := tell_spec hr (circF g).2.1 ([], waitsF g (circF g).1 (circF g).2.1) ⟨waitsF_length _ _ _, List.nodup_nil, nofun, fun n c => by rw [waitsF_mem c2]; simp, waitFrom_nodup _ _ _ _ (fun n => by rw [succs_rep]; exact List.nodup_nil)⟩ (by simp) (fun _ _ _ _ h => by cases h)
  simp only [List.nil_append] at r1 r2 r3 r4
  unfold groupsIx tellF
  rw [r1]
  exact ⟨by simpa using r5, r2, r3, r4⟩
end Go.Proofs.Ytibkdjjdfcpdaaa
end
