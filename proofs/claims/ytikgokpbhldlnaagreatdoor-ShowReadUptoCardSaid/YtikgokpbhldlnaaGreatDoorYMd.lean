/- Parts of a proof: Ap Aq Ar. -/
import Derived.Test.YtikgokpbhldlnaaGreatDoorYMc
import Derived.Lib.UnsafeStr
import Derived.Lib.ConvBytes
import Derived.ChangeSame
import Derived.ChangeArms
import Derived.Deep.Slices
set_option linter.unusedVariables false
set_option linter.unusedSimpArgs false
set_option linter.unusedSectionVars false
section
/- The calculus: append of a text to a row of one's own; a row of bytes that becomes a text (unsafe.String). -/
namespace Go.Ab
open Go
section
variable {P : Program} {n : Nat} {Q : Post} {E : Env} {D : List Deferred} {L : List Assn} {ops : Array Oper} {rest : List Oper} {m m' : Md}
variable {d : Option Tmp} {dd : Nat} {ty t u e : TypeId} {pos : String} {af : Array Edge} {gd : Option (Nat × Bool)} {x y : Operand} {c1 c2 : Bool}
theorem u8s_flat (l : List UInt8) : (u8s l).flatten = l.map fun c => Value.int .u8 (c.toNat : Int) := by
  induction l with
  | nil => rfl
  | cons c l ih => simp only [u8s, List.map_cons, List.flatten_cons] at ih ⊢; rw [ih]; rfl
theorem OpT.appendS {t1 t2 bt ln c : Nat} {zv : Value} {a : Option Addr} {s : ByteArray} [USlice P t1 e] [hu2 : UStr P t2] [TSize P e 1 false] [TZero P e zv] [TBytes P e bt] (i : Nat) (rows : List (List Value))
    (hx : opv x E = some (c1, .slice a ln c)) [Imp true c1] (hy : opv y E = some (c2, .string s)) [Imp true c2] (hi : L[i]? = some (ownA e 1 a c rows)) (hn : ln = rows.length)
    (hzl : Nat.beq zv.cells.toList.length 1 = true) (hbt : (Nat.blt 0 bt && Nat.ble bt 1048576) = true) (hb : (rows.length + (bs s).length) * bt ≤ 1099511627776) :
    OpT P E L ⟨d, .call ⟨.builtin .append, #[x, y], #[t1, t2]⟩, ty, pos, af, gd⟩ (fun r L' => ∃ a2 c2, r = .slice a2 (rows ++ u8s (bs s)).length c2 ∧ L' = L.set i (ownA e 1 a2 c2 (rows ++ u8s (bs s)))) noPanic := fun ac w K Q0 h1 h2 hK _ => by
  unfold Oper.wp
  subst hn
  rw [Bool.and_eq_true] at hbt
  have hsz : (bs s).length = s.size := rfl
  have hlen : ∀ w, (Builtin.lenOf (.string s)).run P w = .ok (bs s).length w := fun w => rfl
  have hfl : (u8s (bs s)).flatten.length = (bs s).length * 1 := by rw [u8s_flat]; simp
  have hnew : ∀ w', Hp.le (hp w) (hp w') → (Builtin.firstCells 1 (bs s).length (.string s)).run P w' = .ok (u8s (bs s)).flatten.toArray w' := fun w' _ => by
    have he : s.extract 0 (bs s).length = s := by rw [hsz]; simp
    show (pure ((s.extract 0 (bs s).length).data.map fun b => Value.int .u8 b.toNat) : Sem (Array Value)).run P w' = _
    rw [he, u8s_flat]
    have : (s.data.map fun b => Value.int .u8 b.toNat) = ((bs s).map fun c => Value.int .u8 (c.toNat : Int)).toArray := by
      unfold bs; rw [← List.map_toArray, Array.toArray_toList]
    rw [this]; rfl
  obtain ⟨a2, c2', w', hr, hs'⟩ := run_append (P := P) (ty := ty) (t1 := t1) (t2 := t2) (n := rows.length) (m := (bs s).length) (yv := .string s) (new := (u8s (bs s)).flatten) (w := w) ⟨_, hu2.h, .inr rfl⟩ (Nat.eq_of_beq_eq_true hzl) hlen hnew hfl (by rw [u8s_flat, List.all_eq_true]; intro v hv; obtain ⟨c, _, rfl⟩ := List.mem_map.1 hv; rfl) rows rfl hb
    (by have := bltLt hbt.1; omega) (bleLe hbt.2) (Sat.pull hi h2) rfl (by intro r hr; unfold u8s at hr; obtain ⟨c, _, rfl⟩ := List.mem_map.1 hr; rfl) (u8s_length _)
  have he : (execOp ac.eval ⟨d, .call ⟨.builtin .append, #[x, y], #[t1, t2]⟩, ty, pos, af, gd⟩).run P w = .ok (.value (.slice a2 (rows.length + (bs s).length) c2')) w' := by
    simp only [execOp, resolve, List.map_toArray, List.map_cons, List.map_nil, EvG.of (g := true) hx ac h1 rfl, EvG.of (g := true) hy ac h1 rfl]
    exact run_v hr
  rw [he]
  exact hK _ _ _ ⟨a2, c2', by rw [List.length_append, u8s_length], rfl⟩ (Sat.set hi hs')
theorem WpO.appendS [Nxt m m'] {bt ln c : Nat} {zv : Value} {a : Option Addr} {s : ByteArray} [USlice P t e] [UStr P u] [TSize P e 1 false] [TZero P e zv] [TBytes P e bt] (i : Nat) {rows : List (List Value)} (h0 : Nat.blt dd n = true)
    (hx : opv x E = some (c1, .slice a ln c)) [Imp true c1] (hy : opv y E = some (c2, .string s)) [Imp true c2] (hi : L[i]? = some (ownA e 1 a c rows)) (hn : ln = rows.length)
    (hzl : Nat.beq zv.cells.toList.length 1 = true) (hbt : (Nat.blt 0 bt && Nat.ble bt 1048576) = true) (hb : (rows.length + (bs s).length) * bt ≤ 1099511627776)
    (hk : ∀ a2 k2, Keeps m (L.set i (ownA e 1 a2 k2 (rows ++ u8s (bs s)))))
    (h : ∀ a2 k2, WpO P n ops Q m' rest ((dd, .v (.slice a2 (rows ++ u8s (bs s)).length k2)) :: E) D (L.set i (ownA e 1 a2 k2 (rows ++ u8s (bs s))))) : WpO P n ops Q m (⟨some dd, .call ⟨.builtin .append, #[x, y], #[t, u]⟩, ty, pos, af, Option.none⟩ :: rest) E D L := by
  refine WpO.op rfl h0 (OpT.appendS i rows hx hy hi hn hzl hbt hb) nofun fun _ _ ⟨a2, k2, e1, e2⟩ => ?_
  subst e1; subst e2
  exact ⟨hk a2 k2, h a2 k2⟩
/-! ## unsafe.String -/
theorem OpT.sliceData {a : Option Addr} {ln c : Nat} {tys : Array TypeId} (hx : opv x E = some (c1, .slice a ln c)) [Imp true c1] (hc : a = none ∨ c ≠ 0) :
    OpT P E L ⟨d, .call ⟨.builtin .unsafeSliceData, #[x], tys⟩, ty, pos, af, gd⟩ (fun r L' => r = .pointer a ∧ L' = L) noPanic := fun ac w K Q0 h1 h2 hK _ => by
  unfold Oper.wp
  have hr : (Builtin.unsafeSliceData_ tys ty #[.slice a ln c]).run P w = .ok (.pointer a) w := by
    cases a with
    | none => rfl
    | some p =>
      rcases hc with hc | hc
      · cases hc
      · exact Lib.run_unsafeSliceData_row _ _ _ _ _ _ hc
  have he : (execOp ac.eval ⟨d, .call ⟨.builtin .unsafeSliceData, #[x], tys⟩, ty, pos, af, gd⟩).run P w = .ok (.value (.pointer a)) w := by
    simp only [execOp, resolve, List.map_toArray, List.map_cons, List.map_nil, EvG.of (g := true) hx ac h1 rfl]
    exact run_v hr
  rw [he]
  exact hK _ _ _ ⟨rfl, rfl⟩ h2
theorem WpO.sliceData [Nxt m m'] {a : Option Addr} {ln c : Nat} {tys : Array TypeId} (h0 : Nat.blt dd n = true) (hx : opv x E = some (c1, .slice a ln c)) [Imp true c1] (hc : a = none ∨ c ≠ 0) (hk : Keeps m L)
    (h : WpO P n ops Q m' rest ((dd, .v (.pointer a)) :: E) D L) : WpO P n ops Q m (⟨some dd, .call ⟨.builtin .unsafeSliceData, #[x], tys⟩, ty, pos, af, Option.none⟩ :: rest) E D L := by
  refine WpO.op rfl h0 (OpT.sliceData hx hc) nofun fun _ _ ⟨e1, e2⟩ => ?_
  subst e1; subst e2
  exact ⟨hk, h⟩
theorem lies_off (hc : P.cellsOf e = 1) (count off n : Nat) (hn : off + n ≤ count) : liesAt P P.depth e count off e n = true := by
  have hd : P.depth = (2 * (P.types.size + Made.depth) + 1) + 1 := rfl
  rw [hd]
  simp only [liesAt, Bool.or_eq_true]
  left
  rw [hd]
  simp [rowAt, hc, hn, sameLayout, Nat.div_one, Nat.mod_one]
theorem run_unsafeString_off (w : World) (pt it ty e : TypeId) (hp : P.underlying pt = some (.pointer e)) (hc : P.cellsOf e = 1) (g o cells : Nat) (hsh : w.shape? g = some (e, cells)) (l : List UInt8) (h0 : l ≠ []) (hn : o + l.length ≤ cells) (h63 : l.length ≤ 9223372036854775807)
    (hcell : ∀ j x, l[j]? = some x → w.cell? ((⟨g, o, none⟩ : Addr).add j) = some (.int .u8 x.toNat)) :
    (Builtin.unsafeString_ #[pt, it] ty #[.pointer (some ⟨g, o, none⟩), .int .i64 l.length]).run P w = .ok (.string ⟨l.toArray⟩) (w.freeze ⟨g, o, none⟩ l.length) := by
  have hl : l.length ≠ 0 := by simpa using h0
  have hlb := Lib.run_loadBytes (P := P) w l ⟨g, o, none⟩ .empty hcell
  have hlies := lies_off (P := P) hc (cells / P.cellsOf e) o l.length (by rw [hc]; simpa using hn)
  have h63' : ¬ (9223372036854775807 : Int) < (l.length : Int) := by omega
  have hdef : Builtin.unsafeString_ #[pt, it] ty #[.pointer (some ⟨g, o, none⟩), .int .i64 l.length] = (asInt (.int .i64 l.length) >>= _) := rfl
  rw [hdef]
  have hmax : IntKind.i64.max = 9223372036854775807 := rfl
  have hneg : ¬ (l.length : Int) < 0 := by omega
  simp [asInt, asIntOf, hmax, h63', hneg, hl, variablesAt, hsh, elemOf, run_underlying hp, hlies, hlb]
theorem hp_freeze (w : World) (g o k x : Nat) (hx : x ≠ g) : hp (w.freeze ⟨g, o, none⟩ k) x = hp w x := by
  show (w.freeze ⟨g, o, none⟩ k).heap[x]? = w.heap[x]?
  unfold World.freeze
  split
  · rfl
  · simp only [Array.getElem?_modify]
    rw [if_neg (by omega)]
theorem hp_freeze_some (w : World) (g o k x : Nat) (hx : (hp w x).isSome) : (hp (w.freeze ⟨g, o, none⟩ k) x).isSome := by
  have hx : (w.heap[x]?).isSome := hx
  show ((w.freeze ⟨g, o, none⟩ k).heap[x]?).isSome
  unfold World.freeze
  split
  · exact hx
  · simp only [Array.getElem?_modify]
    split
    · simpa using hx
    · exact hx
theorem hp_freeze_met (w : World) (g o k : Nat) : (hp w).met = (hp (w.freeze ⟨g, o, none⟩ k)).met := by
  unfold World.freeze
  split <;> rfl
theorem OpT.unsafeStr {pt it c : Nat} {a : Option Addr} (l : List UInt8) (i : Nat) (hx : opv x E = some (c1, .pointer a)) [Imp true c1] (hy : opv y E = some (c2, .int .i64 (l.length : Int))) [Imp true c2]
    (hi : L[i]? = some (ownA e 1 a c (u8s l))) (hp0 : P.underlying pt = some (.pointer e)) (hc : P.cellsOf e = 1) (h63 : l.length ≤ 9223372036854775807) :
    OpT P E L ⟨d, .call ⟨.builtin .unsafeString, #[x, y], #[pt, it]⟩, ty, pos, af, gd⟩ (fun r L' => r = .string ⟨l.toArray⟩ ∧ L' = L.eraseIdx i) noPanic := fun ac w K Q0 h1 h2 hK _ => by
  unfold Oper.wp
  have hs := Sat.pull hi h2
  suffices h : ∃ w', (Builtin.unsafeString_ #[pt, it] ty #[.pointer a, .int .i64 l.length]).run P w = .ok (.string ⟨l.toArray⟩) w' ∧ Sat (hp w') (L.eraseIdx i) by
    obtain ⟨w', hr, hs'⟩ := h
    have he : (execOp ac.eval ⟨d, .call ⟨.builtin .unsafeString, #[x, y], #[pt, it]⟩, ty, pos, af, gd⟩).run P w = .ok (.value (.string ⟨l.toArray⟩)) w' := by
      simp only [execOp, resolve, List.map_toArray, List.map_cons, List.map_nil, EvG.of (g := true) hx ac h1 rfl, EvG.of (g := true) hy ac h1 rfl]
      exact run_v hr
    rw [he]
    exact hK _ _ _ ⟨rfl, rfl⟩ hs'
  by_cases h0 : l = []
  · subst h0
    exact ⟨w, Lib.run_unsafeString_none w _ _ _ a, hs.tail⟩
  obtain ⟨h, hle, ⟨o1, o2, o3⟩, hrest⟩ := id hs
  rcases o3 with ⟨_, rfl⟩ | ⟨b, o, cs, rfl, hb1, hb2, hb3⟩
  · rw [u8s_length] at o2
    exact absurd (List.length_eq_zero_iff.1 (by omega)) h0
  rw [u8s_length] at o2
  have hw := hle _ _ hb1
  have hw' : w.heap[b]? = some (.cells cs e (0, 0)) := hw
  refine ⟨w.freeze ⟨b, o, none⟩ l.length, run_unsafeString_off w pt it ty e hp0 hc b o cs.size (by simp [World.shape?, hw']) l h0 (by omega) h63 ?_, ?_⟩
  · intro j v hj
    have := hb3 j (.int .u8 (v.toNat : Int)) (by rw [u8s_flat, List.getElem?_map, hj]; rfl)
    rw [Addr.add_eq]
    exact cell_of ⟨cs, e, _, hw', fun k u hk => by
      match k, hk with
      | 0, hk => simp only [List.getElem?_cons_zero, Option.some.injEq] at hk; subst hk; exact this⟩
  · refine Sat.tail (Sat.turn (A' := fun _ => True) (b := b) hs (fun h' ha => ?_) (fun x hx => hp_freeze w b o l.length x hx) (fun _ _ _ => trivial) (hp_freeze_some _ _ _ _ _ (by rw [hw]; rfl)) (hp_freeze_met _ _ _ _))
    obtain ⟨_, _, h3⟩ := ha
    rcases h3 with ⟨h3, _⟩ | ⟨b', o', cs', h3, h4, _⟩
    · cases h3
    · simp only [Option.some.injEq, Addr.mk.injEq, and_true] at h3; obtain ⟨rfl, rfl⟩ := h3; exact ⟨_, h4⟩
theorem WpO.unsafeStr [Nxt m m'] {pt it c : Nat} {a : Option Addr} (l : List UInt8) (i : Nat) (h0 : Nat.blt dd n = true) (hx : opv x E = some (c1, .pointer a)) [Imp true c1] (hy : opv y E = some (c2, .int .i64 (l.length : Int))) [Imp true c2]
    (hi : L[i]? = some (ownA e 1 a c (u8s l))) (hp0 : P.underlying pt = some (.pointer e)) (hc : P.cellsOf e = 1) (h63 : l.length ≤ 9223372036854775807) (hk : Keeps m (L.eraseIdx i))
    (h : WpO P n ops Q m' rest ((dd, .v (.string ⟨l.toArray⟩)) :: E) D (L.eraseIdx i)) : WpO P n ops Q m (⟨some dd, .call ⟨.builtin .unsafeString, #[x, y], #[pt, it]⟩, ty, pos, af, Option.none⟩ :: rest) E D L := by
  refine WpO.op rfl h0 (OpT.unsafeStr l i hx hy hi hp0 hc h63) nofun fun _ _ ⟨e1, e2⟩ => ?_
  subst e1; subst e2
  exact ⟨hk, h⟩
end
end Go.Ab
namespace Go.Ab
open Go
section
variable {E : Env} {L : List Assn}
theorem RetNL {rs : List ResultVar} {R : Ending → List Assn → Prop} {L' : List Assn} {x : Value} (hv : resV rs E = some x) (hL : LeL L L') (h : R (.returned x) L') : BodyPost rs R .normal E [] L := ⟨rfl, x, _, hv, hL, h⟩
theorem LeL.drop3 {A B C : Assn} {L : List Assn} : LeL (B :: C :: A :: L) (B :: C :: L) := fun _ s => Sat.cons_mono (fun _ s => Sat.cons_mono (fun _ s => s.tail) s) s
end
end Go.Ab
namespace Go.Ab
open Go
section
variable {P : Program} {n : Nat} {Q : Post} {E : Env} {D : List Deferred} {L : List Assn} {ops : Array Oper} {rest : List Oper}
variable {d : Option Tmp} {dd : Nat} {ty t u e : TypeId} {pos : String} {af : Array Edge} {gd : Option (Nat × Bool)} {x y : Operand} {c1 c2 : Bool}
/-- An operation with a result, where no choice of order is left, whatever its kind. -/
theorem WpO.opS {op : Op} {R : Value → List Assn → Prop} {Rp : List PanicEntry → List Assn → Prop} (hdn : Nat.blt dd n = true) (ht : OpT P E L ⟨some dd, op, ty, pos, af, none⟩ R Rp)
    (hp' : ∀ c L', Rp c L' → Q (.panic c) [] D L') (h : ∀ v L', R v L' → WpO P n ops Q .seq rest ((dd, .v v) :: E) D L') : WpO P n ops Q .seq (⟨some dd, op, ty, pos, af, none⟩ :: rest) E D L := by
  have hop : ∀ (a : Act) (w : World) (K : Act → World → Prop), a.tmps.size = n → EnvSat E a.tmps → a.defers = D → Sat (hp w) L →
      (∀ (a' : Act) (w' : World) E' D' L', a'.tmps.size = n → EnvSat E' a'.tmps → a'.defers = D' → Sat (hp w') L' → WpO P n ops Q .seq rest E' D' L' → K a' w') →
      (⟨some dd, op, ty, pos, af, none⟩ : Oper).wp P a w K (PostOf n Q) := fun a w K h1 h2 h3 h4 hK => by
    refine ht a w K _ h2 h4 (fun v w' L' hR hS => ?_) (fun c w' L' hR hS => ⟨D, L', hp' c L' hR, h3, hS⟩)
    exact hK _ w' ((dd, .v v) :: E) D L' (by rw [Act.put_size, h1]) (EnvSat.put h2 (by rw [h1]; exact bltLt hdn) (.v v)) (by rw [Act.put_defers', h3]) hS (h v L' hR)
  have hw : ∀ a : Act, Region.wanted (⟨some dd, op, ty, pos, af, none⟩ : Oper) (yielded ops a.tmps) = true := fun a => by simp [Region.wanted]
  refine ⟨fun a w h1 h2 h3 h4 => ?_, fun pl listed hp hb a w h1 h2 h3 h4 => ?_⟩
  · exact wpList_wanted (hw a) (hop a w _ h1 h2 h3 h4 fun a' w' E' D' L' q1 q2 q3 q4 q5 => q5.1 a' w' q1 q2 q3 q4)
  · obtain ⟨i, r, rfl, hi, hr⟩ := pick_cons hp
    simp only [forced, Bool.and_eq_true, beq_iff_eq] at hb
    exact wpAny_one hb.1 (wpOp_wanted hi (hw a) (hop a w _ h1 h2 h3 h4 fun a' w' E' D' L' q1 q2 q3 q4 q5 => q5.2 r _ hr hb.2 a' w' q1 q2 q3 q4))
/-! ## []byte of a text -/
theorem hp_bytes (w : World) (e : TypeId) (s : ByteArray) : hp (Lib.bytesWorld w e s) = hp { w with heap := w.heap.push (.cells (Lib.bytesCells w e s) e ((Lib.bytesCells w e s).size, (Lib.bytesCells w e s).size + 1)) } := by
  refine Hp.ext (fun b => ?_) rfl
  rw [hp_push]
  rcases Nat.lt_trichotomy b w.heap.size with h | h | h
  · rw [if_neg (by omega)]; exact Lib.bytesWorld_at_old w e s b h
  · subst h; rw [if_pos rfl]; exact Lib.bytesWorld_at_new w e s
  · rw [if_neg (by omega)]
    have h1 := Lib.bytesWorld_size w e s
    rw [hp_at, hp_at, Array.getElem?_eq_none (by omega), Array.getElem?_eq_none (by omega)]
theorem OpT.strBytes {s : ByteArray} [hd : UStr P t] [hu : USlice P u e] [he : UByte P e] (hx : opv x E = some (c1, .string s)) [Imp true c1] :
    OpT P E L ⟨d, .convert t u x, ty, pos, af, gd⟩ (fun r L' => ∃ b c, r = .slice (some ⟨b, 0, none⟩) (bs s).length c ∧ (bs s).length ≤ c ∧ L' = CellsAt b 0 (u8s (bs s)).flatten :: L) noPanic := fun ac w K Q0 h1 h2 hK _ => by
  unfold Oper.wp
  have hr := Lib.run_convert_string_bytes (P := P) w t u e s hd.h hu.h he.h
  have hex : (execOp ac.eval ⟨d, .convert t u x, ty, pos, af, gd⟩).run P w = .ok (.value (.slice (some ⟨w.heap.size, 0, none⟩) s.size (grownCap w s.size 0 e))) (Lib.bytesWorld w e s) := by
    show (do pure (Next.value (← convert t u (ac.eval x))) : Sem Next).run P w = _
    rw [EvG.of (g := true) hx ac h1 rfl]
    exact run_v hr
  rw [hex]
  refine hK _ _ _ ⟨_, _, rfl, grownCap_ge w s.size 0 e, rfl⟩ ?_
  rw [hp_bytes]
  refine Sat.new ?_ h2
  refine ⟨_, _, _, Hp.single_at _ _, fun i v hv => ?_⟩
  rw [u8s_flat] at hv
  have hlt := (List.getElem?_eq_some_iff.1 hv).1
  rw [List.length_map] at hlt
  rw [Nat.zero_add]
  unfold Lib.bytesCells
  rw [Array.getElem?_append_left (by rw [Array.size_map]; exact hlt)]
  rw [List.getElem?_map] at hv
  rw [Array.getElem?_map]
  have : s.data[i]? = (bs s)[i]? := by unfold bs; rw [Array.getElem?_toList]
  rw [this]; exact hv
theorem Sl.ofCells {b c : Nat} {l : List UInt8} (h : Ent L (CellsAt b 0 (u8s l).flatten)) (hc : l.length ≤ c) : Sl L (some ⟨b, 0, none⟩) c 1 (u8s l) := by
  refine ⟨by rw [u8s_length]; exact hc, ⟨b, 0, fun _ => rfl, fun r hr => by unfold u8s at hr; obtain ⟨q, _, rfl⟩ := List.mem_map.1 hr; rfl, fun k hs i r hr => ?_⟩⟩
  unfold u8s at hr
  rw [List.getElem?_map] at hr
  obtain ⟨q, hq, rfl⟩ := Option.map_eq_some_iff.1 hr
  refine ⟨rfl, ?_⟩
  rw [Nat.mul_one]
  refine CellsAt.sub (n := 1) (h k hs) ?_
  rw [u8s_flat]
  have hlt := (List.getElem?_eq_some_iff.1 hq).1
  rw [← List.map_drop, ← List.map_take, List.drop_eq_getElem_cons hlt]
  have : l[i] = q := (List.getElem?_eq_some_iff.1 hq).2
  rw [this]; rfl
theorem WpO.strBytes {s : ByteArray} [UStr P t] [USlice P u e] [UByte P e] (h0 : Nat.blt dd n = true) (hx : opv x E = some (c1, .string s)) [Imp true c1]
    (h : ∀ b c, (bs s).length ≤ c → WpO P n ops Q .seq rest ((dd, .v (.slice (some ⟨b, 0, Option.none⟩) (bs s).length c)) :: E) D (CellsAt b 0 (u8s (bs s)).flatten :: L)) : WpO P n ops Q .seq (⟨some dd, .convert t u x, ty, pos, af, Option.none⟩ :: rest) E D L :=
  WpO.opS h0 (OpT.strBytes hx) nofun fun _ _ ⟨b, c, e1, e2, e3⟩ => by subst e1; subst e3; exact h b c e2
end
end Go.Ab
end
section
/- The calculus: regions that draw their order, where two operations that turn memory may change places: state by state. -/
namespace Go.Ab
open Go
section
variable {P : Program} {n : Nat} {Q : Post} {E : Env} {D : List Deferred} {L : List Assn} {ops : Array Oper} {fuel : Nat} {listed : Array Bool}
/-- What is left of a region, from whatever frame and memory of which this is known. -/
def WpQ (P : Program) (n : Nat) (ops : Array Oper) (Q : Post) (fuel : Nat) (listed : Array Bool) (E : Env) (D : List Deferred) (L : List Assn) : Prop :=
  ∀ (a : Act) (w : World), a.tmps.size = n → EnvSat E a.tmps → a.defers = D → Sat (hp w) L → wpAnyB P ops (PostOf n Q) (fun _ => True) ops.size fuel listed a w
/-- Operation i comes next. -/
def StQ (P : Program) (n : Nat) (ops : Array Oper) (Q : Post) (fuel : Nat) (listed : Array Bool) (i : Nat) (E : Env) (D : List Deferred) (L : List Assn) : Prop :=
  ∀ (a : Act) (w : World), a.tmps.size = n → EnvSat E a.tmps → a.defers = D → Sat (hp w) L →
    wpOp P ops (PostOf n Q) i (fun a' w' => True ∧ wpAnyB P ops (PostOf n Q) (fun _ => True) ops.size fuel (listed.setIfInBounds i true) a' w') a w
theorem WpQ.done (hr : Region.ready .any ops listed = []) (h : Q .normal E D L) : WpQ P n ops Q fuel listed E D L := fun a w h1 h2 h3 h4 => wpAnyB_done hr ⟨E, D, L, h, h1, h2, h3, h4⟩ _
/-- A quiet operation that looks at temporaries alone is as good as first. -/
theorem WpQ.q {d : Nat} {op : Op} {ty : TypeId} {pos : String} {af : Array Edge} {v : Value} (i : Nat) (hi : ops[i]? = some ⟨some d, op, ty, pos, af, none⟩) (hdn : Nat.blt d n = true) (hf : (firstB ops listed i && closedB ops listed) = true)
    (hq : Qt P E [] ⟨some d, op, ty, pos, af, none⟩ true v) (h : WpQ P n ops Q fuel (listed.setIfInBounds i true) ((d, .v v) :: E) D L) : WpQ P n ops Q (fuel + 1) listed E D L := fun a w h1 h2 h3 h4 => by
  rw [Bool.and_eq_true] at hf
  obtain ⟨hb1, hcl⟩ := hf
  simp only [firstB, Bool.and_eq_true] at hb1
  have hlt : i < ops.size := (Array.getElem?_eq_some_iff.1 hi).1
  refine wpAnyB_first hi (Region.noSelect_spec hb1.1.1) (fun c a w => PostOf.panic_put) (by omega) (by unfold barAfter; rw [Array.getElem?_eq_none (Nat.le_refl _)]) _ _ _ _ (closed_of hcl) (Region.free_spec hi hb1.1.2) (by simpa using hb1.2)
    (.inl ⟨by simp [Region.wanted], fun w' _ => hq a w' h2 trivial rfl⟩) trivial ?_
  exact h _ w (by rw [Act.put_size, h1]) (EnvSat.put h2 (by rw [h1]; exact bltLt hdn) (.v v)) (by rw [Act.put_defers', h3]) h4
/-- One of those that may come next. -/
theorem WpQ.fork {l : List Nat} (hr : Region.ready .any ops listed = l) (hne : l ≠ []) (h : ∀ i ∈ l, i < ops.size ∧ StQ P n ops Q fuel listed i E D L) : WpQ P n ops Q (fuel + 1) listed E D L := fun a w h1 h2 h3 h4 => by
  refine ⟨fun h0 => absurd (hr.symm.trans h0) hne, fun i hi => ?_⟩
  rw [hr] at hi
  have hlt := (h i hi).1
  have := (h i hi).2 a w h1 h2 h3 h4
  have hib : i ≠ ops.size := by omega
  simp only [hib, if_false]
  exact this
theorem WpQ.one (i : Nat) (hr : Region.ready .any ops listed = [i]) (h : StQ P n ops Q fuel listed i E D L) : WpQ P n ops Q (fuel + 1) listed E D L :=
  WpQ.fork hr (by simp) fun j hj => by
    obtain rfl : j = i := by simpa using hj
    refine ⟨?_, h⟩
    have : j ∈ Region.ready .any ops listed := by rw [hr]; simp
    obtain ⟨_, o, ho, _⟩ := mem_ready.1 this
    exact (Array.getElem?_eq_some_iff.1 ho).1
theorem WpQ.two (i j : Nat) (hr : Region.ready .any ops listed = [i, j]) (h1 : StQ P n ops Q fuel listed i E D L) (h2 : StQ P n ops Q fuel listed j E D L) : WpQ P n ops Q (fuel + 1) listed E D L :=
  WpQ.fork hr (by simp) fun k hk => by
    refine ⟨?_, ?_⟩
    · have : k ∈ Region.ready .any ops listed := by rw [hr]; exact hk
      obtain ⟨_, o, ho, _⟩ := mem_ready.1 this
      exact (Array.getElem?_eq_some_iff.1 ho).1
    · rcases List.mem_cons.1 hk with rfl | hk
      · exact h1
      · obtain rfl : k = j := by simpa using hk
        exact h2
theorem StQ.q {i d : Nat} {op : Op} {ty : TypeId} {pos : String} {af : Array Edge} {v : Value} (hi : ops[i]? = some ⟨some d, op, ty, pos, af, none⟩) (hdn : Nat.blt d n = true) (hq : Qt P E L ⟨some d, op, ty, pos, af, none⟩ true v)
    (h : WpQ P n ops Q fuel (listed.setIfInBounds i true) ((d, .v v) :: E) D L) : StQ P n ops Q fuel listed i E D L := fun a w h1 h2 h3 h4 =>
  wpOp_quiet hi (GuardIs.none rfl) h2 h4 hq ⟨trivial, h _ w (by rw [if_pos rfl, Act.put_size, h1]) (by rw [if_pos rfl]; exact EnvSat.put h2 (by rw [h1]; exact bltLt hdn) (.v v)) (by rw [if_pos rfl, Act.put_defers', h3]) h4⟩
theorem StQ.op {i d : Nat} {op : Op} {ty : TypeId} {pos : String} {af : Array Edge} {R : Value → List Assn → Prop} {Rp : List PanicEntry → List Assn → Prop} (hi : ops[i]? = some ⟨some d, op, ty, pos, af, none⟩) (hdn : Nat.blt d n = true) (ht : OpT P E L ⟨some d, op, ty, pos, af, none⟩ R Rp)
    (hp' : ∀ c L', Rp c L' → Q (.panic c) [] D L') (h : ∀ v L', R v L' → WpQ P n ops Q fuel (listed.setIfInBounds i true) ((d, .v v) :: E) D L') : StQ P n ops Q fuel listed i E D L := fun a w h1 h2 h3 h4 => by
  refine wpOp_wanted hi (by simp [Region.wanted]) (ht a w _ _ h2 h4 (fun v w' L' hR hS => ⟨trivial, ?_⟩) (fun c w' L' hR hS => ⟨D, L', hp' c L' hR, h3, hS⟩))
  exact h v L' hR _ w' (by rw [Act.put_size, h1]) (EnvSat.put h2 (by rw [h1]; exact bltLt hdn) (.v v)) (by rw [Act.put_defers', h3]) hS
theorem StQ.callq {i d : Nat} {f : FuncId} {args : List Operand} {tys : Array TypeId} {ty : TypeId} {pos : String} {af : Array Edge} {vs : List Value} {v : Value} (hi : ops[i]? = some ⟨some d, .call ⟨.value (.func f), args.toArray, tys⟩, ty, pos, af, none⟩) (hc : ∀ (args : Array Value) (w : World), Sem.run P (callFunc f args) w = .ok (.enter f args) w) (hdn : Nat.blt d n = true) (hargs : evs args E = some vs)
    (hct : Ct P f vs.toArray L (ret fun r L' => r = v ∧ L' = L)) (h : WpQ P n ops Q fuel (listed.setIfInBounds i true) ((d, .v v) :: E) D L) : StQ P n ops Q fuel listed i E D L :=
  StQ.op hi hdn (OpT.call hc hargs hct) nofun fun _ _ ⟨e1, e2⟩ => by subst e1; subst e2; exact h
theorem StQ.buildSlice {i d : Nat} {t e sz ln : Nat} {agg : Bool} {ps : List (Nat × Operand)} {ty : TypeId} {pos : String} {af : Array Edge} {vs : List (Nat × Value)} {cs zs : List Value} {zv : Value} [USlice P t e] [TSize P e sz agg] [TZero P e zv] (hi : ops[i]? = some ⟨some d, .buildSlice t ln ps.toArray, ty, pos, af, none⟩) (hdn : Nat.blt d n = true) (hp : pev ps E = some vs)
    (hzv : zv.cells.toList = zs) (hzl : Nat.beq zs.length sz = true) (hs0 : Nat.beq sz 0 = false) (hsm : Nat.ble (ln * sz) 16777216 = true) (hf : fillB (fun i => some (i * sz, sz)) (List.replicate ln zs).flatten vs = some cs)
    (h : ∀ b, WpQ P n ops Q fuel (listed.setIfInBounds i true) ((d, .v (.slice (some ⟨b, 0, Option.none⟩) ln ln)) :: E) D (ptA b e cs :: L)) : StQ P n ops Q fuel listed i E D L :=
  StQ.op hi hdn (OpT.buildSlice hp hzv hzl hs0 hsm hf) nofun fun _ _ ⟨b, e1, e2⟩ => by subst e1; subst e2; exact h b
end
end Go.Ab
end
section
/- From what a reading of memory says to parts of memory, and back: for integers, texts, slices and structs of them. -/
namespace Go.Ab
open Go Go.ChangeShapes Go.WideShapes Go.Deep
/-- All of a world's memory. -/
def exactA (W : World) : Assn := fun h => h.met = (W.os, W.output) ∧ ∀ b o, W.heap[b]? = some o → h b = some o
theorem exact_sat (W : World) : Sat (hp W) [exactA W] := ⟨hp W, Hp.le_refl _, ⟨rfl, fun _ _ e => e⟩, trivial⟩
theorem exact_le {W w : World} (h : Sat (hp w) [exactA W]) : Hp.le (hp W) (hp w) := by
  obtain ⟨k, l, ⟨m, f⟩, _⟩ := h
  exact ⟨fun b o e => l b o (f b o e), m.symm.trans l.m⟩
theorem cell_le {w w' : World} (h : Hp.le (hp w) (hp w')) {a : Addr} {v : Value} (hc : w.cell? a = some v) : w'.cell? a = some v := by
  unfold World.cell? at hc ⊢
  split at hc
  · rename_i c t f hb
    rw [show w'.heap[a.block]? = some (.cells c t f) from h a.block _ hb]
    exact hc
  · cases hc
theorem cells_get {w : World} {a : Addr} {n : Nat} {cs : List Value} (h : w.cells? 0 a n = some cs) {i : Nat} {v : Value} (hv : cs[i]? = some v) : w.cell? (a.add i) = some v := by
  obtain ⟨_, h2, h3⟩ := World.cells?_some h
  have hi := (List.getElem?_eq_some_iff.1 hv).1
  rw [h3 i (by omega), hv]
theorem mapM_of_get {α β : Type} {f : α → Option β} : ∀ (l : List α) (xs : List β), l.length = xs.length → (∀ (i : Nat) (a : α), l[i]? = some a → f a = xs[i]?) → l.mapM f = some xs
  | [], xs, hl, _ => by
    have : xs = [] := List.length_eq_zero_iff.1 hl.symm
    subst this; rfl
  | a :: l, [], hl, _ => by simp at hl
  | a :: l, x :: xs, hl, h => by
    have h1 := mapM_of_get l xs (by simpa using hl) fun i b hb => by
      have := h (i + 1) b (by simpa using hb)
      simpa using this
    have h2 : f a = some x := by have := h 0 a rfl; simpa using this
    rw [List.mapM_cons, h2, h1]; rfl
theorem cells_le {w w' : World} (h : Hp.le (hp w) (hp w')) {a : Addr} {n : Nat} {cs : List Value} (hc : w.cells? 0 a n = some cs) : w'.cells? 0 a n = some cs := by
  obtain ⟨h1, h2, h3⟩ := World.cells?_some hc
  unfold World.cells?
  rw [if_pos h1]
  refine mapM_of_get _ _ (by simp [h2]) fun i k hk => ?_
  have hi := (List.getElem?_eq_some_iff.1 hk).1
  rw [List.length_range] at hi
  rw [List.getElem?_range hi] at hk
  simp only [Option.some.injEq] at hk
  subst hk
  have hv : cs[i]? = some cs[i] := List.getElem?_eq_getElem (by omega)
  rw [hv]
  exact cell_le h (cells_get hc hv)
/-- Integers, texts, slices and structs of them. -/
inductive Plain (P : Program) : TypeId → Prop where
  | int {t : TypeId} {k : IntKind} (h : P.underlying t = some (.int k)) : Plain P t
  | str {t : TypeId} (h : P.underlying t = some .string) : Plain P t
  | slice {t e : TypeId} (h : P.underlying t = some (.slice e)) (hc : P.cellsOf e ≠ 0) (he : Plain P e) : Plain P t
  | struct {t : TypeId} {fs : Array Field} (h : P.underlying t = some (.struct fs)) (hf : ∀ (i : Nat) (f : Field), fs[i]? = some f → Plain P f.type) : Plain P t
section
variable {H : Type} {enc : TypeId × Value → H} {P : Program}
/-- What was read is read again, whatever has come to memory. -/
theorem reread {t : TypeId} (hp0 : Plain P t) : ∀ {fuel : Nat} {cs : List Value} {x : DataW H × List MemPlace} {w w' : World} {sp : Nat → Bool}, Hp.le (hp w) (hp w') →
    DataW.trod enc P w 0 (fun _ => true) true fuel t cs = some x → (∀ p ∈ x.2, sp p.block = true) → ∃ n, DataW.trod enc P w' 0 sp true n t cs = some x := by
  induction hp0 with
  | int h =>
    intro fuel cs x w w' sp hl hr _
    obtain ⟨n, rfl, rfl, hw⟩ := DataW.trod_int h hr
    exact ⟨1, trod_int_mk 0 h hw⟩
  | str h =>
    intro fuel cs x w w' sp hl hr _
    obtain ⟨s, rfl, rfl, hs⟩ := DataW.trod_string h hr
    exact ⟨1, by simp [DataW.trod, h, hs]⟩
  | slice h hc he ih =>
    rename_i t e
    intro fuel cs x w w' sp hl hr hpl
    rcases open_slice h hr with ⟨rfl, rfl⟩ | ⟨a, len, cap, m, n, D, Pl, rfl, hb, hle, hm, hmm, rfl, hel⟩
    · exact ⟨1, by simp [DataW.trod, h]⟩
    simp only [if_true] at hmm
    subst hmm
    have hel' : ∀ i, i < m → ∃ cs n, w'.cells? 0 (a.add (i * P.cellsOf e)) (P.cellsOf e) = some cs ∧ DataW.trod enc P w' 0 sp true n e cs = some (D i, Pl i) := fun i hi => by
      obtain ⟨cs', h1, h2⟩ := hel i hi
      obtain ⟨n', h3⟩ := ih hl h2 fun p hp => hpl p (by
        refine List.mem_append.2 (.inr ?_)
        exact List.mem_flatMap.2 ⟨i, List.mem_range.2 hi, hp⟩)
      exact ⟨cs', n', cells_le hl h1, h3⟩
    by_cases h0 : m = 0
    · subst h0
      obtain rfl : len = 0 := by omega
      cases hs : sp a.block with
      | true => exact shut_slice_whole_cells h hb hle hm hs D Pl hel'
      | false => exact shut_slice_cells h hb hle hm hs D Pl hel'
    · have hs : sp a.block = true := hpl (.cell a.block (a.off + 0)) (by
        refine List.mem_append.2 (.inl ?_)
        unfold MemPlace.row
        refine List.mem_map.2 ⟨0, List.mem_range.2 ?_, rfl⟩
        exact Nat.mul_pos (by omega) (Nat.pos_of_ne_zero hc))
      exact shut_slice_whole_cells h hb hle hm hs D Pl hel'
  | struct h hf ih =>
    rename_i t fs
    intro fuel cs x w w' sp hl hr hpl
    obtain ⟨xs, n, rfl, rfl, hlen, hxl, hx⟩ := DataW.trod_struct h hr
    have hex : ∀ i, i < fs.size → ∃ m, ∀ f, fs[i]? = some f → DataW.trod enc P w' 0 sp true m f.type ((cs.drop f.offset).take (P.cellsOf f.type)) = xs[i]? := fun i hi => by
      have hfi : fs[i]? = some fs[i] := Array.getElem?_eq_getElem hi
      have h1 := hx i _ hfi
      have hxi : xs[i]? = some xs[i] := List.getElem?_eq_getElem (by omega)
      rw [hxi] at h1 ⊢
      obtain ⟨m, h2⟩ := ih i _ hfi hl h1 fun p hp => hpl p (List.mem_flatMap.2 ⟨xs[i], List.getElem_mem _, hp⟩)
      refine ⟨m, fun f hff => ?_⟩
      rw [hfi] at hff; simp only [Option.some.injEq] at hff; subst hff
      exact h2
    obtain ⟨m, hm⟩ := fuel_lt (n := fs.size) (q := fun i m => ∀ f, fs[i]? = some f → DataW.trod enc P w' 0 sp true m f.type ((cs.drop f.offset).take (P.cellsOf f.type)) = xs[i]?)
      (fun i a b hab q f hff => by
        have h1 := q f hff
        have hi := (Array.getElem?_eq_some_iff.1 hff).1
        have hxi : xs[i]? = some xs[i] := List.getElem?_eq_getElem (by omega)
        rw [hxi] at h1 ⊢
        exact DataW.trod_le hab h1) hex
    refine ⟨m + 1, trod_struct_mk h hlen (mapM_of_get _ _ (by simpa using hxl.symm) fun i f hff => ?_)⟩
    rw [Array.getElem?_toList] at hff
    exact hm i (Array.getElem?_eq_some_iff.1 hff).1 f hff
theorem rereadAll : ∀ {ts : List TypeId} {vs : List Value} {ds : List (DataW H)} {ps : List MemPlace} {w w' : World} {sp : Nat → Bool}, (∀ t ∈ ts, Plain P t) → Hp.le (hp w) (hp w') →
    DataW.TrodAll enc P w 0 (fun _ => true) true ts vs ds ps → (∀ p ∈ ps, sp p.block = true) → DataW.TrodAll enc P w' 0 sp true ts vs ds ps
  | [], vs, ds, ps, w, w', sp, _, hl, h, _ => by
    obtain ⟨rfl, rfl, rfl⟩ := trodAll_nil h
    exact rfl
  | t :: ts, vs, ds, ps, w, w', sp, hp0, hl, h, hs => by
    obtain ⟨v, vs1, d, ds1, p, q, rfl, rfl, rfl, ⟨n, h1⟩, h2⟩ := trodAll_cons h
    obtain ⟨m, h3⟩ := reread (hp0 t (by simp)) hl h1 fun x hx => hs x (by simp [hx])
    exact ⟨p, q, ⟨m, h3⟩, rereadAll (fun t' ht => hp0 t' (by simp [ht])) hl h2 fun x hx => hs x (by simp [hx]), rfl⟩
/-! ### Rows that are read -/
end
end Go.Ab
end
