/- Parts of a proof: Aj Ak Al Am An Ao. -/
import Derived.Test.YtikgokpbhldlnaaGreatDoorMb
import Derived.Laws.IdiomStrings
set_option linter.unusedVariables false
set_option linter.unusedSimpArgs false
set_option linter.unusedSectionVars false
section
/- The calculus: structs and rows out of their parts; append, make, stores into rows of one's own. -/
namespace Go.Ab
open Go

def fillB (place : Nat → Option (Nat × Nat)) : List Value → List (Nat × Value) → Option (List Value)
  | cells, [] => some cells
  | cells, (i, v) :: r => match place i with
    | none => none
    | some (off, size) => match Nat.beq v.cells.toList.length size && Nat.ble (off + size) cells.length with
      | true => fillB place (lset cells off v.cells.toList) r
      | false => none

theorem foldl_lset : ∀ (vs : List Value) (k : Nat) (cells : Array Value) (off : Nat),
    (vs.zipIdx k).foldl (fun (cs : Array Value) (x : Value × Nat) => cs.setIfInBounds (off + x.2) x.1) cells = (lset cells.toList (off + k) vs).toArray
  | [], k, cells, off => by simp [lset]
  | v :: vs, k, cells, off => by
    rw [List.zipIdx_cons, List.foldl_cons, foldl_lset vs (k + 1)]
    simp [lset, Nat.add_assoc]

theorem fill_ok {place : Nat → Option (Nat × Nat)} : ∀ (ps : List (Nat × Value)) (cells : Array Value) (cs : List Value), fillB place cells.toList ps = some cs → Instr.fill place cells ps = some cs.toArray
  | [], cells, cs, h => by simp only [fillB, Option.some.injEq] at h; subst h; simp [Instr.fill]
  | (i, v) :: r, cells, cs, h => by
    unfold fillB at h
    unfold Instr.fill
    split at h
    · cases h
    · rename_i off size hp
      rw [hp]
      simp only []
      split at h
      · rename_i hb
        rw [Bool.and_eq_true] at hb
        have h2 := bleLe hb.2
        have h3 : v.cells.size = size := by have := Nat.eq_of_beq_eq_true hb.1; simpa using this
        rw [Array.length_toList] at h2
        have hc : ¬ ((decide (v.cells.size ≠ size) || decide (off + v.cells.size > cells.size)) = true) := by
          simp only [Bool.or_eq_true, decide_eq_true_eq]; omega
        rw [if_neg hc]
        have := foldl_lset v.cells.toList 0 cells off
        rw [Nat.add_zero] at this
        refine fill_ok r _ cs ?_
        have he : v.cells.zipIdx.foldl (fun cs x => cs.setIfInBounds (off + x.2) x.1) cells = (lset cells.toList off v.cells.toList).toArray := by
          rw [← this, ← Array.foldl_toList, Array.toList_zipIdx]
        rw [he]; exact h
      · cases h

/-- A struct's fields: where each lies and how wide it is; and its zero. -/
class TStruct (P : Program) (t : TypeId) (pl : outParam (List (Nat × Nat))) (z : outParam (List Value)) : Prop where
  h : ∀ (w : World) (ps : Array (Nat × Value)) (cs : List Value), fillB (pl[·]?) z ps.toList = some cs → (Instr.build t ps).run P w = .ok (.agg cs.toArray) w

section
variable {P : Program}
theorem run_mapM {α β : Type} {f : α → Sem β} {gf : α → β} {w : World} : ∀ (l : List α), (∀ x ∈ l, (f x).run P w = .ok (gf x) w) → (l.mapM f).run P w = .ok (l.map gf) w
  | [], _ => rfl
  | x :: l, h => by
    rw [List.mapM_cons, run_ok (h x (by simp)), run_ok (run_mapM l (fun y hy => h y (by simp [hy])))]; rfl
theorem tstruct_of {t : TypeId} {fs : List Field} {z : Value} {zs : List Value} (sz : TypeId → Nat) (hz : ∀ w, (zeroValue t).run P w = .ok z w) (hzs : z.cells.toList = zs) (hu : ∀ w, (underlying t).run P w = .ok (.struct fs.toArray) w)
    (hs : ∀ f ∈ fs, ∀ w, (sizeOf f.type).run P w = .ok (sz f.type) w) {pl : List (Nat × Nat)} (hpl : fs.map (fun f => (f.offset, sz f.type)) = pl) : TStruct P t pl zs := ⟨fun w ps cs h => by
  unfold Instr.build
  rw [run_ok (hz w), run_ok (hu w)]
  simp only []
  have hm : ((fs.toArray).mapM (fun f => do pure (f.offset, ← sizeOf f.type)) : Sem (Array (Nat × Nat))).run P w = .ok pl.toArray w := by
    rw [Array.mapM_eq_mapM_toList, map_eq_pure_bind, run_ok (run_mapM (gf := fun f => (f.offset, sz f.type)) fs (fun f hf => by rw [run_ok (hs f hf w)]; rfl)), ← hpl]; rfl
  rw [run_ok hm]
  have : Instr.fill (fun x => pl.toArray[x]?) z.cells ps.toList = some cs.toArray := fill_ok _ _ _ (by rw [hzs]; simpa using h)
  rw [this]; rfl⟩
end

section
variable {P : Program} {E : Env} {L : List Assn} {d : Option Tmp} {ty : TypeId} {pos : String} {af : Array Edge} {gd : Option (Nat × Bool)} {g : Bool} {x y z : Operand}

def pev : List (Nat × Operand) → Env → Option (List (Nat × Value))
  | [], _ => some []
  | (i, x) :: r, E => match opv x E with
    | some (true, v) => match pev r E with
      | some vs => some ((i, v) :: vs)
      | none => none
    | _ => none
theorem pev_sat : ∀ {l : List (Nat × Operand)} {vs : List (Nat × Value)}, pev l E = some vs → ∀ {a : Act}, EnvSat E a.tmps → l.map (fun p => (p.1, a.eval p.2)) = vs
  | [], vs, h, a, ha => by simp only [pev, Option.some.injEq] at h; subst h; rfl
  | (i, x) :: r, vs, h, a, ha => by
    unfold pev at h
    split at h
    · rename_i v h1
      split at h
      · rename_i us h2
        simp only [Option.some.injEq] at h; subst h
        rw [List.map_cons, EvG.of (g := true) h1 a ha rfl, pev_sat h2 ha]
      · cases h
    · cases h

theorem Qt.build {t : TypeId} {ps : List (Nat × Operand)} {vs : List (Nat × Value)} {cs zs : List Value} {pl : List (Nat × Nat)} (hp : pev ps E = some vs) [ht : TStruct P t pl zs] (hf : fillB (pl[·]?) zs vs = some cs) :
    Qt P E L ⟨d, .build t ps.toArray, ty, pos, af, gd⟩ g (.agg cs.toArray) := fun a w h1 _ _ => by
  have hm := pev_sat hp h1
  show (do pure (Next.value (← Instr.build t (ps.toArray.map fun (i, x) => (i, a.eval x)))) : Sem Next).run P w = _
  refine run_v ?_
  refine ht.h w _ cs ?_
  have : (ps.toArray.map fun (i, x) => (i, a.eval x)).toList = vs := by rw [← hm]; simp
  rw [this]; exact hf

theorem zero_row {zs : List Value} (m : Nat) (h0 : zs.length ≠ 0 ∨ m = 0) : ((Array.range (m * zs.length)).map (zs.toArray[· % zs.toArray.size]!)).toList = (List.replicate m zs).flatten := by
  have hfl := flatten_length (sz := zs.length) (List.replicate m zs) (fun r hr => by rw [List.eq_of_mem_replicate hr])
  rw [List.length_replicate] at hfl
  apply List.ext_getElem?
  intro i
  by_cases hi : i < m * zs.length
  · have hz0 : 0 < zs.length := by
      rcases h0 with h0 | h0
      · omega
      · subst h0; omega
    have h1 : i % zs.length < zs.length := Nat.mod_lt _ hz0
    have h2 : i / zs.length < m := Nat.div_lt_of_lt_mul (by rw [Nat.mul_comm]; exact hi)
    have := flatten_get (sz := zs.length) (List.replicate m zs) (i / zs.length) (i % zs.length) zs zs[i % zs.length] (fun r hr => by rw [List.eq_of_mem_replicate hr]) (by rw [List.getElem?_replicate, if_pos h2]) (List.getElem?_eq_getElem h1)
    rw [Nat.div_add_mod'] at this
    rw [this]
    simp [hi, h1]
  · rw [List.getElem?_eq_none (by simp; omega), List.getElem?_eq_none (by rw [hfl]; omega)]

/-- A row of literals. -/
theorem OpT.buildSlice {t e sz m : Nat} {agg : Bool} {ps : List (Nat × Operand)} {vs : List (Nat × Value)} {cs zs : List Value} {zv : Value} [hu : USlice P t e] [hz : TSize P e sz agg] [hzz : TZero P e zv] (hp : pev ps E = some vs)
    (hzv : zv.cells.toList = zs) (hzl : Nat.beq zs.length sz = true) (hs0 : Nat.beq sz 0 = false) (hsm : Nat.ble (m * sz) 16777216 = true) (hf : fillB (fun i => some (i * sz, sz)) (List.replicate m zs).flatten vs = some cs) :
    OpT P E L ⟨d, .buildSlice t m ps.toArray, ty, pos, af, gd⟩ (fun r L' => ∃ b, r = .slice (some ⟨b, 0, none⟩) m m ∧ L' = ptA b e cs :: L) noPanic := fun a w K Q0 h1 h2 hK _ => by
  have hm := pev_sat hp h1
  have hzl' := Nat.eq_of_beq_eq_true hzl
  have hs0' : sz ≠ 0 := fun h => by rw [h] at hs0; simp at hs0
  have hle := bleLe hsm
  unfold Oper.wp
  have hrun : (Instr.buildSlice t m (ps.toArray.map fun (i, x) => (i, a.eval x))).run P w = .ok (.slice (some ⟨w.heap.size, 0, none⟩) m m) { w with heap := w.heap.push (.cells cs.toArray e) } := by
    unfold Instr.buildSlice
    rw [run_ok (run_u hu.h w)]
    simp only []
    rw [run_ok (hz.size w), if_neg (by omega)]
    have hpar : (ps.toArray.map fun (i, x) => (i, a.eval x)).toList = vs := by rw [← hm]; simp
    have hfin : ∀ zc : Array Value, ((Array.range (m * sz)).map (zc[· % zc.size]!)).toList = (List.replicate m zs).flatten →
        ((match Instr.fill (fun i => some (i * sz, sz)) ((Array.range (m * sz)).map (zc[· % zc.size]!)) (ps.toArray.map fun (i, x) => (i, a.eval x)).toList with
          | some cells => do pure (Value.slice (some (← newRow e cells)) m m)
          | _ => stuck "buildSlice: a part of the wrong size") : Sem Value).run P w = .ok (.slice (some ⟨w.heap.size, 0, none⟩) m m) { w with heap := w.heap.push (.cells cs.toArray e) } := by
      intro zc hzc
      have : Instr.fill (fun i => some (i * sz, sz)) ((Array.range (m * sz)).map (zc[· % zc.size]!)) (ps.toArray.map fun (i, x) => (i, a.eval x)).toList = some cs.toArray := by
        rw [hpar]; exact fill_ok _ _ _ (by rw [hzc]; exact hf)
      rw [this]; rfl
    by_cases hm0 : m * sz = 0
    · rw [if_pos hm0]
      have hm1 : m = 0 := by
        rcases Nat.mul_eq_zero.1 hm0 with h | h
        · exact h
        · exact absurd h hs0'
      subst hm1
      refine hfin #[] ?_
      simp
    · rw [if_neg hm0]
      rw [run_ok (hzz.h w), run_ok (a := zv.cells) (w' := w) rfl]
      refine hfin zv.cells ?_
      have := zero_row (zs := zs) m (.inl (by omega))
      rw [hzl'] at this
      rw [← this, ← hzv]
  have he : (execOp a.eval ⟨d, .buildSlice t m ps.toArray, ty, pos, af, gd⟩).run P w = .ok (.value (.slice (some ⟨w.heap.size, 0, none⟩) m m)) { w with heap := w.heap.push (.cells cs.toArray e) } := by
    show (do pure (Next.value (← Instr.buildSlice t m (ps.toArray.map fun (i, x) => (i, a.eval x)))) : Sem Next).run P w = _
    exact run_v hrun
  rw [he]
  refine hK _ _ _ ⟨_, rfl, rfl⟩ (Sat.new ?_ h2)
  exact Hp.single_at _ _

theorem run_lenSlice (a : Option Addr) (m c : Nat) (w : World) : (Builtin.lenOf (.slice a m c)).run P w = .ok m w := rfl

/-- append of what a slice reads as. -/
theorem OpT.append {t1 t2 e e2 sz bt n m c c' : Nat} {agg : Bool} {zv : Value} {a a' : Option Addr} {c1 c2 : Bool} [USlice P t1 e] [hu2 : USlice P t2 e2] [TSize P e sz agg] [TZero P e zv] [TBytes P e bt] (i : Nat) (rows ys : List (List Value))
    (hx : opv x E = some (c1, .slice a n c)) [Imp true c1] (hy : opv y E = some (c2, .slice a' m c')) [Imp true c2] (hi : L[i]? = some (ownA e sz a c rows)) (hn : n = rows.length) (hm : m = ys.length) (hys : Sl L a' c' sz ys)
    (hzl : Nat.beq zv.cells.toList.length sz = true) (hsc : ys.flatten.all scalar = true) (hbt : (Nat.blt 0 bt && Nat.ble bt 1048576) = true) (hb : (rows.length + ys.length) * bt ≤ 1099511627776) :
    OpT P E L ⟨d, .call ⟨.builtin .append, #[x, y], #[t1, t2]⟩, ty, pos, af, gd⟩ (fun r L' => ∃ a2 c2, r = .slice a2 (rows ++ ys).length c2 ∧ L' = L.set i (ownA e sz a2 c2 (rows ++ ys))) noPanic := fun ac w K Q0 h1 h2 hK _ => by
  unfold Oper.wp
  subst hn; subst hm
  rw [Bool.and_eq_true] at hbt
  obtain ⟨h0, ⟨b', o', e1, e2', e3⟩⟩ := hys
  have hfl := flatten_length ys e2'
  have hnew : ∀ w', Hp.le (hp w) (hp w') → (Builtin.firstCells sz ys.length (.slice a' ys.length c')).run P w' = .ok ys.flatten.toArray w' := fun w' hle => by
    cases a' with
    | none =>
      have : ys = [] := Classical.byContradiction fun h => by have := e1 h; cases this
      subst this; rfl
    | some p =>
      show (loadCells p (ys.length * sz)).run P w' = _
      by_cases hy0 : ys = []
      · subst hy0; simp [loadCells, loadCellsFrom, Sem.run, pure]
      · have := e1 hy0; simp only [Option.some.injEq] at this; subst this
        have hr := RowsAt.mono _ _ _ _ _ _ hle (e3 _ h2)
        unfold loadCells
        have hcells : CellsAt b' (o' + 0) ys.flatten (hp w') := by
          obtain ⟨r0, hr0⟩ : ∃ r, ys[0]? = some r := by
            cases ys with
            | nil => exact absurd rfl hy0
            | cons r _ => exact ⟨r, rfl⟩
          obtain ⟨cs, ee, f, h5, _⟩ := (hr 0 r0 hr0).2
          refine ⟨cs, ee, f, h5, fun j v hj => ?_⟩
          have hlt := (List.getElem?_eq_some_iff.1 hj).1
          rw [hfl] at hlt
          have hs0 : 0 < sz := by
            rcases Nat.eq_zero_or_pos sz with h | h
            · rw [h] at hlt; simp at hlt
            · exact h
          have hjd : j / sz < ys.length := Nat.div_lt_of_lt_mul (by rw [Nat.mul_comm]; exact hlt)
          have hjm : j % sz < sz := Nat.mod_lt _ hs0
          have hrow := List.getElem?_eq_getElem hjd
          have hl := e2' _ (List.getElem_mem hjd)
          have hv := flatten_get ys (j / sz) (j % sz) _ _ e2' hrow (List.getElem?_eq_getElem (by rw [hl]; exact hjm))
          rw [Nat.div_add_mod', hj] at hv
          obtain ⟨cs2, ee2, f2, h6, h7⟩ := (hr (j / sz) _ hrow).2
          rw [h5] at h6; simp only [Option.some.injEq, Obj.cells.injEq] at h6
          obtain ⟨rfl, rfl, rfl⟩ := h6
          have := h7 (j % sz) _ (List.getElem?_eq_getElem (by rw [hl]; exact hjm))
          rw [Nat.add_assoc, Nat.div_add_mod'] at this
          rw [Nat.add_zero, this, hv]
        have := run_loadCells (P := P) (w := w') (b := b') (o := o') (ys.length * sz) 0 ys.flatten #[] hfl hcells
        rw [this]; simp
  obtain ⟨a2, c2', w', hr, hs'⟩ := run_append (P := P) (ty := ty) (t1 := t1) (t2 := t2) (n := rows.length) (m := ys.length) (yv := .slice a' ys.length c') (new := ys.flatten) (w := w) ⟨_, hu2.h, .inl ⟨_, rfl⟩⟩ (Nat.eq_of_beq_eq_true hzl) (fun w => run_lenSlice _ _ _ w) hnew hfl hsc rows rfl hb
    (by have := bltLt hbt.1; omega) (bleLe hbt.2) (Sat.pull hi h2) rfl e2' rfl
  have he : (execOp ac.eval ⟨d, .call ⟨.builtin .append, #[x, y], #[t1, t2]⟩, ty, pos, af, gd⟩).run P w = .ok (.value (.slice a2 (rows.length + ys.length) c2')) w' := by
    simp only [execOp, resolve, List.map_toArray, List.map_cons, List.map_nil, EvG.of (g := true) hx ac h1 rfl, EvG.of (g := true) hy ac h1 rfl]
    exact run_v hr
  rw [he]
  exact hK _ _ _ ⟨a2, c2', by rw [List.length_append], rfl⟩ (Sat.set hi hs')
end
end Go.Ab
end

section
/- The calculus: make, stores into rows, and the steps on rows in one piece. -/
namespace Go.Ab
open Go
section
variable {P : Program} {n : Nat} {Q : Post} {E : Env} {D : List Deferred} {L : List Assn} {ops : Array Oper} {rest : List Oper} {ty : TypeId} {pos : String} {af : Array Edge} {gd : Option (Nat × Bool)} {x y : Operand}

theorem wrap_id {i : Int} (h1 : -9223372036854775808 ≤ i) (h2 : i < 9223372036854775808) : IntKind.i64.wrap i = i := IntWalk.i64_in i ⟨h1, by omega⟩
theorem wrap_nat {m : Nat} (h : m < 9223372036854775808) : IntKind.i64.wrap (m : Int) = m := wrap_id (by omega) (by omega)

theorem OpT.make {d : Option Tmp} {t e sz bt m c : Nat} {agg : Bool} {zv : Value} {zs : List Value} {k1 k2 : IntKind} {i1 i2 : Int} {c1 c2 : Bool} [hu : USlice P t e] [hz : TSize P e sz agg] [hzz : TZero P e zv] [hbt : TBytes P e bt]
    (hx : opv x E = some (c1, .int k1 i1)) [Imp true c1] (hy : opv y E = some (c2, .int k2 i2)) [Imp true c2] (h1 : i1 = (m : Int)) (h2 : i2 = (c : Int)) (hmc : m ≤ c) (hb : c * bt ≤ 1099511627776) (hbt0 : Nat.blt 0 bt = true)
    (hzv : zv.cells.toList = zs) (hzl : Nat.beq zs.length sz = true) (hs0 : Nat.beq sz 0 = false) :
    OpT P E L ⟨d, .makeSlice t x y, ty, pos, af, gd⟩ (fun r L' => ∃ b, r = .slice (some ⟨b, 0, none⟩) m c ∧ L' = ownA e sz (some ⟨b, 0, none⟩) c (List.replicate m zs) :: L) noPanic := fun a w K Q0 e1 e2 hK _ => by
  have hzl' := Nat.eq_of_beq_eq_true hzl
  have hs0' : sz ≠ 0 := fun h => by rw [h] at hs0; simp at hs0
  have hbt1 := bltLt hbt0
  obtain ⟨ti, hti, htb⟩ := hbt.h w
  subst h1; subst h2
  have hc : c < 9223372036854775808 := by
    have : c * 1 ≤ c * bt := Nat.mul_le_mul_left _ hbt1
    omega
  have hbi : ((bt : Int) * (c : Int)) ≤ 1099511627776 := by
    have : ((c * bt : Nat) : Int) ≤ 1099511627776 := by omega
    rw [Int.natCast_mul, Int.mul_comm] at this; exact this
  have hrun : (Instr.makeSlice t (.int k1 m) (.int k2 c)).run P w = .ok (.slice (some ⟨w.heap.size, 0, none⟩) m c)
      { w with heap := w.heap.push (.cells ((Array.range (c * sz)).map (zs.toArray[· % zs.toArray.size]!)) e) } := by
    unfold Instr.makeSlice
    rw [run_ok (run_u hu.h w)]
    simp only []
    rw [run_ok (a := (m : Int)) (w' := w) rfl, run_ok (a := (c : Int)) (w' := w) rfl, run_ok hti]
    rw [wrap_nat hc, wrap_nat (by omega : m < _), htb]
    have hcond : ¬ ((decide ((c : Int) < 0) || decide ((bt : Int) * (c : Int) > 2 ^ 48) || decide ((m : Int) < 0) || decide ((m : Int) > (c : Int))) = true) := by
      have e : ((2 : Int) ^ 48) = 281474976710656 := by decide
      rw [e]
      simp only [Bool.or_eq_true, decide_eq_true_eq]
      omega
    have hcond' : ¬ ((decide ((c : Int) < 0 ∨ (bt : Int) * (c : Int) > 2 ^ 48) || decide ((m : Int) < 0) || decide ((m : Int) > (c : Int))) = true) := by
      have e : ((2 : Int) ^ 48) = 281474976710656 := by decide
      rw [e]
      simp only [Bool.or_eq_true, decide_eq_true_eq]
      omega
    have hask : ∀ k, (askRoom k).run P w = .ok () w := fun k => by unfold askRoom; split <;> rfl
    simp only [Int.toNat_natCast]
    first | rw [if_neg hcond] | rw [if_neg hcond']
    rw [run_ok (hask _), run_ok (hz.size w)]
    by_cases h0 : c * sz = 0
    · rw [if_pos h0, run_ok (a := (#[] : Array Value)) (w' := w) rfl]
      have h1 : ((Array.range (c * sz)).map (fun x => (#[] : Array Value)[x % (#[] : Array Value).size]!)) = ((Array.range (c * sz)).map (zs.toArray[· % zs.toArray.size]!)) := by rw [h0]; simp
      rw [h1]; rfl
    · rw [if_neg h0, run_ok (hzz.h w), run_ok (a := zv.cells) (w' := w) rfl]
      have h1 : zv.cells = zs.toArray := by rw [← hzv]
      rw [h1]; rfl
  unfold Oper.wp
  have he : (execOp a.eval ⟨d, .makeSlice t x y, ty, pos, af, gd⟩).run P w = .ok (.value (.slice (some ⟨w.heap.size, 0, none⟩) m c)) { w with heap := w.heap.push (.cells ((Array.range (c * sz)).map (zs.toArray[· % zs.toArray.size]!)) e) } := by
    show (do pure (Next.value (← Instr.makeSlice t (a.eval x) (a.eval y))) : Sem Next).run P w = _
    rw [EvG.of (g := true) hx a e1 rfl, EvG.of (g := true) hy a e1 rfl]
    exact run_v hrun
  rw [he]
  refine hK _ _ _ ⟨_, rfl, rfl⟩ (Sat.new ?_ e2)
  have hrow := zero_row (zs := zs) c (.inl (by omega))
  rw [hzl'] at hrow
  refine ⟨fun r hr => by rw [List.eq_of_mem_replicate hr]; exact hzl', by simpa using hmc, .inr ⟨_, 0, _, rfl, Hp.single_at _ _, by simp, fun i v hi => ?_⟩⟩
  rw [Nat.zero_add, ← Array.getElem?_toList, hrow]
  have : (List.replicate c zs).flatten = (List.replicate m zs).flatten ++ (List.replicate (c - m) zs).flatten := by
    rw [← List.flatten_append, List.replicate_append_replicate]; congr 2; omega
  rw [this, List.getElem?_append_left (List.getElem?_eq_some_iff.1 hi).1]; exact hi

/-- A store into a row of one's own: at row k, from cell f of it on. -/
theorem OpT.storeRow {t e sz b o c tz : Nat} {agg : Bool} {v : Value} {ws : List Value} {rows : List (List Value)} {r : List Value} {c1 c2 : Bool} [hz : TSize P t tz agg] (i k f : Nat)
    (hx : opv x E = some (c1, .pointer (some ⟨b, o + k * sz + f, none⟩))) [Imp true c1] (hy : opv y E = some (c2, v)) [Imp true c2]
    (hi : L[i]? = some (ownA e sz (some ⟨b, o, none⟩) c rows)) (hr : rows[k]? = some r) (hv : v.cells.toList = ws) (hsz : ws.length = tz) (hs : ws.all scalar = true) (hl : f + ws.length ≤ sz) :
    OpT P E L ⟨none, .store t x y, ty, pos, af, gd⟩ (fun _ L' => L' = L.set i (ownA e sz (some ⟨b, o, none⟩) c (rows.set k (lset r f ws)))) noPanic := fun a w K Q0 h1 h2 hK _ => by
  obtain ⟨h0, l0, ⟨o1, o2, o3⟩, s0⟩ := Sat.pull hi h2
  rcases o3 with ⟨o3, _⟩ | ⟨b', o', cs, o3, o4, o5, o6⟩
  · cases o3
  simp only [Option.some.injEq, Addr.mk.injEq, and_true] at o3
  obtain ⟨rfl, rfl⟩ := o3
  have hk := (List.getElem?_eq_some_iff.1 hr).1
  have hrl := o1 r (List.mem_of_getElem? hr)
  have hbnd : k * sz + sz ≤ c * sz := by
    rw [← Nat.succ_mul]; exact Nat.mul_le_mul_right _ (by omega)
  have hb : w.heap[b]? = some (.cells cs.toList.toArray e (0, 0)) := by rw [Array.toArray_toList]; exact l0 _ _ o4
  have hcl0 : cs.toList.length = cs.size := Array.length_toList
  have hst := run_storeCells (P := P) (b := b) (e := e) (o := o + k * sz + f) ws 0 w cs.toList hb (by simpa using hs) (by omega)
  have hrun : (Instr.storeAt t (.pointer (some ⟨b, o + k * sz + f, none⟩)) v).run P w = .ok () { w with heap := w.heap.setIfInBounds b (.cells (lset cs.toList (o + k * sz + f + 0) ws).toArray e (0, 0)) } := by
    show (storeVar t ⟨b, o + k * sz + f, none⟩ v).run P w = _
    unfold storeVar
    rw [run_ok (hz.size w), ← hsz]
    have : v.cells.size = ws.length := by rw [← hv]; simp
    simp only [this, ne_eq, not_true_eq_false, if_false]
    rw [hv]; exact hst
  unfold Oper.wp
  have he : (execOp a.eval ⟨none, .store t x y, ty, pos, af, gd⟩).run P w = .ok .skip { w with heap := w.heap.setIfInBounds b (.cells (lset cs.toList (o + k * sz + f + 0) ws).toArray e (0, 0)) } := by
    show (do Instr.storeAt t (a.eval x) (a.eval y); pure Next.skip : Sem Next).run P w = _
    rw [EvG.of (g := true) hx a h1 rfl, EvG.of (g := true) hy a h1 rfl]
    rw [run_ok hrun]; rfl
  rw [he]
  refine hK undef _ _ rfl (Sat.set hi ?_)
  have hbs := lt_of_hp (w := w) (l0 _ _ o4)
  refine Sat.turn (b := b) (Sat.pull hi h2) (fun h' ha => ?_) hp_set (fun h' ha hl' => ?_) (by rw [hp_set_at hbs]; rfl)
  · obtain ⟨_, _, h3⟩ := ha
    rcases h3 with ⟨h3, _⟩ | ⟨b', o', cs', h3, h4, _⟩
    · cases h3
    · simp only [Option.some.injEq, Addr.mk.injEq, and_true] at h3; obtain ⟨rfl, rfl⟩ := h3; exact ⟨_, h4⟩
  · have hrl' : ∀ q ∈ rows.set k (lset r f ws), q.length = sz := fun q hq => by
      rcases List.mem_or_eq_of_mem_set hq with h | h
      · exact o1 q h
      · rw [h, lset_length, hrl]
    refine ⟨hrl', by simpa using o2, .inr ⟨b, o, _, rfl, by show (if b = b then hp _ b else h' b) = _; rw [if_pos rfl, hp_set_at hbs], by rw [upd_size, Array.length_toList]; exact o5, fun j u hj => ?_⟩⟩
    rw [List.getElem?_toArray, lset_get]
    have hjl := (List.getElem?_eq_some_iff.1 hj).1
    rw [flatten_length _ hrl', List.length_set] at hjl
    have hs0 : 0 < sz := by
      rcases Nat.eq_zero_or_pos sz with h | h
      · rw [h] at hjl; simp at hjl
      · exact h
    have hjd : j / sz < rows.length := Nat.div_lt_of_lt_mul (by rw [Nat.mul_comm]; exact hjl)
    have hjm : j % sz < sz := Nat.mod_lt _ hs0
    have hjj := Nat.div_add_mod' j sz
    have hcl : rows.length * sz ≤ c * sz := Nat.mul_le_mul_right _ o2
    rw [hcl0]
    -- the value at j of the new rows
    by_cases hjk : j / sz = k
    · subst hjk
      have hv1 := flatten_get (rows.set (j / sz) (lset r f ws)) (j / sz) (j % sz) (lset r f ws) ((lset r f ws)[j % sz]'(by rw [lset_length, hrl]; exact hjm)) hrl' (by rw [List.getElem?_set_self hk]) (List.getElem?_eq_getElem _)
      rw [hjj, hj] at hv1
      simp only [Option.some.injEq] at hv1
      have hv2 : (lset r f ws)[j % sz]? = some u := by rw [List.getElem?_eq_getElem (by rw [lset_length, hrl]; exact hjm), hv1]
      rw [lset_get, hrl] at hv2
      by_cases hin : f ≤ j % sz ∧ j % sz < f + ws.length
      · rw [if_pos ⟨hin.1, hin.2, hjm⟩] at hv2
        rw [if_pos ⟨by omega, by omega, by omega⟩, ← hv2]; congr 1; omega
      · rw [if_neg (by omega)] at hv2
        rw [if_neg (by omega), Array.getElem?_toList]
        refine o6 j u ?_
        have := flatten_get rows (j / sz) (j % sz) r u o1 hr hv2
        rw [hjj] at this; exact this
    · have hne : ¬ (o + k * sz + f + 0 ≤ o + j ∧ o + j < o + k * sz + f + 0 + ws.length ∧ o + j < cs.size) := by
        rintro ⟨q1, q2, _⟩
        apply hjk
        have : j / sz = k := by
          apply Nat.div_eq_of_lt_le
          · omega
          · rw [Nat.succ_mul]; omega
        exact this
      rw [if_neg hne, Array.getElem?_toList]
      refine o6 j u ?_
      have hrow := List.getElem?_eq_getElem hjd
      have hl2 := o1 _ (List.getElem_mem hjd)
      have hv1 := flatten_get (rows.set k (lset r f ws)) (j / sz) (j % sz) rows[j / sz] (rows[j / sz][j % sz]'(by rw [hl2]; exact hjm)) hrl' (by rw [List.getElem?_set_ne (Ne.symm hjk)]; exact hrow) (List.getElem?_eq_getElem _)
      have hv2 := flatten_get rows (j / sz) (j % sz) rows[j / sz] (rows[j / sz][j % sz]'(by rw [hl2]; exact hjm)) o1 hrow (List.getElem?_eq_getElem _)
      rw [hjj] at hv1 hv2
      rw [hv2, ← hv1]; exact hj
end
end Go.Ab
end

section
/- The calculus: the steps in one piece, and the walk by itself with what is known of memory at hand. -/
namespace Go.Ab
open Go
attribute [local irreducible] Wp WpO Qt OpT Ct
section
variable {P : Program} {n : Nat} {Q : Post} {E : Env} {D : List Deferred} {L : List Assn} {ops : Array Oper} {rest : List Oper} {m m' : Md} {d : Nat} {ty : TypeId} {pos : String} {af : Array Edge} {x y : Operand} {t u : TypeId} {gd : Nat × Bool} {g c1 c2 : Bool}

theorem S.idx [Nxt m m'] {e b o ln c sz : Nat} {agg : Bool} {i : Int} {ik : IntKind} (k : Nat) (h0 : Nat.blt d n = true) (hx : opv x E = some (true, .slice (some ⟨b, o, Option.none⟩) ln c)) (hy : opv y E = some (true, .int ik i)) [USlice P t e] [TSize P e sz agg]
    (hi : i = (k : Int)) (hlt : k < ln) (h : WpO P n ops Q m' rest ((d, .v (.pointer (some ⟨b, o + k * sz, Option.none⟩))) :: E) D L) : WpO P n ops Q m (⟨some d, .indexAddr t x y, ty, pos, af, Option.none⟩ :: rest) E D L :=
  WpO.q rfl h0 (Qt.idx k hx hy (fun _ => ⟨hi, hlt⟩)) h
theorem G.idx [Nxt m m'] {e b o ln c sz : Nat} {agg : Bool} {i : Int} {ik : IntKind} (k : Nat) (h0 : Nat.blt d n = true) (hg : guardOf ops E gd = some g) (hx : opv x E = some (c1, .slice (some ⟨b, o, Option.none⟩) ln c)) (i1 : Imp g c1) (hy : opv y E = some (c2, .int ik i)) (i2 : Imp g c2) [USlice P t e] [TSize P e sz agg]
    (hi : g = true → i = (k : Int) ∧ k < ln) (h : WpO P n ops Q m' rest ((d, .g g (.pointer (some ⟨b, o + k * sz, Option.none⟩))) :: E) D L) : WpO P n ops Q m (⟨some d, .indexAddr t x y, ty, pos, af, some gd⟩ :: rest) E D L :=
  WpO.qd rfl h0 hg (Qt.idx k hx hy hi) h
theorem Qt.max2 {L : List Assn} {d : Option Tmp} {gd : Option (Nat × Bool)} {k : IntKind} {a b : Int} (hx : opv x E = some (c1, .int k a)) [Imp g c1] (hy : opv y E = some (c2, .int k b)) [Imp g c2] :
    Qt P E L ⟨d, .call ⟨.builtin .max, #[x, y], #[t, u]⟩, ty, pos, af, gd⟩ g (.int k (max a b)) := by
  unfold Qt
  intro ac w h1 _ h3
  simp only [execOp, resolve, List.map_toArray, List.map_cons, List.map_nil, EvG.of hx ac h1 h3, EvG.of hy ac h1 h3]
  refine run_v ?_
  have : (if b > a then b else a) = max a b := by split <;> omega
  show Result.ok (Value.int k (if b > a then b else a)) w = _
  rw [this]
theorem S.max2 [Nxt m m'] {k : IntKind} {a b : Int} (h0 : Nat.blt d n = true) (hx : opv x E = some (true, .int k a)) (hy : opv y E = some (true, .int k b))
    (h : WpO P n ops Q m' rest ((d, .v (.int k (max a b))) :: E) D L) : WpO P n ops Q m (⟨some d, .call ⟨.builtin .max, #[x, y], #[t, u]⟩, ty, pos, af, Option.none⟩ :: rest) E D L := WpO.q rfl h0 (Qt.max2 hx hy) h
/-- A whole struct is read. -/
theorem S.loadN [Nxt m m'] {b o sz : Nat} {vs : List Value} (h0 : Nat.blt d n = true) (hx : opv x E = some (true, .pointer (some ⟨b, o, Option.none⟩))) [TSize P t sz true] (hE : Ent (mem m L) (CellsAt b o vs)) (hl : vs.length = sz)
    (h : WpO P n ops Q m' rest ((d, .v (.agg vs.toArray)) :: E) D L) : WpO P n ops Q m (⟨some d, .load t x, ty, pos, af, Option.none⟩ :: rest) E D L := WpO.q rfl h0 (Qt.loadN (fun _ => hE) hl hx) h
/-- A call of a function that returns. -/
theorem WpO.call [Nxt m m'] {f : FuncId} {args : List Operand} {tys : Array TypeId} {vs : List Value} {φ : Value → List Assn → Prop} (hc : ∀ (args : Array Value) (w : World), Sem.run P (callFunc f args) w = .ok (.enter f args) w) (h0 : Nat.blt d n = true) (hargs : evs args E = some vs)
    (hct : Ct P f vs.toArray L (ret φ)) (h : ∀ v L', φ v L' → Keeps m L' ∧ WpO P n ops Q m' rest ((d, .v v) :: E) D L') : WpO P n ops Q m (⟨some d, .call ⟨.value (.func f), args.toArray, tys⟩, ty, pos, af, Option.none⟩ :: rest) E D L :=
  WpO.op rfl h0 (OpT.call hc hargs hct) nofun h
/-- .. that leaves memory as it is. -/
theorem WpO.callq [Nxt m m'] {f : FuncId} {args : List Operand} {tys : Array TypeId} {vs : List Value} {v : Value} (hc : ∀ (args : Array Value) (w : World), Sem.run P (callFunc f args) w = .ok (.enter f args) w) (h0 : Nat.blt d n = true) (hargs : evs args E = some vs)
    (hct : Ct P f vs.toArray L (ret fun r L' => r = v ∧ L' = L)) (hk : Keeps m L) (h : WpO P n ops Q m' rest ((d, .v v) :: E) D L) : WpO P n ops Q m (⟨some d, .call ⟨.value (.func f), args.toArray, tys⟩, ty, pos, af, Option.none⟩ :: rest) E D L :=
  WpO.call hc h0 hargs hct fun _ _ ⟨e1, e2⟩ => by subst e1; subst e2; exact ⟨hk, h⟩
theorem WpO.buildSlice [Nxt m m'] {e sz ln : Nat} {agg : Bool} {ps : List (Nat × Operand)} {vs : List (Nat × Value)} {cs zs : List Value} {zv : Value} [USlice P t e] [TSize P e sz agg] [TZero P e zv] (h0 : Nat.blt d n = true) (hp : pev ps E = some vs)
    (hzv : zv.cells.toList = zs) (hzl : Nat.beq zs.length sz = true) (hs0 : Nat.beq sz 0 = false) (hsm : Nat.ble (ln * sz) 16777216 = true) (hf : fillB (fun i => some (i * sz, sz)) (List.replicate ln zs).flatten vs = some cs) (hk : ∀ b, Keeps m (ptA b e cs :: L))
    (h : ∀ b, WpO P n ops Q m' rest ((d, .v (.slice (some ⟨b, 0, Option.none⟩) ln ln)) :: E) D (ptA b e cs :: L)) : WpO P n ops Q m (⟨some d, .buildSlice t ln ps.toArray, ty, pos, af, Option.none⟩ :: rest) E D L :=
  WpO.op rfl h0 (OpT.buildSlice hp hzv hzl hs0 hsm hf) nofun fun _ _ ⟨b, e1, e2⟩ => by subst e1; subst e2; exact ⟨hk b, h b⟩
theorem WpO.append [Nxt m m'] {e e2 sz bt ln lm c c' : Nat} {agg : Bool} {zv : Value} {a a' : Option Addr} [USlice P t e] [USlice P u e2] [TSize P e sz agg] [TZero P e zv] [TBytes P e bt] (i : Nat) {rows : List (List Value)} (ys : List (List Value)) (h0 : Nat.blt d n = true)
    (hx : opv x E = some (c1, .slice a ln c)) [Imp true c1] (hy : opv y E = some (c2, .slice a' lm c')) [Imp true c2] (hi : L[i]? = some (ownA e sz a c rows)) (hn : ln = rows.length) (hm : lm = ys.length) (hys : Sl L a' c' sz ys)
    (hzl : Nat.beq zv.cells.toList.length sz = true) (hsc : ys.flatten.all scalar = true) (hbt : (Nat.blt 0 bt && Nat.ble bt 1048576) = true) (hb : (rows.length + ys.length) * bt ≤ 1099511627776)
    (hk : ∀ a2 k2, Keeps m (L.set i (ownA e sz a2 k2 (rows ++ ys))))
    (h : ∀ a2 k2, WpO P n ops Q m' rest ((d, .v (.slice a2 (rows ++ ys).length k2)) :: E) D (L.set i (ownA e sz a2 k2 (rows ++ ys)))) : WpO P n ops Q m (⟨some d, .call ⟨.builtin .append, #[x, y], #[t, u]⟩, ty, pos, af, Option.none⟩ :: rest) E D L :=
  WpO.op rfl h0 (OpT.append i rows ys hx hy hi hn hm hys hzl hsc hbt hb) nofun fun _ _ ⟨a2, k2, e1, e2⟩ => by subst e1; subst e2; exact ⟨hk a2 k2, h a2 k2⟩
/-- .. of literals, whose row lies first in memory and is let go. -/
theorem WpO.appendLit [Nxt m m'] {e e2 e3 sz bt ln lm c c' b' : Nat} {agg : Bool} {zv : Value} {a : Option Addr} {vs : List Value} [USlice P t e] [USlice P u e2] [TSize P e sz agg] [TZero P e zv] [TBytes P e bt] (i : Nat) {rows : List (List Value)} (ys : List (List Value)) (h0 : Nat.blt d n = true)
    (hx : opv x E = some (c1, .slice a ln c)) [Imp true c1] (hy : opv y E = some (c2, .slice (some ⟨b', 0, Option.none⟩) lm c')) [Imp true c2] (hi : L[i]? = some (ownA e sz a c rows)) (hn : ln = rows.length) (hm : lm = ys.length) (hc' : Nat.ble lm c' = true)
    (hys : ys.flatten = vs) (hyl : (ys.all fun r => Nat.beq r.length sz) = true) 
    (hzl : Nat.beq zv.cells.toList.length sz = true) (hsc : vs.all scalar = true) (hbt : (Nat.blt 0 bt && Nat.ble bt 1048576) = true) (hb : (rows.length + ys.length) * bt ≤ 1099511627776)
    (hk : ∀ a2 k2, Keeps m (L.set i (ownA e sz a2 k2 (rows ++ ys))))
    (h : ∀ a2 k2, WpO P n ops Q m' rest ((d, .v (.slice a2 (rows ++ ys).length k2)) :: E) D (L.set i (ownA e sz a2 k2 (rows ++ ys)))) : WpO P n ops Q m (⟨some d, .call ⟨.builtin .append, #[x, y], #[t, u]⟩, ty, pos, af, Option.none⟩ :: rest) E D (ptA b' e3 vs :: L) := by
  have hl : ∀ r ∈ ys, r.length = sz := fun r hr => by
    rw [List.all_eq_true] at hyl; exact Nat.eq_of_beq_eq_true (hyl r hr)
  refine WpO.op rfl h0 (OpT.append (L := ptA b' e3 vs :: L) (i + 1) rows ys hx hy (by simpa using hi) hn hm ⟨by have := bleLe hc'; omega, ⟨b', 0, fun _ => rfl, hl, ?_⟩⟩ hzl (by rw [hys]; exact hsc) hbt hb) nofun fun _ _ ⟨a2, k2, e1, e2⟩ => ?_
  · intro k hs
    obtain ⟨h1, l1, p1, _⟩ := hs
    refine RowsAt.mono _ _ _ _ _ _ l1 ?_
    have := ownA.ofPt (e := e3) (b := b') (c := ys.length) hys hl rfl p1
    exact this.rowsAt
  · subst e1; subst e2
    rw [List.set_cons_succ]
    refine ⟨?_, WpO.parts (fun k => Sat.tail) (h a2 k2)⟩
    have := hk a2 k2
    cases m with
    | seq => trivial
    | any Ls k => cases k with
      | zero => trivial
      | succ k => exact fun k hs => this k hs.tail
theorem WpO.make [Nxt m m'] {e sz bt : Nat} {agg : Bool} {zv : Value} {zs : List Value} {k1 k2 : IntKind} {i1 i2 : Int} [USlice P t e] [TSize P e sz agg] [TZero P e zv] [TBytes P e bt] (ln c : Nat) (h0 : Nat.blt d n = true)
    (hx : opv x E = some (c1, .int k1 i1)) [Imp true c1] (hy : opv y E = some (c2, .int k2 i2)) [Imp true c2] (h1 : i1 = (ln : Int)) (h2 : i2 = (c : Int)) (hmc : ln ≤ c) (hb : c * bt ≤ 1099511627776) (hbt0 : Nat.blt 0 bt = true)
    (hzv : zv.cells.toList = zs) (hzl : Nat.beq zs.length sz = true) (hs0 : Nat.beq sz 0 = false) (hk : ∀ b, Keeps m (ownA e sz (some ⟨b, 0, Option.none⟩) c (List.replicate ln zs) :: L))
    (h : ∀ b, WpO P n ops Q m' rest ((d, .v (.slice (some ⟨b, 0, Option.none⟩) ln c)) :: E) D (ownA e sz (some ⟨b, 0, Option.none⟩) c (List.replicate ln zs) :: L)) : WpO P n ops Q m (⟨some d, .makeSlice t x y, ty, pos, af, Option.none⟩ :: rest) E D L :=
  WpO.op rfl h0 (OpT.make hx hy h1 h2 hmc hb hbt0 hzv hzl hs0) nofun fun _ _ ⟨b, e1, e2⟩ => by subst e1; subst e2; exact ⟨hk b, h b⟩
theorem WpO.storeRow [Nxt m m'] {e sz b o c tz : Nat} {agg : Bool} {v : Value} {ws : List Value} {rows : List (List Value)} {r : List Value} [TSize P t tz agg] (i k f : Nat)
    (hx : opv x E = some (c1, .pointer (some ⟨b, o + k * sz + f, Option.none⟩))) [Imp true c1] (hy : opv y E = some (c2, v)) [Imp true c2]
    (hi : L[i]? = some (ownA e sz (some ⟨b, o, Option.none⟩) c rows)) (hr : rows[k]? = some r) (hv : v.cells.toList = ws) (hsz : ws.length = tz) (hs : ws.all scalar = true) (hl : f + ws.length ≤ sz) (hk : Keeps m (L.set i (ownA e sz (some ⟨b, o, Option.none⟩) c (rows.set k (lset r f ws)))))
    (h : WpO P n ops Q m' rest E D (L.set i (ownA e sz (some ⟨b, o, Option.none⟩) c (rows.set k (lset r f ws))))) : WpO P n ops Q m (⟨Option.none, .store t x y, ty, pos, af, Option.none⟩ :: rest) E D L :=
  WpO.op0 rfl (OpT.storeRow i k f hx hy hi hr hv hsz hs hl) nofun fun _ _ e => by subst e; exact ⟨hk, h⟩
/-- .. of a whole row of one cell. -/
theorem WpO.storeRow1 [Nxt m m'] {e b o c : Nat} {v : Value} {rows : List (List Value)} [TSize P t 1 false] (i k : Nat)
    (hx : opv x E = some (c1, .pointer (some ⟨b, o + k * 1, Option.none⟩))) [Imp true c1] (hy : opv y E = some (c2, v)) [Imp true c2]
    (hi : L[i]? = some (ownA e 1 (some ⟨b, o, Option.none⟩) c rows)) (hr : k < rows.length) (hsc : v.cells.toList = [v]) (hs : scalar v = true) (hk : Keeps m (L.set i (ownA e 1 (some ⟨b, o, Option.none⟩) c (rows.set k [v]))))
    (hrow : ∀ r ∈ rows, r.length = 1)
    (h : WpO P n ops Q m' rest E D (L.set i (ownA e 1 (some ⟨b, o, Option.none⟩) c (rows.set k [v])))) : WpO P n ops Q m (⟨Option.none, .store t x y, ty, pos, af, Option.none⟩ :: rest) E D L := by
  have hr' := List.getElem?_eq_getElem hr
  have hl := hrow _ (List.getElem_mem hr)
  have he : lset rows[k] 0 [v] = [v] := by
    match hq : rows[k], hl with
    | [q], _ => simp [lset]
  have := WpO.storeRow (P := P) (n := n) (ops := ops) (Q := Q) (m := m) (rest := rest) (D := D) (ty := ty) (pos := pos) (af := af) (t := t) (x := x) (y := y) (tz := 1) (agg := false) (sz := 1) i k 0 hx hy hi hr' hsc rfl (by simp [hs]) (Nat.le_refl _)
  rw [he] at this
  exact this hk h
end

/-- The walk by itself; loads also by what is known in the context. -/
structure Hold (p : Prop) : Prop where
  out : p
theorem pur {G H : Prop} (h : H) (k : Hold H → G := by
  intro k
  repeat (first
    | ((with_reducible apply S.move); rfl; rfl)
    | ((with_reducible apply S.assign); rfl; rfl)
    | ((with_reducible apply S.bin); rfl; rfl; rfl; rfl)
    | ((with_reducible apply S.fieldAddr); rfl; rfl; infer_instance)
    | ((with_reducible apply S.load); rfl; rfl; infer_instance; first | exact Ent.pt 0 1 rfl rfl | exact Ent.pt 1 1 rfl rfl | exact Ent.pt 2 1 rfl rfl | exact Ent.pt 3 1 rfl rfl | exact Ent.pt 4 1 rfl rfl | (focus ((repeat (first | assumption | apply Ent.cons)); done)) | (apply Ent.sub 1; (repeat (first | assumption | apply Ent.cons)); rfl))
    | ((with_reducible apply S.not); rfl; rfl)
    | ((with_reducible apply S.or); rfl; rfl; rfl; infer_instance)
    | ((with_reducible apply S.and); rfl; rfl; rfl; infer_instance)
    | ((with_reducible apply S.lenSlice); rfl; rfl; infer_instance)
    | ((with_reducible apply S.lenStr); rfl; rfl; infer_instance)
    | ((with_reducible apply S.extract); rfl; rfl; rfl)
    | ((with_reducible apply S.nilCheck); rfl; rfl)
    | ((with_reducible apply S.max2); rfl; rfl; rfl)
    | ((with_reducible apply S.convInt); rfl; rfl; infer_instance; infer_instance)
    | ((with_reducible apply WpO.store 0); rfl; rfl; rfl; rfl; rfl; rfl; rfl; rfl; first | exact Keeps.none | exact Keeps.last)
    | ((with_reducible apply WpO.store 1); rfl; rfl; rfl; rfl; rfl; rfl; rfl; rfl; first | exact Keeps.none | exact Keeps.last)
    | ((with_reducible apply WpO.store 2); rfl; rfl; rfl; rfl; rfl; rfl; rfl; rfl; first | exact Keeps.none | exact Keeps.last)
    | ((with_reducible apply G.move); rfl; rfl; rfl; infer_instance)
    | ((with_reducible apply G.bin); rfl; rfl; rfl; infer_instance; rfl; infer_instance; rfl)
    | ((with_reducible apply G.not); rfl; rfl; rfl; infer_instance)
    | ((with_reducible apply G.fieldAddr); rfl; rfl; rfl; infer_instance; infer_instance)
    | ((with_reducible apply G.load); rfl; rfl; rfl; infer_instance; infer_instance; first | exact Ent.pt 0 1 rfl rfl | exact Ent.pt 1 1 rfl rfl | exact Ent.pt 2 1 rfl rfl | exact Ent.pt 3 1 rfl rfl | exact Ent.pt 4 1 rfl rfl | (focus ((repeat (first | assumption | apply Ent.cons)); done)) | (apply Ent.sub 1; (repeat (first | assumption | apply Ent.cons)); rfl))
    | ((with_reducible apply G.lenSlice); rfl; rfl; rfl; infer_instance; infer_instance)
    | ((with_reducible apply G.lenStr); rfl; rfl; rfl; infer_instance; infer_instance)
    | ((with_reducible apply G.nilCheck); rfl; rfl; rfl; infer_instance)
    | ((with_reducible apply G.or); rfl; rfl; rfl; infer_instance; rfl; infer_instance)
    | ((with_reducible apply G.and); rfl; rfl; rfl; infer_instance; rfl; infer_instance)
    | refine WpO.nil ?_ | refine Wp.seq ?_ | refine Wp.region ?_ | refine Wp.block ?_ | refine Wp.skip ?_ | refine Wp.exit ?_ | refine Wp.condT rfl ?_ | refine Wp.condF rfl ?_)
  exact k.out) : G := k ⟨h⟩
end Go.Ab
end

section
/- Loops; trees in memory. -/
namespace Go.Ab
open Go

def EnvLe : Env → Env → Prop
  | [], _ => True
  | (i, a) :: r, E => look i E = some a ∧ EnvLe r E
theorem EnvLe.look : ∀ {E' E : Env}, EnvLe E' E → ∀ i a, look i E' = some a → look i E = some a
  | [], _, _, _, _, h => by cases h
  | (j, b) :: r, E, h, i, a, hi => by
    unfold Ab.look at hi
    by_cases e : i = j
    · subst e; simp only [Nat.beq_refl, Option.some.injEq] at hi; subst hi; exact h.1
    · rw [beqF e] at hi; exact EnvLe.look h.2 i a hi
def LeL (L L' : List Assn) : Prop := ∀ k, Sat k L → Sat k L'
theorem LeL.refl (L : List Assn) : LeL L L := fun _ h => h
theorem LeL.drop (n : Nat) (L : List Assn) : LeL L (L.drop n) := fun _ h => Sat.dropN n h
theorem LeL.trans {L M N : List Assn} (h : LeL L M) (k : LeL M N) : LeL L N := fun q s => k q (h q s)
theorem LeL.cons {A : Assn} {L M : List Assn} (h : LeL L M) : LeL (A :: L) (A :: M) := fun _ s => Sat.cons_mono h s
theorem LeL.perm {L M : List Assn} (h : L.Perm M) : LeL L M := fun _ s => Sat.perm h s

section
variable {P : Program} {n : Nat} {Q : Post} {E : Env} {D : List Deferred} {L : List Assn}
/-- What a round's end owes. -/
def Round {α : Type} (Ei : α → Env) (D : List Deferred) (Li : α → List Assn) (μ : α → Nat) (inv : α → Prop) (x : α) (E' : Env) (D' : List Deferred) (L' : List Assn) : Prop :=
  ∃ y, μ y < μ x ∧ inv y ∧ EnvLe (Ei y) E' ∧ D' = D ∧ LeL L' (Li y)
theorem Wp.loopI {c : Code} {α : Type} (x0 : α) (Ei : α → Env) (Li : α → List Assn) (μ : α → Nat) (inv : α → Prop) (h0 : inv x0) (hE : EnvLe (Ei x0) E) (hL : LeL L (Li x0))
    (round : ∀ x, inv x → Wp P n c (Post.then (Round Ei D Li μ inv x) Q) (Ei x) D (Li x)) : Wp P n (.loop c) Q E D L :=
  Wp.loop (fun x E' D' L' => inv x ∧ EnvLe (Ei x) E' ∧ D' = D ∧ LeL L' (Li x)) μ x0 ⟨h0, hE, rfl, hL⟩ fun x E' D' L' ⟨h1, h2, h3, h4⟩ => by
    subst h3
    exact Wp.mono (Wp.weaken (EnvLe.look h2) h4 (round x h1)) fun e E D L hq => by cases e <;> exact hq
theorem Round.mk {α : Type} {Ei : α → Env} {Li : α → List Assn} {μ : α → Nat} {inv : α → Prop} {x : α} (y : α) (hμ : μ y < μ x) (hi : inv y) (hE : EnvLe (Ei y) E) (hL : LeL L (Li y)) : Round Ei D Li μ inv x E D L := ⟨y, hμ, hi, hE, rfl, hL⟩

/-- Where ways meet: what holds there. -/
theorem Wp.cut {x y : Code} {α : Type} (Ei : α → Env) (Li : α → List Assn) (inv : α → Prop)
    (h1 : Wp P n x (Post.then (fun E' D' L' => ∃ z, inv z ∧ EnvLe (Ei z) E' ∧ D' = D ∧ LeL L' (Li z)) Q) E D L) (h2 : ∀ z, inv z → Wp P n y Q (Ei z) D (Li z)) : Wp P n (.seq x y) Q E D L :=
  Wp.seq (Wp.mono h1 fun e E' D' L' h => by
    cases e
    case normal => obtain ⟨z, q1, q2, q3, q4⟩ := h; subst q3; exact Wp.weaken (EnvLe.look q2) q4 (h2 z q1)
    all_goals exact h)
end

/-! ## Trees -/
structure Nd where
  op : Int
  text : ByteArray
  num : Int
  kids : List Int
def ints (l : List Int) : List (List Value) := l.map fun x => [.int .i64 x]
def ndRow (nd : Nd) (k : Option Addr × Nat) : List Value := [.int .i64 nd.op, .string nd.text, .int .i64 nd.num, .slice k.1 nd.kids.length k.2]
structure TreeR (L : List Assn) (a : Option Addr) (c : Nat) (t : List Nd) : Prop where
  ex : ∃ ks : List (Option Addr × Nat), ks.length = t.length ∧ Sl L a c 4 (List.zipWith ndRow t ks) ∧ ∀ (i : Nat) (nd : Nd) (k : Option Addr × Nat), t[i]? = some nd → ks[i]? = some k → Sl L k.1 k.2 1 (ints nd.kids)
theorem TreeR.wk {L L' : List Assn} {a : Option Addr} {c : Nat} {t : List Nd} (h : TreeR L a c t) (hL : LeL L' L) : TreeR L' a c t := by
  obtain ⟨ks, h1, h2, h3⟩ := h.ex
  exact ⟨ks, h1, h2.wk hL, fun i nd k e1 e2 => (h3 i nd k e1 e2).wk hL⟩
theorem TreeR.cons {L : List Assn} {A : Assn} {a : Option Addr} {c : Nat} {t : List Nd} (h : TreeR L a c t) : TreeR (A :: L) a c t := h.wk fun _ s => s.tail
theorem TreeR.cap {L : List Assn} {a : Option Addr} {c : Nat} {t : List Nd} (h : TreeR L a c t) : t.length ≤ c := by
  obtain ⟨ks, h1, h2, _⟩ := h.ex
  have := h2.cap; rw [List.length_zipWith, h1, Nat.min_self] at this; exact this
theorem TreeR.at {L : List Assn} {a : Option Addr} {c : Nat} {t : List Nd} (h : TreeR L a c t) {i : Nat} {nd : Nd} (hi : t[i]? = some nd) :
    ∃ b o ka kc, a = some ⟨b, o, none⟩ ∧ Ent L (CellsAt b (o + i * 4) [.int .i64 nd.op, .string nd.text, .int .i64 nd.num, .slice ka nd.kids.length kc]) ∧ Sl L ka kc 1 (ints nd.kids) := by
  obtain ⟨ks, h1, h2, h3⟩ := h.ex
  have hlt := (List.getElem?_eq_some_iff.1 hi).1
  have hk : ks[i]? = some ks[i] := List.getElem?_eq_getElem (by omega)
  have hr : (List.zipWith ndRow t ks)[i]? = some (ndRow nd ks[i]) := by rw [List.getElem?_zipWith, hi, hk]
  obtain ⟨b, o, e1, _, e3⟩ := h2.at hr
  exact ⟨b, o, ks[i].1, ks[i].2, e1, e3, h3 i nd _ hi hk⟩
theorem ints_at {L : List Assn} {a : Option Addr} {c : Nat} {l : List Int} (h : Sl L a c 1 (ints l)) {i : Nat} {x : Int} (hi : l[i]? = some x) : ∃ b o, a = some ⟨b, o, none⟩ ∧ Ent L (CellsAt b (o + i * 1) [.int .i64 x]) := by
  obtain ⟨b, o, e1, _, e3⟩ := h.at (i := i) (r := [.int .i64 x]) (by simp [ints, hi])
  exact ⟨b, o, e1, e3⟩
theorem ints_length (l : List Int) : (ints l).length = l.length := by simp [ints]
end Go.Ab
end

section
/- The calculus: calls under a guard, calls of closures, texts: cut, indexed, ranged over, made of bytes. -/
namespace Go.Ab
open Go
attribute [local irreducible] Wp WpO Qt OpT Ct

/-- Operands, if g. -/
inductive EvsG (E : Env) (g : Bool) : List Operand → List Value → Prop where
  | nil : EvsG E g [] []
  | cons {x : Operand} {l : List Operand} {c : Bool} {v : Value} {vs : List Value} (h : opv x E = some (c, v)) (i : Imp g c) (r : EvsG E g l vs) : EvsG E g (x :: l) (v :: vs)
theorem EvsG.sat {E : Env} {g : Bool} {l : List Operand} {vs : List Value} (h : EvsG E g l vs) {a : Act} (ha : EnvSat E a.tmps) (hg : g = true) : l.map a.eval = vs := by
  induction h with
  | nil => rfl
  | cons h i r ih => rw [List.map_cons, EvG.of h a ha hg, ih]

section
variable {P : Program} {n : Nat} {Q : Post} {E : Env} {D : List Deferred} {L : List Assn} {ops : Array Oper} {rest : List Oper} {m m' : Md} {d : Nat} {ty : TypeId} {pos : String} {af : Array Edge} {x y z : Operand} {t u : TypeId} {gd : Nat × Bool} {g c1 c2 : Bool}

attribute [local semireducible] OpT in
theorem OpT.callG {d : Option Tmp} {gd : Option (Nat × Bool)} {f : FuncId} {args : List Operand} {tys : Array TypeId} {vs : List Value} {R : Ending → List Assn → Prop}
    (hc : ∀ (args : Array Value) (w : World), Sem.run P (callFunc f args) w = .ok (.enter f args) w) (hargs : EvsG E true args vs) (hct : Ct P f vs.toArray L R) :
    OpT P E L ⟨d, .call ⟨.value (.func f), args.toArray, tys⟩, ty, pos, af, gd⟩ (fun v L' => R (.returned v) L') (fun c L' => R (.panicked c) L') := fun a w K Q0 h1 h2 hK hp' => by
  unfold Oper.wp
  have hm := hargs.sat h1 rfl
  have he : (execOp a.eval ⟨d, .call ⟨.value (.func f), args.toArray, tys⟩, ty, pos, af, gd⟩).run P w = .ok (.enter f vs.toArray) w := by
    show (callFunc f ((#[] ++ args.toArray.map a.eval) ++ #[])).run P w = _
    have : (#[] ++ args.toArray.map a.eval) ++ #[] = vs.toArray := by rw [← hm]; simp
    rw [this]; exact hc _ w
  rw [he]
  unfold Ct at hct
  refine (hct w h2).mono fun e w' ⟨h0, L', hR, hS⟩ => ?_
  cases e with
  | returned v => exact hK v w' L' hR hS
  | panicked c => exact hp' c w' L' hR hS
  | outgrown => exact absurd rfl h0

attribute [local semireducible] OpT in
theorem OpT.callC {d : Option Tmp} {gd : Option (Nat × Bool)} {f : FuncId} {args : List Operand} {tys : Array TypeId} {vs : List Value} {cap : Array Value} {R : Ending → List Assn → Prop}
    (hc : ∀ (args : Array Value) (w : World), Sem.run P (callFunc f args) w = .ok (.enter f args) w) (hx : opv x E = some (c1, .func (.func f) #[] cap)) [Imp true c1] (hargs : EvsG E true args vs) (hct : Ct P f (vs ++ cap.toList).toArray L R) :
    OpT P E L ⟨d, .call ⟨.value x, args.toArray, tys⟩, ty, pos, af, gd⟩ (fun v L' => R (.returned v) L') (fun c L' => R (.panicked c) L') := fun a w K Q0 h1 h2 hK hp' => by
  unfold Oper.wp
  have hm := hargs.sat h1 rfl
  have he : (execOp a.eval ⟨d, .call ⟨.value x, args.toArray, tys⟩, ty, pos, af, gd⟩).run P w = .ok (.enter f (vs ++ cap.toList).toArray) w := by
    show (do let d ← Deferred.ofValue (a.eval x) (args.toArray.map a.eval); invoke d.target d.args : Sem Next).run P w = _
    rw [EvG.of (g := true) hx a h1 rfl]
    show (callFunc f ((#[] ++ args.toArray.map a.eval) ++ cap)).run P w = _
    have : (#[] ++ args.toArray.map a.eval) ++ cap = (vs ++ cap.toList).toArray := by rw [← hm]; simp
    rw [this]; exact hc _ w
  rw [he]
  unfold Ct at hct
  refine (hct w h2).mono fun e w' ⟨h0, L', hR, hS⟩ => ?_
  cases e with
  | returned v => exact hK v w' L' hR hS
  | panicked c => exact hp' c w' L' hR hS
  | outgrown => exact absurd rfl h0

/-- A call under a guard, that leaves memory as it is. -/
theorem WpO.callqg [Nxt m m'] {f : FuncId} {args : List Operand} {tys : Array TypeId} {vs : List Value} {v : Value} (hc : ∀ (args : Array Value) (w : World), Sem.run P (callFunc f args) w = .ok (.enter f args) w) (h0 : Nat.blt d n = true) (hg : guardOf ops E gd = some g) (hargs : EvsG E g args vs)
    (hct : g = true → Ct P f vs.toArray L (ret fun r L' => r = v ∧ L' = L)) (hk : Keeps m L) (h : WpO P n ops Q m' rest ((d, .g g v) :: E) D L) : WpO P n ops Q m (⟨some d, .call ⟨.value (.func f), args.toArray, tys⟩, ty, pos, af, some gd⟩ :: rest) E D L :=
  WpO.loud (m' := m') rfl fun a w K h1 h2 h3 h4 hK => by
    have hgi : GuardIs ops E ⟨some d, .call ⟨.value (.func f), args.toArray, tys⟩, ty, pos, af, some gd⟩ g := GuardIs.of rfl hg
    have hlt : d < a.tmps.size := by rw [h1]; exact bltLt h0
    rw [hgi a h2]
    cases g with
    | false =>
      rw [if_neg (by simp)]
      exact hK _ w _ D L (by rw [Act.put_size, h1]) (EnvSat.put h2 hlt (.g false v)) (by rw [Act.put_defers', h3]) h4 hk h
    | true =>
      rw [if_pos rfl]
      have ho := OpT.callG (P := P) (E := E) (L := L) (d := some d) (ty := ty) (pos := pos) (af := af) (gd := some gd) (tys := tys) hc hargs (hct rfl)
      unfold OpT at ho
      refine ho a w K _ h2 h4 (fun r w' L' hR hS => ?_) (fun c w' L' hR hS => hR.elim)
      obtain ⟨rfl, rfl⟩ := hR
      exact hK _ w' _ D L' (by rw [Act.put_size, h1]) (EnvSat.put h2 hlt (.g true r)) (by rw [Act.put_defers', h3]) hS hk h
/-- A call of a closure. -/
theorem WpO.callc [Nxt m m'] {f : FuncId} {args : List Operand} {tys : Array TypeId} {vs : List Value} {cap : Array Value} {φ : Value → List Assn → Prop} (hc : ∀ (args : Array Value) (w : World), Sem.run P (callFunc f args) w = .ok (.enter f args) w) (h0 : Nat.blt d n = true) (hx : opv x E = some (true, .func (.func f) #[] cap)) (hargs : EvsG E true args vs)
    (hct : Ct P f (vs ++ cap.toList).toArray L (ret φ)) (h : ∀ v L', φ v L' → Keeps m L' ∧ WpO P n ops Q m' rest ((d, .v v) :: E) D L') : WpO P n ops Q m (⟨some d, .call ⟨.value x, args.toArray, tys⟩, ty, pos, af, Option.none⟩ :: rest) E D L :=
  WpO.op rfl h0 (OpT.callC hc hx hargs hct) nofun h
theorem S.makeFunc [Nxt m m'] {f : FuncId} {ca : List Operand} {cv : List Value} (h0 : Nat.blt d n = true) (hca : EvsG E true ca cv)
    (h : WpO P n ops Q m' rest ((d, .v (.func (.func f) #[] cv.toArray)) :: E) D L) : WpO P n ops Q m (⟨some d, .makeFunc (.func f) #[] ca.toArray, ty, pos, af, Option.none⟩ :: rest) E D L :=
  WpO.q rfl h0 (Qt.makeFunc (fun a ha _ => by simpa using hca.sat ha rfl)) h
theorem G.loadN [Nxt m m'] {b o sz : Nat} {vs : List Value} (h0 : Nat.blt d n = true) (hg : guardOf ops E gd = some g) (hx : opv x E = some (c1, .pointer (some ⟨b, o, Option.none⟩))) (i1 : Imp g c1) [TSize P t sz true] (hE : Ent (mem m L) (CellsAt b o vs)) (hl : vs.length = sz)
    (h : WpO P n ops Q m' rest ((d, .g g (.agg vs.toArray)) :: E) D L) : WpO P n ops Q m (⟨some d, .load t x, ty, pos, af, some gd⟩ :: rest) E D L := WpO.qd rfl h0 hg (Qt.loadN (fun _ => hE) hl hx) h
theorem S.build [Nxt m m'] {ps : List (Nat × Operand)} {vs : List (Nat × Value)} {cs zs : List Value} {pl : List (Nat × Nat)} (h0 : Nat.blt d n = true) (hp : pev ps E = some vs) [ht : TStruct P t pl zs] (hf : fillB (pl[·]?) zs vs = some cs)
    (h : WpO P n ops Q m' rest ((d, .v (.agg cs.toArray)) :: E) D L) : WpO P n ops Q m (⟨some d, .build t ps.toArray, ty, pos, af, Option.none⟩ :: rest) E D L := WpO.q rfl h0 (Qt.build hp hf) h

attribute [local semireducible] Qt in
theorem Qt.idxO {d : Option Tmp} {gd : Option (Nat × Bool)} {e b o ln c sz : Nat} {a : Option Addr} {agg : Bool} {i : Int} {ik : IntKind} [USlice P t e] [TSize P e sz agg] (k : Nat) (hx : opv x E = some (c1, .slice a ln c)) [Imp g c1] (hy : opv y E = some (c2, .int ik i)) [Imp g c2]
    (h0 : g = true → a = some ⟨b, o, none⟩ ∧ i = (k : Int) ∧ k < ln) : Qt P E L ⟨d, .indexAddr t x y, ty, pos, af, gd⟩ g (.pointer (some ⟨b, o + k * sz, none⟩)) := fun ac w h1 h2 h3 => by
  obtain ⟨e1, e2, e3⟩ := h0 h3
  subst e1
  exact Qt.idx k hx hy (fun _ => ⟨e2, e3⟩) ac w h1 h2 h3
/-- A place of a slice that is read only if g. -/
theorem G.idxO [Nxt m m'] {e b o ln c sz : Nat} {a : Option Addr} {agg : Bool} {i : Int} {ik : IntKind} (k : Nat) (h0 : Nat.blt d n = true) (hg : guardOf ops E gd = some g) (hx : opv x E = some (c1, .slice a ln c)) (i1 : Imp g c1) (hy : opv y E = some (c2, .int ik i)) (i2 : Imp g c2) [USlice P t e] [TSize P e sz agg]
    (hi : g = true → a = some ⟨b, o, Option.none⟩ ∧ i = (k : Int) ∧ k < ln) (h : WpO P n ops Q m' rest ((d, .g g (.pointer (some ⟨b, o + k * sz, Option.none⟩))) :: E) D L) : WpO P n ops Q m (⟨some d, .indexAddr t x y, ty, pos, af, some gd⟩ :: rest) E D L :=
  WpO.qd rfl h0 hg (Qt.idxO k hx hy hi) h
theorem G.loadIf [Nxt m m'] {b o : Nat} {v : Value} (h0 : Nat.blt d n = true) (hg : guardOf ops E gd = some g) (hx : opv x E = some (c1, .pointer (some ⟨b, o, none⟩))) (i1 : Imp g c1) (hz : TSize P t 1 false) (hE : g = true → Ent (mem m L) (CellsAt b o [v]))
    (h : WpO P n ops Q m' rest ((d, .g g v) :: E) D L) : WpO P n ops Q m (⟨some d, .load t x, ty, pos, af, some gd⟩ :: rest) E D L := WpO.qd rfl h0 hg (Qt.load hE hx) h
theorem LeL.head {A A' : Assn} {L : List Assn} (h : ∀ k, A k → A' k) : LeL (A :: L) (A' :: L) := fun _ ⟨h1, l1, a1, s⟩ => ⟨h1, l1, h _ a1, s⟩
theorem slA_zero {a : Option Addr} {c sz : Nat} (h : a = none ∨ ∃ b o, a = some ⟨b, o, none⟩) : slA a c 0 sz = a := by
  unfold slA
  split
  · rfl
  · rcases h with rfl | ⟨b, o, rfl⟩
    · rfl
    · simp [Addr.add_eq]

/-! ### Bounds of a cut -/
inductive Bd (E : Env) (g : Bool) (df : Nat) : Option Operand → Nat → Prop where
  | no : Bd E g df none df
  | at {x : Operand} {c : Bool} {k : IntKind} {i : Int} (l : Nat) (h : opv x E = some (c, .int k i)) (i1 : Imp g c) (e : g = true → i = (l : Int)) : Bd E g df (some x) l
theorem Bd.sat {df l : Nat} {o : Option Operand} (h : Bd E g df o l) : ∀ a : Act, EnvSat E a.tmps → g = true → o.map a.eval = none ∧ l = df ∨ ∃ k, o.map a.eval = some (.int k (l : Int)) := fun a ha hg => by
  cases h with
  | no => exact .inl ⟨rfl, rfl⟩
  | «at» l h i1 e => right; exact ⟨_, by rw [Option.map_some, EvG.of h a ha hg, e hg]⟩
theorem S.sliceS [Nxt m m'] {s : ByteArray} {lo hi : Option Operand} (l h : Nat) (h0 : Nat.blt d n = true) (hx : opv x E = some (true, .string s)) [UStr P t] (hlo : Bd E true 0 lo l) (hhi : Bd E true (bs s).length hi h) (hb : l ≤ h ∧ h ≤ (bs s).length)
    (hh : WpO P n ops Q m' rest ((d, .v (.string (s.extract l h))) :: E) D L) : WpO P n ops Q m (⟨some d, .slice t x lo hi none, ty, pos, af, Option.none⟩ :: rest) E D L :=
  WpO.q rfl h0 (Qt.sliceS (l := l) (h := h) hx hlo.sat hhi.sat (fun _ => hb)) hh
theorem G.sliceS [Nxt m m'] {s : ByteArray} {lo hi : Option Operand} (l h : Nat) (h0 : Nat.blt d n = true) (hg : guardOf ops E gd = some g) (hx : opv x E = some (c1, .string s)) (i1 : Imp g c1) [UStr P t] (hlo : Bd E g 0 lo l) (hhi : Bd E g (bs s).length hi h) (hb : g = true → l ≤ h ∧ h ≤ (bs s).length)
    (hh : WpO P n ops Q m' rest ((d, .g g (.string (s.extract l h))) :: E) D L) : WpO P n ops Q m (⟨some d, .slice t x lo hi none, ty, pos, af, some gd⟩ :: rest) E D L :=
  WpO.qd rfl h0 hg (Qt.sliceS (l := l) (h := h) hx hlo.sat hhi.sat hb) hh
theorem S.sliceL [Nxt m m'] {e sz ln c : Nat} {a : Option Addr} {agg : Bool} {lo hi : Option Operand} (l h : Nat) (h0 : Nat.blt d n = true) (hx : opv x E = some (true, .slice a ln c)) [USlice P t e] [TSize P e sz agg] (hlo : Bd E true 0 lo l) (hhi : Bd E true ln hi h) (hb : l ≤ h ∧ h ≤ c)
    (hh : WpO P n ops Q m' rest ((d, .v (.slice (slA a c l sz) (h - l) (c - l))) :: E) D L) : WpO P n ops Q m (⟨some d, .slice t x lo hi none, ty, pos, af, Option.none⟩ :: rest) E D L :=
  WpO.q rfl h0 (Qt.sliceL (l := l) (h := h) hx hlo.sat hhi.sat (fun _ => hb)) hh
theorem G.sliceL [Nxt m m'] {e sz ln c : Nat} {a : Option Addr} {agg : Bool} {lo hi : Option Operand} (l h : Nat) (h0 : Nat.blt d n = true) (hg : guardOf ops E gd = some g) (hx : opv x E = some (c1, .slice a ln c)) (i1 : Imp g c1) [USlice P t e] [TSize P e sz agg] (hlo : Bd E g 0 lo l) (hhi : Bd E g ln hi h) (hb : g = true → l ≤ h ∧ h ≤ c)
    (hh : WpO P n ops Q m' rest ((d, .g g (.slice (slA a c l sz) (h - l) (c - l))) :: E) D L) : WpO P n ops Q m (⟨some d, .slice t x lo hi none, ty, pos, af, some gd⟩ :: rest) E D L :=
  WpO.qd rfl h0 hg (Qt.sliceL (l := l) (h := h) hx hlo.sat hhi.sat hb) hh

/-! ### Texts -/
theorem S.index [Nxt m m'] {s : ByteArray} {i : Int} {k : IntKind} (ch : UInt8) (j : Nat) (h0 : Nat.blt d n = true) (hx : opv x E = some (true, .string s)) (hy : opv y E = some (true, .int k i)) [UStr P t] (hi : i = (j : Int)) (hj : (bs s)[j]? = some ch)
    (h : WpO P n ops Q m' rest ((d, .v (.int .u8 ch.toNat)) :: E) D L) : WpO P n ops Q m (⟨some d, .index t x y, ty, pos, af, Option.none⟩ :: rest) E D L :=
  WpO.q rfl h0 (Qt.indexStr (ch := ch) (fun _ => by subst hi; exact ⟨by omega, by simpa using hj⟩) hx hy) h
theorem G.index [Nxt m m'] {s : ByteArray} {i : Int} {k : IntKind} (ch : UInt8) (j : Nat) (h0 : Nat.blt d n = true) (hg : guardOf ops E gd = some g) (hx : opv x E = some (c1, .string s)) (i1 : Imp g c1) (hy : opv y E = some (c2, .int k i)) (i2 : Imp g c2) [UStr P t] (hi : g = true → i = (j : Int)) (hj : g = true → (bs s)[j]? = some ch)
    (h : WpO P n ops Q m' rest ((d, .g g (.int .u8 ch.toNat)) :: E) D L) : WpO P n ops Q m (⟨some d, .index t x y, ty, pos, af, some gd⟩ :: rest) E D L :=
  WpO.qd rfl h0 hg (Qt.indexStr (ch := ch) (fun hg => by have := hi hg; subst this; exact ⟨by omega, by simpa using hj hg⟩) hx hy) h
theorem S.sadd [Nxt m m'] {a b : ByteArray} (h0 : Nat.blt d n = true) (hx : opv x E = some (true, .string a)) (hy : opv y E = some (true, .string b)) (hb : (bs a).length + (bs b).length < 9223372036854775808)
    (h : WpO P n ops Q m' rest ((d, .v (.string (a ++ b))) :: E) D L) : WpO P n ops Q m (⟨some d, .binOp .add t x y u, ty, pos, af, Option.none⟩ :: rest) E D L := WpO.q rfl h0 (Qt.sadd hb hx hy) h
attribute [local semireducible] Qt in
theorem Qt.saddG {d : Option Tmp} {gd : Option (Nat × Bool)} {a b : ByteArray} (hb : g = true → (bs a).length + (bs b).length < 9223372036854775808) (hx : opv x E = some (c1, .string a)) [Imp g c1] (hy : opv y E = some (c2, .string b)) [Imp g c2] : Qt P E L ⟨d, .binOp .add t x y u, ty, pos, af, gd⟩ g (.string (a ++ b)) :=
  fun ac w h1 h2 h3 => Qt.sadd (hb h3) hx hy ac w h1 h2 h3
theorem G.sadd [Nxt m m'] {a b : ByteArray} (h0 : Nat.blt d n = true) (hg : guardOf ops E gd = some g) (hx : opv x E = some (c1, .string a)) (i1 : Imp g c1) (hy : opv y E = some (c2, .string b)) (i2 : Imp g c2) (hb : g = true → (bs a).length + (bs b).length < 9223372036854775808)
    (h : WpO P n ops Q m' rest ((d, .g g (.string (a ++ b))) :: E) D L) : WpO P n ops Q m (⟨some d, .binOp .add t x y u, ty, pos, af, some gd⟩ :: rest) E D L := WpO.qd rfl h0 hg (Qt.saddG hb hx hy) h

/-- Bytes as rows of one cell. -/
def u8s (l : List UInt8) : List (List Value) := l.map fun c => [.int .u8 (c.toNat : Int)]
theorem u8s_length (l : List UInt8) : (u8s l).length = l.length := by simp [u8s]
class UByte (P : Program) (e : TypeId) : Prop where h : P.underlying e = some (.int .u8)
attribute [local semireducible] Qt in
theorem Qt.bytesStr {d : Option Tmp} {gd : Option (Nat × Bool)} {e c : Nat} {a : Option Addr} {l : List UInt8} {ln : Nat} [hu : USlice P t e] [he : UByte P e] [hd : UStr P u] (hx : opv x E = some (c1, .slice a ln c)) [Imp g c1] (hs : g = true → Sl L a c 1 (u8s l)) (hln : g = true → ln = l.length) :
    Qt P E L ⟨d, .convert t u x, ty, pos, af, gd⟩ g (.string ⟨l.toArray⟩) := fun ac w h1 h2 h3 => by
  show (do pure (Next.value (← convert t u (ac.eval x))) : Sem Next).run P w = _
  rw [EvG.of hx ac h1 h3]
  refine run_v ?_
  rw [hln h3]
  obtain ⟨h0, ⟨b, o, e1, e2, e3⟩⟩ := hs h3
  cases a with
  | none =>
    have : u8s l = [] := Classical.byContradiction fun h => by have := e1 h; cases this
    have hl0 : l = [] := by simpa [u8s] using this
    subst hl0
    rw [run_convert_bytes_string w t u e none _ c hu.h he.h hd.h]; rfl
  | some p =>
    refine run_convert_bytes_back w t u e p c l hu.h he.h hd.h fun j hj => ?_
    have hne : u8s l ≠ [] := fun h => by have := congrArg List.length h; rw [u8s_length] at this; simp at this; subst this; simp at hj
    have := e1 hne; simp only [Option.some.injEq] at this; subst this
    rw [Addr.add_eq]
    have := (e3 _ h2 j [.int .u8 (l[j].toNat : Int)] (by simp [u8s, hj])).2
    rw [Nat.mul_one] at this
    exact cell_of this
theorem S.bytesStr [Nxt m m'] {e c ln : Nat} {a : Option Addr} (l : List UInt8) (h0 : Nat.blt d n = true) (hx : opv x E = some (true, .slice a ln c)) [USlice P t e] [UByte P e] [UStr P u] (hs : Sl (mem m L) a c 1 (u8s l)) (hln : ln = l.length)
    (h : WpO P n ops Q m' rest ((d, .v (.string ⟨l.toArray⟩)) :: E) D L) : WpO P n ops Q m (⟨some d, .convert t u x, ty, pos, af, Option.none⟩ :: rest) E D L := WpO.q rfl h0 (Qt.bytesStr hx (fun _ => hs) (fun _ => hln)) h

/-! ### Ranging over a text -/
def itA (b : Nat) (s : ByteArray) (p : Nat) : Assn := fun h => h b = some (.stringIter s p)
attribute [local semireducible] OpT in
theorem OpT.range {d : Option Tmp} {gd : Option (Nat × Bool)} {s : ByteArray} [hu : UStr P t] (hx : opv x E = some (c1, .string s)) [Imp true c1] :
    OpT P E L ⟨d, .range t x, ty, pos, af, gd⟩ (fun r L' => ∃ b, r = .pointer (some ⟨b, 0, none⟩) ∧ L' = itA b s 0 :: L) noPanic := fun a w K Q0 h1 h2 hK _ => by
  unfold Oper.wp
  have he : (execOp a.eval ⟨d, .range t x, ty, pos, af, gd⟩).run P w = .ok (.value (.pointer (some ⟨w.heap.size, 0, none⟩))) { w with heap := w.heap.push (.stringIter s 0) } := by
    show (do pure (Next.value (← Instr.range t (a.eval x))) : Sem Next).run P w = _
    rw [EvG.of (g := true) hx a h1 rfl]
    refine run_v ?_
    unfold Instr.range
    rw [run_ok (run_u hu.h w)]; rfl
  rw [he]
  refine hK _ _ _ ⟨_, rfl, rfl⟩ (Sat.new ?_ h2)
  exact Hp.single_at _ _
theorem WpO.range [Nxt m m'] {s : ByteArray} (h0 : Nat.blt d n = true) (hx : opv x E = some (true, .string s)) [UStr P t] (hk : ∀ b, Keeps m (itA b s 0 :: L))
    (h : ∀ b, WpO P n ops Q m' rest ((d, .v (.pointer (some ⟨b, 0, none⟩))) :: E) D (itA b s 0 :: L)) : WpO P n ops Q m (⟨some d, .range t x, ty, pos, af, Option.none⟩ :: rest) E D L :=
  WpO.op rfl h0 (OpT.range hx) nofun fun _ _ ⟨b, e1, e2⟩ => by subst e1; subst e2; exact ⟨hk b, h b⟩
attribute [local semireducible] OpT in
theorem OpT.nextEnd {d : Option Tmp} {gd : Option (Nat × Bool)} {s : ByteArray} {b p : Nat} (i : Nat) (hx : opv x E = some (c1, .pointer (some ⟨b, 0, none⟩))) [Imp true c1] (hi : L[i]? = some (itA b s p)) (hp : (bs s).length ≤ p) :
    OpT P E L ⟨d, .next x true, ty, pos, af, gd⟩ (fun r L' => r = .tuple #[.bool false] ∧ L' = L) noPanic := fun a w K Q0 h1 h2 hK _ => by
  unfold Oper.wp
  obtain ⟨h0, l0, a0, s0⟩ := Sat.pull hi h2
  have hb : w.heap[b]? = some (.stringIter s p) := l0 _ _ a0
  have he : (execOp a.eval ⟨d, .next x true, ty, pos, af, gd⟩).run P w = .ok (.value (.tuple #[.bool false])) w := by
    show (do pure (Next.value (← Instr.next (a.eval x) true ty)) : Sem Next).run P w = _
    rw [EvG.of (g := true) hx a h1 rfl]
    refine run_v ?_
    unfold Instr.next
    simp only []
    rw [run_ok (a := Obj.stringIter s p) (w' := w) (by simp [getObj, Sem.run, hb])]
    simp only []
    rw [bs_length] at hp
    rw [if_neg (by omega)]; rfl
  rw [he]
  exact hK _ _ _ ⟨rfl, rfl⟩ h2
theorem WpO.nextEnd [Nxt m m'] {s : ByteArray} {b p : Nat} (i : Nat) (h0 : Nat.blt d n = true) (hx : opv x E = some (true, .pointer (some ⟨b, 0, none⟩))) (hi : L[i]? = some (itA b s p)) (hp : (bs s).length ≤ p) (hk : Keeps m L)
    (h : WpO P n ops Q m' rest ((d, .v (.tuple #[.bool false])) :: E) D L) : WpO P n ops Q m (⟨some d, .next x true, ty, pos, af, Option.none⟩ :: rest) E D L :=
  WpO.op rfl h0 (OpT.nextEnd i hx hi hp) nofun fun _ _ ⟨e1, e2⟩ => by subst e1; subst e2; exact ⟨hk, h⟩
attribute [local semireducible] OpT in
theorem OpT.next {d : Option Tmp} {gd : Option (Nat × Bool)} {s : ByteArray} {b p c wd : Nat} (i : Nat) (hx : opv x E = some (c1, .pointer (some ⟨b, 0, none⟩))) [Imp true c1] (hi : L[i]? = some (itA b s p)) (hp : p < (bs s).length) (hd : Utf8.decode s p = (c, wd)) :
    OpT P E L ⟨d, .next x true, ty, pos, af, gd⟩ (fun r L' => r = .tuple #[.bool true, .int .i64 p, .int .i32 c] ∧ L' = L.set i (itA b s (p + wd))) noPanic := fun a w K Q0 h1 h2 hK _ => by
  unfold Oper.wp
  have hpl := Sat.pull hi h2
  obtain ⟨h0, l0, a0, s0⟩ := id hpl
  have hb : w.heap[b]? = some (.stringIter s p) := l0 _ _ a0
  have hbs := lt_of_hp (w := w) (l0 _ _ a0)
  have he : (execOp a.eval ⟨d, .next x true, ty, pos, af, gd⟩).run P w = .ok (.value (.tuple #[.bool true, .int .i64 p, .int .i32 c])) { w with heap := w.heap.setIfInBounds b (.stringIter s (p + wd)) } := by
    show (do pure (Next.value (← Instr.next (a.eval x) true ty)) : Sem Next).run P w = _
    rw [EvG.of (g := true) hx a h1 rfl]
    refine run_v ?_
    unfold Instr.next
    simp only []
    rw [run_ok (a := Obj.stringIter s p) (w' := w) (by simp [getObj, Sem.run, hb])]
    simp only []
    rw [bs_length] at hp
    rw [if_pos hp, hd]
    rw [run_ok (a := ()) (w' := { w with heap := w.heap.setIfInBounds b (.stringIter s (p + wd)) }) (by
      have hb' : w.heap[b] = .stringIter s p := by
        have := hb; rw [Array.getElem?_eq_getElem hbs] at this; exact Option.some.inj this
      simp [setObj, Sem.run, hbs, hb'])]
    rfl
  rw [he]
  refine hK _ _ _ ⟨rfl, rfl⟩ (Sat.set hi ?_)
  refine Sat.turn (b := b) hpl (fun h' ha => ⟨_, ha⟩) hp_set (fun h' ha hle => ?_) (by rw [hp_set_at hbs]; rfl)
  show (if b = b then Ab.hp _ b else h' b) = _
  rw [if_pos rfl, hp_set_at hbs]
theorem decode_ascii {s : ByteArray} {p : Nat} {c : UInt8} (h : (bs s)[p]? = some c) (hc : c.toNat < 128) : Utf8.decode s p = (c.toNat, 1) := by
  have hlt : p < s.size := by rw [← bs_length]; exact (List.getElem?_eq_some_iff.1 h).1
  have : s.get! p = c := by
    have h2 := (List.getElem?_eq_some_iff.1 h).2
    rw [← h2]
    simp only [ByteArray.get!, bs, Array.getElem_toList]
    exact getElem!_pos s.data p hlt
  unfold Utf8.decode
  simp only [Nat.add_zero, this]
  rw [if_pos (by simpa using hc)]
theorem WpO.nextAscii [Nxt m m'] {s : ByteArray} {b p : Nat} (i : Nat) (c : UInt8) (h0 : Nat.blt d n = true) (hx : opv x E = some (true, .pointer (some ⟨b, 0, none⟩))) (hi : L[i]? = some (itA b s p)) (hp : (bs s)[p]? = some c) (hc : c.toNat < 128) (hk : Keeps m (L.set i (itA b s (p + 1))))
    (h : WpO P n ops Q m' rest ((d, .v (.tuple #[.bool true, .int .i64 p, .int .i32 c.toNat])) :: E) D (L.set i (itA b s (p + 1)))) : WpO P n ops Q m (⟨some d, .next x true, ty, pos, af, Option.none⟩ :: rest) E D L :=
  WpO.op rfl h0 (OpT.next i hx hi (List.getElem?_eq_some_iff.1 hp).1 (decode_ascii hp hc)) nofun fun _ _ ⟨e1, e2⟩ => by subst e1; subst e2; exact ⟨hk, h⟩
end
end Go.Ab
end

section
/- The calculus: results that lie in memory; division; a loop's round unrolled. -/
namespace Go.Ab
open Go

/-! ### Results that lie in memory -/
inductive RV (P : Program) (E : Env) (L : List Assn) : ResultVar → Value → Prop where
  | tmp {t : Tmp} {x : Value} (h : getV t E = some x) : RV P E L (.tmp t) x
  | one {a : Tmp} {t : TypeId} {b o : Nat} {v : Value} (h : getV a E = some (.pointer (some ⟨b, o, none⟩))) (hz : TSize P t 1 false) (hE : Ent L (CellsAt b o [v])) : RV P E L (.cell a t) v
  | agg {a : Tmp} {t : TypeId} {b o sz : Nat} {vs : List Value} (h : getV a E = some (.pointer (some ⟨b, o, none⟩))) (hz : TSize P t sz true) (hE : Ent L (CellsAt b o vs)) (hl : vs.length = sz) : RV P E L (.cell a t) (.agg vs.toArray)
inductive RVs (P : Program) (E : Env) (L : List Assn) : List ResultVar → List Value → Prop where
  | nil : RVs P E L [] []
  | cons {r : ResultVar} {rs : List ResultVar} {x : Value} {xs : List Value} (h : RV P E L r x) (t : RVs P E L rs xs) : RVs P E L (r :: rs) (x :: xs)
def rvRun (t : Array Value) : ResultVar → Sem Value
  | .tmp u => pure (t.getD u undef)
  | .cell a ty => do loadVar ty (← asAddr (t.getD a undef))
def packV : List Value → Value
  | [x] => x
  | xs => .tuple xs.toArray

section
variable {P : Program} {n : Nat} {Q : Post} {E : Env} {D : List Deferred} {L : List Assn}
theorem RV.run {r : ResultVar} {x : Value} (h : RV P E L r x) {t : Array Value} (ht : EnvSat E t) {w : World} (hs : Sat (hp w) L) :
    (rvRun t r).run P w = .ok x w := by
  cases h with
  | tmp h => simp only [rvRun, getV_sat h ht]; rfl
  | one h hz hE =>
    simp only [rvRun, getV_sat h ht]
    rw [run_ok (a := (⟨_, _, none⟩ : Addr)) (w' := w) rfl]
    unfold loadVar
    rw [run_ok (hz.agg w)]
    exact run_load (hE _ hs)
  | agg h hz hE hl =>
    simp only [rvRun, getV_sat h ht]
    rw [run_ok (a := (⟨_, _, none⟩ : Addr)) (w' := w) rfl]
    unfold loadVar
    rw [run_ok (hz.agg w)]
    simp only [if_true]
    rw [run_ok (hz.size w)]
    have := run_loadCells (P := P) (w := w) _ 0 _ #[] hl (hE _ hs)
    unfold loadCells
    rw [run_ok this]; simp [Sem.run, pure]
theorem RVs.run {rs : List ResultVar} {xs : List Value} (h : RVs P E L rs xs) {t : Array Value} (ht : EnvSat E t) {w : World} (hs : Sat (hp w) L) :
    (rs.mapM (rvRun t)).run P w = .ok xs w := by
  induction h with
  | nil => rfl
  | cons h _ ih => rw [List.mapM_cons, run_ok (h.run ht hs), run_ok ih]; rfl
theorem RVs.results {fn : Func} {rs : List ResultVar} (hrs : fn.results = rs.toArray) {xs : List Value} (h : RVs P E L rs xs) {t : Array Value} (ht : EnvSat E t) {w : World} (hs : Sat (hp w) L) :
    (results fn t).run P w = .ok (packV xs) w := by
  have hres : Go.results fn t = (do let vs ← fn.results.mapM (rvRun t); pure (if h : vs.size = 1 then vs[0] else .tuple vs)) := by
    unfold Go.results
    congr 2
  rw [hres, hrs, Array.mapM_eq_mapM_toList, map_eq_pure_bind]
  have : ((rs.toArray.toList.mapM (rvRun t) >>= fun x => pure x.toArray).run P w) = .ok xs.toArray w := by
    rw [run_ok (h.run ht hs)]; rfl
  rw [run_ok this]
  match xs with
  | [] => rfl
  | [x] => rfl
  | x :: y :: r =>
    have : ¬ (x :: y :: r).toArray.size = 1 := by simp
    simp only [this, dif_neg, not_false_eq_true]; rfl

def BodyPostC (P : Program) (rs : List ResultVar) (R : Ending → List Assn → Prop) : Post
  | .normal, E, D, L | .ret, E, D, L => D = [] ∧ ∃ xs L', RVs P E L rs xs ∧ (∀ k, Sat k L → Sat k L') ∧ R (.returned (packV xs)) L'
  | .panic c, _, D, L => D = [] ∧ R (.panicked c) L
  | _, _, _, _ => False
theorem RetC {rs : List ResultVar} {R : Ending → List Assn → Prop} (m : Nat) {xs : List Value} (hv : RVs P E L rs xs) (h : R (.returned (packV xs)) (L.drop m)) : BodyPostC P rs R .ret E [] L := ⟨rfl, xs, _, hv, fun _ => Sat.dropN m, h⟩
theorem RetCL {rs : List ResultVar} {R : Ending → List Assn → Prop} {L' : List Assn} {xs : List Value} (hv : RVs P E L rs xs) (hL : LeL L L') (h : R (.returned (packV xs)) L') : BodyPostC P rs R .ret E [] L := ⟨rfl, xs, _, hv, hL, h⟩
theorem RetL {rs : List ResultVar} {R : Ending → List Assn → Prop} {L' : List Assn} {x : Value} (hv : resV rs E = some x) (hL : LeL L L') (h : R (.returned x) L') : BodyPost rs R .ret E [] L := ⟨rfl, x, _, hv, hL, h⟩
theorem Ct.bodyC {f : FuncId} {fn : Func} {c : Code} {args : Array Value} {R : Ending → List Assn → Prop} {rs : List ResultVar} (hf : P.funcs[f]? = some fn) (hb : fn.body = some c)
    (hn : fn.ntmps = n) (hrs : fn.results = rs.toArray) (hsz : Nat.ble args.size n = true)
    (h : Wp P n c (BodyPostC P rs R) (argEnv 0 args.toList) [] L) : Ct P f args L R := fun w hw => by
  refine calls_of_wp hf hb (wp_mono (h _ w ?_ ?_ rfl hw) ?_)
  · have := bleLe hsz
    simp; omega
  · refine argEnv_sat _ _ _ fun j v hj => ?_
    have hlt : j < args.size := by
      have := (List.getElem?_eq_some_iff.1 hj).1
      simpa using this
    rw [Nat.zero_add, Array.getElem?_append_left hlt, ← Array.getElem?_toList]
    exact hj
  · intro e a w' hh
    cases e with
    | normal =>
      obtain ⟨E', D', L', ⟨h1, xs, L'', h2, hd, h3⟩, _, h4, h5, h6⟩ := hh
      exact ⟨h5.trans h1, _, h2.results hrs h4 h6, nofun, L'', h3, hd _ h6⟩
    | ret =>
      obtain ⟨E', D', L', ⟨h1, xs, L'', h2, hd, h3⟩, _, h4, h5, h6⟩ := hh
      exact ⟨h5.trans h1, _, h2.results hrs h4 h6, nofun, L'', h3, hd _ h6⟩
    | panic c =>
      obtain ⟨D', L', ⟨h1, h2⟩, h5, h6⟩ := hh
      exact ⟨h5.trans h1, nofun, L', h2, h6⟩
    | exit id => obtain ⟨_, _, _, h, _⟩ := hh; exact h
    | goto id => obtain ⟨_, _, _, h, _⟩ := hh; exact h
    | outgrown => exact hh.elim
end

section
variable {P : Program} {n : Nat} {Q : Post} {E : Env} {D : List Deferred} {L : List Assn} {ops : Array Oper} {rest : List Oper} {m m' : Md} {d : Nat} {ty : TypeId} {pos : String} {af : Array Edge} {x y z : Operand} {t u : TypeId} {gd : Nat × Bool} {g c1 c2 : Bool}
theorem Qt.quo {d : Option Tmp} {gd : Option (Nat × Bool)} {k : IntKind} {a b : Int} (hx : opv x E = some (c1, .int k a)) [Imp g c1] (hy : opv y E = some (c2, .int k b)) [Imp g c2] (hb : b ≠ 0) :
    Qt P E L ⟨d, .binOp .quo t x y u, ty, pos, af, gd⟩ g (.int k (k.wrap (a.tdiv b))) :=
  .of2 (fun ρ w h1 h2 => by simp [execOp, h1, h2, go_sem, eqGuard, binOp, Op.intDiv, hb]) (EvG.of hx) (EvG.of hy)
theorem Qt.rem {d : Option Tmp} {gd : Option (Nat × Bool)} {k : IntKind} {a b : Int} (hx : opv x E = some (c1, .int k a)) [Imp g c1] (hy : opv y E = some (c2, .int k b)) [Imp g c2] (hb : b ≠ 0) :
    Qt P E L ⟨d, .binOp .rem t x y u, ty, pos, af, gd⟩ g (.int k (a.tmod b)) :=
  .of2 (fun ρ w h1 h2 => by simp [execOp, h1, h2, go_sem, eqGuard, binOp, Op.intDiv, hb]) (EvG.of hx) (EvG.of hy)
attribute [local irreducible] Wp WpO Qt OpT Ct
theorem S.quo [Nxt m m'] {k : IntKind} {a b : Int} (h0 : Nat.blt d n = true) (hx : opv x E = some (true, .int k a)) (hy : opv y E = some (true, .int k b)) (hb : b ≠ 0)
    (h : WpO P n ops Q m' rest ((d, .v (.int k (k.wrap (a.tdiv b)))) :: E) D L) : WpO P n ops Q m (⟨some d, .binOp .quo t x y u, ty, pos, af, Option.none⟩ :: rest) E D L := WpO.q rfl h0 (Qt.quo hx hy hb) h
theorem S.rem [Nxt m m'] {k : IntKind} {a b : Int} (h0 : Nat.blt d n = true) (hx : opv x E = some (true, .int k a)) (hy : opv y E = some (true, .int k b)) (hb : b ≠ 0)
    (h : WpO P n ops Q m' rest ((d, .v (.int k (a.tmod b))) :: E) D L) : WpO P n ops Q m (⟨some d, .binOp .rem t x y u, ty, pos, af, Option.none⟩ :: rest) E D L := WpO.q rfl h0 (Qt.rem hx hy hb) h

/-! ### Method values, and calls of them -/
attribute [local semireducible] OpT in
theorem OpT.callM {d : Option Tmp} {gd : Option (Nat × Bool)} {f : FuncId} {args : List Operand} {tys : Array TypeId} {vs : List Value} {fst cap : Array Value} {R : Ending → List Assn → Prop}
    (hc : ∀ (args : Array Value) (w : World), Sem.run P (callFunc f args) w = .ok (.enter f args) w) (hx : opv x E = some (c1, .func (.func f) fst cap)) [Imp true c1] (hargs : EvsG E true args vs) (hct : Ct P f (fst.toList ++ vs ++ cap.toList).toArray L R) :
    OpT P E L ⟨d, .call ⟨.value x, args.toArray, tys⟩, ty, pos, af, gd⟩ (fun v L' => R (.returned v) L') (fun c L' => R (.panicked c) L') := fun a w K Q0 h1 h2 hK hp' => by
  unfold Oper.wp
  have hm := hargs.sat h1 rfl
  have he : (execOp a.eval ⟨d, .call ⟨.value x, args.toArray, tys⟩, ty, pos, af, gd⟩).run P w = .ok (.enter f (fst.toList ++ vs ++ cap.toList).toArray) w := by
    show (do let d ← Deferred.ofValue (a.eval x) (args.toArray.map a.eval); invoke d.target d.args : Sem Next).run P w = _
    rw [EvG.of (g := true) hx a h1 rfl]
    show (callFunc f ((fst ++ args.toArray.map a.eval) ++ cap)).run P w = _
    have : (fst ++ args.toArray.map a.eval) ++ cap = (fst.toList ++ vs ++ cap.toList).toArray := by rw [← hm]; simp
    rw [this]; exact hc _ w
  rw [he]
  unfold Ct at hct
  refine (hct w h2).mono fun e w' ⟨h0, L', hR, hS⟩ => ?_
  cases e with
  | returned v => exact hK v w' L' hR hS
  | panicked c => exact hp' c w' L' hR hS
  | outgrown => exact absurd rfl h0
/-- A call of a method value, or of a closure. -/
theorem WpO.callm [Nxt m m'] {f : FuncId} {args : List Operand} {tys : Array TypeId} {vs : List Value} {fst cap : Array Value} {φ : Value → List Assn → Prop} (hc : ∀ (args : Array Value) (w : World), Sem.run P (callFunc f args) w = .ok (.enter f args) w) (h0 : Nat.blt d n = true) (hx : opv x E = some (true, .func (.func f) fst cap)) (hargs : EvsG E true args vs)
    (hct : Ct P f (fst.toList ++ vs ++ cap.toList).toArray L (ret φ)) (h : ∀ v L', φ v L' → Keeps m L' ∧ WpO P n ops Q m' rest ((d, .v v) :: E) D L') : WpO P n ops Q m (⟨some d, .call ⟨.value x, args.toArray, tys⟩, ty, pos, af, Option.none⟩ :: rest) E D L :=
  WpO.op rfl h0 (OpT.callM hc hx hargs hct) nofun h
attribute [local semireducible] Qt in
theorem Qt.makeFuncM {d : Option Tmp} {gd : Option (Nat × Bool)} {f : FuncId} {fa ca : List Operand} {fv cv : List Value} (hf : EvsG E g fa fv) (hc : EvsG E g ca cv) :
    Qt P E L ⟨d, .makeFunc (.func f) fa.toArray ca.toArray, ty, pos, af, gd⟩ g (.func (.func f) fv.toArray cv.toArray) := fun a w h1 _ h3 => by
  have e1 : fa.toArray.map a.eval = fv.toArray := by rw [← hf.sat h1 h3]; simp
  have e2 : ca.toArray.map a.eval = cv.toArray := by rw [← hc.sat h1 h3]; simp
  simp only [execOp, e1, e2]
  simp [Sem.run, pure, bind, Sem.bind, Instr.makeFunc]
theorem S.makeFuncM [Nxt m m'] {f : FuncId} {fa ca : List Operand} {fv cv : List Value} (h0 : Nat.blt d n = true) (hf : EvsG E true fa fv) (hca : EvsG E true ca cv)
    (h : WpO P n ops Q m' rest ((d, .v (.func (.func f) fv.toArray cv.toArray)) :: E) D L) : WpO P n ops Q m (⟨some d, .makeFunc (.func f) fa.toArray ca.toArray, ty, pos, af, Option.none⟩ :: rest) E D L :=
  WpO.q rfl h0 (Qt.makeFuncM hf hca) h
end
end Go.Ab
end
