/- RenameMeans, the second form: each variable means a binder of its own name, each constructor and type one of its own name, each binder but the builtin ones has just one name, the functions of each Decls stand each in just one of its groups (loiterlaw10.RenameMeans answers true), wherever what it reads is of bulk at most 1048576; the tree reads behind the call as it read before. Conditions: those of the given row. -/
import Derived.Test.YtibkdjjdfcpdaaaRows
import Derived.Test.YtibkdjjdfcpdaaaMb
import Derived.Test.YtibkdjjdfcpdaaaMc
import Derived.WalkKit
import Derived.RowKit
import Derived.Test.YtibkdjjdfcpdaaaMi
import Derived.ProofKit
import Derived.OpenShut
import Derived.JoinedCond
set_option linter.unusedVariables false
set_option linter.unusedSimpArgs false
set_option linter.unusedSectionVars false
section
/- A tree that comes in, as the reading of a statement has it; what stands behind a call that leaves memory as it was. -/
namespace Go.Proofs.Ytibkdjjdfcpdaaa
open Go Go.Ab Go.ChangeShapes Go.WideShapes Go.Deep Go.RowKit

theorem cTree : Try.prog.cellsOf 24 = 1 := by kernel_rfl
theorem cNodes : Try.prog.cellsOf 22 = 1 := by kernel_rfl
theorem cNode : Try.prog.cellsOf 38 = 4 := by kernel_rfl
theorem cKids : Try.prog.cellsOf 26 = 1 := by kernel_rfl
theorem cInt : Try.prog.cellsOf 3 = 1 := by kernel_rfl
theorem cStr : Try.prog.cellsOf 9 = 1 := by kernel_rfl

theorem bulk_one {H : Type} (d : DataW H) : 1 ≤ Rows.uptoBulk d := by
  cases d with
  | lit l => cases l <;> simp [Rows.uptoBulk]
  | nil => simp [Rows.uptoBulk]
  | ptr d => simp [Rows.uptoBulk]
  | slice elems spare => simp [Rows.uptoBulk]
  | agg parts => simp [Rows.uptoBulk]
  | iface t d => simp [Rows.uptoBulk]
  | map entries => simp [Rows.uptoBulk]
  | held h => simp [Rows.uptoBulk]
theorem bulk_mem {H : Type} {d : DataW H} : ∀ {l : List (DataW H)}, d ∈ l → Rows.uptoBulk d ≤ Rows.uptoBulkAll l
  | [], h => by cases h
  | x :: r, h => by
    simp only [Rows.uptoBulkAll]
    rcases List.mem_cons.1 h with rfl | e
    · omega
    · have := bulk_mem e; omega
theorem bulk_len {H : Type} : ∀ (l : List (DataW H)), l.length ≤ Rows.uptoBulkAll l
  | [] => by simp [Rows.uptoBulkAll]
  | x :: r => by
    have h1 := bulk_one x
    have h2 := bulk_len r
    simp only [Rows.uptoBulkAll, List.length_cons]; omega

section
variable {H : Type} {enc : TypeId × Value → H} {W : World}
set_option maxRecDepth 100000 in
theorem kids_open {fuel : Nat} {c : Value} {y : DataW H × List MemPlace} (h : DataW.trod enc Try.prog W 0 (fun _ => true) true fuel 26 [c] = some y) :
    ∃ (l : List Int) (k : Option Addr × Nat), c = .slice k.1 l.length k.2 ∧ Sl [exactA W] k.1 k.2 1 (ints l) ∧ l.length ≤ Rows.uptoBulk y.1 := by
  rcases open_slice Try.underlying26 h with ⟨hc, rfl⟩ | ⟨a, len, cap, m, n, D, Pl, hc, hb, hle, hm, hmm, rfl, hel⟩
  · simp only [List.cons.injEq, and_true] at hc
    subst hc
    exact ⟨[], (none, 0), rfl, Sl.nil, Nat.zero_le _⟩
  simp only [List.cons.injEq, and_true] at hc
  subst hc
  simp only [if_true] at hmm
  subst hmm
  obtain ⟨f, hf⟩ := choose_lt (p := fun i (z : Int) => W.cells? 0 (a.add (i * 1)) 1 = some [.int .i64 z]) (n := len) fun i hi => by
    obtain ⟨cs', h1, h2⟩ := hel i (by omega)
    obtain ⟨z, rfl, _⟩ := DataW.trod_int Try.underlying3 h2
    rw [cInt] at h1
    exact ⟨z, h1⟩
  refine ⟨(List.range len).map f, (some a, m), by simp, sl_open (by decide) (by simp [ints]; omega) fun i r hr => ?_, ?_⟩
  · unfold ints at hr
    rw [List.map_map, List.getElem?_map] at hr
    obtain ⟨j, hj, rfl⟩ := Option.map_eq_some_iff.1 hr
    have hi := (List.getElem?_eq_some_iff.1 hj).1
    rw [List.length_range] at hi
    rw [List.getElem?_range hi] at hj
    simp only [Option.some.injEq] at hj; subst hj
    exact hf i hi
  · simp only [Rows.uptoBulk]
    have := bulk_len ((List.range len).map D)
    simp only [List.length_map, List.length_range] at this ⊢
    omega
set_option maxRecDepth 100000 in
theorem node_open {fuel : Nat} {cs : List Value} {x : DataW H × List MemPlace} (h : DataW.trod enc Try.prog W 0 (fun _ => true) true fuel 38 cs = some x) :
    ∃ (nd : Nd) (k : Option Addr × Nat), cs = ndRow nd k ∧ Sl [exactA W] k.1 k.2 1 (ints nd.kids) ∧ (bs nd.text).length ≤ Rows.uptoBulk x.1 ∧ nd.kids.length ≤ Rows.uptoBulk x.1 ∧ nd.num ≤ 9223372036854775807 := by
  obtain ⟨xs, n, _, rfl, hl, hxl, hx⟩ := DataW.trod_struct Try.underlying38 h
  rw [cNode] at hl
  match cs, hl with
  | [c0, c1, c2, c3], _ =>
  match xs, hxl with
  | [x0, x1, x2, x3], _ =>
  have h0 := hx 0 _ rfl
  have h1 := hx 1 _ rfl
  have h2 := hx 2 _ rfl
  have h3 := hx 3 _ rfl
  simp only [cInt, cStr, cKids, List.drop_zero, List.drop_succ_cons, List.take_succ_cons, List.take_zero, List.getElem?_cons_zero, List.getElem?_cons_succ] at h0 h1 h2 h3
  obtain ⟨op, e0, rfl, _⟩ := DataW.trod_int Try.underlying3 h0
  obtain ⟨s, e1, rfl, _⟩ := DataW.trod_string Try.underlying9 h1
  obtain ⟨num, e2, rfl, hw⟩ := DataW.trod_int Try.underlying3 h2
  obtain ⟨l, k, e3, hS, hlen⟩ := kids_open h3
  have q0 : c0 = _ := (List.cons.inj e0).1
  have q1 : c1 = _ := (List.cons.inj e1).1
  have q2 : c2 = _ := (List.cons.inj e2).1
  clear e0 e1 e2 h0 h1 h2 h3
  subst q0; subst q1; subst q2; subst e3
  have hw2 : num ≤ 9223372036854775807 := by
    simp only [Lit.wf, Bool.and_eq_true, decide_eq_true_eq] at hw
    have hm : IntKind.i64.max = 9223372036854775807 := rfl
    omega
  refine ⟨⟨op, s, num, l⟩, k, rfl, hS, ?_, ?_, hw2⟩
  · simp only [List.map_cons, List.map_nil, Rows.uptoBulk, Rows.uptoBulkAll]
    show s.data.toList.length ≤ _
    omega
  · simp only [List.map_cons, List.map_nil, Rows.uptoBulk, Rows.uptoBulkAll]
    show l.length ≤ _
    omega
instance : Inhabited (Nd × (Option Addr × Nat)) := ⟨(⟨0, .empty, 0, []⟩, (none, 0))⟩
theorem map_range_get {α : Type} (f : Nat → α) (n i : Nat) (x : α) (h : ((List.range n).map f)[i]? = some x) : i < n ∧ x = f i := by
  rw [List.getElem?_map] at h
  obtain ⟨j, hj, rfl⟩ := Option.map_eq_some_iff.1 h
  have hi := (List.getElem?_eq_some_iff.1 hj).1
  rw [List.length_range] at hi
  rw [List.getElem?_range hi] at hj
  simp only [Option.some.injEq] at hj; subst hj
  exact ⟨hi, rfl⟩
set_option maxRecDepth 100000 in
theorem tree_open {v : Value} {d : DataW H} {ps : List MemPlace} (hv : ∃ cs, v = .agg cs) (h : DataW.Trod enc Try.prog W 0 (fun _ => true) true 24 v d ps) (hb : Rows.uptoBulk d ≤ 1048576) :
    ∃ (a : Option Addr) (c : Nat) (t : List Nd), v = .agg #[.slice a t.length c] ∧ TreeR [exactA W] a c t ∧ Small t := by
  obtain ⟨cs, rfl⟩ := hv
  obtain ⟨fuel, h⟩ := h
  change DataW.trod enc Try.prog W 0 (fun _ => true) true fuel 24 cs.toList = some (d, ps) at h
  obtain ⟨y0, n, hx, hl, h0⟩ := trod_struct1 Try.underlying24 h
  rw [cTree] at hl
  obtain ⟨c0, hc0⟩ : ∃ c0, cs.toList = [c0] := by
    match hq : cs.toList, hl with
    | [c0], _ => exact ⟨c0, rfl⟩
  have hcs : cs = #[c0] := by rw [← Array.toArray_toList (xs := cs), hc0]
  subst hcs
  simp only [Prod.mk.injEq] at hx
  obtain ⟨rfl, _⟩ := hx
  simp only [Rows.uptoBulk, Rows.uptoBulkAll] at hb
  simp only [cNodes, List.drop_zero, List.take_succ_cons, List.take_zero] at h0
  rcases open_slice Try.underlying22 h0 with ⟨hc, rfl⟩ | ⟨a, len, cap, m, n', D, Pl, hc, hb', hle, hm, hmm, rfl, hel⟩
  · simp only [List.cons.injEq, and_true] at hc
    subst hc
    exact ⟨none, 0, [], rfl, ⟨[], rfl, Sl.nil, fun i nd k e => by simp at e⟩, ⟨by simp, by simp, by simp, by simp⟩⟩
  simp only [List.cons.injEq, and_true] at hc
  subst hc
  simp only [if_true] at hmm
  subst hmm
  obtain ⟨f, hf⟩ := choose_lt (p := fun i (q : Nd × (Option Addr × Nat)) => W.cells? 0 (a.add (i * 4)) 4 = some (ndRow q.1 q.2) ∧ Sl [exactA W] q.2.1 q.2.2 1 (ints q.1.kids) ∧ (bs q.1.text).length ≤ Rows.uptoBulk (D i) ∧ q.1.kids.length ≤ Rows.uptoBulk (D i) ∧ q.1.num ≤ 9223372036854775807) (n := len) fun i hi => by
    obtain ⟨cs', h1, h2⟩ := hel i (by omega)
    obtain ⟨nd, k, rfl, q1, q2, q3, q4⟩ := node_open h2
    rw [cNode] at h1
    exact ⟨(nd, k), h1, q1, q2, q3, q4⟩
  have hbl := bulk_len ((List.range len).map D)
  simp only [Rows.uptoBulk] at hb
  have hbD : ∀ i, i < len → Rows.uptoBulk (D i) ≤ 1048576 := fun i hi => by
    have := bulk_mem (l := (List.range len).map D) (List.mem_map.2 ⟨i, List.mem_range.2 hi, rfl⟩)
    omega
  have hlen : ((List.range len).map fun i => (f i).1).length = len := by simp
  refine ⟨some a, m, (List.range len).map fun i => (f i).1, by rw [hlen], ⟨(List.range len).map fun i => (f i).2, by simp, sl_open (by decide) (by simp; omega) fun i r hr => ?_, fun i nd k e1 e2 => ?_⟩, ⟨?_, ?_, ?_, ?_⟩⟩
  · rw [List.getElem?_zipWith] at hr
    cases e1 : ((List.range len).map fun i => (f i).1)[i]? with
    | none => rw [e1] at hr; simp at hr
    | some nd =>
      cases e2 : ((List.range len).map fun i => (f i).2)[i]? with
      | none => rw [e1, e2] at hr; simp at hr
      | some k =>
        rw [e1, e2] at hr
        simp only [Option.some.injEq] at hr
        obtain ⟨hi, rfl⟩ := map_range_get _ _ _ _ e1
        obtain ⟨_, rfl⟩ := map_range_get _ _ _ _ e2
        subst hr
        exact (hf i hi).1
  · obtain ⟨hi, rfl⟩ := map_range_get _ _ _ _ e1
    obtain ⟨_, rfl⟩ := map_range_get _ _ _ _ e2
    exact (hf i hi).2.1
  · rw [hlen]
    simp only [List.length_map, List.length_range] at hbl
    omega
  · intro nd hnd
    obtain ⟨i, hi, rfl⟩ := List.mem_map.1 hnd
    have h1 := List.mem_range.1 hi
    have := (hf i h1).2.2.2.1
    have := hbD i h1
    omega
  · intro nd hnd
    obtain ⟨i, hi, rfl⟩ := List.mem_map.1 hnd
    have h1 := List.mem_range.1 hi
    have := (hf i h1).2.2.1
    have := hbD i h1
    omega
  · intro nd hnd
    obtain ⟨i, hi, rfl⟩ := List.mem_map.1 hnd
    exact (hf i (List.mem_range.1 hi)).2.2.2.2

/-! ## Behind a call that leaves memory as it was -/
theorem kept_le {W W' : World} (h : Hp.le (hp W) (hp W')) (may : MemPlace → Prop) : W.keptBut W' may := by
  have hm := h.m
  simp only [hp, Prod.mk.injEq] at hm
  refine ⟨hm.1.symm, hm.2.symm, fun i hi => ?_⟩
  have hs : W.heap[i]? = some W.heap[i] := Array.getElem?_eq_getElem hi
  have hs' : W'.heap[i]? = some W.heap[i] := h i _ hs
  rw [hs, hs']
  cases W.heap[i] with
  | cells c t fr => obtain ⟨lo, hi⟩ := fr; exact ⟨rfl, rfl, rfl, fun _ _ => rfl⟩
  | map es clock => exact .inr ⟨rfl, rfl⟩
  | _ => rfl
theorem frozen_le {W W' : World} (h : Hp.le (hp W) (hp W')) {b off : Nat} (hb : b < W.heap.size) (hf : W.frozen? ⟨b, off, none⟩ = false) : W'.frozen? ⟨b, off, none⟩ = false := by
  have hs : W.heap[b]? = some W.heap[b] := Array.getElem?_eq_getElem hb
  have hs' : W'.heap[b]? = some W.heap[b] := h b _ hs
  unfold World.frozen? at hf ⊢
  simp only [] at hf ⊢
  rw [hs] at hf
  rw [hs']; exact hf
theorem post_same {P : Program} {f : Func} {s : ChangeSpec} {apart fresh handsOn again : Bool} {W W' : World} {args : Array Value} {v : Value} {ds gs : List (DataW H)} {before : List MemPlace}
    (hW : DataW.Whole enc P f.params.toList s.vars apart W args.toList ds gs before) (hl : Hp.le (hp W) (hp W')) (hpl : ∀ t ∈ f.params.toList, Plain P t) (hv : s.vars = [])
    (hres : ∀ (b : Nat) (sp : Nat → Bool) (hd : Bool), DataW.TrodAll enc P W' b sp hd f.resultTypes.toList (v.resultList f.resultTypes.size) (s.fn H ds).results [])
    (hargs : (s.fn H ds).args = ds) (hvars : (s.fn H ds).vars = [])
    (hok : ∀ (j : Nat) (t : TypeId) (r : Value), f.resultTypes[j]? = some t → (v.resultList f.resultTypes.size)[j]? = some r → Value.okWide P W' .any 0 t r) :
    s.post enc P f apart fresh handsOn again W args v W' := by
  have hlt := hW.lt
  have hW' := hW
  obtain ⟨p, q, hA, hV, rfl, hz, hn⟩ := hW
  rw [hv] at hV
  obtain ⟨rfl, rfl⟩ := trodVars_none hV
  rw [List.append_nil] at hlt hz hn
  simp only [List.append_nil] at hW'
  have hre : ∀ sp : Nat → Bool, (∀ x ∈ p, sp x.block = true) → DataW.TrodAll enc P W' 0 sp true f.params.toList args.toList (s.fn H (ds ++ [])).args p := fun sp hs => by
    rw [List.append_nil, hargs]
    exact rereadAll hpl hl hA hs
  have hres' : ∀ (b : Nat) (sp : Nat → Bool) (hd : Bool), DataW.TrodAll enc P W' b sp hd f.resultTypes.toList (v.resultList f.resultTypes.size) (s.fn H (ds ++ [])).results [] := by rw [List.append_nil]; exact hres
  have hvr : ∀ sp : Nat → Bool, DataW.TrodVars enc P W' sp s.vars (s.fn H (ds ++ [])).vars [] := fun sp => by rw [List.append_nil, hvars, hv]; exact rfl
  refine ⟨ds, [], p, [], p, [], hW', hres' _ _ _, hre _ fun x hx => by simpa using hlt x hx, hvr _, kept_le hl _, fun _ => ?_⟩
  refine ⟨hok, _, _, ([] ++ p) ++ [], ⟨[] ++ p, [], trodAll_append (hre _ fun _ _ => rfl) (hres' _ _ _), hvr _, rfl, ?_, ?_⟩, ?_⟩
  · intro b off hb
    simp only [List.nil_append, List.append_nil] at hb
    exact frozen_le hl (hlt _ hb) (hz b off hb)
  · intro ha
    simpa using hn ha
  · intro x hx _
    simpa using hx
end
end Go.Proofs.Ytibkdjjdfcpdaaa
end

section
/- RenameMeans: from its contract to the statement. -/
namespace Go.Proofs.Ytibkdjjdfcpdaaa.renameMeans
open Go Go.Ab Go.ChangeShapes Go.WideShapes Go.ChangeAt Go.RowKit

theorem own : ownKnob Try.prog.godebug = none := by kernel_rfl
theorem plainTree : Plain Try.prog 24 := by
  refine .struct Try.underlying24 fun i f hf => ?_
  match i, hf with
  | 0, hf =>
    obtain rfl := Option.some.inj hf
    refine .slice Try.underlying22 (by rw [cNode]; decide) (.struct Try.underlying38 fun i f hf => ?_)
    match i, hf with
    | 0, hf => obtain rfl := Option.some.inj hf; exact .int Try.underlying3
    | 1, hf => obtain rfl := Option.some.inj hf; exact .str Try.underlying9
    | 2, hf => obtain rfl := Option.some.inj hf; exact .int Try.underlying3
    | 3, hf => obtain rfl := Option.some.inj hf; exact .slice Try.underlying26 (by rw [cInt]; decide) (.int Try.underlying3)
set_option maxRecDepth 100000 in
theorem contract (H : Type) (enc : TypeId × Value → H) (W : World) (base : Nat) (args : Array Value) (ds gs : List (DataW H)) (before : List MemPlace)
    (hval : ∀ (j : Nat) t v, Try.f4.params[j]? = some t → args[j]? = some v → Value.okWide Try.prog W .any base t v)
    (hW : DataW.Whole enc Try.prog Try.f4.params.toList Rows.renameMeansSpec.vars false W args.toList ds gs before) (hk : Rows.uptoSmall H (ds ++ gs) = true) :
    Calls Try.prog 4 args W fun e W' => ∃ v, e = .returned v ∧ Rows.renameMeansSpec.post enc Try.prog Try.f4 false true false false W args v W' := by
  have hW' := hW
  obtain ⟨p, q, hA0, hV, rfl, hfz, hnd⟩ := hW
  have hA : DataW.TrodAll enc Try.prog W 0 (fun _ => true) true Try.f4.params.toList args.toList ds p := hA0
  rw [Try.params4] at hA hval
  obtain ⟨v0, vs0, d0, ds0, p0, q0, hargs, rfl, rfl, h0, r0⟩ := trodAll_cons hA
  obtain ⟨rfl, rfl, rfl⟩ := trodAll_nil r0
  obtain rfl : args = #[v0] := by cases args; simp_all
  obtain ⟨rfl, rfl⟩ := trodVars_none hV
  obtain ⟨cs, hcs, _⟩ := okWide_struct Try.underlying24 (hval 0 24 v0 rfl rfl)
  have hb : Rows.uptoBulkAll ([d0] ++ []) ≤ 1048576 := of_decide_eq_true hk
  obtain ⟨a, c, t, rfl, hT, hsm⟩ := tree_open ⟨cs, hcs⟩ h0 (by simpa [Rows.uptoBulkAll] using hb)
  refine (renameMeans_ct t a c _ hT hsm W (exact_sat W)).mono fun e W' ⟨_, L', hret, hs⟩ => ?_
  cases e with
  | returned v =>
    obtain ⟨rfl, rfl⟩ := hret
    refine ⟨_, rfl, post_same hW' (exact_le hs) (fun t ht => ?_) rfl (fun _ _ _ => trodAll_cons_mk (shut_bool Try.underlying4 _) trodAll_mk0) rfl rfl ?_⟩
    · rw [Try.params4] at ht
      obtain rfl : t = 24 := by simpa using ht
      exact plainTree
    · exact ok_one (by kernel_rfl) rfl (okWide_bool_mk Try.underlying4 _)
  | _ => exact hret.elim
set_option maxRecDepth 100000 in
theorem lifted (os : Os) (started : os.Started) (H : Type) (enc : TypeId × Value → H) (F : Stop.Interp) :
    ReturnsInHanded {} Try.checked os 4 .any ((Rows.OpenSpec.upto Rows.renameMeansSpec).pre6 enc Try.prog Try.f4 Rows.renameMeansUptoRow.domain false) (((Rows.OpenSpec.upto Rows.renameMeansSpec).at F).post enc Try.prog Try.f4 false true false false) := by
  refine returnsInHanded_of_cond (C := Try.checked) (s := Rows.OpenSpec.upto Rows.renameMeansSpec) (k := Rows.uptoSmall) rfl own started (by kernel_rfl) Try.func4
    (OpenSpec.witness (enc := enc) (C := Try.checked) (s := Rows.OpenSpec.upto Rows.renameMeansSpec) (k := Rows.uptoSmall) rfl false ⟨#[], #[.agg #[.slice none 0 0]], []⟩ 8 (by kernel_rfl) (by kernel_rfl) (by kernel_rfl)
      (x := ([.agg [.nil]], [], [])) (by kernel_rfl) rfl (by kernel_rfl)) ?_
  intro W base args ds gs before hval hW _ hk _
  exact contract H enc W base args ds gs before hval hW hk
theorem said : Rows.RenameMeansUptoSaid :=
  OpenClaim.holds_of_cond 4 Try.f4 rfl rfl rfl rfl rfl rfl rfl ⟨rfl, rfl, rfl, rfl, rfl⟩ rfl rfl rfl rfl rfl (by kernel_rfl) Try.func4 (by kernel_rfl)
    (of_decide_eq_true (by kernel_rfl)) (by unfold Func.isWrapper; first | (rw [if_pos (by decide +kernel)]; kernel_rfl) | (rw [if_neg (by decide +kernel)]; exact ⟨rfl, rfl⟩))
    (fun os started H enc _ F => lifted os started H enc F)
end Go.Proofs.Ytibkdjjdfcpdaaa.renameMeans
end
