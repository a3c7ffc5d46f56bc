/- Parts of a proof: Va Vb Wa Wb Wc Wd We Wf Wg Wh. -/
import Derived.Test.YtibkdjjdfcpdaaaMg
import Derived.Laws.StructEq
set_option linter.unusedVariables false
set_option linter.unusedSimpArgs false
set_option linter.unusedSectionVars false
section
/- rename.Check: what its parts compute. -/
namespace Go.Ab
open Go
section
variable {P : Program} {E : Env} {L : List Assn} {ty : TypeId} {pos : String} {af : Array Edge} {x y : Operand} {t : TypeId} {c1 c2 g : Bool} {xs ys : Array Value} {r : Bool}
/-- Two structs are told apart. -/
theorem Qt.sneq {d : Option Tmp} {gd : Option (Nat × Bool)} {u : TypeId} (hg : P.eqGuardType P.depth t = false) (he : ∀ w, (Op.equalIn 10000 t (.agg xs) (.agg ys)).run P w = .ok r w) (hx : opv x E = some (c1, .agg xs)) [Imp g c1] (hy : opv y E = some (c2, .agg ys)) [Imp g c2] : Qt P E L ⟨d, .binOp .neq t x y u, ty, pos, af, gd⟩ g (.bool !r) :=
  .of2 (fun ρ w h1 h2 => by
    simp only [execOp, h1, h2]
    refine run_v ?_
    rw [run_ok (run_eqGuard_agg w .neq t x y xs ys hg), run_neq_struct, he]; rfl) (EvG.of hx) (EvG.of hy)
end
attribute [local irreducible] Wp WpO Qt OpT Ct
section
variable {P : Program} {n : Nat} {Q : Post} {E : Env} {D : List Deferred} {L : List Assn} {ops : Array Oper} {rest : List Oper} {m m' : Md} {d : Nat} {ty : TypeId} {pos : String} {af : Array Edge} {x y : Operand} {t : TypeId} {xs ys : Array Value} {r : Bool}
theorem S.sneq [Nxt m m'] {u : TypeId} (hg : P.eqGuardType P.depth t = false) (he : ∀ w, (Op.equalIn 10000 t (.agg xs) (.agg ys)).run P w = .ok r w) (hdn : Nat.blt d n = true) (hx : opv x E = some (true, .agg xs)) (hy : opv y E = some (true, .agg ys))
    (h : WpO P n ops Q m' rest ((d, .v (.bool !r)) :: E) D L) : WpO P n ops Q m (⟨some d, .binOp .neq t x y u, ty, pos, af, none⟩ :: rest) E D L := WpO.q rfl hdn (Qt.sneq hg he hx hy) h
end
end Go.Ab
namespace Go.Proofs.Ytibkdjjdfcpdaaa
open Go Go.Ab
attribute [local irreducible] Wp WpO WpE Qt OpT Ct
theorem guardCon : Try.prog.eqGuardType Try.prog.depth 48 = false := by kernel_rfl
theorem guardData : Try.prog.eqGuardType Try.prog.depth 50 = false := by kernel_rfl
theorem run_part1 {P : Program} {t : TypeId} [hz : TSize P t 1 false] {cs : Array Value} {off : Nat} {v : Value} (h : cs[off]? = some v) (w : World) : (part t cs off).run P w = .ok v w := by
  unfold part
  rw [run_ok (hz.agg w)]
  simp only [Bool.false_eq_true, if_false, h]; rfl
theorem eqF_cons {P : Program} {d : Nat} {xs ys : Array Value} {f : Field} {fs : List Field} {a b : Value} {r r2 : Bool} {w : World} (hn : f.name ≠ "_") (h1 : (part f.type xs f.offset).run P w = .ok a w) (h2 : (part f.type ys f.offset).run P w = .ok b w) (h3 : (Op.equalIn d f.type a b).run P w = .ok r w)
    (h4 : (Op.eqFields d xs ys fs).run P w = .ok r2 w) : (Op.eqFields d xs ys (f :: fs)).run P w = .ok (r && r2) w := by
  unfold Op.eqFields
  rw [if_pos hn, run_ok h1, run_ok h2, run_ok h3]
  cases r with
  | false => rfl
  | true => exact h4
theorem eqF_nil {P : Program} {d : Nat} {xs ys : Array Value} {w : World} : (Op.eqFields d xs ys []).run P w = .ok true w := rfl
theorem eqI {P : Program} {t : TypeId} {k k' : IntKind} (h : P.underlying t = some (.int k')) (a b : Int) (w : World) : (Op.equalIn 9999 t (.int k a) (.int k b)).run P w = .ok (decide (a = b)) w := by
  rw [show (9999 : Nat) = 9998 + 1 from rfl, run_equalIn_int w 9998 t k k' a b h]
  congr 1
theorem eqS {P : Program} {t : TypeId} (h : P.underlying t = some .string) (a b : ByteArray) (w : World) : (Op.equalIn 9999 t (.string a) (.string b)).run P w = .ok (decide (a = b)) w := by
  rw [show (9999 : Nat) = 9998 + 1 from rfl, run_equalIn_string w 9998 t a b h]
  congr 1
  by_cases q : a = b
  · subst q; simp
  · rw [decide_eq_false q]
    have : a.toList ≠ b.toList := fun e => q (by
      rw [ByteArray.toList_eq, ByteArray.toList_eq] at e
      cases a; cases b
      exact congrArg ByteArray.mk (Array.toList_inj.1 e))
    simp [this]
theorem eqCon (a b : ByteArray) (x y x' y' : Int) (w : World) : (Op.equalIn 10000 48 (.agg #[.string a, .int .i64 x, .int .i64 y]) (.agg #[.string b, .int .i64 x', .int .i64 y'])).run Try.prog w = .ok (decide (a = b) && (decide (x = x') && (decide (y = y') && true))) w := by
  rw [run_equalIn_struct w 9999 48 _ _ (by kernel_rfl) (by kernel_rfl)]
  unfold Program.fieldsOf
  rw [Try.underlying48]
  refine eqF_cons (by decide) (run_part1 (t := 9) rfl w) (run_part1 (t := 9) rfl w) (eqS Try.underlying9 _ _ w) ?_
  refine eqF_cons (by decide) (run_part1 (t := 3) rfl w) (run_part1 (t := 3) rfl w) (eqI Try.underlying3 _ _ w) ?_
  refine eqF_cons (by decide) (run_part1 (t := 3) rfl w) (run_part1 (t := 3) rfl w) (eqI Try.underlying3 _ _ w) eqF_nil
theorem eqData (a b : ByteArray) (x x' : Int) (w : World) : (Op.equalIn 10000 50 (.agg #[.string a, .int .i64 x]) (.agg #[.string b, .int .i64 x'])).run Try.prog w = .ok (decide (a = b) && (decide (x = x') && true)) w := by
  rw [run_equalIn_struct w 9999 50 _ _ (by kernel_rfl) (by kernel_rfl)]
  unfold Program.fieldsOf
  rw [Try.underlying50]
  refine eqF_cons (by decide) (run_part1 (t := 9) rfl w) (run_part1 (t := 9) rfl w) (eqS Try.underlying9 _ _ w) ?_
  refine eqF_cons (by decide) (run_part1 (t := 3) rfl w) (run_part1 (t := 3) rfl w) (eqI Try.underlying3 _ _ w) eqF_nil
theorem ofL_inj {a b : List UInt8} : ofL a = ofL b ↔ a = b := ⟨fun e => by have := congrArg bs e; rwa [bs_ofL, bs_ofL] at this, fun e => by rw [e]⟩
theorem equalS_ct (xs ys : List (List UInt8)) (n k : Nat) (hn : xs.length = n) (hk : ys.length = k) (a1 a2 : Option Addr) (c1 c2 : Nat) (L : List Assn) (h1 : Sl L a1 c1 1 (strRs xs)) (h2 : Sl L a2 c2 1 (strRs ys)) (hx : xs.length < 1073741824) :
    Ct Try.prog 29 #[.slice a1 n c1, .slice a2 k c2] L (ret fun v L' => v = .bool (decide (xs = ys)) ∧ L' = L) := by
  subst hn; subst hk
  refine Ct.body Try.func29 rfl Try.ntmps29 Try.results29 rfl ?_
  refine pur ?_
  refine Wp.branch rfl (fun h => ?_) (fun h => ?_)
  · refine pur ?_
    refine Wp.ret (Ret 0 rfl ⟨?_, rfl⟩)
    have : xs ≠ ys := fun e => by subst e; simp at h
    simp [this]
  have hl : xs.length = ys.length := by
    have := h; simp at this; omega
  refine pur ?_
  refine Wp.loopI (α := Nat) 0 (fun i => [(0, .v (.slice a1 xs.length c1)), (1, .v (.slice a2 ys.length c2)), (12, .v (.int .i64 xs.length)), (13, .v (.int .i64 i))]) (fun _ => L) (fun i => xs.length - i) (fun i => i ≤ xs.length ∧ xs.take i = ys.take i) ⟨Nat.zero_le _, rfl⟩ ⟨rfl, rfl, rfl, rfl, trivial⟩ (LeL.refl _) ?_
  rintro i ⟨hi, ht⟩
  refine pur ?_
  refine Wp.branch rfl (fun h => ?_) (fun h => ?_)
  · have hix : i < xs.length := by simpa using h
    have hiy : i < ys.length := by omega
    obtain ⟨x, hxi⟩ : ∃ x, xs[i]? = some x := ⟨_, List.getElem?_eq_getElem hix⟩
    obtain ⟨y, hyi⟩ : ∃ y, ys[i]? = some y := ⟨_, List.getElem?_eq_getElem hiy⟩
    obtain ⟨b1, o1, rfl, _, e1⟩ := h1.at (i := i) (r := [.string (ofL x)]) (by simp [strRs, hxi])
    obtain ⟨b2, o2, rfl, _, e2⟩ := h2.at (i := i) (r := [.string (ofL y)]) (by simp [strRs, hyi])
    have htake : xs.take (i + 1) = ys.take (i + 1) ↔ x = y := by
      rw [List.take_add_one, List.take_add_one, ht, hxi, hyi]
      simp
    have hne : x ≠ y → xs ≠ ys := fun q e => q (htake.1 (by rw [e]))
    refine pur ?_
    refine Wp.draw rfl [0,1,2,3,4,5,6,7,8] 9 9 _ rfl (by decide +kernel) (fun _ h => h) ?_
    refine pur ?_
    refine S.idx i rfl rfl rfl rfl hix ?_
    refine pur ?_
    refine S.idx i rfl rfl rfl rfl hiy ?_
    refine pur ?_
    refine pur ?_
    refine Wp.branch rfl (fun h => ?_) (fun h => ?_)
    · have hxy : x ≠ y := fun e => by subst e; simp at h
      refine pur ?_
      refine Wp.ret (Ret 0 rfl ⟨?_, rfl⟩)
      simp [hne hxy]
    · have hxy : x = y := by have := h; simp [ofL_inj] at this; have := congrArg Array.toList this; simpa [ofL] using this
      refine pur ?_
      refine Round.mk (i + 1) (by omega) ⟨by omega, htake.2 hxy⟩ ⟨rfl, rfl, rfl, ?_, trivial⟩ (LeL.refl _)
      show some (AV.v (.int .i64 (IntKind.i64.wrap ((i : Int) + 1)))) = _
      rw [wrap_id (by omega) (by omega)]; rfl
  · have hix : xs.length ≤ i := by simpa using h
    refine pur ?_
    refine Wp.ret (Ret 0 rfl ⟨?_, rfl⟩)
    rw [List.take_of_length_le hix, List.take_of_length_le (by omega)] at ht
    simp [ht]
theorem equalC_ct (xs ys : List CN) (n k : Nat) (hn : xs.length = n) (hk : ys.length = k) (a1 a2 : Option Addr) (c1 c2 : Nat) (L : List Assn) (h1 : Sl L a1 c1 3 (List.map conRow xs)) (h2 : Sl L a2 c2 3 (List.map conRow ys)) (hx : xs.length < 1073741824) :
    Ct Try.prog 30 #[.slice a1 n c1, .slice a2 k c2] L (ret fun v L' => v = .bool (decide (xs = ys)) ∧ L' = L) := by
  subst hn; subst hk
  refine Ct.body Try.func30 rfl Try.ntmps30 Try.results30 rfl ?_
  refine pur ?_
  refine Wp.branch rfl (fun h => ?_) (fun h => ?_)
  · refine pur ?_
    refine Wp.ret (Ret 0 rfl ⟨?_, rfl⟩)
    have : xs ≠ ys := fun e => by subst e; simp at h
    simp [this]
  have hl : xs.length = ys.length := by
    have := h; simp at this; omega
  refine pur ?_
  refine Wp.loopI (α := Nat) 0 (fun i => [(0, .v (.slice a1 xs.length c1)), (1, .v (.slice a2 ys.length c2)), (12, .v (.int .i64 xs.length)), (13, .v (.int .i64 i))]) (fun _ => L) (fun i => xs.length - i) (fun i => i ≤ xs.length ∧ xs.take i = ys.take i) ⟨Nat.zero_le _, rfl⟩ ⟨rfl, rfl, rfl, rfl, trivial⟩ (LeL.refl _) ?_
  rintro i ⟨hi, ht⟩
  refine pur ?_
  refine Wp.branch rfl (fun h => ?_) (fun h => ?_)
  · have hix : i < xs.length := by simpa using h
    have hiy : i < ys.length := by omega
    obtain ⟨x, hxi⟩ : ∃ x, xs[i]? = some x := ⟨_, List.getElem?_eq_getElem hix⟩
    obtain ⟨y, hyi⟩ : ∃ y, ys[i]? = some y := ⟨_, List.getElem?_eq_getElem hiy⟩
    obtain ⟨b1, o1, rfl, _, e1⟩ := h1.at (i := i) (r := conRow x) (by simp [conRow, hxi])
    obtain ⟨b2, o2, rfl, _, e2⟩ := h2.at (i := i) (r := conRow y) (by simp [conRow, hyi])
    have htake : xs.take (i + 1) = ys.take (i + 1) ↔ x = y := by
      rw [List.take_add_one, List.take_add_one, ht, hxi, hyi]
      simp
    have hne : x ≠ y → xs ≠ ys := fun q e => q (htake.1 (by rw [e]))
    refine pur ?_
    refine Wp.draw rfl [0,1,2,3,4,5,6,7,8] 9 9 _ rfl (by decide +kernel) (fun _ h => h) ?_
    refine pur ?_
    refine S.idx i rfl rfl rfl rfl hix ?_
    refine pur ?_
    refine S.loadN (vs := conRow x) rfl rfl e1 rfl ?_
    refine pur ?_
    refine S.idx i rfl rfl rfl rfl hiy ?_
    refine pur ?_
    refine S.loadN (vs := conRow y) rfl rfl e2 rfl ?_
    refine pur ?_
    refine S.sneq (xs := (conRow x).toArray) (ys := (conRow y).toArray) guardCon (fun w => eqCon _ _ _ _ _ _ w) rfl rfl rfl ?_
    refine pur ?_
    refine Wp.branch rfl (fun h => ?_) (fun h => ?_)
    · have hxy : x ≠ y := fun e => by subst e; simp at h
      refine pur ?_
      refine Wp.ret (Ret 0 rfl ⟨?_, rfl⟩)
      simp [hne hxy]
    · have hxy : x = y := by obtain ⟨x1, x2, x3⟩ := x; obtain ⟨y1, y2, y3⟩ := y; have := h; simp [ofL_inj] at this; simp [this]
      refine pur ?_
      refine Round.mk (i + 1) (by omega) ⟨by omega, htake.2 hxy⟩ ⟨rfl, rfl, rfl, ?_, trivial⟩ (LeL.refl _)
      show some (AV.v (.int .i64 (IntKind.i64.wrap ((i : Int) + 1)))) = _
      rw [wrap_id (by omega) (by omega)]; rfl
  · have hix : xs.length ≤ i := by simpa using h
    refine pur ?_
    refine Wp.ret (Ret 0 rfl ⟨?_, rfl⟩)
    rw [List.take_of_length_le hix, List.take_of_length_le (by omega)] at ht
    simp [ht]
theorem equalD_ct (xs ys : List DN) (n k : Nat) (hn : xs.length = n) (hk : ys.length = k) (a1 a2 : Option Addr) (c1 c2 : Nat) (L : List Assn) (h1 : Sl L a1 c1 2 (List.map datRow xs)) (h2 : Sl L a2 c2 2 (List.map datRow ys)) (hx : xs.length < 1073741824) :
    Ct Try.prog 31 #[.slice a1 n c1, .slice a2 k c2] L (ret fun v L' => v = .bool (decide (xs = ys)) ∧ L' = L) := by
  subst hn; subst hk
  refine Ct.body Try.func31 rfl Try.ntmps31 Try.results31 rfl ?_
  refine pur ?_
  refine Wp.branch rfl (fun h => ?_) (fun h => ?_)
  · refine pur ?_
    refine Wp.ret (Ret 0 rfl ⟨?_, rfl⟩)
    have : xs ≠ ys := fun e => by subst e; simp at h
    simp [this]
  have hl : xs.length = ys.length := by
    have := h; simp at this; omega
  refine pur ?_
  refine Wp.loopI (α := Nat) 0 (fun i => [(0, .v (.slice a1 xs.length c1)), (1, .v (.slice a2 ys.length c2)), (12, .v (.int .i64 xs.length)), (13, .v (.int .i64 i))]) (fun _ => L) (fun i => xs.length - i) (fun i => i ≤ xs.length ∧ xs.take i = ys.take i) ⟨Nat.zero_le _, rfl⟩ ⟨rfl, rfl, rfl, rfl, trivial⟩ (LeL.refl _) ?_
  rintro i ⟨hi, ht⟩
  refine pur ?_
  refine Wp.branch rfl (fun h => ?_) (fun h => ?_)
  · have hix : i < xs.length := by simpa using h
    have hiy : i < ys.length := by omega
    obtain ⟨x, hxi⟩ : ∃ x, xs[i]? = some x := ⟨_, List.getElem?_eq_getElem hix⟩
    obtain ⟨y, hyi⟩ : ∃ y, ys[i]? = some y := ⟨_, List.getElem?_eq_getElem hiy⟩
    obtain ⟨b1, o1, rfl, _, e1⟩ := h1.at (i := i) (r := datRow x) (by simp [datRow, hxi])
    obtain ⟨b2, o2, rfl, _, e2⟩ := h2.at (i := i) (r := datRow y) (by simp [datRow, hyi])
    have htake : xs.take (i + 1) = ys.take (i + 1) ↔ x = y := by
      rw [List.take_add_one, List.take_add_one, ht, hxi, hyi]
      simp
    have hne : x ≠ y → xs ≠ ys := fun q e => q (htake.1 (by rw [e]))
    refine pur ?_
    refine Wp.draw rfl [0,1,2,3,4,5,6,7,8] 9 9 _ rfl (by decide +kernel) (fun _ h => h) ?_
    refine pur ?_
    refine S.idx i rfl rfl rfl rfl hix ?_
    refine pur ?_
    refine S.loadN (vs := datRow x) rfl rfl e1 rfl ?_
    refine pur ?_
    refine S.idx i rfl rfl rfl rfl hiy ?_
    refine pur ?_
    refine S.loadN (vs := datRow y) rfl rfl e2 rfl ?_
    refine pur ?_
    refine S.sneq (xs := (datRow x).toArray) (ys := (datRow y).toArray) guardData (fun w => eqData _ _ _ _ w) rfl rfl rfl ?_
    refine pur ?_
    refine Wp.branch rfl (fun h => ?_) (fun h => ?_)
    · have hxy : x ≠ y := fun e => by subst e; simp at h
      refine pur ?_
      refine Wp.ret (Ret 0 rfl ⟨?_, rfl⟩)
      simp [hne hxy]
    · have hxy : x = y := by obtain ⟨x1, x2⟩ := x; obtain ⟨y1, y2⟩ := y; have := h; simp [ofL_inj] at this; simp [this]
      refine pur ?_
      refine Round.mk (i + 1) (by omega) ⟨by omega, htake.2 hxy⟩ ⟨rfl, rfl, rfl, ?_, trivial⟩ (LeL.refl _)
      show some (AV.v (.int .i64 (IntKind.i64.wrap ((i : Int) + 1)))) = _
      rw [wrap_id (by omega) (by omega)]; rfl
  · have hix : xs.length ≤ i := by simpa using h
    refine pur ?_
    refine Wp.ret (Ret 0 rfl ⟨?_, rfl⟩)
    rw [List.take_of_length_le hix, List.take_of_length_le (by omega)] at ht
    simp [ht]
end Go.Proofs.Ytibkdjjdfcpdaaa
end

section
/- rename.Check. -/
namespace Go.Proofs.Ytibkdjjdfcpdaaa
open Go Go.Ab
attribute [local irreducible] Wp WpO WpE Qt OpT Ct
/-- A Bound that is read. -/
structure BdR (L : List Assn) (B : Bd) (A : BA) : Prop where
  tree : TreeR L A.ta.1 A.ta.2 B.t
  ref : Sl L A.ra.1 A.ra.2 1 (ints B.ref)
  names : Sl L A.na.1 A.na.2 1 (strRs B.names)
  cons : Sl L A.ca.1 A.ca.2 3 (B.cons.map conRow)
  datas : Sl L A.da.1 A.da.2 2 (B.datas.map datRow)
  groups : ∃ gks : List (Option Addr × Nat), gks.length = B.groups.length ∧ Sl L A.ga.1 A.ga.2 2 (grRows B.groups gks) ∧ ∀ (i : Nat) (g : Grp) (key : Option Addr × Nat), B.groups[i]? = some g → gks[i]? = some key → Sl L key.1 key.2 1 (ints g.2)
theorem BdR.wk {L L' : List Assn} {B : Bd} {A : BA} (h : BdR L B A) (hL : LeL L' L) : BdR L' B A := by
  obtain ⟨gks, g1, g2, g3⟩ := h.groups
  exact ⟨h.tree.wk hL, h.ref.wk hL, h.names.wk hL, h.cons.wk hL, h.datas.wk hL, gks, g1, g2.wk hL, fun i g key e1 e2 => (g3 i g key e1 e2).wk hL⟩
/-- What is read of a Bound of one's own, that lies open. -/
theorem bd_know {L : List Assn} {B : Bd} {A : BA} {ks gks : List (Option Addr × Nat)} {k : Hp} (hk : ks.length = B.t.length) (hg : gks.length = B.groups.length) (hs : Sat k (bdM B A ks gks L)) : BdR (bdM B A ks gks L) B A :=
  ⟨tree_knowI (q := A.ta) 0 1 rfl rfl hk hs, Sl.own 2 rfl (own_know 2 rfl hs), Sl.own 3 rfl (own_know 3 rfl hs), Sl.own 4 rfl (own_know 4 rfl hs), Sl.own 5 rfl (own_know 5 rfl hs), gks, hg, Sl.own 6 rfl (own_know 6 rfl hs), fun i g key e1 e2 => listsI_sl 7 rfl hs (by unfold vlists; rw [List.getElem?_map, e1]; rfl) e2⟩
theorem Wp.openBd {P : Program} {n : Nat} {Q : Post} {E : Env} {D : List Deferred} {L : List Assn} {c : Code} {B : Bd} {A : BA} (i : Nat) (hi : L[i]? = some (bdA B A)) (h : ∀ ks gks : List (Option Addr × Nat), ks.length = B.t.length → gks.length = B.groups.length → Wp P n c Q E D (bdM B A ks gks (L.eraseIdx i))) : Wp P n c Q E D L :=
  Wp.openP (φ := fun M => ∃ ks gks : List (Option Addr × Nat), ks.length = B.t.length ∧ gks.length = B.groups.length ∧ M = bdM B A ks gks []) i hi fun M ⟨ks, gks, h1, h2, hM⟩ => by subst hM; exact h ks gks h1 h2
theorem WpO.openBd {P : Program} {n : Nat} {ops : Array Oper} {Q : Post} {E : Env} {D : List Deferred} {L : List Assn} {l : List Oper} {B : Bd} {A : BA} (i : Nat) (hi : L[i]? = some (bdA B A)) (h : ∀ ks gks : List (Option Addr × Nat), ks.length = B.t.length → gks.length = B.groups.length → WpO P n ops Q .seq l E D (bdM B A ks gks (L.eraseIdx i))) : WpO P n ops Q .seq l E D L :=
  WpO.openP (φ := fun M => ∃ ks gks : List (Option Addr × Nat), ks.length = B.t.length ∧ gks.length = B.groups.length ∧ M = bdM B A ks gks []) i hi fun M ⟨ks, gks, h1, h2, hM⟩ => by subst hM; exact h ks gks h1 h2
theorem Ct.openBd {P : Program} {L : List Assn} {f : FuncId} {args : Array Value} {R : Ending → List Assn → Prop} {B : Bd} {A : BA} (i : Nat) (hi : L[i]? = some (bdA B A)) (h : ∀ ks gks : List (Option Addr × Nat), ks.length = B.t.length → gks.length = B.groups.length → Ct P f args (bdM B A ks gks (L.eraseIdx i)) R) : Ct P f args L R :=
  Ct.openP (φ := fun M => ∃ ks gks : List (Option Addr × Nat), ks.length = B.t.length ∧ gks.length = B.groups.length ∧ M = bdM B A ks gks []) i hi fun M ⟨ks, gks, h1, h2, hM⟩ => by subst hM; exact h ks gks h1 h2
theorem groupSame_ct (n m : Int) (l l' : List Int) (a a' : Option Addr) (c c' : Nat) (L : List Assn) (h1 : Sl L a c 1 (ints l)) (h2 : Sl L a' c' 1 (ints l')) (hx : l.length < 1073741824) :
    Ct Try.prog 27 #[.agg #[.int .i64 n, .slice a l.length c], .agg #[.int .i64 m, .slice a' l'.length c']] L (ret fun v L' => v = .bool (decide ((n, l) = (m, l'))) ∧ L' = L) := by
  refine Ct.body Try.func27 rfl Try.ntmps27 Try.results27 rfl ?_
  refine pur ?_
  refine WpO.box (vs := [.int .i64 n, .slice a l.length c]) rfl rfl rfl (fun _ => Keeps.none) fun b2 => ?_
  refine WpO.box (vs := [.int .i64 m, .slice a' l'.length c']) rfl rfl rfl (fun _ => Keeps.none) fun b3 => ?_
  refine pur ?_
  refine WpO.callqg (v := .bool (decide (l = l'))) Try.call28 rfl rfl (.cons rfl (by infer_instance) (.cons rfl (by infer_instance) .nil)) (fun _ => equal_ct l l' a a' c c' _ (h1.app [_, _]) (h2.app [_, _]) hx) Keeps.none ?_
  refine pur ?_
  refine Wp.ret (Ret 2 rfl ⟨?_, rfl⟩)
  by_cases q : n = m <;> by_cases q2 : l = l' <;> simp [q, q2]
set_option maxHeartbeats 4000000 in
theorem equalG_ct (xs ys : List Grp) (n k : Nat) (hn : xs.length = n) (hk : ys.length = k) (a1 a2 : Option Addr) (c1 c2 : Nat) (L : List Assn) (ks1 ks2 : List (Option Addr × Nat)) (hk1 : ks1.length = xs.length) (hk2 : ks2.length = ys.length)
    (h1 : Sl L a1 c1 2 (grRows xs ks1)) (h2 : Sl L a2 c2 2 (grRows ys ks2)) (g1 : ∀ (i : Nat) (g : Grp) (key : Option Addr × Nat), xs[i]? = some g → ks1[i]? = some key → Sl L key.1 key.2 1 (ints g.2)) (g2 : ∀ (i : Nat) (g : Grp) (key : Option Addr × Nat), ys[i]? = some g → ks2[i]? = some key → Sl L key.1 key.2 1 (ints g.2))
    (hx : xs.length < 1073741824) (hb : ∀ g ∈ xs, g.2.length < 1073741824) :
    Ct Try.prog 32 #[.slice a1 n c1, .slice a2 k c2, .func (.func 27) #[] #[]] L (ret fun v L' => v = .bool (decide (xs = ys)) ∧ L' = L) := by
  subst hn; subst hk
  refine Ct.body Try.func32 rfl Try.ntmps32 Try.results32 rfl ?_
  refine pur ?_
  refine Wp.branch rfl (fun h => ?_) (fun h => ?_)
  · refine pur ?_
    refine Wp.ret (Ret 0 rfl ⟨?_, rfl⟩)
    have : xs ≠ ys := fun e => by subst e; simp at h
    simp [this]
  have hl : xs.length = ys.length := by
    have := h; simp at this; omega
  refine pur ?_
  refine Wp.loopI (α := Nat) 0 (fun i => [(0, .v (.slice a1 xs.length c1)), (1, .v (.slice a2 ys.length c2)), (2, .v (.func (.func 27) #[] #[])), (15, .v (.slice a1 xs.length c1)), (16, .v (.int .i64 xs.length)), (17, .v (.int .i64 i))]) (fun _ => L) (fun i => xs.length - i) (fun i => i ≤ xs.length ∧ xs.take i = ys.take i) ⟨Nat.zero_le _, rfl⟩ ⟨rfl, rfl, rfl, rfl, rfl, rfl, trivial⟩ (LeL.refl _) ?_
  rintro i ⟨hi, ht⟩
  refine pur ?_
  refine Wp.branch rfl (fun h => ?_) (fun h => ?_)
  · have hix : i < xs.length := by have := of_decide_eq_true h; omega
    have hiy : i < ys.length := by omega
    obtain ⟨x, hxi⟩ : ∃ x, xs[i]? = some x := ⟨_, List.getElem?_eq_getElem hix⟩
    obtain ⟨y, hyi⟩ : ∃ y, ys[i]? = some y := ⟨_, List.getElem?_eq_getElem hiy⟩
    obtain ⟨k1, hk1i⟩ : ∃ k1, ks1[i]? = some k1 := ⟨_, List.getElem?_eq_getElem (by omega)⟩
    obtain ⟨k2, hk2i⟩ : ∃ k2, ks2[i]? = some k2 := ⟨_, List.getElem?_eq_getElem (by omega)⟩
    have hS1 := g1 i x k1 hxi hk1i
    have hS2 := g2 i y k2 hyi hk2i
    have hxb := hb x (List.mem_of_getElem? hxi)
    obtain ⟨b1, o1, rfl, _, e1⟩ := h1.at (i := i) (r := [.int .i64 x.1, .slice k1.1 x.2.length k1.2]) (by unfold grRows; rw [List.getElem?_zipWith, hxi, hk1i])
    obtain ⟨b2, o2, rfl, _, e2⟩ := h2.at (i := i) (r := [.int .i64 y.1, .slice k2.1 y.2.length k2.2]) (by unfold grRows; rw [List.getElem?_zipWith, hyi, hk2i])
    have htake : xs.take (i + 1) = ys.take (i + 1) ↔ x = y := by
      rw [List.take_add_one, List.take_add_one, ht, hxi, hyi]
      simp
    have hne : x ≠ y → xs ≠ ys := fun q e => q (htake.1 (by rw [e]))
    refine pur ?_
    refine S.idx i rfl rfl rfl rfl hix ?_
    refine S.loadN (vs := [.int .i64 x.1, .slice k1.1 x.2.length k1.2]) rfl rfl e1 rfl ?_
    refine WpO.alloc rfl rfl (fun _ => Keeps.none) fun b8 => ?_
    refine pur ?_
    refine S.idx i rfl rfl rfl rfl hiy ?_
    refine S.loadN (vs := [.int .i64 y.1, .slice k2.1 y.2.length k2.2]) rfl rfl (e2.app [_]) rfl ?_
    refine WpO.alloc rfl rfl (fun _ => Keeps.none) fun b9 => ?_
    refine pur ?_
    refine S.loadN (vs := [.int .i64 x.1, .slice k1.1 x.2.length k1.2]) rfl rfl (Ent.pt 1 2 rfl rfl) rfl ?_
    refine S.loadN (vs := [.int .i64 y.1, .slice k2.1 y.2.length k2.2]) rfl rfl (Ent.pt 0 2 rfl rfl) rfl ?_
    refine WpO.callc Try.call27 rfl rfl (.cons rfl (by infer_instance) (.cons rfl (by infer_instance) .nil)) (groupSame_ct x.1 y.1 x.2 y.2 k1.1 k2.1 k1.2 k2.2 _ (hS1.app [_, _]) (hS2.app [_, _]) hxb) fun v L' ⟨q1, q2⟩ => ⟨Keeps.none, ?_⟩
    subst q1; subst q2
    refine pur ?_
    refine Wp.branch rfl (fun h => ?_) (fun h => ?_)
    · have hxy : x ≠ y := fun e => by subst e; simp at h
      refine pur ?_
      refine Wp.ret (Ret 2 rfl ⟨?_, rfl⟩)
      simp [hne hxy]
    · have hxy : x = y := by
        have := h; simp at this; exact Prod.ext this.1 this.2
      refine pur ?_
      refine Round.mk (i + 1) (by omega) ⟨by omega, htake.2 hxy⟩ ⟨rfl, rfl, rfl, rfl, rfl, ?_, trivial⟩ (fun k s => s.tail.tail)
      show some (AV.v (.int .i64 (IntKind.i64.wrap ((i : Int) + 1)))) = _
      rw [wrap_id (by omega) (by omega)]; rfl
  · have hix : xs.length ≤ i := by simpa using h
    refine pur ?_
    refine Wp.ret (Ret 0 rfl ⟨?_, rfl⟩)
    rw [List.take_of_length_le hix, List.take_of_length_le (by omega)] at ht
    simp [ht]
structure SmallB (B : Bd) : Prop where
  t : Small B.t
  ref : B.ref.length < 1073741824
  names : B.names.length < 1073741824
  cons : B.cons.length < 1073741824
  datas : B.datas.length < 1073741824
  groups : B.groups.length < 1073741824
  vars : ∀ g ∈ B.groups, g.2.length < 1073741824
/-- Is it what Resolve answers of its tree? -/
def checkB (B : Bd) : Int :=
  if (resolveF B.t).2 = 0 ∧ B.ref = (resolveF B.t).1.ref ∧ B.names = (resolveF B.t).1.names ∧ B.cons = (resolveF B.t).1.cons ∧ B.datas = (resolveF B.t).1.datas ∧ B.groups = (resolveF B.t).1.groups then 0 else 7
set_option maxHeartbeats 4000000 in
theorem rcheckB_ct (B : Bd) (A : BA) (L : List Assn) (hB : BdR L B A) (hs : SmallB B) :
    Ct Try.prog 10 #[bdV B A] L (ret fun v L' => v = .int .i64 (checkB B) ∧ L' = L) := by
  generalize hR : checkB B = R
  unfold checkB at hR
  refine Ct.body Try.func10 rfl Try.ntmps10 Try.results10 rfl ?_
  refine pur ?_
  refine WpO.box (vs := bdCs B A) rfl rfl rfl (fun _ => Keeps.none) fun b1 => ?_
  refine pur ?_
  refine S.loadN (vs := [.slice A.ta.1 B.t.length A.ta.2]) rfl rfl (Ent.pt 0 1 rfl rfl) rfl ?_
  refine WpO.call Try.call6 rfl rfl (resolve_ct B.t A.ta.1 A.ta.2 _ hB.tree.cons hs.t) fun v L' ⟨A2, e1, e2⟩ => ⟨Keeps.none, ?_⟩
  subst e1; subst e2
  generalize hW : resolveF B.t = W at hR ⊢
  obtain ⟨W, e⟩ := W
  simp only [] at hR ⊢
  refine pur ?_
  refine WpO.alloc rfl rfl (fun _ => Keeps.none) fun b3 => ?_
  refine pur ?_
  refine WpO.openBd (B := W) (A := A2) 1 rfl fun ks gks hk hg => ?_
  refine WpO.know (fun k hs => bd_know (L := ptA b3 32 (bdCs W A2) :: ptA b1 32 (bdCs B A) :: L) hk hg hs) fun hWR => ?_
  refine WpO.parts (L' := ptA b3 32 (bdCs W A2) :: ptA b1 32 (bdCs B A) :: bdM W A2 ks gks L) (fun k s => Sat.sel (T := L) 10 (M := [_, _, _, _, _, _, _, _, _, _]) (M' := [_, _, _, _, _, _, _, _, _, _]) [8, 9, 0, 1, 2, 3, 4, 5, 6, 7] rfl s) ?_
  have hle : LeL (ptA b3 32 (bdCs W A2) :: ptA b1 32 (bdCs B A) :: bdM W A2 ks gks L) (bdM W A2 ks gks (ptA b3 32 (bdCs W A2) :: ptA b1 32 (bdCs B A) :: L)) := fun k s => Sat.sel (T := L) 10 (M := [_, _, _, _, _, _, _, _, _, _]) (M' := [_, _, _, _, _, _, _, _, _, _]) [2, 3, 4, 5, 6, 7, 8, 9, 0, 1] rfl s
  have hW2 := hWR.wk hle
  have hB2 : BdR (ptA b3 32 (bdCs W A2) :: ptA b1 32 (bdCs B A) :: bdM W A2 ks gks L) B A := hB.wk fun k s => Sat.drop [_, _, _, _, _, _, _, _, _, _] s
  obtain ⟨gw, gw1, gw2, gw3⟩ := hW2.groups
  obtain ⟨gb, gb1, gb2, gb3⟩ := hB2.groups
  refine WpO.callqg (v := .bool (decide (B.ref = W.ref))) Try.call28 rfl rfl (.cons rfl (by infer_instance) (.cons rfl (by infer_instance) .nil)) (fun _ => equal_ct B.ref W.ref _ _ _ _ _ hB2.ref hW2.ref hs.ref) Keeps.none ?_
  refine pur ?_
  refine WpO.callqg (v := .bool (decide (B.names = W.names))) Try.call29 rfl rfl (.cons rfl (by infer_instance) (.cons rfl (by infer_instance) .nil)) (fun _ => equalS_ct B.names W.names _ _ rfl rfl _ _ _ _ _ hB2.names hW2.names hs.names) Keeps.none ?_
  refine pur ?_
  refine WpO.callqg (v := .bool (decide (B.cons = W.cons))) Try.call30 rfl rfl (.cons rfl (by infer_instance) (.cons rfl (by infer_instance) .nil)) (fun _ => equalC_ct B.cons W.cons _ _ rfl rfl _ _ _ _ _ hB2.cons hW2.cons hs.cons) Keeps.none ?_
  refine pur ?_
  refine WpO.callqg (v := .bool (decide (B.datas = W.datas))) Try.call31 rfl rfl (.cons rfl (by infer_instance) (.cons rfl (by infer_instance) .nil)) (fun _ => equalD_ct B.datas W.datas _ _ rfl rfl _ _ _ _ _ hB2.datas hW2.datas hs.datas) Keeps.none ?_
  refine pur ?_
  refine WpO.callqg (v := .bool (decide (B.groups = W.groups))) Try.call32 rfl rfl (.cons rfl (by infer_instance) (.cons rfl (by infer_instance) (.cons rfl (by infer_instance) .nil))) (fun _ => equalG_ct B.groups W.groups _ _ rfl rfl _ _ _ _ _ gb gw gb1 gw1 gb2 gw2 gb3 gw3 hs.groups hs.vars) Keeps.none ?_
  refine pur ?_
  refine Wp.branch rfl (fun h => ?_) (fun h => ?_)
  · refine pur ?_
    refine Wp.ret (Ret 10 rfl ⟨?_, rfl⟩)
    rw [← hR, if_neg]
    rintro ⟨r1, r2, r3, r4, r5, r6⟩
    simp [r1, r2, r3, r4, r5, r6] at h
  · refine pur ?_
    refine Wp.ret (Ret 10 rfl ⟨?_, rfl⟩)
    rw [← hR, if_pos]
    have := h
    simp only [Bool.or_eq_false_iff, Bool.not_eq_false', decide_eq_true_eq, Bool.not_eq_true', Bool.and_eq_false_iff, decide_eq_false_iff_not] at this
    obtain ⟨⟨⟨⟨⟨r1, r2⟩, r3⟩, r4⟩, r5⟩, r6⟩ := this
    exact ⟨r1, r2, r3, r4, r5, r6⟩
end Go.Proofs.Ytibkdjjdfcpdaaa
end

section
/- A sound tree: each node but the last is a part of just one node; which kinds of parts a node has. -/
namespace Go.Proofs.Ytibkdjjdfcpdaaa
open Go Go.Ab
/-- What lies below a node, itself too. -/
inductive Desc (t : List Nd) : Nat → Nat → Prop
  | refl (i : Nat) : Desc t i i
  | step {i k j : Nat} : k ∈ kidsN t i → Desc t k j → Desc t i j
theorem Desc.trans {t : List Nd} {i j k : Nat} (h : Desc t i j) (g : Desc t j k) : Desc t i k := by
  induction h with
  | refl _ => exact g
  | step h1 _ ih => exact .step h1 (ih g)
theorem runs_step {good : List Int → Nd → Bool} {t : List Nd} {i : Nat} {free out : List Nat} (hi : i < t.length) (h : runs good t (t.drop i) i free = some out) :
    (kidsN t i).length ≤ free.length ∧ kidsN t i = free.drop (free.length - (kidsN t i).length) ∧ runs good t (t.drop (i + 1)) (i + 1) (free.take (free.length - (kidsN t i).length) ++ [i]) = some out := by
  rw [drop_get (nd_get hi), runs] at h
  split at h
  · rename_i hc
    simp only [Bool.and_eq_true, decide_eq_true_eq] at hc
    obtain ⟨⟨⟨c1, c2⟩, _⟩, _⟩ := hc
    have hk : kidsN t i = free.drop (free.length - (ndAt t i).kids.length) := by
      have e := congrArg (List.map Int.toNat) c2
      rw [natI_toNat] at e; exact e
    have hl : (kidsN t i).length = (ndAt t i).kids.length := by unfold kidsN; rw [List.length_map]
    rw [hl]
    exact ⟨c1, hk, h⟩
  · cases h
theorem runs_cover {good : List Int → Nd → Bool} {t : List Nd} : ∀ (m i : Nat) (free out : List Nat), t.length - i = m → runs good t (t.drop i) i free = some out → ∀ j, (j ∈ free ∨ (i ≤ j ∧ j < t.length)) → j ∈ out ∨ ∃ p, i ≤ p ∧ p < t.length ∧ j ∈ kidsN t p
  | 0, i, free, out, hm, h, j, hj => by
    rw [List.drop_of_length_le (by omega), runs] at h
    simp only [Option.some.injEq] at h
    subst h
    rcases hj with q | q
    · exact .inl q
    · omega
  | m + 1, i, free, out, hm, h, j, hj => by
    have hi : i < t.length := by omega
    obtain ⟨h1, h2, h3⟩ := runs_step hi h
    have ih := runs_cover m (i + 1) _ out (by omega) h3 j
    have lift : (j ∈ out ∨ ∃ p, i + 1 ≤ p ∧ p < t.length ∧ j ∈ kidsN t p) → j ∈ out ∨ ∃ p, i ≤ p ∧ p < t.length ∧ j ∈ kidsN t p := fun q => by
      rcases q with q | ⟨p, q1, q2, q3⟩
      · exact .inl q
      · exact .inr ⟨p, by omega, q2, q3⟩
    rcases hj with q | ⟨q1, q2⟩
    · rw [← List.take_append_drop (free.length - (kidsN t i).length) free] at q
      rcases List.mem_append.1 q with q | q
      · exact lift (ih (.inl (by simp [q])))
      · rw [← h2] at q
        exact .inr ⟨i, Nat.le_refl _, hi, q⟩
    · by_cases e : j = i
      · exact lift (ih (.inl (by simp [e])))
      · exact lift (ih (.inr ⟨by omega, q2⟩))
theorem runs_from {good : List Int → Nd → Bool} {t : List Nd} : ∀ (m i : Nat) (free out : List Nat), t.length - i = m → runs good t (t.drop i) i free = some out → ∀ p j, i ≤ p → p < t.length → j ∈ kidsN t p → j ∈ free ∨ i ≤ j
  | 0, i, free, out, hm, h, p, j, h1, h2, _ => by omega
  | m + 1, i, free, out, hm, h, p, j, hp1, hp2, hj => by
    have hi : i < t.length := by omega
    obtain ⟨h1, h2, h3⟩ := runs_step hi h
    by_cases e : p = i
    · subst e
      rw [h2] at hj
      exact .inl (List.mem_of_mem_drop hj)
    · rcases runs_from m (i + 1) _ out (by omega) h3 p j (by omega) hp2 hj with q | q
      · rcases List.mem_append.1 q with q | q
        · exact .inl (List.mem_of_mem_take q)
        · obtain rfl := List.mem_singleton.1 q; exact .inr (Nat.le_refl _)
      · exact .inr (by omega)
theorem runs_uniq {good : List Int → Nd → Bool} {t : List Nd} : ∀ (m i : Nat) (free out : List Nat), t.length - i = m → free.Nodup → (∀ j ∈ free, j < i) → runs good t (t.drop i) i free = some out →
    (∀ p q j, i ≤ p → p < t.length → i ≤ q → q < t.length → j ∈ kidsN t p → j ∈ kidsN t q → p = q) ∧ ∀ p, i ≤ p → p < t.length → (kidsN t p).Nodup
  | 0, i, free, out, hm, _, _, h => ⟨fun p q j h1 h2 => by omega, fun p h1 h2 => by omega⟩
  | m + 1, i, free, out, hm, hnd, hlt, h => by
    have hi : i < t.length := by omega
    obtain ⟨h1, h2, h3⟩ := runs_step hi h
    have hcat := List.take_append_drop (free.length - (kidsN t i).length) free
    have hnd2 := hnd
    rw [← hcat] at hnd2
    obtain ⟨n1, n2, n3⟩ := List.nodup_append.1 hnd2
    obtain ⟨i1, i2⟩ := runs_uniq m (i + 1) _ out (by omega) (List.nodup_append.2 ⟨n1, by simp, fun a ha b hb e => by
        obtain rfl := List.mem_singleton.1 hb
        subst e
        exact absurd (hlt a (List.mem_of_mem_take ha)) (by omega)⟩) (fun j hj => by
        rcases List.mem_append.1 hj with q | q
        · have := hlt j (List.mem_of_mem_take q); omega
        · obtain rfl := List.mem_singleton.1 q; omega) h3
    have hno : ∀ q j, i < q → q < t.length → j ∈ kidsN t i → j ∈ kidsN t q → False := fun q j hq1 hq2 hj hjq => by
      rw [h2] at hj
      have hji := hlt j (List.mem_of_mem_drop hj)
      rcases runs_from m (i + 1) _ out (by omega) h3 q j (by omega) hq2 hjq with w | w
      · rcases List.mem_append.1 w with w | w
        · exact n3 j w j hj rfl
        · obtain rfl := List.mem_singleton.1 w; omega
      · omega
    refine ⟨fun p q j p1 p2 q1 q2 hp hq => ?_, fun p p1 p2 => ?_⟩
    · by_cases ep : p = i
      · by_cases eq : q = i
        · omega
        · subst ep; exact (hno q j (by omega) q2 hp hq).elim
      · by_cases eq : q = i
        · subst eq; exact (hno p j (by omega) p2 hq hp).elim
        · exact i1 p q j (by omega) p2 (by omega) q2 hp hq
    · by_cases ep : p = i
      · subst ep; rw [h2]; exact n2
      · exact i2 p (by omega) p2
/-- The tree is one tree. -/
structure TreeOne (t : List Nd) : Prop where
  parent : ∀ j, j + 1 < t.length → ∃ p, p < t.length ∧ j ∈ kidsN t p
  uniq : ∀ p q j, p < t.length → q < t.length → j ∈ kidsN t p → j ∈ kidsN t q → p = q
  nodup : ∀ p, p < t.length → (kidsN t p).Nodup
theorem treeOne_of {t : List Nd} (h : checkF goodF t = 0) : TreeOne t := by
  have hok := treeOk_of h
  unfold checkF at h
  split at h
  · rename_i h1
    obtain ⟨h1, h2, h3⟩ := h1
    cases hr : runs goodF t t 0 [] with
    | none => rw [hr] at h; cases h
    | some out =>
      rw [hr] at h
      simp only [] at h
      split at h
      · rename_i ho
        have hr0 : runs goodF t (t.drop 0) 0 [] = some out := hr
        obtain ⟨u1, u2⟩ := runs_uniq t.length 0 [] out rfl List.nodup_nil nofun hr0
        have hcv := runs_cover t.length 0 [] out rfl hr0
        refine ⟨fun j hj => ?_, fun p q j a b => u1 p q j (Nat.zero_le _) a (Nat.zero_le _) b, fun p a => u2 p (Nat.zero_le _) a⟩
        have hlast : t.length - 1 ∈ out := by
          rcases hcv (t.length - 1) (.inr ⟨Nat.zero_le _, by omega⟩) with q | ⟨p, _, p2, p3⟩
          · exact q
          · have := (hok.node p p2).2.1 _ p3; omega
        rcases hcv j (.inr ⟨Nat.zero_le _, by omega⟩) with q | ⟨p, _, p2, p3⟩
        · have hl := ho.1
          match out, hl with
          | [x], _ =>
            have e1 : t.length - 1 = x := by simpa using hlast
            have e2 : j = x := by simpa using q
            omega
        · exact ⟨p, p2, p3⟩
      · cases h
  · cases h
/-- All lies below the last node. -/
theorem TreeOne.desc {t : List Nd} (h1 : TreeOne t) (hok : TreeOk t) : ∀ (m j : Nat), t.length - 1 - j = m → j < t.length → Desc t (t.length - 1) j := by
  intro m
  induction m using Nat.strongRecOn with
  | _ m ih =>
    intro j hm hj
    by_cases e : j + 1 < t.length
    · obtain ⟨p, hp, hjp⟩ := h1.parent j e
      have := (hok.node p hp).2.1 j hjp
      exact (ih (t.length - 1 - p) (by omega) p rfl hp).trans (.step hjp (.refl _))
    · rw [show j = t.length - 1 by omega]; exact .refl _
end Go.Proofs.Ytibkdjjdfcpdaaa
end

section
/- Which kinds of parts a node of a sound tree has. -/
namespace Go.Proofs.Ytibkdjjdfcpdaaa
open Go Go.Ab
theorem letter_cases (op : Int) : ((1 ≤ op ∧ op ≤ 13) ∧ letterF op = 101) ∨ ((25 ≤ op ∧ op ≤ 32) ∧ letterF op = 112) ∨ (op = 23 ∧ letterF op = 118) ∨ (op = 24 ∧ letterF op = 116) ∨ (op = 14 ∧ letterF op = 97) ∨ (op = 15 ∧ letterF op = 114) ∨ (op = 16 ∧ letterF op = 103) ∨ (op = 17 ∧ letterF op = 108) ∨ (op = 18 ∧ letterF op = 100) ∨ (op = 19 ∧ letterF op = 99) ∨ (op = 21 ∧ letterF op = 113) ∨ (op = 22 ∧ letterF op = 107) ∨ letterF op = 63 := by
  by_cases h1 : 1 ≤ op ∧ op ≤ 13
  · exact .inl ⟨h1, by unfold letterF; rw [if_pos h1]⟩
  refine .inr ?_
  by_cases h2 : 25 ≤ op ∧ op ≤ 32
  · exact .inl ⟨h2, by unfold letterF; rw [if_neg h1, if_pos h2]⟩
  refine .inr ?_
  by_cases g0 : op = 23
  · exact .inl ⟨g0, by subst g0; decide⟩
  refine .inr ?_
  by_cases g1 : op = 24
  · exact .inl ⟨g1, by subst g1; decide⟩
  refine .inr ?_
  by_cases g2 : op = 14
  · exact .inl ⟨g2, by subst g2; decide⟩
  refine .inr ?_
  by_cases g3 : op = 15
  · exact .inl ⟨g3, by subst g3; decide⟩
  refine .inr ?_
  by_cases g4 : op = 16
  · exact .inl ⟨g4, by subst g4; decide⟩
  refine .inr ?_
  by_cases g5 : op = 17
  · exact .inl ⟨g5, by subst g5; decide⟩
  refine .inr ?_
  by_cases g6 : op = 18
  · exact .inl ⟨g6, by subst g6; decide⟩
  refine .inr ?_
  by_cases g7 : op = 19
  · exact .inl ⟨g7, by subst g7; decide⟩
  refine .inr ?_
  by_cases g8 : op = 21
  · exact .inl ⟨g8, by subst g8; decide⟩
  refine .inr ?_
  by_cases g9 : op = 22
  · exact .inl ⟨g9, by subst g9; decide⟩
  refine .inr ?_
  unfold letterF
  rw [if_neg h1, if_neg h2, if_neg g0, if_neg g1, if_neg g2, if_neg g3, if_neg g4, if_neg g5, if_neg g6, if_neg g7, if_neg g8, if_neg g9]
theorem letter_e {op : Int} : letterF op = 101 ↔ 1 ≤ op ∧ op ≤ 13 := by
  constructor
  · intro h
    rcases letter_cases op with q | q | q | q | q | q | q | q | q | q | q | q | q
    · exact q.1
    all_goals first | (have := q.2; rw [h] at this; exact absurd this (by decide)) | (rw [h] at q; exact absurd q (by decide))
  · intro h; unfold letterF; rw [if_pos h]
theorem letter_p {op : Int} : letterF op = 112 ↔ 25 ≤ op ∧ op ≤ 32 := by
  constructor
  · intro h
    rcases letter_cases op with q | q | q | q | q | q | q | q | q | q | q | q | q
    all_goals first | exact q.1 | (have := q.2; rw [h] at this; exact absurd this (by decide)) | (rw [h] at q; exact absurd q (by decide))
  · intro h; unfold letterF; rw [if_neg (by omega), if_pos h]
theorem letter_a {op : Int} (h : letterF op = 97) : op = 14 := by
  rcases letter_cases op with q | q | q | q | q | q | q | q | q | q | q | q | q
  all_goals first | exact q.1 | (have := q.2; rw [h] at this; exact absurd this (by decide)) | (rw [h] at q; exact absurd q (by decide))
theorem letter_r {op : Int} (h : letterF op = 114) : op = 15 := by
  rcases letter_cases op with q | q | q | q | q | q | q | q | q | q | q | q | q
  all_goals first | exact q.1 | (have := q.2; rw [h] at this; exact absurd this (by decide)) | (rw [h] at q; exact absurd q (by decide))
theorem letter_g {op : Int} (h : letterF op = 103) : op = 16 := by
  rcases letter_cases op with q | q | q | q | q | q | q | q | q | q | q | q | q
  all_goals first | exact q.1 | (have := q.2; rw [h] at this; exact absurd this (by decide)) | (rw [h] at q; exact absurd q (by decide))
theorem letter_l {op : Int} (h : letterF op = 108) : op = 17 := by
  rcases letter_cases op with q | q | q | q | q | q | q | q | q | q | q | q | q
  all_goals first | exact q.1 | (have := q.2; rw [h] at this; exact absurd this (by decide)) | (rw [h] at q; exact absurd q (by decide))
theorem letter_d {op : Int} (h : letterF op = 100) : op = 18 := by
  rcases letter_cases op with q | q | q | q | q | q | q | q | q | q | q | q | q
  all_goals first | exact q.1 | (have := q.2; rw [h] at this; exact absurd this (by decide)) | (rw [h] at q; exact absurd q (by decide))
theorem letter_c {op : Int} (h : letterF op = 99) : op = 19 := by
  rcases letter_cases op with q | q | q | q | q | q | q | q | q | q | q | q | q
  all_goals first | exact q.1 | (have := q.2; rw [h] at this; exact absurd this (by decide)) | (rw [h] at q; exact absurd q (by decide))
theorem letter_q {op : Int} (h : letterF op = 113) : op = 21 := by
  rcases letter_cases op with q | q | q | q | q | q | q | q | q | q | q | q | q
  all_goals first | exact q.1 | (have := q.2; rw [h] at this; exact absurd this (by decide)) | (rw [h] at q; exact absurd q (by decide))
theorem letter_k {op : Int} (h : letterF op = 107) : op = 22 := by
  rcases letter_cases op with q | q | q | q | q | q | q | q | q | q | q | q | q
  all_goals first | exact q.1 | (have := q.2; rw [h] at this; exact absurd this (by decide)) | (rw [h] at q; exact absurd q (by decide))
theorem letter_v {op : Int} (h : letterF op = 118) : op = 23 := by
  rcases letter_cases op with q | q | q | q | q | q | q | q | q | q | q | q | q
  all_goals first | exact q.1 | (have := q.2; rw [h] at this; exact absurd this (by decide)) | (rw [h] at q; exact absurd q (by decide))
theorem letter_t {op : Int} (h : letterF op = 116) : op = 24 := by
  rcases letter_cases op with q | q | q | q | q | q | q | q | q | q | q | q | q
  all_goals first | exact q.1 | (have := q.2; rw [h] at this; exact absurd this (by decide)) | (rw [h] at q; exact absurd q (by decide))
/-! ### Runs of letters -/
theorem dropWhile_nil {α : Type} {p : α → Bool} : ∀ {l : List α}, l.dropWhile p = [] → ∀ x ∈ l, p x = true
  | [], _, x, h => by cases h
  | a :: l, h, x, hx => by
    rw [List.dropWhile_cons] at h
    split at h
    · rename_i ha
      rcases List.mem_cons.1 hx with rfl | q
      · exact ha
      · exact dropWhile_nil h x q
    · cases h
theorem wholeF_mem {set l : List UInt8} {lo hi : Int} (h : wholeF set l lo hi = true) : ∀ c ∈ l, c ∈ set := by
  unfold wholeF runR at h
  rw [Bool.and_eq_true] at h
  have h2 := of_decide_eq_true h.2
  exact fun c hc => of_decide_eq_true (dropWhile_nil h2 c hc)
theorem runR_split (set l : List UInt8) : ∃ a, l = a ++ runR set l ∧ (∀ c ∈ a, c ∈ set) ∧ (a.length : Int) = (l.length : Int) - ((runR set l).length : Int) := by
  refine ⟨l.takeWhile (fun c => decide (c ∈ set)), (List.takeWhile_append_dropWhile).symm, fun c hc => ?_, ?_⟩
  · have := List.all_takeWhile (p := fun c => decide (c ∈ set)) (l := l)
    rw [List.all_eq_true] at this
    exact of_decide_eq_true (this c hc)
  · have := congrArg List.length (List.takeWhile_append_dropWhile (p := fun c => decide (c ∈ set)) (l := l))
    rw [List.length_append] at this
    unfold runR; omega
/-- The letters of a node's parts. -/
def lets (t : List Nd) (i : Nat) : List UInt8 := (kidsN t i).map fun k => letterF (opN t k)
theorem TreeOk.sh {t : List Nd} (h : TreeOk t) {i : Nat} (hi : i < t.length) : shapedF (opN t i) (lets t i) = true := by
  obtain ⟨_, h2, _, h4, _⟩ := h.node i hi
  unfold goodF at h4
  rw [Bool.and_eq_true, Bool.and_eq_true] at h4
  have h5 := h4.1.1
  have e : ((kidsN t i).map (opAt t)).map letterF = lets t i := by
    unfold lets
    rw [List.map_map]
    exact List.map_congr_left fun k hk => by
      show letterF (opAt t k) = _
      rw [opAt_opN (by have := h2 k hk; omega)]
  rw [e] at h5
  exact h5
theorem lets_mem {t : List Nd} {i k : Nat} (h : k ∈ kidsN t i) : letterF (opN t k) ∈ lets t i := List.mem_map.2 ⟨k, h, rfl⟩
theorem lets_take {t : List Nd} {i k m : Nat} (h : k ∈ (kidsN t i).take m) : letterF (opN t k) ∈ (lets t i).take m := by
  unfold lets; rw [← List.map_take]; exact List.mem_map.2 ⟨k, h, rfl⟩
theorem lets_drop {t : List Nd} {i k m : Nat} (h : k ∈ (kidsN t i).drop m) : letterF (opN t k) ∈ (lets t i).drop m := by
  unfold lets; rw [← List.map_drop]; exact List.mem_map.2 ⟨k, h, rfl⟩
theorem lets_len (t : List Nd) (i : Nat) : (lets t i).length = (kidsN t i).length := by unfold lets; rw [List.length_map]
def isN (op : Int) : Prop := 1 ≤ op ∧ op ≤ 17
def isP (op : Int) : Prop := 25 ≤ op ∧ op ≤ 32
def isT (op : Int) : Prop := op = 23 ∨ op = 24
theorem isN_of {op : Int} {c : UInt8} (h : letterF op = c) (hc : c = 101 ∨ c = 97 ∨ c = 114 ∨ c = 103 ∨ c = 108) : isN op := by
  unfold isN
  rcases hc with q | q | q | q | q <;> rw [q] at h
  · have := letter_e.1 h; omega
  · have := letter_a h; omega
  · have := letter_r h; omega
  · have := letter_g h; omega
  · have := letter_l h; omega
/-- a run of p, then one of x. -/
theorem prefix_last {t : List Nd} {i : Nat} {x : UInt8} {lo hi : Int} (h1 : runOk [112] (lets t i) lo hi = true) (h2 : runR [112] (lets t i) = [x]) :
    (∀ k ∈ (kidsN t i).take (lastK t i), isP (opN t k)) ∧ (∀ k ∈ (kidsN t i).drop (lastK t i), letterF (opN t k) = x) ∧ 0 < (kidsN t i).length := by
  obtain ⟨a, e1, e2, e3⟩ := runR_split [112] (lets t i)
  rw [h2] at e1 e3
  have hl := lets_len t i
  have hal : a.length = lastK t i := by
    have := congrArg List.length e1
    rw [List.length_append, hl] at this
    simp only [List.length_cons, List.length_nil] at this
    unfold lastK; omega
  have hpos : 0 < (kidsN t i).length := by
    have := congrArg List.length e1
    rw [List.length_append, hl] at this
    simp only [List.length_cons, List.length_nil] at this
    omega
  refine ⟨fun k hk => ?_, fun k hk => ?_, hpos⟩
  · have := lets_take hk
    rw [e1, ← hal, List.take_left'  rfl] at this
    have := e2 _ this
    exact letter_p.1 (by simpa using this)
  · have := lets_drop hk
    rw [e1, ← hal, List.drop_left' rfl] at this
    simpa using this
section
variable {t : List Nd} (hok : TreeOk t) {i : Nat} (hi : i < t.length)
include hok hi
theorem kids_lam (h : opN t i = 7) : (∀ k ∈ (kidsN t i).take (lastK t i), isP (opN t k)) ∧ (∀ k ∈ (kidsN t i).drop (lastK t i), isN (opN t k)) := by
  have hs := hok.sh hi
  rw [h] at hs
  simp only [shapedF, show ¬ ((7 : Int) = 6) by decide, if_false, if_true, Bool.and_eq_true] at hs
  obtain ⟨h1, h2, _⟩ := prefix_last hs.1 (of_decide_eq_true hs.2)
  exact ⟨h1, fun k hk => isN_of (h2 k hk) (.inl rfl)⟩
theorem kids_alt (h : opN t i = 14) : (∀ k ∈ (kidsN t i).take (lastK t i), isP (opN t k)) ∧ (∀ k ∈ (kidsN t i).drop (lastK t i), isN (opN t k)) := by
  have hs := hok.sh hi
  rw [h] at hs
  have hs : lets t i = [112, 114] := by simpa [shapedF] using hs
  have hl := lets_len t i
  rw [hs] at hl
  have hk : lastK t i = 1 := by unfold lastK; rw [← hl]; rfl
  rw [hk]
  exact ⟨fun k q => by have := lets_take q; rw [hs] at this; exact letter_p.1 (by simpa using this), fun k q => by have := lets_drop q; rw [hs] at this; exact isN_of (by simpa using this) (.inr (.inr (.inl rfl)))⟩
theorem kids_clause (h : opN t i = 19) : (∀ k ∈ (kidsN t i).take (lastK t i), isP (opN t k)) ∧ isN (opN t (gOf (kidsN t i) (lastK t i))) ∧ 0 < (kidsN t i).length := by
  have hs := hok.sh hi
  rw [h] at hs
  have hs : runOk [112] (lets t i) 0 8 = true ∧ runR [112] (lets t i) = [114] := by simpa [shapedF] using hs
  obtain ⟨h1, h2, h3⟩ := prefix_last hs.1 hs.2
  have hm : gOf (kidsN t i) (lastK t i) ∈ (kidsN t i).drop (lastK t i) := by
    have := gOf_get (l := kidsN t i) (i := lastK t i) (by unfold lastK; omega)
    rw [drop_get this]; simp
  exact ⟨h1, isN_of (h2 _ hm) (.inr (.inr (.inl rfl))), h3⟩
theorem kids_let (h : opN t i = 8) : opN t (gOf (kidsN t i) 0) = 18 ∧ (∀ k ∈ (kidsN t i).drop 1, isN (opN t k)) ∧ 0 < (kidsN t i).length := by
  have hs := hok.sh hi
  rw [h] at hs
  have hs : lets t i = [100, 101] := by simpa [shapedF] using hs
  have hl := lets_len t i
  rw [hs] at hl
  simp only [List.length_cons, List.length_nil] at hl
  refine ⟨?_, fun k q => by have := lets_drop q; rw [hs] at this; exact isN_of (by simpa using this) (.inl rfl), by omega⟩
  have hg := gOf_get (l := kidsN t i) (i := 0) (by omega)
  have : (lets t i)[0]? = some (letterF (opN t (gOf (kidsN t i) 0))) := by unfold lets; rw [List.getElem?_map, hg]; rfl
  rw [hs] at this
  exact letter_d (by simpa using this.symm)
theorem kids_rhs (h : opN t i = 15) : opN t (gOf (kidsN t i) (lastK t i)) = 18 ∧ (∀ k ∈ (kidsN t i).take (lastK t i), isN (opN t k)) ∧ 0 < (kidsN t i).length := by
  have hs := hok.sh hi
  rw [h] at hs
  have hs : lets t i = [108, 100] ∨ (sufF [100] (lets t i) = true ∧ wholeF [103] ((lets t i).take ((lets t i).length - 1)) 1 6000 = true) := by simpa [shapedF] using hs
  have hl := lets_len t i
  rcases hs with hs | ⟨h1, h2⟩
  · rw [hs] at hl
    simp only [List.length_cons, List.length_nil] at hl
    have hk : lastK t i = 1 := by unfold lastK; omega
    rw [hk]
    refine ⟨?_, fun k q => by have := lets_take q; rw [hs] at this; exact isN_of (by simpa using this) (.inr (.inr (.inr (.inr rfl)))), by omega⟩
    have hg := gOf_get (l := kidsN t i) (i := 1) (by omega)
    have : (lets t i)[1]? = some (letterF (opN t (gOf (kidsN t i) 1))) := by unfold lets; rw [List.getElem?_map, hg]; rfl
    rw [hs] at this
    exact letter_d (by simpa using this.symm)
  · unfold sufF at h1
    simp only [Bool.and_eq_true, decide_eq_true_eq, List.length_cons, List.length_nil] at h1
    have hk : lastK t i = (lets t i).length - 1 := by unfold lastK; rw [hl]
    rw [hk]
    refine ⟨?_, fun k q => by have := wholeF_mem h2 _ (lets_take q); exact isN_of (by simpa using this) (.inr (.inr (.inr (.inl rfl)))), by omega⟩
    have hg := gOf_get (l := kidsN t i) (i := (lets t i).length - 1) (by omega)
    have hm : gOf (kidsN t i) ((lets t i).length - 1) ∈ (kidsN t i).drop ((lets t i).length - 1) := by rw [drop_get hg]; simp
    have := lets_drop hm
    rw [h1.2] at this
    exact letter_d (by simpa using this)
theorem kids_node (h : isN (opN t i)) (h7 : opN t i ≠ 7) (h8 : opN t i ≠ 8) (h14 : opN t i ≠ 14) (h15 : opN t i ≠ 15) : ∀ k ∈ kidsN t i, isN (opN t k) := by
  intro k hk
  have hs := hok.sh hi
  have hm := lets_mem hk
  obtain ⟨a, b⟩ := h
  have hcase : opN t i ∈ [(1 : Int), 2, 3, 4, 5, 6, 9, 10, 11, 12, 13, 16, 17] := by
    simp only [List.mem_cons, List.not_mem_nil, or_false]; omega
  have fin : ∀ set : List UInt8, (∀ c ∈ set, c = 101 ∨ c = 97 ∨ c = 114 ∨ c = 103 ∨ c = 108) → letterF (opN t k) ∈ set → isN (opN t k) := fun set hset hq => isN_of rfl (hset _ hq)
  simp only [List.mem_cons, List.not_mem_nil, or_false] at hcase
  rcases hcase with e | e | e | e | e | e | e | e | e | e | e | e | e <;> rw [e] at hs
  · have : lets t i = [] := by simpa [shapedF] using hs
    rw [this] at hm; cases hm
  · have : lets t i = [] := by simpa [shapedF] using hs
    rw [this] at hm; cases hm
  · have : lets t i = [] := by simpa [shapedF] using hs
    rw [this] at hm; cases hm
  · have : lets t i = [] := by simpa [shapedF] using hs
    rw [this] at hm; cases hm
  · have : lets t i = [] := by simpa [shapedF] using hs
    rw [this] at hm; cases hm
  · have : wholeF [101] (lets t i) 2 9 = true := by simpa [shapedF] using hs
    exact fin [101] (by simp) (wholeF_mem this _ hm)
  · have : lets t i = [101, 101, 101] := by simpa [shapedF] using hs
    rw [this] at hm; exact fin _ (by simp) hm
  · have : preF [101] (lets t i) = true ∧ wholeF [97] ((lets t i).drop 1) 1 6000 = true := by simpa [shapedF] using hs
    obtain ⟨h1, h2⟩ := this
    unfold preF at h1
    simp only [Bool.and_eq_true, decide_eq_true_eq, List.length_cons, List.length_nil] at h1
    rw [← List.take_append_drop 1 (lets t i)] at hm
    rcases List.mem_append.1 hm with q | q
    · rw [h1.2] at q; exact fin [101] (by simp) q
    · exact fin [97] (by simp) (wholeF_mem h2 _ q)
  · have : wholeF [101] (lets t i) 2 8 = true := by simpa [shapedF] using hs
    exact fin [101] (by simp) (wholeF_mem this _ hm)
  · have : wholeF [101] (lets t i) 0 6000 = true := by simpa [shapedF] using hs
    exact fin [101] (by simp) (wholeF_mem this _ hm)
  · have : lets t i = [101, 101] := by simpa [shapedF] using hs
    rw [this] at hm; exact fin _ (by simp) hm
  · have : lets t i = [101, 101] := by simpa [shapedF] using hs
    rw [this] at hm; exact fin _ (by simp) hm
  · have : lets t i = [101] := by simpa [shapedF] using hs
    rw [this] at hm; exact fin _ (by simp) hm
theorem kids_decls (h : opN t i = 18) : ∀ k ∈ kidsN t i, opN t k = 19 := by
  intro k hk
  have hs := hok.sh hi
  rw [h] at hs
  have : wholeF [99] (lets t i) 0 6000 = true := by simpa [shapedF] using hs
  exact letter_c (by simpa using wholeF_mem this _ (lets_mem hk))
theorem kids_prog (h : opN t i = 20) : ∀ k ∈ kidsN t i, opN t k = 19 ∨ opN t k = 21 := by
  intro k hk
  have hs := hok.sh hi
  rw [h] at hs
  have : wholeF [99, 113] (lets t i) 0 6000 = true := by simpa [shapedF] using hs
  have := wholeF_mem this _ (lets_mem hk)
  simp only [List.mem_cons, List.not_mem_nil, or_false] at this
  rcases this with q | q
  · exact .inl (letter_c q)
  · exact .inr (letter_q q)
theorem kids_pat (h : isP (opN t i)) : ∀ k ∈ kidsN t i, isP (opN t k) := by
  intro k hk
  have hs := hok.sh hi
  have hm := lets_mem hk
  obtain ⟨a, b⟩ := h
  have hcase : opN t i ∈ [(25 : Int), 26, 27, 28, 29, 30, 31, 32] := by
    simp only [List.mem_cons, List.not_mem_nil, or_false]; omega
  simp only [List.mem_cons, List.not_mem_nil, or_false] at hcase
  have fin : letterF (opN t k) ∈ [(112 : UInt8)] → isP (opN t k) := fun hq => letter_p.1 (by simpa using hq)
  rcases hcase with e | e | e | e | e | e | e | e <;> rw [e] at hs
  · have : lets t i = [] := by simpa [shapedF] using hs
    rw [this] at hm; cases hm
  · have : lets t i = [] := by simpa [shapedF] using hs
    rw [this] at hm; cases hm
  · have : lets t i = [] := by simpa [shapedF] using hs
    rw [this] at hm; cases hm
  · have : lets t i = [] := by simpa [shapedF] using hs
    rw [this] at hm; cases hm
  · have : lets t i = [] := by simpa [shapedF] using hs
    rw [this] at hm; cases hm
  · have : wholeF [112] (lets t i) 0 8 = true := by simpa [shapedF] using hs
    exact fin (wholeF_mem this _ hm)
  · have : wholeF [112] (lets t i) 2 8 = true := by simpa [shapedF] using hs
    exact fin (wholeF_mem this _ hm)
  · have : wholeF [112] (lets t i) 0 6000 = true := by simpa [shapedF] using hs
    exact fin (wholeF_mem this _ hm)
theorem kids_con (h : opN t i = 22 ∨ opN t i = 24) : ∀ k ∈ kidsN t i, isT (opN t k) := by
  intro k hk
  have hs := hok.sh hi
  have : wholeF [118, 116] (lets t i) 0 8 = true := by
    rcases h with h | h <;> (rw [h] at hs; simpa [shapedF] using hs)
  have := wholeF_mem this _ (lets_mem hk)
  simp only [List.mem_cons, List.not_mem_nil, or_false] at this
  rcases this with q | q
  · exact .inl (letter_v q)
  · exact .inr (letter_t q)
theorem kids_tv (h : opN t i = 23) : kidsN t i = [] := by
  have hs := hok.sh hi
  rw [h] at hs
  have : lets t i = [] := by simpa [shapedF] using hs
  have hl := lets_len t i
  rw [this] at hl
  exact List.eq_nil_of_length_eq_zero hl.symm
/-- A data declaration: parameters, then constructors. -/
theorem kids_data (h : opN t i = 21) : ∃ a b, kidsN t i = a ++ b ∧ a.length ≤ 8 ∧ (∀ k ∈ a, opN t k = 23) ∧ ∀ k ∈ b, opN t k = 22 := by
  have hs := hok.sh hi
  rw [h] at hs
  have hs : runOk [118] (lets t i) 0 8 = true ∧ wholeF [107] (runR [118] (lets t i)) 1 6000 = true := by simpa [shapedF] using hs
  obtain ⟨x, e1, e2, e3⟩ := runR_split [118] (lets t i)
  have hl := lets_len t i
  have hb := hs.1
  unfold runOk at hb
  simp only [Bool.and_eq_true, decide_eq_true_eq] at hb
  refine ⟨(kidsN t i).take x.length, (kidsN t i).drop x.length, (List.take_append_drop _ _).symm, by rw [List.length_take]; omega, fun k hk => ?_, fun k hk => ?_⟩
  · have := lets_take hk
    rw [e1, List.take_left' rfl] at this
    exact letter_v (by simpa using e2 _ this)
  · have := lets_drop hk
    rw [e1, List.drop_left' rfl] at this
    exact letter_k (by simpa using wholeF_mem hs.2 _ this)
end
end Go.Proofs.Ytibkdjjdfcpdaaa
end

section
/- What the numbers mean that Resolve gives: each that is written is right. -/
namespace Go.Proofs.Ytibkdjjdfcpdaaa
open Go Go.Ab
structure Env3 where
  t : List Nd
  names : List (List UInt8)
  cons : List CN
  datas : List DN
  base : List Int
/-- A number that is right for a node. -/
def GoodV (X : Env3) (v : Int) (j : Nat) : Prop :=
  if opN X.t j = 1 ∨ opN X.t j = 25 ∨ opN X.t j = 19 then ∃ k : Nat, v = k ∧ X.names[k]? = some (textN X.t j)
  else if opN X.t j = 2 ∨ opN X.t j = 30 ∨ opN X.t j = 22 then ∃ (k : Nat) (c : CN), v = k ∧ X.cons[k]? = some c ∧ c.1 = textN X.t j ∧ (opN X.t j = 30 → c.2.1 = ((kidsN X.t j).length : Int))
  else if opN X.t j = 21 ∨ opN X.t j = 24 then ∃ (k : Nat) (d : DN), v = k ∧ X.datas[k]? = some d ∧ d.1 = textN X.t j
  else if opN X.t j = 23 then 0 ≤ v ∧ v ≤ 7
  else v = -1
def Good (X : Env3) (ref : List Int) (j : Nat) : Prop := GoodV X (refAt ref j) j
def lateOp (op : Int) : Prop := op = 1 ∨ op = 2 ∨ op = 30 ∨ op = 23 ∨ op = 24
def tyOp (op : Int) : Prop := op = 23 ∨ op = 24
/-- What number has done. -/
structure NumOk (X : Env3) (ref : List Int) : Prop where
  len : ref.length = X.t.length
  good : ∀ j, j < X.t.length → ¬ lateOp (opN X.t j) → Good X ref j
  base : ∀ j, j < X.t.length → ¬ lateOp (opN X.t j) → refAt ref j = refAt X.base j
def GoodE (X : Env3) (ref : List Int) (j : Nat) : Prop := ¬ tyOp (opN X.t j) → Good X ref j
theorem refAt_set (ref : List Int) (i : Nat) (v : Int) (j : Nat) (hi : i < ref.length) : refAt (ref.set i v) j = if i = j then v else refAt ref j := by
  unfold refAt
  rw [List.getElem?_set]
  by_cases e : i = j
  · subst e; simp [hi]
  · simp [e]
theorem good_set {X : Env3} {ref : List Int} {i : Nat} {v : Int} (hi : i < ref.length) (hv : GoodV X v i) (j : Nat) (h : Good X ref j) : Good X (ref.set i v) j := by
  unfold Good; rw [refAt_set ref i v j hi]
  split
  · rename_i e; subst e; exact hv
  · exact h
theorem good_at {X : Env3} {ref : List Int} {i : Nat} {v : Int} (hi : i < ref.length) (hv : GoodV X v i) : Good X (ref.set i v) i := by
  unfold Good; rw [refAt_set ref i v i hi, if_pos rfl]; exact hv
theorem num_set {X : Env3} {ref : List Int} {i : Nat} {v : Int} (h : NumOk X ref) (hl : lateOp (opN X.t i)) (hi : i < X.t.length) : NumOk X (ref.set i v) := by
  have hne : ∀ j, ¬ lateOp (opN X.t j) → refAt (ref.set i v) j = refAt ref j := fun j hn => by
    rw [refAt_set ref i v j (by rw [h.len]; exact hi), if_neg (fun e => by subst e; exact hn hl)]
  refine ⟨by rw [List.length_set]; exact h.len, fun j hj hn => ?_, fun j hj hn => by rw [hne j hn]; exact h.base j hj hn⟩
  have := h.good j hj hn
  unfold Good at this ⊢
  rw [hne j hn]
  exact this
/-- The frames' binders have the names that they are bound to. -/
def FrsOk (X : Env3) (rs : List Frm) : Prop := ∀ g ∈ rs, ∀ e ∈ g, ∃ k : Nat, e.2 = k ∧ X.names[k]? = some e.1
theorem foldO_all {σ : Type} (I : σ → Prop) (G : σ → Nat → Prop) (T : Nat → Nat → Prop) (f : Nat → σ → Option σ) : ∀ (l : List Nat) (s s' : σ), (∀ k ∈ l, ∀ s s', I s → f k s = some s' → I s' ∧ (∀ j, G s j → G s' j) ∧ ∀ j, T k j → G s' j) → foldO f l s = some s' → I s → I s' ∧ (∀ j, G s j → G s' j) ∧ ∀ k ∈ l, ∀ j, T k j → G s' j
  | [], s, s', _, h, hi => by
    simp only [foldO, Option.some.injEq] at h
    subst h; exact ⟨hi, fun _ h => h, nofun⟩
  | k :: r, s, s', hf, h, hi => by
    unfold foldO at h
    cases hk : f k s with
    | none => rw [hk] at h; cases h
    | some s2 =>
      rw [hk] at h
      obtain ⟨a1, a2, a3⟩ := hf k (by simp) s s2 hi hk
      obtain ⟨b1, b2, b3⟩ := foldO_all I G T f r s2 s' (fun k hk => hf k (by simp [hk])) h a1
      refine ⟨b1, fun j q => b2 j (a2 j q), fun m hm j q => ?_⟩
      rcases List.mem_cons.1 hm with e | q2
      · subst e; exact b2 j (a3 j q)
      · exact b3 m q2 j q
theorem foldR_all {σ : Type} (I : σ → Prop) (G : σ → Nat → Prop) (T : List Nat → Nat → Prop) (f : List Nat → σ → Option σ) : ∀ (l : List (List Nat)) (s s' : σ), (∀ k ∈ l, ∀ s s', I s → f k s = some s' → I s' ∧ (∀ j, G s j → G s' j) ∧ ∀ j, T k j → G s' j) → foldR f l s = some s' → I s → I s' ∧ (∀ j, G s j → G s' j) ∧ ∀ k ∈ l, ∀ j, T k j → G s' j
  | [], s, s', _, h, hi => by
    simp only [foldR, Option.some.injEq] at h
    subst h; exact ⟨hi, fun _ h => h, nofun⟩
  | k :: r, s, s', hf, h, hi => by
    unfold foldR at h
    cases hk : f k s with
    | none => rw [hk] at h; cases h
    | some s2 =>
      rw [hk] at h
      obtain ⟨a1, a2, a3⟩ := hf k (by simp) s s2 hi hk
      obtain ⟨b1, b2, b3⟩ := foldR_all I G T f r s2 s' (fun k hk => hf k (by simp [hk])) h a1
      refine ⟨b1, fun j q => b2 j (a2 j q), fun m hm j q => ?_⟩
      rcases List.mem_cons.1 hm with e | q2
      · subst e; exact b2 j (a3 j q)
      · exact b3 m q2 j q
theorem desc_kids {t : List Nd} {i j : Nat} (h : Desc t i j) : j = i ∨ ∃ k ∈ kidsN t i, Desc t k j := by
  cases h with
  | refl => exact .inl rfl
  | step h1 h2 => exact .inr ⟨_, h1, h2⟩
theorem bindF_ok {X : Env3} {rs rs' : List Frm} {k : List UInt8} {v : Int} (h : bindF rs k v = some rs') (hr : FrsOk X rs) (hv : ∃ n : Nat, v = n ∧ X.names[n]? = some k) : FrsOk X rs' := by
  unfold bindF at h
  split at h
  · cases h
  · split at h
    · cases h
    · simp only [Option.some.injEq] at h
      subst h
      intro g hg e he
      rcases List.mem_cons.1 hg with q | q
      · subst q
        rcases List.mem_append.1 he with q2 | q2
        · exact hr _ (by simp) e q2
        · obtain rfl := List.mem_singleton.1 q2; exact hv
      · exact hr g (by simp [q]) e he
theorem sfind_con {l : List CN} {k : List UInt8} {i : Nat} (h : sfind (conNs l) k 0 = some i) : ∃ c, l[i]? = some c ∧ c.1 = k := by
  have h2 := (sfind_some h).2
  rw [Nat.sub_zero] at h2
  unfold conNs at h2
  rw [List.getElem?_map] at h2
  cases hq : l[i]? with
  | none => rw [hq] at h2; cases h2
  | some c => rw [hq] at h2; exact ⟨c, rfl, by simpa using h2⟩
theorem sfind_dat {l : List DN} {k : List UInt8} {i : Nat} (h : sfind (datNs l) k 0 = some i) : ∃ c, l[i]? = some c ∧ c.1 = k := by
  have h2 := (sfind_some h).2
  rw [Nat.sub_zero] at h2
  unfold datNs at h2
  rw [List.getElem?_map] at h2
  cases hq : l[i]? with
  | none => rw [hq] at h2; cases h2
  | some c => rw [hq] at h2; exact ⟨c, rfl, by simpa using h2⟩
theorem goodV_name {X : Env3} {v : Int} {j : Nat} (hop : opN X.t j = 1 ∨ opN X.t j = 25 ∨ opN X.t j = 19) : GoodV X v j ↔ ∃ k : Nat, v = k ∧ X.names[k]? = some (textN X.t j) := by
  unfold GoodV; rw [if_pos hop]
theorem goodV_con {X : Env3} {v : Int} {j : Nat} (hop : opN X.t j = 2 ∨ opN X.t j = 30 ∨ opN X.t j = 22) : GoodV X v j ↔ ∃ (k : Nat) (c : CN), v = k ∧ X.cons[k]? = some c ∧ c.1 = textN X.t j ∧ (opN X.t j = 30 → c.2.1 = ((kidsN X.t j).length : Int)) := by
  unfold GoodV; rw [if_neg (by omega), if_pos hop]
theorem goodV_dat {X : Env3} {v : Int} {j : Nat} (hop : opN X.t j = 21 ∨ opN X.t j = 24) : GoodV X v j ↔ ∃ (k : Nat) (d : DN), v = k ∧ X.datas[k]? = some d ∧ d.1 = textN X.t j := by
  unfold GoodV; rw [if_neg (by omega), if_neg (by omega), if_pos hop]
theorem goodV_tv {X : Env3} {v : Int} {j : Nat} (hop : opN X.t j = 23) : GoodV X v j ↔ 0 ≤ v ∧ v ≤ 7 := by
  unfold GoodV; rw [if_neg (by omega), if_neg (by omega), if_neg (by omega), if_pos hop]
section
variable {X : Env3} (hok : TreeOk X.t)
include hok
/-! ### Patterns -/
structure PInv (X : Env3) (s : Rst) : Prop where
  num : NumOk X s.1
  frs : FrsOk X s.2
theorem patHead_good {i : Nat} {s s' : Rst} (hi : i < X.t.length) (hp : isP (opN X.t i)) (hs : PInv X s) (h : patHead X.t X.cons i s = some s') : PInv X s' ∧ (∀ j, Good X s.1 j → Good X s'.1 j) ∧ Good X s'.1 i := by
  unfold patHead at h
  split at h
  · rename_i hop
    have hg := hs.num.good i hi (by unfold lateOp; omega)
    cases hq : bindF s.2 (textN X.t i) (refAt s.1 i) with
    | none => rw [hq] at h; cases h
    | some rs =>
      rw [hq] at h
      simp only [Option.some.injEq] at h
      subst h
      exact ⟨⟨hs.num, bindF_ok hq hs.frs ((goodV_name (.inr (.inl hop))).1 hg)⟩, fun _ q => q, hg⟩
  · split at h
    · rename_i hop
      cases hq : sfind (conNs X.cons) (textN X.t i) 0 with
      | none => rw [hq] at h; cases h
      | some k =>
        rw [hq] at h
        simp only [] at h
        split at h
        · rename_i har
          simp only [Option.some.injEq] at h
          subst h
          obtain ⟨c, hc1, hc2⟩ := sfind_con hq
          have hv : GoodV X (k : Int) i := (goodV_con (.inr (.inl hop))).2 ⟨k, c, rfl, hc1, hc2, fun _ => by
            unfold arityAt at har; rw [hc1] at har; exact har⟩
          have hil : i < s.1.length := by rw [hs.num.len]; exact hi
          exact ⟨⟨num_set hs.num (by unfold lateOp; omega) hi, hs.frs⟩, good_set hil hv, good_at hil hv⟩
        · cases h
    · rename_i h1 h2
      simp only [Option.some.injEq] at h
      subst h
      unfold isP at hp
      exact ⟨hs, fun _ q => q, hs.num.good i hi (by unfold lateOp; omega)⟩
theorem pat_good : ∀ (n i : Nat) (s s' : Rst), i < X.t.length → isP (opN X.t i) → PInv X s → patF X.t X.cons n i s = some s' → PInv X s' ∧ (∀ j, Good X s.1 j → Good X s'.1 j) ∧ ∀ j, Desc X.t i j → Good X s'.1 j := by
  intro n
  induction n with
  | zero => intro i s s' _ _ _ h; cases h
  | succ n ih =>
    intro i s s' hi hp hs h
    unfold patF at h
    cases hh : patHead X.t X.cons i s with
    | none => rw [hh] at h; cases h
    | some s2 =>
      rw [hh] at h
      obtain ⟨a1, a2, a3⟩ := patHead_good hok hi hp hs hh
      obtain ⟨b1, b2, b3⟩ := foldO_all (PInv X) (fun s j => Good X s.1 j) (Desc X.t) _ _ _ _ (fun k hk s s' hs hf => ih k s s' (hok.wf.kid hi hk) (kids_pat hok hi hp k hk) hs hf) h a1
      refine ⟨b1, fun j q => b2 j (a2 j q), fun j hj => ?_⟩
      rcases desc_kids hj with e | ⟨k, hk, q⟩
      · subst e; exact b2 j a3
      · exact b3 k hk j q
theorem open_good {n : Nat} {l : List Nat} {ref : List Int} {rs : List Frm} {s : Rst} (hl : ∀ k ∈ l, k < X.t.length ∧ isP (opN X.t k)) (hr : NumOk X ref) (hf : FrsOk X rs) (h : openF X.t X.cons n l ref rs = some s) :
    PInv X s ∧ (∀ j, Good X ref j → Good X s.1 j) ∧ ∀ k ∈ l, ∀ j, Desc X.t k j → Good X s.1 j := by
  refine foldO_all (PInv X) (fun s j => Good X s.1 j) (Desc X.t) _ _ _ _ (fun k hk s s' hs hf => pat_good hok n k s s' (hl k hk).1 (hl k hk).2 hs hf) h ⟨hr, fun g hg => ?_⟩
  rcases List.mem_cons.1 hg with q | q
  · subst q; exact nofun
  · exact hf g q
end
end Go.Proofs.Ytibkdjjdfcpdaaa
end

section
/- What the numbers mean: expressions and declarations. -/
namespace Go.Proofs.Ytibkdjjdfcpdaaa
open Go Go.Ab
theorem desc_lt {t : List Nd} (hok : TreeOk t) {i j : Nat} (h : Desc t i j) (hi : i < t.length) : j < t.length := by
  induction h with
  | refl => exact hi
  | step h1 _ ih => exact ih (hok.wf.kid hi h1)
def TT (t : List Nd) (k j : Nat) : Prop := Desc t k j ∧ ¬ tyOp (opN t j)
theorem tt_kids {t : List Nd} {i j : Nat} (h : TT t i j) : j = i ∨ ∃ k ∈ kidsN t i, TT t k j := by
  rcases desc_kids h.1 with e | ⟨k, hk, q⟩
  · exact .inl e
  · exact .inr ⟨k, hk, q, h.2⟩
theorem sget_mem : ∀ {g : Frm} {k : List UInt8} {v : Int}, sget g k = some v → (k, v) ∈ g
  | [], _, _, h => by cases h
  | e :: r, k, v, h => by
    unfold sget at h
    split at h
    · rename_i q
      simp only [Option.some.injEq] at h
      subst h; subst q; simp
    · exact List.mem_cons_of_mem _ (sget_mem h)
theorem findR_ok {X : Env3} : ∀ {rs : List Frm} {k : List UInt8} {v : Int × Nat}, FrsOk X rs → findR rs k = some v → ∃ n : Nat, v.1 = n ∧ X.names[n]? = some k
  | [], _, _, _, h => by cases h
  | g :: r, k, v, hf, h => by
    unfold findR at h
    cases hq : sget g k with
    | some w =>
      rw [hq] at h
      simp only [Option.some.injEq] at h
      subst h
      exact hf g (by simp) (k, w) (sget_mem hq)
    | none =>
      rw [hq] at h
      exact findR_ok (fun g hg => hf g (by simp [hg])) h
theorem modify_last {i : Nat} : ∀ (l : List (List Nat)), l ≠ [] → (l.modify (l.length - 1) (· ++ [i])).flatten = l.flatten ++ [i]
  | [], h => absurd rfl h
  | [x], _ => by simp
  | x :: y :: l, _ => by
    have ih := modify_last (i := i) (y :: l) (by simp)
    have e : (x :: y :: l).length - 1 = ((y :: l).length - 1) + 1 := by simp
    rw [e, List.modify_succ_cons, List.flatten_cons, ih]
    simp
theorem runs_flat {t : List Nd} : ∀ (l : List Nat) (x : List (List Nat) × Option Nat), (x.2 ≠ none → x.1 ≠ []) → (runsOf t l x).1.flatten = x.1.flatten ++ l.filter fun k => decide (opN t k = 19)
  | [], x, _ => by simp [runsOf]
  | i :: l, x, hx => by
    have key : (runStep t x i).1.flatten = x.1.flatten ++ ([i].filter fun k => decide (opN t k = 19)) ∧ ((runStep t x i).2 ≠ none → (runStep t x i).1 ≠ []) := by
      unfold runStep
      split
      · rename_i h; exact ⟨by simp [h], fun q => absurd rfl q⟩
      · rename_i h
        have h : opN t i = 19 := by simpa using h
        split
        · rename_i w hw
          have hne := hx (by rw [hw]; simp)
          split
          · refine ⟨by rw [modify_last _ hne]; simp [h], fun _ q => hne ?_⟩
            have := congrArg List.length q
            simpa using this
          · exact ⟨by simp [h], fun _ => by simp⟩
        · exact ⟨by simp [h], fun _ => by simp⟩
    show (runsOf t l (runStep t x i)).1.flatten = _
    rw [runs_flat l _ key.2, key.1, List.append_assoc, ← List.filter_append]; rfl
/-- The runs, one behind the other, are the clauses. -/
theorem functions_flat (t : List Nd) (n : Nat) : (functionsF t n).flatten = (kidsN t n).filter fun k => decide (opN t k = 19) := by
  have := runs_flat (t := t) (kidsN t n) ([], none) (fun h => absurd rfl h)
  unfold functionsF
  simpa using this
theorem functions_cover {t : List Nd} {n k : Nat} (hk : k ∈ kidsN t n) (hop : opN t k = 19) : ∃ l ∈ functionsF t n, k ∈ l := by
  have : k ∈ (functionsF t n).flatten := by rw [functions_flat]; simp [hk, hop]
  obtain ⟨l, h1, h2⟩ := List.mem_flatten.1 this
  exact ⟨l, h1, h2⟩
theorem desc_data {t : List Nd} (hok : TreeOk t) {i j : Nat} (h : Desc t i j) (hi : i < t.length) (hop : opN t i = 21 ∨ opN t i = 22 ∨ opN t i = 23 ∨ opN t i = 24) : opN t j = 21 ∨ opN t j = 22 ∨ opN t j = 23 ∨ opN t j = 24 := by
  induction h with
  | refl => exact hop
  | step h1 _ ih =>
    refine ih (hok.wf.kid hi h1) ?_
    rcases hop with q | q | q | q
    · obtain ⟨a, b, e1, _, e3, e4⟩ := kids_data hok hi q
      rw [e1] at h1
      rcases List.mem_append.1 h1 with w | w
      · exact .inr (.inr (.inl (e3 _ w)))
      · exact .inr (.inl (e4 _ w))
    · have := kids_con hok hi (.inl q) _ h1
      unfold isT at this; omega
    · rw [kids_tv hok hi q] at h1; cases h1
    · have := kids_con hok hi (.inr q) _ h1
      unfold isT at this; omega
def NodeG (X : Env3) (nd : NodeF) : Prop := ∀ i ref rs r, i < X.t.length → isN (opN X.t i) → NumOk X ref → FrsOk X rs → nd i ref rs = some r → NumOk X r ∧ (∀ j, Good X ref j → Good X r j) ∧ ∀ j, TT X.t i j → Good X r j
def DeclG (X : Env3) (dc : DeclF) : Prop := ∀ i ref rs s, i < X.t.length → (opN X.t i = 18 ∨ opN X.t i = 20) → NumOk X ref → FrsOk X rs → dc i ref rs = some s → PInv X s ∧ (∀ j, Good X ref j → Good X s.1 j) ∧ ∀ j, TT X.t i j → Good X s.1 j
section
variable {X : Env3} (hok : TreeOk X.t)
include hok
theorem head_good {n : Nat} {dc : DeclF} (hdc : DeclG X dc) {i : Nat} {ref : List Int} {rs : List Frm} {z : List Int × List Frm × List Nat} (hi : i < X.t.length) (hop : isN (opN X.t i)) (hr : NumOk X ref) (hf : FrsOk X rs) (h : nodeHead X.t X.cons n dc i ref rs = some z) :
    NumOk X z.1 ∧ FrsOk X z.2.1 ∧ (∀ j, Good X ref j → Good X z.1 j) ∧ (∀ k ∈ z.2.2, k < X.t.length ∧ isN (opN X.t k)) ∧ Good X z.1 i ∧ ∀ k ∈ kidsN X.t i, k ∈ z.2.2 ∨ ∀ j, TT X.t k j → Good X z.1 j := by
  have hil : i < ref.length := by rw [hr.len]; exact hi
  have hkl : ∀ k ∈ kidsN X.t i, k < X.t.length := fun k hk => hok.wf.kid hi hk
  unfold nodeHead at h
  split at h
  · rename_i h1
    cases hq : findR rs (textN X.t i) with
    | none => rw [hq] at h; cases h
    | some v =>
      rw [hq] at h
      simp only [Option.some.injEq] at h
      subst h
      obtain ⟨m, hm1, hm2⟩ := findR_ok hf hq
      have hv : GoodV X v.1 i := (goodV_name (.inl h1)).2 ⟨m, hm1, hm2⟩
      have hkn := kids_node hok hi hop (by omega) (by omega) (by omega) (by omega)
      exact ⟨num_set hr (.inl h1) hi, hf, good_set hil hv, fun k hk => ⟨hkl k hk, hkn k hk⟩, good_at hil hv, fun k hk => .inl hk⟩
  split at h
  · rename_i h1 h2
    cases hq : sfind (conNs X.cons) (textN X.t i) 0 with
    | none => rw [hq] at h; cases h
    | some k =>
      rw [hq] at h
      simp only [Option.some.injEq] at h
      subst h
      obtain ⟨c, hc1, hc2⟩ := sfind_con hq
      have hv : GoodV X (k : Int) i := (goodV_con (.inl h2)).2 ⟨k, c, rfl, hc1, hc2, fun q => by omega⟩
      have hkn := kids_node hok hi hop (by omega) (by omega) (by omega) (by omega)
      exact ⟨num_set hr (.inr (.inl h2)) hi, hf, good_set hil hv, fun k hk => ⟨hkl k hk, hkn k hk⟩, good_at hil hv, fun k hk => .inl hk⟩
  have hgi : ¬ lateOp (opN X.t i) := by
    rename_i h1 h2
    unfold lateOp isN at *; omega
  have hgi := hr.good i hi hgi
  split at h
  · rename_i h1 h2 h3
    cases hq : openF X.t X.cons n ((kidsN X.t i).take (lastK X.t i)) ref rs with
    | none => rw [hq] at h; cases h
    | some s =>
      rw [hq] at h
      simp only [Option.some.injEq] at h
      subst h
      have hkk : (∀ k ∈ (kidsN X.t i).take (lastK X.t i), isP (opN X.t k)) ∧ (∀ k ∈ (kidsN X.t i).drop (lastK X.t i), isN (opN X.t k)) := by
        rcases h3 with q | q
        · exact kids_lam hok hi q
        · exact kids_alt hok hi q
      obtain ⟨a1, a2, a3⟩ := open_good hok (fun k hk => ⟨hkl k (List.mem_of_mem_take hk), hkk.1 k hk⟩) hr hf hq
      refine ⟨a1.num, a1.frs, a2, fun k hk => ⟨hkl k (List.mem_of_mem_drop hk), hkk.2 k hk⟩, a2 i hgi, fun k hk => ?_⟩
      rw [← List.take_append_drop (lastK X.t i) (kidsN X.t i)] at hk
      rcases List.mem_append.1 hk with q | q
      · exact .inr fun j hj => a3 k q j hj.1
      · exact .inl q
  split at h
  · rename_i h1 h2 h3 h8
    obtain ⟨k1, k2, k3⟩ := kids_let hok hi h8
    have hg0 := gOf_get (l := kidsN X.t i) (i := 0) k3
    cases hq : dc (gOf (kidsN X.t i) 0) ref rs with
    | none => rw [hq] at h; cases h
    | some s =>
      rw [hq] at h
      simp only [Option.some.injEq] at h
      subst h
      obtain ⟨a1, a2, a3⟩ := hdc _ _ _ _ (hkl _ (List.mem_of_getElem? hg0)) (.inl k1) hr hf hq
      refine ⟨a1.num, a1.frs, a2, fun k hk => ⟨hkl k (List.mem_of_mem_drop hk), k2 k hk⟩, a2 i hgi, fun k hk => ?_⟩
      have e : kidsN X.t i = gOf (kidsN X.t i) 0 :: (kidsN X.t i).drop 1 := by
        have := drop_get hg0
        rwa [List.drop_zero] at this
      rw [e] at hk
      rcases List.mem_cons.1 hk with q | q
      · subst q; exact .inr a3
      · exact .inl q
  split at h
  · rename_i h1 h2 h3 h8 h15
    obtain ⟨k1, k2, k3⟩ := kids_rhs hok hi h15
    have hg0 := gOf_get (l := kidsN X.t i) (i := lastK X.t i) (by unfold lastK; omega)
    cases hq : dc (gOf (kidsN X.t i) (lastK X.t i)) ref rs with
    | none => rw [hq] at h; cases h
    | some s =>
      rw [hq] at h
      simp only [Option.some.injEq] at h
      subst h
      obtain ⟨a1, a2, a3⟩ := hdc _ _ _ _ (hkl _ (List.mem_of_getElem? hg0)) (.inl k1) hr hf hq
      refine ⟨a1.num, a1.frs, a2, fun k hk => ⟨hkl k (List.mem_of_mem_take hk), k2 k hk⟩, a2 i hgi, fun k hk => ?_⟩
      rw [← List.take_append_drop (lastK X.t i) (kidsN X.t i)] at hk
      rcases List.mem_append.1 hk with q | q
      · exact .inl q
      · rw [drop_get hg0, List.drop_of_length_le (by unfold lastK; omega)] at q
        obtain rfl := List.mem_singleton.1 q
        exact .inr a3
  · rename_i h1 h2 h3 h8 h15
    simp only [Option.some.injEq] at h
    subst h
    have hkn := kids_node hok hi hop (by omega) (by omega) (by omega) (by omega)
    exact ⟨hr, hf, fun _ q => q, fun k hk => ⟨hkl k hk, hkn k hk⟩, hgi, fun k hk => .inl hk⟩
theorem node_good {n : Nat} {nd : NodeF} {dc : DeclF} (hnd : NodeG X nd) (hdc : DeclG X dc) : NodeG X (nodeStep X.t X.cons n nd dc) := by
  intro i ref rs r hi hop hr hf h
  unfold nodeStep at h
  cases hh : nodeHead X.t X.cons n dc i ref rs with
  | none => rw [hh] at h; cases h
  | some z =>
    rw [hh] at h
    obtain ⟨a1, a2, a3, a4, a5, a6⟩ := head_good hok hdc hi hop hr hf hh
    obtain ⟨b1, b2, b3⟩ := foldO_all (NumOk X) (Good X) (TT X.t) _ _ _ _ (fun k hk s s' hs hf => hnd k s z.2.1 s' (a4 k hk).1 (a4 k hk).2 hs a2 hf) h a1
    refine ⟨b1, fun j q => b2 j (a3 j q), fun j hj => ?_⟩
    rcases tt_kids hj with e | ⟨k, hk, q⟩
    · subst e; exact b2 j a5
    · rcases a6 k hk with w | w
      · exact b3 k w j q
      · exact b2 j (w j q)
theorem clause_good {n : Nat} {nd : NodeF} (hnd : NodeG X nd) {rs : List Frm} {c : Nat} {ref r : List Int} (hc : c < X.t.length) (hop : opN X.t c = 19) (hr : NumOk X ref) (hf : FrsOk X rs) (h : clauseF X.t X.cons n nd rs c ref = some r) :
    NumOk X r ∧ (∀ j, Good X ref j → Good X r j) ∧ ∀ j, TT X.t c j → Good X r j := by
  obtain ⟨k1, k2, k3⟩ := kids_clause hok hc hop
  have hkl : ∀ k ∈ kidsN X.t c, k < X.t.length := fun k hk => hok.wf.kid hc hk
  have hg0 := gOf_get (l := kidsN X.t c) (i := lastK X.t c) (by unfold lastK; omega)
  unfold clauseF at h
  cases hq : openF X.t X.cons n ((kidsN X.t c).take (lastK X.t c)) ref rs with
  | none => rw [hq] at h; cases h
  | some s =>
    rw [hq] at h
    obtain ⟨a1, a2, a3⟩ := open_good hok (fun k hk => ⟨hkl k (List.mem_of_mem_take hk), k1 k hk⟩) hr hf hq
    obtain ⟨b1, b2, b3⟩ := hnd _ _ _ _ (hkl _ (List.mem_of_getElem? hg0)) k2 a1.num a1.frs h
    refine ⟨b1, fun j q => b2 j (a2 j q), fun j hj => ?_⟩
    rcases tt_kids hj with e | ⟨k, hk, q⟩
    · subst e; exact b2 j (a2 j (hr.good j hc (by unfold lateOp; omega)))
    · rw [← List.take_append_drop (lastK X.t c) (kidsN X.t c)] at hk
      rcases List.mem_append.1 hk with w | w
      · exact b2 j (a3 k w j q.1)
      · rw [drop_get hg0, List.drop_of_length_le (by unfold lastK; omega)] at w
        obtain rfl := List.mem_singleton.1 w
        exact b3 j q
theorem decl_good {n : Nat} {nd : NodeF} (hnd : NodeG X nd) : DeclG X (declStep X.t X.cons n nd) := by
  intro i ref rs s hi hop hr hf h
  obtain ⟨f1, _, _, _⟩ := functions_ok hok.wf hi
  unfold declStep at h
  cases hb : foldR (runBind X.t ref) (functionsF X.t i) ([] :: rs) with
  | none => rw [hb] at h; cases h
  | some rs' =>
    rw [hb] at h
    simp only [] at h
    have hf' : FrsOk X rs' := by
      refine (foldR_all (FrsOk X) (fun _ _ => True) (fun _ _ => False) _ _ _ _ (fun run hrun s s' hs hf => ⟨?_, fun _ _ => trivial, fun _ q => q.elim⟩) hb (fun g hg => ?_)).1
      · unfold runBind at hf
        cases hq : bindF s (textN X.t (gOf run 0)) (refAt ref (gOf run 0)) with
        | none => rw [hq] at hf; cases hf
        | some y =>
          rw [hq] at hf
          simp only [] at hf
          split at hf
          · cases hf
          · split at hf
            · simp only [Option.some.injEq] at hf
              subst hf
              have hm : gOf run 0 ∈ run := List.mem_of_getElem? (gOf_get (List.length_pos_iff.2 (f1 run hrun).1))
              have hop := functions_op run hrun _ hm
              exact bindF_ok hq hs ((goodV_name (.inr (.inr hop))).1 (hr.good _ ((f1 run hrun).2 _ hm) (by unfold lateOp; omega)))
            · cases hf
      · rcases List.mem_cons.1 hg with q | q
        · subst q; exact nofun
        · exact hf g q
    cases hc : foldR (fun run r => foldO (clauseF X.t X.cons n nd rs') run r) (functionsF X.t i) ref with
    | none => rw [hc] at h; cases h
    | some r =>
      rw [hc] at h
      simp only [Option.some.injEq] at h
      subst h
      obtain ⟨b1, b2, b3⟩ := foldR_all (NumOk X) (Good X) (fun run j => ∃ c ∈ run, TT X.t c j) _ _ _ _ (fun run hrun s s' hs hf => by
        obtain ⟨c1, c2, c3⟩ := foldO_all (NumOk X) (Good X) (TT X.t) _ _ _ _ (fun c hc s s' hs hf => clause_good hok hnd ((f1 run hrun).2 c hc) (functions_op run hrun c hc) hs hf' hf) hf hs
        exact ⟨c1, c2, fun j ⟨c, hc, q⟩ => c3 c hc j q⟩) hc hr
      refine ⟨⟨b1, hf'⟩, b2, fun j hj => ?_⟩
      have hnum : ∀ j, j < X.t.length → ¬ lateOp (opN X.t j) → Good X r j := fun j hjl hl => b1.good j hjl hl
      rcases tt_kids hj with e | ⟨k, hk, q⟩
      · subst e; exact hnum j hi (by unfold lateOp; omega)
      · have hkl := hok.wf.kid hi hk
        by_cases hk19 : opN X.t k = 19
        · obtain ⟨run, w1, w2⟩ := functions_cover hk hk19
          exact b3 run w1 j ⟨k, w2, q⟩
        · have hk21 : opN X.t k = 21 := by
            rcases hop with w | w
            · exact absurd (kids_decls hok hi w k hk) hk19
            · rcases kids_prog hok hi w k hk with u | u
              · exact absurd u hk19
              · exact u
          have := desc_data hok q.1 hkl (.inl hk21)
          have hn := q.2
          refine hnum j (desc_lt hok q.1 hkl) ?_
          unfold tyOp at hn; unfold lateOp; omega
theorem res_good : ∀ n, NodeG X (resN X.t X.cons n).1 ∧ DeclG X (resN X.t X.cons n).2
  | 0 => ⟨fun _ _ _ _ _ _ _ _ h => (by cases h), fun _ _ _ _ _ _ _ _ h => (by cases h)⟩
  | n + 1 => ⟨node_good hok (res_good n).1 (res_good n).2, decl_good hok (res_good n).1⟩
end
end Go.Proofs.Ytibkdjjdfcpdaaa
end

section
/- What number gives. -/
namespace Go.Proofs.Ytibkdjjdfcpdaaa
open Go Go.Ab
/-! ### Parts stand in order; runs have one name -/
theorem runs_sorted {good : List Int → Nd → Bool} {t : List Nd} : ∀ (m i : Nat) (free out : List Nat), t.length - i = m → free.Pairwise (· < ·) → (∀ j ∈ free, j < i) → runs good t (t.drop i) i free = some out → ∀ p, i ≤ p → p < t.length → (kidsN t p).Pairwise (· < ·)
  | 0, i, free, out, hm, _, _, h => fun p h1 h2 => by omega
  | m + 1, i, free, out, hm, hs, hlt, h => by
    have hi : i < t.length := by omega
    obtain ⟨h1, h2, h3⟩ := runs_step hi h
    have hcat := List.take_append_drop (free.length - (kidsN t i).length) free
    have hs2 := hs
    rw [← hcat] at hs2
    obtain ⟨n1, n2, n3⟩ := List.pairwise_append.1 hs2
    have ih := runs_sorted m (i + 1) _ out (by omega) (List.pairwise_append.2 ⟨n1, by simp, fun a ha b hb => by
        obtain rfl := List.mem_singleton.1 hb
        exact hlt a (List.mem_of_mem_take ha)⟩) (fun j hj => by
        rcases List.mem_append.1 hj with q | q
        · have := hlt j (List.mem_of_mem_take q); omega
        · obtain rfl := List.mem_singleton.1 q; omega) h3
    intro p p1 p2
    by_cases ep : p = i
    · subst ep; rw [h2]; exact n2
    · exact ih p (by omega) p2
theorem kids_sorted {t : List Nd} (h : checkF goodF t = 0) {p : Nat} (hp : p < t.length) : (kidsN t p).Pairwise (· < ·) := by
  unfold checkF at h
  split at h
  · cases hr : runs goodF t t 0 [] with
    | none => rw [hr] at h; cases h
    | some out => exact runs_sorted t.length 0 [] out rfl .nil nofun (show runs goodF t (t.drop 0) 0 [] = some out from hr) p (Nat.zero_le _) hp
  · cases h
structure RunTx (t : List Nd) (x : List (List Nat) × Option Nat) : Prop where
  ne : ∀ l ∈ x.1, l ≠ []
  same : ∀ l ∈ x.1, ∀ k ∈ l, textN t k = textN t (gOf l 0)
  was : ∀ w, x.2 = some w → ∃ pre l, x.1 = pre ++ [l] ∧ w ∈ l
theorem gOf_snoc {l : List Nat} (h : l ≠ []) (i : Nat) : gOf (l ++ [i]) 0 = gOf l 0 := by
  cases l with
  | nil => exact absurd rfl h
  | cons a l => rfl
theorem modify_snoc {α : Type} (f : α → α) : ∀ (pre : List α) (l : α), (pre ++ [l]).modify pre.length f = pre ++ [f l]
  | [], _ => rfl
  | x :: pre, l => by
    show (x :: (pre ++ [l])).modify (pre.length + 1) f = x :: (pre ++ [f l])
    rw [List.modify_succ_cons, modify_snoc f pre l]
theorem RunTx.step {t : List Nd} {x : List (List Nat) × Option Nat} (i : Nat) (h : RunTx t x) : RunTx t (runStep t x i) := by
  have hnew : RunTx t (x.1 ++ [[i]], some i) := ⟨fun l hl => by
      rcases List.mem_append.1 hl with q | q
      · exact h.ne l q
      · obtain rfl := List.mem_singleton.1 q; simp, fun l hl k hk => by
      rcases List.mem_append.1 hl with q | q
      · exact h.same l q k hk
      · obtain rfl := List.mem_singleton.1 q
        obtain rfl := List.mem_singleton.1 hk; rfl, fun w hw => by
      simp only [Option.some.injEq] at hw
      subst hw
      exact ⟨x.1, [i], rfl, by simp⟩⟩
  unfold runStep
  split
  · exact ⟨h.ne, h.same, nofun⟩
  · split
    · rename_i w hw
      split
      · rename_i htx
        obtain ⟨pre, l, e1, hwl⟩ := h.was w hw
        have hl : l ∈ x.1 := by rw [e1]; simp
        have hmod : x.1.modify (x.1.length - 1) (· ++ [i]) = pre ++ [l ++ [i]] := by
          rw [e1]
          have : (pre ++ [l]).length - 1 = pre.length := by simp
          rw [this]
          exact modify_snoc _ pre l
        show RunTx t (x.1.modify (x.1.length - 1) (· ++ [i]), some i)
        rw [hmod]
        have hne := h.ne l hl
        refine ⟨fun m hm => ?_, fun m hm k hk => ?_, fun w hw => ?_⟩
        · rcases List.mem_append.1 hm with q | q
          · exact h.ne m (by rw [e1]; simp [q])
          · obtain rfl := List.mem_singleton.1 q; simp
        · rcases List.mem_append.1 hm with q | q
          · exact h.same m (by rw [e1]; simp [q]) k hk
          · obtain rfl := List.mem_singleton.1 q
            rw [gOf_snoc hne]
            rcases List.mem_append.1 hk with q2 | q2
            · exact h.same l hl k q2
            · obtain rfl := List.mem_singleton.1 q2
              rw [← htx]; exact h.same l hl w hwl
        · simp only [Option.some.injEq] at hw
          subst hw
          exact ⟨pre, l ++ [i], rfl, by simp⟩
      · exact hnew
    · exact hnew
theorem functions_text {t : List Nd} {n : Nat} : ∀ l ∈ functionsF t n, ∀ k ∈ l, textN t k = textN t (gOf l 0) := by
  have : ∀ (l : List Nat) (x : List (List Nat) × Option Nat), RunTx t x → RunTx t (runsOf t l x) := by
    intro l
    induction l with
    | nil => intro x h; exact h
    | cons i l ih => intro x h; exact ih _ (h.step i)
  exact (this (kidsN t n) ([], none) ⟨nofun, nofun, nofun⟩).same
/-- Clauses and the first ones of their functions. -/
def LaterRel (t : List Nd) (k a : Nat) : Prop := ∃ i, i < t.length ∧ (opN t i = 18 ∨ opN t i = 20) ∧ ∃ run ∈ functionsF t i, k ∈ run.drop 1 ∧ a = gOf run 0
theorem getN_some {m : List (Nat × Nat)} {k v x a : Nat} (h : getN (putN m k v) x = some a) : (x = k ∧ a = v) ∨ getN m x = some a := by
  rw [getN_put] at h
  split at h
  · rename_i e; simp only [Option.some.injEq] at h; exact .inl ⟨e, h.symm⟩
  · exact .inr h
theorem later_sound {t : List Nd} {k a : Nat} (h : getN (laterF t) k = some a) : LaterRel t k a := by
  unfold laterF at h
  have := foldl_inv (fun m : List (Nat × Nat) => ∀ k a, getN m k = some a → LaterRel t k a) (laterStep t) (List.range t.length) [] (by intro k a h; cases h) (fun m i hi hm => by
    unfold laterStep
    split
    · rename_i hop
      have hi := List.mem_range.1 hi
      refine foldl_inv (fun m : List (Nat × Nat) => ∀ k a, getN m k = some a → LaterRel t k a) _ _ _ hm fun m run hrun hm => ?_
      unfold laterRun
      refine foldl_inv (fun m : List (Nat × Nat) => ∀ k a, getN m k = some a → LaterRel t k a) _ _ _ hm fun m c hc hm => ?_
      intro k a h
      rcases getN_some h with ⟨e1, e2⟩ | q
      · subst e1; exact ⟨i, hi, hop, run, hrun, hc, e2⟩
      · exact hm k a q
    · exact hm)
  exact this k a h
theorem foldl_hit {α β : Type} (I : β → Prop) (f : β → α → β) (x : α) (hm : ∀ b a, I b → I (f b a)) (hx : ∀ b, I (f b x)) : ∀ (l : List α) (b : β), x ∈ l → I (l.foldl f b)
  | [], _, h => by cases h
  | y :: l, b, h => by
    rw [List.foldl_cons]
    rcases List.mem_cons.1 h with e | q
    · subst e
      have : ∀ (l : List α) (b : β), I b → I (l.foldl f b) := by
        intro l
        induction l with
        | nil => intro b h; exact h
        | cons a l ih => intro b h; exact ih _ (hm b a h)
      exact this l _ (hx b)
    · exact foldl_hit I f x hm hx l _ q
theorem getN_keep {m : List (Nat × Nat)} {k v x : Nat} (h : (getN m x).isSome) : (getN (putN m k v) x).isSome := by
  rw [getN_put]; split
  · rfl
  · exact h
theorem later_run_keep {run : List Nat} {m : List (Nat × Nat)} {x : Nat} (h : (getN m x).isSome) : (getN (laterRun run m) x).isSome := by
  unfold laterRun
  exact foldl_inv (fun m : List (Nat × Nat) => (getN m x).isSome = true) _ _ _ h fun m c _ hm => getN_keep hm
theorem later_full {t : List Nd} {k a : Nat} (h : LaterRel t k a) : ∃ a', getN (laterF t) k = some a' := by
  obtain ⟨i, hi, hop, run, hrun, hk, _⟩ := h
  have : (getN (laterF t) k).isSome := by
    unfold laterF
    refine foldl_hit (fun m : List (Nat × Nat) => (getN m k).isSome = true) (laterStep t) i (fun m j hm => ?_) (fun m => ?_) _ _ (List.mem_range.2 hi)
    · unfold laterStep
      split
      · exact foldl_inv (fun m : List (Nat × Nat) => (getN m k).isSome = true) _ _ _ hm fun m run _ hm => later_run_keep hm
      · exact hm
    · unfold laterStep
      rw [if_pos hop]
      refine foldl_hit (fun m : List (Nat × Nat) => (getN m k).isSome = true) _ run (fun m r hm => later_run_keep hm) (fun m => ?_) _ _ hrun
      unfold laterRun
      exact foldl_hit (fun m : List (Nat × Nat) => (getN m k).isSome = true) _ k (fun m c hm => getN_keep hm) (fun m => by rw [getN_put, if_pos rfl]; rfl) _ _ hk
  exact Option.isSome_iff_exists.1 this
/-! ### Facts on clauses -/
structure Tree (t : List Nd) : Prop where
  chk : checkF goodF t = 0
  ok : TreeOk t
  one : TreeOne t
theorem tree_of {t : List Nd} (h : checkF goodF t = 0) : Tree t := ⟨h, treeOk_of h, treeOne_of h⟩
section
variable {t : List Nd} (hT : Tree t)
include hT
theorem flat_nodup {i : Nat} (hi : i < t.length) : (functionsF t i).flatten.Nodup := by
  rw [functions_flat]; exact (hT.one.nodup i hi).filter _
theorem run_sorted {i : Nat} (hi : i < t.length) {run : List Nat} (hr : run ∈ functionsF t i) : run.Pairwise (· < ·) := by
  have h1 : (functionsF t i).flatten.Pairwise (· < ·) := by
    rw [functions_flat]; exact (kids_sorted hT.chk hi).filter _
  exact h1.sublist (List.sublist_flatten_of_mem hr)
theorem run_first {i : Nat} (hi : i < t.length) {run : List Nat} (hr : run ∈ functionsF t i) : ∃ r, run = gOf run 0 :: r := by
  obtain ⟨f1, _⟩ := functions_ok hT.ok.wf hi
  have hg := gOf_get (l := run) (i := 0) (List.length_pos_iff.2 (f1 run hr).1)
  have := drop_get hg
  rw [List.drop_zero] at this
  exact ⟨_, this⟩
theorem later_facts {k a : Nat} (h : LaterRel t k a) : k < t.length ∧ a < k ∧ opN t k = 19 ∧ opN t a = 19 ∧ textN t a = textN t k := by
  obtain ⟨i, hi, hop, run, hrun, hk, e⟩ := h
  subst e
  obtain ⟨r, hr⟩ := run_first hT hi hrun
  have hs := run_sorted hT hi hrun
  obtain ⟨f1, _⟩ := functions_ok hT.ok.wf hi
  have hkr : k ∈ run := List.mem_of_mem_drop hk
  have h0 : gOf run 0 ∈ run := by rw [hr]; exact List.mem_cons_self
  refine ⟨(f1 run hrun).2 k hkr, ?_, functions_op run hrun k hkr, functions_op run hrun _ h0, (functions_text run hrun k hkr).symm⟩
  generalize gOf run 0 = a at *
  subst hr
  rw [List.drop_succ_cons, List.drop_zero] at hk
  exact (List.pairwise_cons.1 hs).1 k hk
/-- The same clause is not in two runs. -/
theorem run_uniq {i i' : Nat} (hi : i < t.length) (hi' : i' < t.length) {run run' : List Nat} (hr : run ∈ functionsF t i) (hr' : run' ∈ functionsF t i') {k : Nat} (hk : k ∈ run) (hk' : k ∈ run') : i = i' ∧ run = run' := by
  have e := hT.one.uniq i i' k hi hi' (functions_sub run hr k hk) (functions_sub run' hr' k hk')
  subst e
  refine ⟨rfl, ?_⟩
  have hnd := flat_nodup hT hi
  have : ∀ (L : List (List Nat)), L.flatten.Nodup → run ∈ L → run' ∈ L → run = run' := by
    intro L
    induction L with
    | nil => intro _ h; cases h
    | cons l L ih =>
      intro hn h1 h2
      rw [List.flatten_cons] at hn
      obtain ⟨n1, n2, n3⟩ := List.nodup_append.1 hn
      rcases List.mem_cons.1 h1 with q | q
      · rcases List.mem_cons.1 h2 with w | w
        · rw [q, w]
        · subst q; exact absurd rfl (n3 k hk k (List.mem_flatten.2 ⟨run', w, hk'⟩))
      · rcases List.mem_cons.1 h2 with w | w
        · subst w; exact absurd rfl (n3 k hk' k (List.mem_flatten.2 ⟨run, q, hk⟩))
        · exact ih n2 q w
  exact this _ hnd hr hr'
theorem later_get {k a : Nat} (h : LaterRel t k a) : getN (laterF t) k = some a := by
  obtain ⟨a', ha'⟩ := later_full h
  rw [ha']
  obtain ⟨i, hi, hop, run, hrun, hk, e⟩ := h
  obtain ⟨i', hi', hop', run', hrun', hk', e'⟩ := later_sound ha'
  obtain ⟨_, q⟩ := run_uniq hT hi hi' hrun hrun' (List.mem_of_mem_drop hk) (List.mem_of_mem_drop hk')
  subst q
  rw [e, e']
/-- The first of a run is no later one. -/
theorem first_none {i : Nat} (hi : i < t.length) {run : List Nat} (hr : run ∈ functionsF t i) : getN (laterF t) (gOf run 0) = none := by
  cases h : getN (laterF t) (gOf run 0) with
  | none => rfl
  | some a =>
    obtain ⟨i', hi', hop', run', hrun', hk', e'⟩ := later_sound h
    obtain ⟨r, hre⟩ := run_first hT hi hr
    have h0 : gOf run 0 ∈ run := by rw [hre]; exact List.mem_cons_self
    obtain ⟨_, q⟩ := run_uniq hT hi hi' hr hrun' h0 (List.mem_of_mem_drop hk')
    subst q
    have hs := run_sorted hT hi hr
    generalize gOf run 0 = b at *
    subst hre
    rw [List.drop_succ_cons, List.drop_zero] at hk'
    exact absurd ((List.pairwise_cons.1 hs).1 b hk') (Nat.lt_irrefl _)
end
end Go.Proofs.Ytibkdjjdfcpdaaa
end

section
/- What number gives: each binder its own. -/
namespace Go.Proofs.Ytibkdjjdfcpdaaa
open Go Go.Ab
def EN (t : List Nd) (x : Ns) : Env3 := ⟨t, x.names, x.cons, x.datas, x.ref⟩
def fresh (t : List Nd) (j : Nat) : Prop := (opN t j = 25 ∨ opN t j = 19) ∧ getN (laterF t) j = none
structure NumInv (t : List Nd) (x : Ns) (i : Nat) : Prop where
  len : x.ref.length = t.length
  good : ∀ j, j < i → ¬ lateOp (opN t j) → Good (EN t x) x.ref j
  six : 6 ≤ x.names.length
  lo : ∀ j, j < i → fresh t j → 6 ≤ refAt x.ref j
  sur : ∀ k : Nat, 6 ≤ k → k < x.names.length → ∃ j, j < i ∧ fresh t j ∧ refAt x.ref j = k
  inj : ∀ j j', j < i → j' < i → fresh t j → fresh t j' → refAt x.ref j = refAt x.ref j' → j = j'
  lat : ∀ j a, j < i → getN (laterF t) j = some a → refAt x.ref j = refAt x.ref a
theorem get_app {α : Type} {l : List α} {k : Nat} {x : α} (h : l[k]? = some x) (m : List α) : (l ++ m)[k]? = some x := by
  rw [List.getElem?_append_left (List.getElem?_eq_some_iff.1 h).1]; exact h
theorem goodV_grow {t : List Nd} {n : List (List UInt8)} {c : List CN} {d : List DN} {b b2 : List Int} (n2 : List (List UInt8)) (c2 : List CN) (d2 : List DN) {v : Int} {j : Nat} (h : GoodV ⟨t, n, c, d, b⟩ v j) : GoodV ⟨t, n ++ n2, c ++ c2, d ++ d2, b2⟩ v j := by
  unfold GoodV at h ⊢
  split at h
  · rename_i q; rw [if_pos q]; obtain ⟨k, h1, h2⟩ := h; exact ⟨k, h1, get_app h2 _⟩
  · rename_i q; rw [if_neg q]
    split at h
    · rename_i q; rw [if_pos q]; obtain ⟨k, e, h1, h2, h3⟩ := h; exact ⟨k, e, h1, get_app h2 _, h3⟩
    · rename_i q; rw [if_neg q]
      split at h
      · rename_i q; rw [if_pos q]; obtain ⟨k, e, h1, h2, h3⟩ := h; exact ⟨k, e, h1, get_app h2 _, h3⟩
      · rename_i q; rw [if_neg q]; exact h
/-- One node more. -/
theorem NumInv.next {t : List Nd} {x y : Ns} {i : Nat} (hi : i < t.length) (h : NumInv t x i) {v : Int} {n2 : List (List UInt8)} {c2 : List CN} {d2 : List DN} (hy : y = ⟨x.ref.set i v, x.names ++ n2, x.cons ++ c2, x.datas ++ d2⟩)
    (hlt : ∀ j a, getN (laterF t) j = some a → a < j)
    (hv : ¬ lateOp (opN t i) → GoodV (EN t y) v i) (hfr : fresh t i → n2.length = 1 ∧ v = x.names.length) (hnf : ¬ fresh t i → n2 = []) (hla : ∀ a, getN (laterF t) i = some a → v = refAt x.ref a) : NumInv t y (i + 1) := by
  have hil : i < x.ref.length := by rw [h.len]; exact hi
  have hs := fun j => refAt_set x.ref i v j hil
  have hold : ∀ j, j < i → refAt y.ref j = refAt x.ref j := fun j hj => by subst hy; show refAt (x.ref.set i v) j = _; rw [hs, if_neg (by omega)]
  have hnew : refAt y.ref i = v := by subst hy; show refAt (x.ref.set i v) i = _; rw [hs, if_pos rfl]
  have hnames : y.names = x.names ++ n2 := by subst hy; rfl
  have hfi : ∀ j, j < i + 1 → j < i ∨ j = i := fun j hj => by omega
  have hlox : ∀ j, j < i → fresh t j → refAt x.ref j < x.names.length := fun j hj hf => by
    have hg := h.good j hj (by have := hf.1; unfold lateOp; omega)
    obtain ⟨k, e1, e2⟩ := (goodV_name (X := EN t x) (by have := hf.1; exact .inr this)).1 hg
    have := (List.getElem?_eq_some_iff.1 e2).1
    show refAt x.ref j < _
    rw [e1]
    have e3 : (EN t x).names = x.names := rfl
    rw [e3] at this
    omega
  refine ⟨by subst hy; simpa using h.len, fun j hj hl => ?_, by rw [hnames, List.length_append]; have := h.six; omega, fun j hj hf => ?_, fun k k1 k2 => ?_, fun j j' hj hj' hf hf' e => ?_, fun j a hj ha => ?_⟩
  · rcases hfi j hj with q | q
    · have := h.good j q hl
      unfold Good at this ⊢
      rw [hold j q]
      subst hy
      exact goodV_grow n2 c2 d2 this
    · subst q
      unfold Good; rw [hnew]; exact hv hl
  · rcases hfi j hj with q | q
    · rw [hold j q]; exact h.lo j q hf
    · subst q
      rw [hnew, (hfr hf).2]
      have := h.six; omega
  · rw [hnames, List.length_append] at k2
    by_cases hf : fresh t i
    · obtain ⟨f1, f2⟩ := hfr hf
      by_cases q : k < x.names.length
      · obtain ⟨j, j1, j2, j3⟩ := h.sur k k1 q
        exact ⟨j, by omega, j2, by rw [hold j j1]; exact j3⟩
      · exact ⟨i, by omega, hf, by rw [hnew, f2]; omega⟩
    · rw [hnf hf] at k2
      simp only [List.length_nil, Nat.add_zero] at k2
      obtain ⟨j, j1, j2, j3⟩ := h.sur k k1 k2
      exact ⟨j, by omega, j2, by rw [hold j j1]; exact j3⟩
  · rcases hfi j hj with q | q
    · rcases hfi j' hj' with w | w
      · rw [hold j q, hold j' w] at e
        exact h.inj j j' q w hf hf' e
      · subst w
        rw [hold j q, hnew, (hfr hf').2] at e
        have := hlox j q hf; omega
    · rcases hfi j' hj' with w | w
      · subst q
        rw [hold j' w, hnew, (hfr hf).2] at e
        have := hlox j' w hf'; omega
      · omega
  · have hal := hlt j a ha
    rcases hfi j hj with q | q
    · rw [hold j q, hold a (by omega)]; exact h.lat j a q ha
    · subst q
      rw [hnew, hold a (by omega)]; exact hla a ha
theorem set_set_same {α : Type} (l : List α) (i : Nat) (a b : α) : (l.set i a).set i b = l.set i b := by simp
theorem num_step {t : List Nd} (hT : Tree t) {x y : Ns} {i : Nat} (hi : i < t.length) (h : NumInv t x i) (hs : numStep t (laterF t) x i = some y) : NumInv t y (i + 1) := by
  have hlt : ∀ j a, getN (laterF t) j = some a → a < j := fun j a ha => (later_facts hT (later_sound ha)).2.1
  have hil : i < x.ref.length := by rw [h.len]; exact hi
  have hnl : opN t i ≠ 19 → getN (laterF t) i = none := fun hop => by
    cases hq : getN (laterF t) i with
    | none => rfl
    | some a => exact absurd (later_facts hT (later_sound hq)).2.2.1 hop
  unfold numStep at hs
  split at hs
  · rename_i hop
    cases hq : getN (laterF t) i with
    | some a =>
      rw [hq] at hs
      simp only [Option.some.injEq] at hs
      obtain ⟨_, l2, l3, l4, l5⟩ := later_facts hT (later_sound hq)
      have hra : refAt (x.ref.set i (-1)) a = refAt x.ref a := by rw [refAt_set _ _ _ _ hil, if_neg (by omega)]
      refine h.next (y := y) hi (v := refAt x.ref a) (n2 := []) (c2 := []) (d2 := []) (by rw [← hs, hra, set_set_same]; simp) hlt (fun _ => ?_) (fun hf => by have := hf.2; rw [hq] at this; cases this) (fun _ => rfl) (fun b hb => by rw [hq] at hb; simp only [Option.some.injEq] at hb; rw [hb])
      have hg := h.good a (by omega) (by unfold lateOp; omega)
      obtain ⟨k, e1, e2⟩ := (goodV_name (X := EN t x) (.inr (.inr l4))).1 hg
      refine (goodV_name (X := EN t y) (.inr hop)).2 ⟨k, e1, ?_⟩
      show y.names[k]? = some (textN t i)
      rw [← hs, ← l5]; exact e2
    | none =>
      rw [hq] at hs
      simp only [Option.some.injEq] at hs
      refine h.next (y := y) hi (v := (x.names.length : Int)) (n2 := [textN t i]) (c2 := []) (d2 := []) (by rw [← hs, set_set_same]; simp) hlt (fun _ => ?_) (fun _ => ⟨rfl, rfl⟩) (fun hf => absurd ⟨hop, hq⟩ hf) (fun b hb => by rw [hq] at hb; cases hb)
      refine (goodV_name (X := EN t y) (.inr hop)).2 ⟨x.names.length, rfl, ?_⟩
      show y.names[x.names.length]? = some (textN t i)
      rw [← hs]; simp
  · rename_i hop
    split at hs
    · rename_i hop2
      cases hq : sfind (conNs x.cons) (textN t i) 0 with
      | some k => rw [hq] at hs; cases hs
      | none =>
        rw [hq] at hs
        simp only [Option.some.injEq] at hs
        refine h.next (y := y) hi (v := (x.cons.length : Int)) (n2 := []) (c2 := [(textN t i, ((kidsN t i).length : Int), (x.datas.length : Int))]) (d2 := []) (by rw [← hs, set_set_same]; simp) hlt (fun _ => ?_) (fun hf => absurd hf.1 hop) (fun _ => rfl) (fun b hb => by rw [hnl (by omega)] at hb; cases hb)
        refine (goodV_con (X := EN t y) (.inr (.inr hop2))).2 ⟨x.cons.length, (textN t i, ((kidsN t i).length : Int), (x.datas.length : Int)), rfl, ?_, rfl, fun _ => rfl⟩
        show y.cons[x.cons.length]? = _
        rw [← hs]; simp
    · rename_i hop2
      split at hs
      · rename_i hop3
        cases hq : sfind (datNs x.datas) (textN t i) 0 with
        | some k => rw [hq] at hs; cases hs
        | none =>
          rw [hq] at hs
          simp only [Option.some.injEq] at hs
          refine h.next (y := y) hi (v := (x.datas.length : Int)) (n2 := []) (c2 := []) (d2 := [(textN t i, paramsF t i)]) (by rw [← hs, set_set_same]; simp) hlt (fun _ => ?_) (fun hf => absurd hf.1 hop) (fun _ => rfl) (fun b hb => by rw [hnl (by omega)] at hb; cases hb)
          refine (goodV_dat (X := EN t y) (.inl hop3)).2 ⟨x.datas.length, (textN t i, paramsF t i), rfl, ?_, rfl⟩
          show y.datas[x.datas.length]? = _
          rw [← hs]; simp
      · rename_i hop3
        simp only [Option.some.injEq] at hs
        refine h.next (y := y) hi (v := -1) (n2 := []) (c2 := []) (d2 := []) (by rw [← hs]; simp) hlt (fun hl => ?_) (fun hf => absurd hf.1 hop) (fun _ => rfl) (fun b hb => by rw [hnl (by omega)] at hb; cases hb)
        unfold lateOp at hl
        show GoodV _ (-1) i
        unfold GoodV
        have e : (EN t y).t = t := rfl
        rw [e, if_neg (by omega), if_neg (by omega), if_neg (by omega), if_neg (by omega)]
theorem num_all {t : List Nd} (hT : Tree t) : ∀ (m i : Nat) (x y : Ns), t.length - i = m → i ≤ t.length → NumInv t x i → numFrom t (laterF t) ((List.range t.length).drop i) x = some y → NumInv t y t.length
  | 0, i, x, y, hm, hi, h, hs => by
    rw [List.drop_of_length_le (by simp; omega), numFrom] at hs
    simp only [Option.some.injEq] at hs
    subst hs
    have e : i = t.length := by omega
    subst e
    exact h
  | m + 1, i, x, y, hm, hi, h, hs => by
    have hil : i < t.length := by omega
    rw [drop_get (x := i) (by rw [List.getElem?_range hil]), numFrom] at hs
    cases hq : numStep t (laterF t) x i with
    | none => rw [hq] at hs; cases hs
    | some z =>
      rw [hq] at hs
      exact num_all hT m (i + 1) z y (by omega) hil (num_step hT hil h hq) hs
theorem number_good {t : List Nd} (hT : Tree t) {y : Ns} (h : numberF t ns0 = some y) : NumInv t y t.length := by
  refine num_all hT t.length 0 { ns0 with ref := List.replicate t.length 0 } y rfl (Nat.zero_le _) ⟨by simp, nofun, by show 6 ≤ bNames.length; decide, nofun, fun k k1 k2 => ?_, nofun, nofun⟩ (by rw [List.drop_zero]; exact h)
  have : (ns0.names).length = 6 := by decide
  have k2 : k < ns0.names.length := k2
  omega
end Go.Proofs.Ytibkdjjdfcpdaaa
end

section
/- What the numbers mean: types; the groups. -/
namespace Go.Proofs.Ytibkdjjdfcpdaaa
open Go Go.Ab
theorem foldO_append {σ : Type} (f : Nat → σ → Option σ) : ∀ (a b : List Nat) (s : σ), foldO f (a ++ b) s = match foldO f a s with | some s' => foldO f b s' | none => none
  | [], b, s => rfl
  | x :: a, b, s => by
    cases hx : f x s with
    | none => simp only [List.cons_append, foldO, hx]
    | some s' => simp only [List.cons_append, foldO, hx]; exact foldO_append f a b s'
section
variable {X : Env3} (hok : TreeOk X.t)
include hok
theorem typ_good : ∀ (n i : Nat) (ps : List (List UInt8)) (ref r : List Int), i < X.t.length → isT (opN X.t i) → ps.length ≤ 8 → NumOk X ref → typF X.t X.datas n i ps ref = some r → NumOk X r ∧ (∀ j, Good X ref j → Good X r j) ∧ ∀ j, Desc X.t i j → Good X r j := by
  intro n
  induction n with
  | zero => intro i ps ref r _ _ _ _ h; cases h
  | succ n ih =>
    intro i ps ref r hi hop hps hr h
    unfold typF at h
    cases hq : sfind (typNames X.t X.datas i ps) (textN X.t i) 0 with
    | none => rw [hq] at h; cases h
    | some k =>
      rw [hq] at h
      simp only [] at h
      split at h
      · cases h
      · have hil : i < ref.length := by rw [hr.len]; exact hi
        have hlate : lateOp (opN X.t i) := by unfold lateOp; unfold isT at hop; omega
        have hv : GoodV X (k : Int) i := by
          rcases hop with q | q
          · have hk := sfind_lt hq
            unfold typNames at hk
            rw [if_pos q] at hk
            exact (goodV_tv q).2 ⟨by omega, by omega⟩
          · have hq2 := hq
            unfold typNames at hq2
            rw [if_neg (by omega)] at hq2
            obtain ⟨d, d1, d2⟩ := sfind_dat hq2
            exact (goodV_dat (.inr q)).2 ⟨k, d, rfl, d1, d2⟩
        have hkid : ∀ j ∈ kidsN X.t i, isT (opN X.t j) := by
          rcases hop with q | q
          · rw [kids_tv hok hi q]; exact nofun
          · exact kids_con hok hi (.inr q)
        obtain ⟨b1, b2, b3⟩ := foldO_all (NumOk X) (Good X) (Desc X.t) _ _ _ _ (fun j hj s s' hs hf => ih j ps s s' (hok.wf.kid hi hj) (hkid j hj) hps hs hf) h (num_set hr hlate hi)
        refine ⟨b1, fun j q => b2 j (good_set hil hv j q), fun j hj => ?_⟩
        rcases desc_kids hj with e | ⟨m, hm, q⟩
        · subst e; exact b2 j (good_at hil hv)
        · exact b3 m hm j q
theorem params_good {n : Nat} : ∀ (a : List Nat) (ps : List (List UInt8)) (ref : List Int) (s : List (List UInt8) × List Int), (∀ k ∈ a, k < X.t.length ∧ opN X.t k = 23) → ps.length + a.length ≤ 8 → NumOk X ref → foldO (dataStep X.t X.datas n) a (ps, ref) = some s →
    s.1.length ≤ 8 ∧ NumOk X s.2 ∧ (∀ j, Good X ref j → Good X s.2 j) ∧ ∀ k ∈ a, Good X s.2 k
  | [], ps, ref, s, _, hl, hr, h => by
    simp only [foldO, Option.some.injEq] at h
    subst h
    exact ⟨by simpa using hl, hr, fun _ q => q, nofun⟩
  | k :: a, ps, ref, s, hk, hl, hr, h => by
    obtain ⟨k1, k2⟩ := hk k (by simp)
    unfold foldO at h
    have hst : dataStep X.t X.datas n k (ps, ref) = (match sfind ps (textN X.t k) 0 with
      | some _ => none
      | none => some (ps ++ [textN X.t k], ref.set k (ps.length : Int))) := by unfold dataStep; rw [if_pos k2]; try rfl
    rw [hst] at h
    cases hq : sfind ps (textN X.t k) 0 with
    | some _ => rw [hq] at h; cases h
    | none =>
      rw [hq] at h
      simp only [] at h
      have hil : k < ref.length := by rw [hr.len]; exact k1
      simp only [List.length_cons] at hl
      have hv : GoodV X (ps.length : Int) k := (goodV_tv k2).2 ⟨by omega, by omega⟩
      obtain ⟨b0, b1, b2, b3⟩ := params_good a _ _ s (fun m hm => hk m (by simp [hm])) (by simp; omega) (num_set hr (by unfold lateOp; omega) k1) h
      refine ⟨b0, b1, fun j q => b2 j (good_set hil hv j q), fun m hm => ?_⟩
      rcases List.mem_cons.1 hm with e | q
      · subst e; exact b2 m (good_at hil hv)
      · exact b3 m q
theorem data_good {n i : Nat} {ref r : List Int} (hi : i < X.t.length) (hop : opN X.t i = 21) (hr : NumOk X ref) (h : dataF X.t X.datas n i ref = some r) : NumOk X r ∧ (∀ j, Good X ref j → Good X r j) ∧ ∀ j, Desc X.t i j → Good X r j := by
  obtain ⟨a, b, e1, e2, e3, e4⟩ := kids_data hok hi hop
  have hkl : ∀ k ∈ kidsN X.t i, k < X.t.length := fun k hk => hok.wf.kid hi hk
  rw [e1] at hkl
  unfold dataF at h
  rw [e1, foldO_append] at h
  cases hq : foldO (dataStep X.t X.datas n) a ([], ref) with
  | none => rw [hq] at h; cases h
  | some s =>
    rw [hq] at h
    simp only [] at h
    obtain ⟨a0, a1, a2, a3⟩ := params_good hok a [] ref s (fun k hk => ⟨hkl k (by simp [hk]), e3 k hk⟩) (by simpa using e2) hr hq
    cases hq2 : foldO (dataStep X.t X.datas n) b s with
    | none => rw [hq2] at h; cases h
    | some s2 =>
      rw [hq2] at h
      simp only [Option.some.injEq] at h
      subst h
      obtain ⟨⟨b1, _⟩, b2, b3⟩ := foldO_all (fun s : List (List UInt8) × List Int => NumOk X s.2 ∧ s.1.length ≤ 8) (fun s j => Good X s.2 j) (fun k j => Desc X.t k j) _ _ _ _ (fun k hk s s' hs hf => by
        have hk22 := e4 k hk
        have hkk := hkl k (by simp [hk])
        have hst : dataStep X.t X.datas n k s = (match foldO (fun j r => typF X.t X.datas n j s.1 r) (kidsN X.t k) s.2 with
          | some r => some (s.1, r)
          | none => none) := by unfold dataStep; rw [if_neg (by omega)]; try rfl
        rw [hst] at hf
        cases hq3 : foldO (fun j r => typF X.t X.datas n j s.1 r) (kidsN X.t k) s.2 with
        | none => rw [hq3] at hf; cases hf
        | some r3 =>
          rw [hq3] at hf
          simp only [Option.some.injEq] at hf
          subst hf
          obtain ⟨c1, c2, c3⟩ := foldO_all (NumOk X) (Good X) (Desc X.t) _ _ _ _ (fun j hj x x' hx hf => typ_good hok n j s.1 x x' (hok.wf.kid hkk hj) (kids_con hok hkk (.inl hk22) j hj) hs.2 hx hf) hq3 hs.1
          refine ⟨⟨c1, hs.2⟩, c2, fun j hj => ?_⟩
          rcases desc_kids hj with e | ⟨m, hm, q⟩
          · subst e; exact c2 j (hs.1.good j hkk (by unfold lateOp; omega))
          · exact c3 m hm j q) hq2 ⟨a1, a0⟩
      refine ⟨b1, fun j q => b2 j (a2 j q), fun j hj => ?_⟩
      rcases desc_kids hj with e | ⟨k, hk, q⟩
      · subst e; exact b1.good j hi (by unfold lateOp; omega)
      · rw [e1] at hk
        rcases List.mem_append.1 hk with w | w
        · rcases desc_kids q with e | ⟨m, hm, _⟩
          · subst e; exact b2 j (a3 j w)
          · rw [kids_tv hok (hkl k (by simp [w])) (e3 k w)] at hm; cases hm
        · exact b3 k w j q
end
theorem type_anc {t : List Nd} (hT : Tree t) : ∀ (m j : Nat), t.length - j = m → j < t.length → (opN t j = 22 ∨ opN t j = 23 ∨ opN t j = 24) → ∃ d, d < t.length ∧ opN t d = 21 ∧ Desc t d j := by
  intro m
  induction m using Nat.strongRecOn with
  | _ m ih =>
    intro j hm hj hop
    have hok := hT.ok
    have hlast : j + 1 < t.length := by
      apply Decidable.byContradiction
      intro q
      have := hok.top
      rw [show t.length - 1 = j by omega] at this
      omega
    obtain ⟨p, hp, hjp⟩ := hT.one.parent j hlast
    have hlt := (hok.node p hp).2.1 j hjp
    have hpop : opN t p = 21 ∨ opN t p = 22 ∨ opN t p = 24 := by
      by_cases c1 : opN t p = 21
      · exact .inl c1
      by_cases c2 : opN t p = 22
      · exact .inr (.inl c2)
      by_cases c3 : opN t p = 24
      · exact .inr (.inr c3)
      exfalso
      by_cases c4 : opN t p = 23
      · rw [kids_tv hok hp c4] at hjp; cases hjp
      by_cases c5 : isP (opN t p)
      · have := kids_pat hok hp c5 j hjp; unfold isP at this; omega
      by_cases c6 : opN t p = 18
      · have := kids_decls hok hp c6 j hjp; omega
      by_cases c7 : opN t p = 20
      · have := kids_prog hok hp c7 j hjp; omega
      have hsplit : ∀ m, j ∈ (kidsN t p).take m ∨ j ∈ (kidsN t p).drop m := fun m => by
        rw [← List.mem_append, List.take_append_drop]; exact hjp
      by_cases c8 : opN t p = 19
      · obtain ⟨k1, k2, k3⟩ := kids_clause hok hp c8
        rcases hsplit (lastK t p) with q | q
        · have := k1 j q; unfold isP at this; omega
        · have hg0 := gOf_get (l := kidsN t p) (i := lastK t p) (by unfold lastK; omega)
          rw [drop_get hg0, List.drop_of_length_le (by unfold lastK; omega)] at q
          obtain rfl := List.mem_singleton.1 q
          unfold isN at k2; omega
      by_cases c9 : opN t p = 7
      · obtain ⟨k1, k2⟩ := kids_lam hok hp c9
        rcases hsplit (lastK t p) with q | q
        · have := k1 j q; unfold isP at this; omega
        · have := k2 j q; unfold isN at this; omega
      by_cases c10 : opN t p = 14
      · obtain ⟨k1, k2⟩ := kids_alt hok hp c10
        rcases hsplit (lastK t p) with q | q
        · have := k1 j q; unfold isP at this; omega
        · have := k2 j q; unfold isN at this; omega
      by_cases c11 : opN t p = 8
      · obtain ⟨k1, k2, k3⟩ := kids_let hok hp c11
        rcases hsplit 1 with q | q
        · have hg0 := gOf_get (l := kidsN t p) (i := 0) k3
          have e := drop_get hg0
          rw [List.drop_zero] at e
          rw [e] at q
          have : j = gOf (kidsN t p) 0 := by simpa using q
          rw [← this] at k1; omega
        · have := k2 j q; unfold isN at this; omega
      by_cases c12 : opN t p = 15
      · obtain ⟨k1, k2, k3⟩ := kids_rhs hok hp c12
        rcases hsplit (lastK t p) with q | q
        · have := k2 j q; unfold isN at this; omega
        · have hg0 := gOf_get (l := kidsN t p) (i := lastK t p) (by unfold lastK; omega)
          rw [drop_get hg0, List.drop_of_length_le (by unfold lastK; omega)] at q
          obtain rfl := List.mem_singleton.1 q
          omega
      by_cases c13 : isN (opN t p)
      · have := kids_node hok hp c13 c9 c11 c10 c12 j hjp; unfold isN at this; omega
      · have hs := hok.sh hp
        unfold isN isP at *
        unfold shapedF at hs
        rw [if_neg (by omega), if_neg (by omega), if_neg (by omega), if_neg (by omega), if_neg (by omega), if_neg (by omega), if_neg (by omega), if_neg (by omega), if_neg (by omega), if_neg (by omega), if_neg (by omega), if_neg (by omega), if_neg (by omega), if_neg (by omega), if_neg (by omega), if_neg (by omega), if_neg (by omega), if_neg (by omega), if_neg (by omega)] at hs
        simp only [Bool.and_eq_true, Bool.or_eq_true, decide_eq_true_eq] at hs
        omega
    rcases hpop with q | q
    · exact ⟨p, hp, q, .step hjp (.refl _)⟩
    · obtain ⟨d, d1, d2, d3⟩ := ih (t.length - p) (by omega) p rfl hp (by omega)
      exact ⟨d, d1, d2, d3.trans (.step hjp (.refl _))⟩
end Go.Proofs.Ytibkdjjdfcpdaaa
end

section
/- What Resolve answers, and what it means. -/
namespace Go.Proofs.Ytibkdjjdfcpdaaa
open Go Go.Ab
/-! ### Groups are a partition -/
theorem gspec_flat {g : List (List Nat)} {T : List Nat} {o : List (List Nat)} (h : GSpec g T o) : T.Nodup → (∀ a ∈ T, ∀ b, Rc g a b → Rc g b a → b < g.length → b ∈ T) → (T ++ o.flatten).Nodup ∧ (∀ x, x < g.length → x ∈ T ++ o.flatten) ∧ ∀ x ∈ o.flatten, x < g.length := by
  induction h with
  | nil h => intro hn hc; exact ⟨by simpa using hn, fun x hx => by simpa using h x hx, by simp⟩
  | cons hT hmin hs hm hrest ih =>
    rename_i T x c r
    intro hn hc
    have hcd : ∀ a ∈ T, ∀ b ∈ c, a ≠ b := fun a ha b hb e => by
      subst e
      obtain ⟨_, m2, m3⟩ := (hm a).1 hb
      exact hT.2.1 (hc a ha x m3 m2 hT.1)
    have hcn : c.Nodup := hs.imp fun h => Nat.ne_of_lt h
    obtain ⟨i1, i2, i3⟩ := ih (List.nodup_append.2 ⟨hn, hcn, hcd⟩) (fun a ha b h1 h2 hb => by
      rcases List.mem_append.1 ha with q | q
      · exact List.mem_append_left _ (hc a q b h1 h2 hb)
      · obtain ⟨_, m2, m3⟩ := (hm a).1 q
        exact List.mem_append_right _ ((hm b).2 ⟨hb, m2.trans h1, h2.trans m3⟩))
    rw [List.flatten_cons, ← List.append_assoc]
    refine ⟨i1, i2, fun y hy => ?_⟩
    rcases List.mem_append.1 hy with q | q
    · exact ((hm y).1 q).1
    · exact i3 y q
theorem flatten_map {α β : Type} (f : α → β) (l : List (List α)) : (l.map fun c => c.map f).flatten = l.flatten.map f := by rw [List.map_flatten]
theorem nodeAt_inj {nodes : List Int} (h : nodes.Nodup) {a b : Nat} (ha : a < nodes.length) (hb : b < nodes.length) (e : nodeAt nodes a = nodeAt nodes b) : a = b := by
  have h1 : nodes[a]? = some (nodeAt nodes a) := by unfold nodeAt; rw [List.getElem?_eq_getElem ha]; rfl
  have h2 : nodes[b]? = some (nodeAt nodes b) := by unfold nodeAt; rw [List.getElem?_eq_getElem hb]; rfl
  rw [← e] at h2
  exact (List.getElem?_inj ha h).1 (h1.trans h2.symm)
theorem map_nodup {α β : Type} {f : α → β} : ∀ {l : List α}, l.Nodup → (∀ a ∈ l, ∀ b ∈ l, f a = f b → a = b) → (l.map f).Nodup
  | [], _, _ => List.nodup_nil
  | x :: l, h, hf => by
    obtain ⟨h1, h2⟩ := List.nodup_cons.1 h
    rw [List.map_cons]
    refine List.nodup_cons.2 ⟨fun hm => ?_, map_nodup h2 fun a ha b hb => hf a (by simp [ha]) b (by simp [hb])⟩
    obtain ⟨y, y1, y2⟩ := List.mem_map.1 hm
    have := hf y (by simp [y1]) x (by simp) y2
    subst this; exact h1 y1
theorem groupsF_flat {nodes : List Int} {uses : List (Int × Int)} {g : List (List Nat)} (h : graphF nodes uses = .ok g) : (groupsF nodes g).flatten.Nodup ∧ ∀ v, v ∈ (groupsF nodes g).flatten ↔ v ∈ nodes := by
  obtain ⟨hnd, _, hl, hr, _⟩ := graphF_ok h
  obtain ⟨hs, _⟩ := groupsIx_spec hr
  obtain ⟨h1, h2, h3⟩ := gspec_flat hs List.nodup_nil nofun
  rw [List.nil_append] at h1
  simp only [List.nil_append] at h2
  unfold groupsF
  rw [flatten_map]
  refine ⟨map_nodup h1 fun a ha b hb e => nodeAt_inj hnd (by have := h3 a ha; omega) (by have := h3 b hb; omega) e, fun v => ?_⟩
  rw [List.mem_map]
  constructor
  · rintro ⟨x, x1, rfl⟩
    have := h3 x x1
    unfold nodeAt; rw [List.getElem?_eq_getElem (by omega)]
    exact List.getElem_mem _
  · intro hv
    obtain ⟨x, hx⟩ := List.getElem?_of_mem hv
    have hxl := (List.getElem?_eq_some_iff.1 hx).1
    exact ⟨x, h2 x (by omega), by unfold nodeAt; rw [hx]; rfl⟩
theorem usesF_some {nodes : List Int} : ∀ (uses : List (Int × Int)) (g : List (List Nat)), (∀ p ∈ uses, p.1 ∈ nodes ∧ p.2 ∈ nodes) → ∃ g', usesF nodes uses g = some g'
  | [], g, _ => ⟨g, rfl⟩
  | p :: r, g, h => by
    obtain ⟨h1, h2⟩ := h p (by simp)
    rw [usesF_cons]
    cases q1 : ifind nodes p.1 0 with
    | none => exact absurd h1 (ifind_none.1 q1)
    | some a =>
      cases q2 : ifind nodes p.2 0 with
      | none => exact absurd h2 (ifind_none.1 q2)
      | some b => exact usesF_some r _ fun q hq => h q (by simp [hq])
theorem uses_mem {t : List Nd} {ref : List Int} {runs : List (List Nat)} : ∀ p ∈ usesG t ref runs, p.1 ∈ varsG ref runs ∧ p.2 ∈ varsG ref runs := by
  intro p hp
  unfold usesG at hp
  obtain ⟨run, hrun, hp⟩ := List.mem_flatMap.1 hp
  unfold useR at hp
  obtain ⟨c, hc, hp⟩ := List.mem_flatMap.1 hp
  unfold useC at hp
  obtain ⟨k, hk, hp⟩ := List.mem_flatMap.1 hp
  unfold useK at hp
  split at hp
  · rename_i q
    obtain rfl := List.mem_singleton.1 hp
    exact ⟨List.mem_map.2 ⟨run, hrun, rfl⟩, q.2⟩
  · cases hp
/-- The groups of things that are told apart are a partition of them. -/
theorem groupsG_flat {t : List Nd} {ref : List Int} {runs : List (List Nat)} (hn : (varsG ref runs).Nodup) : (groupsG (varsG ref runs) (usesG t ref runs)).flatten.Nodup ∧ ∀ v, v ∈ (groupsG (varsG ref runs) (usesG t ref runs)).flatten ↔ v ∈ varsG ref runs := by
  obtain ⟨g, hg⟩ := usesF_some (nodes := varsG ref runs) (usesG t ref runs) (List.replicate (varsG ref runs).length []) uses_mem
  have h : graphF (varsG ref runs) (usesG t ref runs) = .ok g := by unfold graphF; rw [if_pos hn, hg]
  unfold groupsG
  rw [h]
  exact groupsF_flat h
/-! ### All that is said of what Resolve answers -/
structure Means (t : List Nd) (B : Bd) : Prop where
  tree : B.t = t
  rlen : B.ref.length = t.length
  six : 6 ≤ B.names.length
  consL : 12 ≤ B.cons.length
  datasL : 13 ≤ B.datas.length
  good : ∀ j, j < t.length → Good ⟨t, B.names, B.cons, B.datas, []⟩ B.ref j
  own : ∀ k : Nat, k < B.names.length → (6 ≤ k ↔ ∃ j, j < t.length ∧ (opN t j = 25 ∨ opN t j = 19) ∧ refAt B.ref j = k)
  gnd : (B.groups.flatMap (·.2)).Nodup
  grg : ∀ v : Int, v ∈ B.groups.flatMap (·.2) → 6 ≤ v ∧ v < (B.names.length : Int)
  gcl : ∀ j, j < t.length → opN t j = 19 → refAt B.ref j ∈ B.groups.flatMap (·.2)
theorem good_base {t : List Nd} {n : List (List UInt8)} {c : List CN} {d : List DN} {b b2 : List Int} {ref : List Int} {j : Nat} (h : Good ⟨t, n, c, d, b⟩ ref j) : Good ⟨t, n, c, d, b2⟩ ref j := by
  have := goodV_grow (b2 := b2) [] [] [] h
  simp only [List.append_nil] at this
  exact this
theorem bCons_len2 : bCons.length = 12 := by decide
theorem bDatas_len2 : bDatas.length = 13 := by decide
theorem clause_parent {t : List Nd} (hT : Tree t) {j p : Nat} (hp : p < t.length) (hjp : j ∈ kidsN t p) (hop : opN t j = 19) : opN t p = 18 ∨ opN t p = 20 := by
  have hok := hT.ok
  by_cases c6 : opN t p = 18
  · exact .inl c6
  by_cases c7 : opN t p = 20
  · exact .inr c7
  exfalso
  by_cases c1 : opN t p = 21
  · obtain ⟨a, b, e1, _, e3, e4⟩ := kids_data hok hp c1
    rw [e1] at hjp
    rcases List.mem_append.1 hjp with q | q
    · have := e3 j q; omega
    · have := e4 j q; omega
  by_cases c2 : opN t p = 22
  · have := kids_con hok hp (.inl c2) j hjp; unfold isT at this; omega
  by_cases c3 : opN t p = 24
  · have := kids_con hok hp (.inr c3) j hjp; unfold isT at this; omega
  by_cases c4 : opN t p = 23
  · rw [kids_tv hok hp c4] at hjp; cases hjp
  by_cases c5 : isP (opN t p)
  · have := kids_pat hok hp c5 j hjp; unfold isP at this; omega
  have hsplit : ∀ m, j ∈ (kidsN t p).take m ∨ j ∈ (kidsN t p).drop m := fun m => by
    rw [← List.mem_append, List.take_append_drop]; exact hjp
  by_cases c8 : opN t p = 19
  · obtain ⟨k1, k2, k3⟩ := kids_clause hok hp c8
    rcases hsplit (lastK t p) with q | q
    · have := k1 j q; unfold isP at this; omega
    · have hg0 := gOf_get (l := kidsN t p) (i := lastK t p) (by unfold lastK; omega)
      rw [drop_get hg0, List.drop_of_length_le (by unfold lastK; omega)] at q
      obtain rfl := List.mem_singleton.1 q
      unfold isN at k2; omega
  by_cases c9 : opN t p = 7
  · obtain ⟨k1, k2⟩ := kids_lam hok hp c9
    rcases hsplit (lastK t p) with q | q
    · have := k1 j q; unfold isP at this; omega
    · have := k2 j q; unfold isN at this; omega
  by_cases c10 : opN t p = 14
  · obtain ⟨k1, k2⟩ := kids_alt hok hp c10
    rcases hsplit (lastK t p) with q | q
    · have := k1 j q; unfold isP at this; omega
    · have := k2 j q; unfold isN at this; omega
  by_cases c11 : opN t p = 8
  · obtain ⟨k1, k2, k3⟩ := kids_let hok hp c11
    rcases hsplit 1 with q | q
    · have hg0 := gOf_get (l := kidsN t p) (i := 0) k3
      have e := drop_get hg0
      rw [List.drop_zero] at e
      rw [e] at q
      have : j = gOf (kidsN t p) 0 := by simpa using q
      rw [← this] at k1; omega
    · have := k2 j q; unfold isN at this; omega
  by_cases c12 : opN t p = 15
  · obtain ⟨k1, k2, k3⟩ := kids_rhs hok hp c12
    rcases hsplit (lastK t p) with q | q
    · have := k2 j q; unfold isN at this; omega
    · have hg0 := gOf_get (l := kidsN t p) (i := lastK t p) (by unfold lastK; omega)
      rw [drop_get hg0, List.drop_of_length_le (by unfold lastK; omega)] at q
      obtain rfl := List.mem_singleton.1 q
      omega
  by_cases c13 : isN (opN t p)
  · have := kids_node hok hp c13 c9 c11 c10 c12 j hjp; unfold isN at this; omega
  · have hs := hok.sh hp
    unfold isN isP at *
    unfold shapedF at hs
    rw [if_neg (by omega), if_neg (by omega), if_neg (by omega), if_neg (by omega), if_neg (by omega), if_neg (by omega), if_neg (by omega), if_neg (by omega), if_neg (by omega), if_neg (by omega), if_neg (by omega), if_neg (by omega), if_neg (by omega), if_neg (by omega), if_neg (by omega), if_neg (by omega), if_neg (by omega), if_neg (by omega), if_neg (by omega)] at hs
    simp only [Bool.and_eq_true, Bool.or_eq_true, decide_eq_true_eq] at hs
    omega
theorem first_op {t : List Nd} (hT : Tree t) {i : Nat} (hi : i < t.length) {run : List Nat} (hr : run ∈ functionsF t i) : gOf run 0 ∈ run ∧ gOf run 0 < t.length ∧ opN t (gOf run 0) = 19 := by
  obtain ⟨f1, _⟩ := functions_ok hT.ok.wf hi
  obtain ⟨r, hre⟩ := run_first hT hi hr
  have h0 : gOf run 0 ∈ run := by rw [hre]; exact List.mem_cons_self
  exact ⟨h0, (f1 run hr).2 _ h0, functions_op run hr _ h0⟩
theorem runs_nodup {t : List Nd} (hT : Tree t) {i : Nat} (hi : i < t.length) : (functionsF t i).Nodup := by
  obtain ⟨f1, _⟩ := functions_ok hT.ok.wf hi
  have hnd := flat_nodup hT hi
  have : ∀ (L : List (List Nat)), L.flatten.Nodup → (∀ l ∈ L, l ≠ []) → L.Nodup := by
    intro L
    induction L with
    | nil => intro _ _; exact List.nodup_nil
    | cons l L ih =>
      intro hn hne
      rw [List.flatten_cons] at hn
      obtain ⟨n1, n2, n3⟩ := List.nodup_append.1 hn
      refine List.nodup_cons.2 ⟨fun hm => ?_, ih n2 fun m hm => hne m (by simp [hm])⟩
      obtain ⟨a, ha⟩ := List.exists_mem_of_ne_nil l (hne l (by simp))
      exact n3 a ha a (List.mem_flatten.2 ⟨l, hm, ha⟩) rfl
  exact this _ hnd fun l hl => (f1 l hl).1
theorem nodup_flatMap {α β : Type} {f : α → List β} : ∀ {l : List α}, l.Nodup → (∀ a ∈ l, (f a).Nodup) → (∀ a ∈ l, ∀ b ∈ l, ∀ x, x ∈ f a → x ∈ f b → a = b) → (l.flatMap f).Nodup
  | [], _, _, _ => by simp
  | a :: l, hn, h1, h2 => by
    obtain ⟨n1, n2⟩ := List.nodup_cons.1 hn
    rw [List.flatMap_cons]
    refine List.nodup_append.2 ⟨h1 a (by simp), nodup_flatMap n2 (fun b hb => h1 b (by simp [hb])) fun b hb c hc => h2 b (by simp [hb]) c (by simp [hc]), fun x hx y hy e => ?_⟩
    subst e
    obtain ⟨b, hb, hxb⟩ := List.mem_flatMap.1 hy
    have := h2 a (by simp) b (by simp [hb]) x hx hxb
    subst this; exact n1 hb
theorem resolve_means {t : List Nd} (hT : Tree t) {B : Bd} (h : resolveO t = some B) : Means t B := by
  have hok := hT.ok
  unfold resolveO at h
  cases hy : numberF t ns0 with
  | none => rw [hy] at h; cases h
  | some y =>
    rw [hy] at h
    simp only [] at h
    cases hd : foldO (dataAll t y.datas) (List.range t.length) y.ref with
    | none => rw [hd] at h; cases h
    | some r1 =>
      rw [hd] at h
      simp only [] at h
      cases hs : (resN t y.cons t.length).2 (t.length - 1) r1 [frm0] with
      | none => rw [hs] at h; cases h
      | some s =>
        rw [hs] at h
        simp only [] at h
        cases hm : findR s.2 mainS with
        | none => rw [hm] at h; cases h
        | some v =>
          rw [hm] at h
          simp only [] at h
          split at h
          · simp only [Option.some.injEq] at h
            subst h
            have hN := number_good hT hy
            obtain ⟨nx, cx, dx, hnx, hcx, hdx, _⟩ := numberF_grow hy
            obtain ⟨X, hX⟩ : ∃ X, X = EN t y := ⟨_, rfl⟩
            have hXt : X.t = t := by subst hX; rfl
            have hokX : TreeOk X.t := by rw [hXt]; exact hok
            have n0 : NumOk X y.ref := by
              subst hX
              exact ⟨hN.len, fun j hj hl => hN.good j hj hl, fun _ _ _ => rfl⟩
            have hdX : dataAll t y.datas = dataAll X.t X.datas := by subst hX; rfl
            rw [hdX] at hd
            obtain ⟨d1, _, d3⟩ := foldO_all (NumOk X) (Good X) (fun i j => opN X.t i = 21 ∧ Desc X.t i j) _ _ _ _ (fun i hi x x' hx hf => by
              have hi : i < X.t.length := by rw [hXt]; exact List.mem_range.1 hi
              unfold dataAll at hf
              split at hf
              · rename_i hop
                obtain ⟨a, b, c⟩ := data_good hokX hi hop hx hf
                exact ⟨a, b, fun j hj => c j hj.2⟩
              · rename_i hop
                simp only [Option.some.injEq] at hf
                subst hf
                exact ⟨hx, fun _ q => q, fun j hj => absurd hj.1 hop⟩) hd n0
            have hfr0 : FrsOk X [frm0] := by
              intro g hg e he
              obtain rfl := List.mem_singleton.1 hg
              have key : ∀ e ∈ frm0, ∃ k : Nat, k < 6 ∧ e.2 = (k : Int) ∧ bNames[k]? = some e.1 := by decide
              obtain ⟨k, k1, k2, k3⟩ := key e he
              refine ⟨k, k2, ?_⟩
              subst hX
              show y.names[k]? = _
              rw [hnx]
              exact get_app k3 _
            have hsX : (resN X.t X.cons t.length).2 (t.length - 1) r1 [frm0] = some s := by subst hX; exact hs
            obtain ⟨s1, s2, s3⟩ := (res_good hokX t.length).2 _ _ _ _ (by rw [hXt]; have := hok.pos; omega) (.inr (by rw [hXt]; exact hok.top)) d1 hfr0 hsX
            have hgood : ∀ j, j < t.length → Good X s.1 j := fun j hj => by
              by_cases hty : opN t j = 23 ∨ opN t j = 24
              · obtain ⟨d, e1, e2, e3⟩ := type_anc hT _ j rfl hj (.inr hty)
                exact s2 j (d3 d (List.mem_range.2 e1) j ⟨by rw [hXt]; exact e2, by rw [hXt]; exact e3⟩)
              · exact s3 j ⟨by rw [hXt]; exact hT.one.desc hok _ j rfl hj, by rw [hXt]; unfold tyOp; exact hty⟩
            have hbase : ∀ j, j < t.length → (opN t j = 25 ∨ opN t j = 19) → refAt s.1 j = refAt y.ref j := fun j hj hop => by
              have := s1.num.base j (by rw [hXt]; exact hj) (by rw [hXt]; unfold lateOp; omega)
              subst hX; exact this
            have hfst : ∀ i, i < t.length → ∀ run ∈ functionsF t i, fresh t (gOf run 0) := fun i hi run hrun => ⟨.inr (first_op hT hi hrun).2.2, first_none hT hi hrun⟩
            have hvars : ∀ i, i < t.length → (varsG s.1 (functionsF t i)).Nodup := fun i hi => by
              unfold varsG
              refine map_nodup (runs_nodup hT hi) fun a ha b hb e => ?_
              obtain ⟨a1, a2, a3⟩ := first_op hT hi ha
              obtain ⟨b1, b2, b3⟩ := first_op hT hi hb
              rw [hbase _ a2 (.inr a3), hbase _ b2 (.inr b3)] at e
              have := hN.inj _ _ a2 b2 (hfst i hi a ha) (hfst i hi b hb) e
              rw [← this] at b1
              exact (run_uniq hT hi hi ha hb a1 b1).2
            have hmemG : ∀ i, i < t.length → ∀ v, v ∈ (groupsAll t s.1 i).flatMap (·.2) ↔ (opN t i = 18 ∨ opN t i = 20) ∧ v ∈ varsG s.1 (functionsF t i) := fun i hi v => by
              unfold groupsAll
              split
              · rename_i hop
                have := (groupsG_flat (t := t) (hvars i hi)).2 v
                unfold groupF
                rw [List.flatMap_map, ← this]
                simp [hop, List.mem_flatMap, List.mem_flatten]
              · rename_i hop; simp [hop]
            have hall : ((List.range t.length).flatMap (groupsAll t s.1)).flatMap (·.2) = (List.range t.length).flatMap fun i => (groupsAll t s.1 i).flatMap (·.2) := by rw [List.flatMap_assoc]
            have hname : ∀ j, j < t.length → (opN t j = 25 ∨ opN t j = 19) → ∃ k : Nat, refAt s.1 j = k ∧ k < y.names.length := fun j hj hop => by
              have := hgood j hj
              obtain ⟨k, k1, k2⟩ := (goodV_name (X := X) (by rw [hXt]; exact .inr hop)).1 this
              refine ⟨k, k1, ?_⟩
              subst hX
              exact (List.getElem?_eq_some_iff.1 k2).1
            refine ⟨rfl, by rw [s1.num.len, hXt], hN.six, ?_, ?_, fun j hj => ?_, fun k hk => ⟨fun h6 => ?_, ?_⟩, ?_, ?_, ?_⟩
            · show 12 ≤ y.cons.length
              rw [hcx]
              show 12 ≤ (bCons ++ cx).length
              rw [List.length_append, bCons_len2]; omega
            · show 13 ≤ y.datas.length
              rw [hdx]
              show 13 ≤ (bDatas ++ dx).length
              rw [List.length_append, bDatas_len2]; omega
            · have := hgood j hj
              subst hX
              exact good_base this
            · obtain ⟨j, j1, j2, j3⟩ := hN.sur k h6 hk
              exact ⟨j, j1, j2.1, by show refAt s.1 j = _; rw [hbase j j1 j2.1]; exact j3⟩
            · rintro ⟨j, j1, j2, j3⟩
              have j3 : refAt s.1 j = k := j3
              rw [hbase j j1 j2] at j3
              by_cases hf : fresh t j
              · have := hN.lo j j1 hf; omega
              · cases hq : getN (laterF t) j with
                | none => exact absurd ⟨j2, hq⟩ hf
                | some a =>
                  have hrel := later_sound hq
                  obtain ⟨i, hi, hop, run, hrun, hk2, e⟩ := hrel
                  have := hN.lat j a j1 hq
                  rw [this] at j3
                  have hff := hfst i hi run hrun
                  rw [← e] at hff
                  have hal := (later_facts hT (later_sound hq)).2.1
                  have := hN.lo a (by omega) hff
                  omega
            · show (List.flatMap (·.2) ((List.range t.length).flatMap (groupsAll t s.1))).Nodup
              rw [hall]
              refine nodup_flatMap List.nodup_range (fun i hi => ?_) fun a ha b hb x hxa hxb => ?_
              · have hi := List.mem_range.1 hi
                unfold groupsAll
                split
                · have := (groupsG_flat (t := t) (hvars i hi)).1
                  unfold groupF
                  rw [List.flatMap_map]
                  rw [List.flatMap_id'] 
                  exact this
                · simp
              · have ha := List.mem_range.1 ha
                have hb := List.mem_range.1 hb
                obtain ⟨_, a2⟩ := (hmemG a ha x).1 hxa
                obtain ⟨_, b2⟩ := (hmemG b hb x).1 hxb
                obtain ⟨ra, ra1, ra2⟩ := List.mem_map.1 a2
                obtain ⟨rb, rb1, rb2⟩ := List.mem_map.1 b2
                obtain ⟨a3, a4, a5⟩ := first_op hT ha ra1
                obtain ⟨b3, b4, b5⟩ := first_op hT hb rb1
                have e := ra2.trans rb2.symm
                rw [hbase _ a4 (.inr a5), hbase _ b4 (.inr b5)] at e
                have := hN.inj _ _ a4 b4 (hfst a ha ra ra1) (hfst b hb rb rb1) e
                rw [← this] at b3
                exact (run_uniq hT ha hb ra1 rb1 a3 b3).1
            · intro w hw
              have hw : w ∈ List.flatMap (·.2) ((List.range t.length).flatMap (groupsAll t s.1)) := hw
              rw [hall] at hw
              obtain ⟨i, hi, hw⟩ := List.mem_flatMap.1 hw
              have hi := List.mem_range.1 hi
              obtain ⟨_, w2⟩ := (hmemG i hi w).1 hw
              obtain ⟨run, r1, r2⟩ := List.mem_map.1 w2
              obtain ⟨a3, a4, a5⟩ := first_op hT hi r1
              obtain ⟨k, k1, k2⟩ := hname _ a4 (.inr a5)
              have hlo := hN.lo _ a4 (hfst i hi run r1)
              rw [← hbase _ a4 (.inr a5)] at hlo
              rw [← r2]
              exact ⟨hlo, by rw [k1]; show (k : Int) < (y.names.length : Int); omega⟩
            · intro j hj hop
              show refAt s.1 j ∈ List.flatMap (·.2) ((List.range t.length).flatMap (groupsAll t s.1))
              rw [hall]
              have hlast : j + 1 < t.length := by
                apply Decidable.byContradiction
                intro q
                have := hok.top
                rw [show t.length - 1 = j by omega] at this
                omega
              obtain ⟨p, hp, hjp⟩ := hT.one.parent j hlast
              have hpop := clause_parent hT hp hjp hop
              obtain ⟨run, r1, r2⟩ := functions_cover hjp hop
              refine List.mem_flatMap.2 ⟨p, List.mem_range.2 hp, (hmemG p hp _).2 ⟨hpop, List.mem_map.2 ⟨run, r1, ?_⟩⟩⟩
              obtain ⟨a3, a4, a5⟩ := first_op hT hp r1
              rw [hbase _ a4 (.inr a5), hbase _ hj (.inr hop)]
              obtain ⟨r, hre⟩ := run_first hT hp r1
              by_cases e : j = gOf run 0
              · rw [e]
              · have hjd : j ∈ run.drop 1 := by
                  generalize gOf run 0 = b at *
                  subst hre
                  rcases List.mem_cons.1 r2 with q | q
                  · exact absurd q e
                  · simpa using q
                exact (hN.lat j _ hj (later_get hT ⟨p, hp, hpop, run, r1, hjd, rfl⟩)).symm
          · cases h
end Go.Proofs.Ytibkdjjdfcpdaaa
end
