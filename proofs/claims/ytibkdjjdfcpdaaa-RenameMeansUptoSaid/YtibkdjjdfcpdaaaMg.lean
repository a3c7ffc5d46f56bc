/- Parts of a proof: Uk Ul Um Un Uo. -/
import Derived.Test.YtibkdjjdfcpdaaaMf
import Derived.Test.YtibkdjjdfcpdaaaMe
import Derived.Test.YtibkdjjdfcpdaaaMb
set_option linter.unusedVariables false
set_option linter.unusedSimpArgs false
set_option linter.unusedSectionVars false
section
/- rename.begin, slices.Index, slices.Contains, rename.group. -/
namespace Go.Proofs.Ytibkdjjdfcpdaaa
open Go Go.Ab
attribute [local irreducible] Wp WpO Qt OpT Ct
/-- Where a node's part of the tree begins. -/
def beginN (t : List Nd) : Nat → Nat → Nat
  | 0, i => i
  | n + 1, i => match kidsN t i with
    | [] => i
    | k :: _ => beginN t n k
def beginF (t : List Nd) (i : Nat) : Nat := beginN t (i + 1) i
theorem beginN_lt {t : List Nd} (hw : WF t) : ∀ (n i : Nat), i < t.length → beginN t n i ≤ i
  | 0, i, _ => Nat.le_refl _
  | n + 1, i, hi => by
    unfold beginN
    cases hk : kidsN t i with
    | nil => exact Nat.le_refl _
    | cons k r =>
      have := (hw.kids i hi).2.1 k (by rw [hk]; simp)
      have := beginN_lt hw n k (by omega)
      simp only []; omega
set_option maxHeartbeats 4000000 in
theorem begin_ct (t : List Nd) (ta : Option Addr) (tc i : Nat) (L : List Assn) (hT : TreeR L ta tc t) (hw : WF t) (hi : i < t.length) :
    Ct Try.prog 50 #[.agg #[.slice ta t.length tc], .int .i64 (i : Int)] L (ret fun v L' => v = .int .i64 (beginF t i : Nat) ∧ L' = L) := by
  have hlen := hw.len
  refine Ct.body Try.func50 rfl Try.ntmps50 Try.results50 rfl ?_
  refine pur ?_
  refine WpO.box (vs := [.slice ta t.length tc]) rfl rfl rfl (fun _ => Keeps.none) fun b1 => ?_
  refine pur ?_
  refine Wp.loopI (α := Nat × Nat) (i + 1, i)
    (fun x => [(1, .v (.int .i64 x.2)), (2, .v (.pointer (some ⟨b1, 0, none⟩)))])
    (fun _ => ptA b1 24 [.slice ta t.length tc] :: L)
    (fun x => x.1) (fun x => x.2 < x.1 ∧ x.2 < t.length ∧ beginN t x.1 x.2 = beginF t i) ⟨by show i < i + 1; omega, hi, rfl⟩ ⟨rfl, rfl, trivial⟩ (LeL.refl _) ?_
  rintro ⟨n, a⟩ ⟨h1, h2, h3⟩
  simp only [] at h1 h2 h3 ⊢
  obtain ⟨n, rfl⟩ : ∃ m, n = m + 1 := ⟨n - 1, by omega⟩
  obtain ⟨tb, tp, ka, kc, e1, hE, hS⟩ := hw.at hT h2
  subst e1
  obtain ⟨k1, k2, k3⟩ := hw.kids a h2
  have hE := hE.app [ptA b1 24 [.slice (some ⟨tb, tp, none⟩) t.length tc]]
  refine pur ?_
  refine S.idx a rfl rfl rfl rfl h2 ?_
  refine pur ?_
  refine Wp.branch rfl (fun h => ?_) (fun h => ?_)
  · have hl : 0 < (kidsN t a).length := by have := of_decide_eq_true h; omega
    have hk := gOf_get hl
    generalize hke : gOf (kidsN t a) 0 = kk at hk
    have hkk := k2 kk (List.mem_of_getElem? hk)
    obtain ⟨kb, ko, e2, hEk⟩ := nat_at hS hk
    subst e2
    have hEk := hEk.app [ptA b1 24 [.slice (some ⟨tb, tp, none⟩) t.length tc]]
    refine pur ?_
    refine S.idx a rfl rfl rfl rfl h2 ?_
    refine pur ?_
    refine S.idx 0 rfl rfl rfl rfl hl ?_
    refine pur ?_
    refine Round.mk (n, kk) (by show n < n + 1; omega) ⟨by show kk < n; omega, by show kk < t.length; omega, ?_⟩ ⟨rfl, rfl, trivial⟩ (LeL.refl _)
    rw [← h3]
    unfold beginN
    rw [drop_get (l := kidsN t a) (i := 0) hk |> fun h => (List.drop_zero (l := kidsN t a)).symm.trans h]
    cases n <;> rfl
  · have hl : kidsN t a = [] := List.eq_nil_of_length_eq_zero (by have := of_decide_eq_false h; omega)
    have : a = beginF t i := by rw [← h3]; unfold beginN; rw [hl]
    subst this
    refine pur ?_
    exact Wp.ret (Ret 1 rfl ⟨rfl, rfl⟩)
/-! ### Contains -/
def idxOfI (l : List Int) (v : Int) : Int := if v ∈ l then (l.idxOf v : Nat) else -1
theorem index_ct (l : List Int) (n : Nat) (hn : l.length = n) (v : Int) (a : Option Addr) (c : Nat) (L : List Assn) (hS : Sl L a c 1 (ints l)) (hl : n < 1073741824) :
    Ct Try.prog 69 #[.slice a n c, .int .i64 v] L (ret fun r L' => r = .int .i64 (idxOfI l v) ∧ L' = L) := by
  subst hn
  refine Ct.body Try.func69 rfl Try.ntmps69 Try.results69 rfl ?_
  refine pur ?_
  refine Wp.loopI (α := Nat) 0 (fun i => [(0, .v (.slice a l.length c)), (1, .v (.int .i64 v)), (7, .v (.int .i64 l.length)), (8, .v (.int .i64 i))]) (fun _ => L) (fun i => l.length - i) (fun i => i ≤ l.length ∧ v ∉ l.take i) ⟨Nat.zero_le _, by simp⟩ ⟨rfl, rfl, rfl, rfl, trivial⟩ (LeL.refl _) ?_
  rintro i ⟨hi, ht⟩
  refine pur ?_
  refine Wp.branch rfl (fun h => ?_) (fun h => ?_)
  · have hix : i < l.length := by simpa using h
    have hget := List.getElem?_eq_getElem hix
    generalize hx : l[i] = x at hget
    obtain ⟨b, o, rfl, hE⟩ := ints_at hS hget
    refine pur ?_
    refine S.idx i rfl rfl rfl rfl hix ?_
    refine pur ?_
    refine Wp.branch rfl (fun h => ?_) (fun h => ?_)
    · have hv : v = x := of_decide_eq_true h
      refine pur ?_
      refine Wp.ret (Ret 0 rfl ⟨?_, rfl⟩)
      have hm : v ∈ l := by rw [hv]; exact List.mem_of_getElem? hget
      have hidx : l.idxOf v = i := by
        have e : l = l.take i ++ (x :: l.drop (i + 1)) := by rw [← drop_get hget, List.take_append_drop]
        rw [e, List.idxOf_append, if_neg ht, hv, List.idxOf_cons_self]
        simp; omega
      unfold idxOfI
      rw [if_pos hm, hidx]
    · have hv : ¬ v = x := of_decide_eq_false h
      refine pur ?_
      refine Round.mk (i + 1) (by omega) ⟨by omega, ?_⟩ ⟨rfl, rfl, rfl, ?_, trivial⟩ (LeL.refl _)
      · rw [List.take_add_one, hget]; simp [ht, hv]
      · show some (AV.v (.int .i64 (IntKind.i64.wrap ((i : Int) + 1)))) = _
        rw [wrap_id (by omega) (by omega)]; rfl
  · have hix : i = l.length := by have := of_decide_eq_false h; omega
    rw [hix, List.take_length] at ht
    refine pur ?_
    refine Wp.ret (Ret 0 rfl ⟨?_, rfl⟩)
    unfold idxOfI
    rw [if_neg ht]
theorem contains_ct (l : List Int) (n : Nat) (hn : l.length = n) (v : Int) (a : Option Addr) (c : Nat) (L : List Assn) (hS : Sl L a c 1 (ints l)) (hl : n < 1073741824) :
    Ct Try.prog 51 #[.slice a n c, .int .i64 v] L (ret fun r L' => r = .bool (decide (v ∈ l)) ∧ L' = L) := by
  refine Ct.body Try.func51 rfl Try.ntmps51 Try.results51 rfl ?_
  refine pur ?_
  refine WpO.call Try.call69 rfl rfl (index_ct l n hn v a c _ hS hl) fun r L' ⟨e1, e2⟩ => ⟨Keeps.none, ?_⟩
  subst e1; subst e2
  refine pur ?_
  refine Wp.ret (Ret 0 rfl ⟨?_, rfl⟩)
  unfold idxOfI
  by_cases h : v ∈ l
  · rw [if_pos h]; simp [h]
  · rw [if_neg h]; simp [h]
end Go.Proofs.Ytibkdjjdfcpdaaa
end

section
/- rename.group. -/
namespace Go.Proofs.Ytibkdjjdfcpdaaa
open Go Go.Ab
attribute [local irreducible] Wp WpO Qt OpT Ct
def varsG (ref : List Int) (runs : List (List Nat)) : List Int := runs.map fun run => refAt ref (gOf run 0)
def useK (t : List Nd) (ref vars : List Int) (v : Int) (k : Nat) : List (Int × Int) := if opN t k = 1 ∧ refAt ref k ∈ vars then [(v, refAt ref k)] else []
def useC (t : List Nd) (ref vars : List Int) (v : Int) (c : Nat) : List (Int × Int) := ((List.range c).drop (beginF t c)).flatMap (useK t ref vars v)
def useR (t : List Nd) (ref vars : List Int) (run : List Nat) : List (Int × Int) := run.flatMap (useC t ref vars (refAt ref (gOf run 0)))
def usesG (t : List Nd) (ref : List Int) (runs : List (List Nat)) : List (Int × Int) := runs.flatMap (useR t ref (varsG ref runs))
abbrev Grp := Int × List Int
/-- The binding groups of a node. -/
def groupsG (vars : List Int) (uses : List (Int × Int)) : List (List Int) :=
  match graphF vars uses with
  | .error _ => []
  | .ok g => groupsF vars g
def groupF (t : List Nd) (ref : List Int) (i : Nat) : List Grp := (groupsG (varsG ref (functionsF t i)) (usesG t ref (functionsF t i))).map fun l => ((i : Int), l)
theorem flatMap_len {α β : Type} (f : α → List β) (N : Nat) : ∀ (l : List α), (∀ x ∈ l, (f x).length ≤ N) → (l.flatMap f).length ≤ l.length * N
  | [], _ => by simp
  | x :: l, h => by
    rw [List.flatMap_cons, List.length_append, List.length_cons, Nat.succ_mul]
    have := flatMap_len f N l fun y hy => h y (by simp [hy])
    have := h x (by simp)
    omega
theorem useC_len (t : List Nd) (ref vars : List Int) (v : Int) (c : Nat) : (useC t ref vars v c).length ≤ c := by
  have := flatMap_len (useK t ref vars v) 1 ((List.range c).drop (beginF t c)) fun x _ => by unfold useK; split <;> simp
  unfold useC
  rw [List.length_drop, List.length_range] at this
  omega
theorem usesG_len {t : List Nd} (hw : WF t) {i : Nat} (hi : i < t.length) (ref : List Int) : (usesG t ref (functionsF t i)).length ≤ 36000000 := by
  obtain ⟨f1, f2, _, _⟩ := functions_ok hw hi
  have hlen := hw.len
  have h1 : ∀ (g : List (List Nat)) (vars : List Int), (∀ l ∈ g, ∀ k ∈ l, k < t.length) → (g.flatMap (useR t ref vars)).length ≤ g.flatten.length * 6000 := by
    intro g vars
    induction g with
    | nil => intro _; simp
    | cons l g ih =>
      intro h
      have h2 := ih fun m hm => h m (by simp [hm])
      have h3 := flatMap_len (useC t ref vars (refAt ref (gOf l 0))) 6000 l fun c hc => by
        have := useC_len t ref vars (refAt ref (gOf l 0)) c
        have := h l (by simp) c hc
        omega
      rw [List.flatMap_cons, List.flatten_cons, List.length_append, List.length_append, Nat.add_mul]
      unfold useR at h2 ⊢
      omega
  have := h1 (functionsF t i) (varsG ref (functionsF t i)) fun l hl => (f1 l hl).2
  unfold usesG
  omega
theorem groupsF_len {nodes : List Int} {uses : List (Int × Int)} {g : List (List Nat)} (h : graphF nodes uses = .ok g) : (groupsF nodes g).length ≤ nodes.length := by
  obtain ⟨_, _, h3, hr, _⟩ := graphF_ok h
  obtain ⟨_, _, _, h4⟩ := groupsIx_spec hr
  have := cnt_le hr
  unfold groupsF groupsIx
  rw [List.length_map, List.length_map]
  omega
theorem groupsG_len (vars : List Int) (uses : List (Int × Int)) : (groupsG vars uses).length ≤ vars.length := by
  unfold groupsG
  cases h : graphF vars uses with
  | error e => exact Nat.zero_le _
  | ok g => exact groupsF_len h
theorem groupF_len {t : List Nd} (hw : WF t) {i : Nat} (hi : i < t.length) (ref : List Int) : (groupF t ref i).length ≤ 6000 := by
  obtain ⟨_, _, f3, _⟩ := functions_ok hw hi
  unfold groupF
  rw [List.length_map]
  have := groupsG_len (varsG ref (functionsF t i)) (usesG t ref (functionsF t i))
  have e : (varsG ref (functionsF t i)).length = (functionsF t i).length := by simp [varsG]
  omega
theorem groups2_ct (nodes : List Int) (uses : List (Int × Int)) (n m : Nat) (hnn : nodes.length = n) (hmm : uses.length = m) (na ua : Option Addr) (nc uc : Nat) (L : List Assn) (hN : Sl L na nc 1 (ints nodes)) (hU : Sl L ua uc 2 (pairRows uses)) (hn : nodes.length ≤ 100000) (hu : uses.length ≤ 100000000) :
    Ct Try.prog 52 #[.slice na n nc, .slice ua m uc] L
      (ret fun v L' => ∃ oa oc ks e, v = .tuple #[.slice oa (groupsG nodes uses).length oc, .int .i64 e] ∧ ks.length = (groupsG nodes uses).length ∧ L' = ownA 26 1 oa oc (gridI (groupsG nodes uses) ks) :: listsI (groupsG nodes uses) ks :: L) := by
  subst hnn; subst hmm
  refine (groups_ct nodes uses na ua nc uc L hN hU hn hu).wkR fun e L' h => ?_
  cases e with
  | returned v =>
    have h : (match graphF nodes uses with
        | .error e => v = .tuple #[.slice none 0 0, .int .i64 e] ∧ L' = L
        | .ok g => ∃ oa oc ks, v = .tuple #[.slice oa (groupsF nodes g).length oc, .int .i64 0] ∧ ks.length = (groupsF nodes g).length ∧ L' = ownA 26 1 oa oc (gridI (groupsF nodes g) ks) :: listsI (groupsF nodes g) ks :: L) := h
    show ∃ L'', LeL L' L'' ∧ ∃ oa oc ks e, _
    unfold groupsG
    cases hg : graphF nodes uses with
    | error e =>
      rw [hg] at h
      obtain ⟨h1, h2⟩ := h
      subst h2
      exact ⟨_, fun k s => Sat.ownNil (listsI_nil s), none, 0, [], e, h1, rfl, rfl⟩
    | ok g =>
      rw [hg] at h
      obtain ⟨oa, oc, ks, h1, h2, h3⟩ := h
      exact ⟨L', LeL.refl _, oa, oc, ks, 0, h1, h2, h3⟩
  | panicked c => exact h.elim
  | outgrown => exact h.elim
/-! ### Groups in memory -/
def grRows (gs : List Grp) (ks : List (Option Addr × Nat)) : List (List Value) := List.zipWith (fun (g : Grp) (k : Option Addr × Nat) => [Value.int .i64 g.1, Value.slice k.1 g.2.length k.2]) gs ks
theorem grRows_length {gs : List Grp} {ks : List (Option Addr × Nat)} (h : ks.length = gs.length) : (grRows gs ks).length = gs.length := by unfold grRows; rw [List.length_zipWith, h, Nat.min_self]
theorem grRows_snoc {gs : List Grp} {ks : List (Option Addr × Nat)} (h : ks.length = gs.length) (n : Int) (l : List Int) (k : Option Addr × Nat) : grRows gs ks ++ [[.int .i64 n, .slice k.1 l.length k.2]] = grRows (gs ++ [(n, l)]) (ks ++ [k]) := by
  unfold grRows
  rw [List.zipWith_append h.symm]; rfl
def vlists (gs : List Grp) : List (List Int) := gs.map (·.2)
theorem listsI_app {g g' : List (List Int)} {ks ks' : List (Option Addr × Nat)} (h : ks.length = g.length) {L : List Assn} {k : Hp} (s : Sat k (listsI g ks :: listsI g' ks' :: L)) : Sat k (listsI (g ++ g') (ks ++ ks') :: L) := by
  obtain ⟨M, hM, s1⟩ := Sat.openP s
  have s2 := Sat.cons_mono (fun k s => s) (Sat.perm (L := M ++ (listsI g' ks' :: L)) (L' := listsI g' ks' :: (M ++ L)) List.perm_middle s1)
  obtain ⟨M', hM', s3⟩ := Sat.openP s2
  subst hM; subst hM'
  refine Sat.closeP (φ := fun M => M = listsIM (g ++ g') (ks ++ ks')) rfl ?_
  have e : listsIM (g ++ g') (ks ++ ks') = listsIM g ks ++ listsIM g' ks' := by unfold listsIM; rw [List.zipWith_append h.symm]
  rw [e, List.append_assoc]
  refine Sat.perm ?_ s3
  rw [← List.append_assoc, ← List.append_assoc]
  exact List.Perm.append_right L List.perm_append_comm
/-- The resolver when groups are laid. -/
@[reducible] def gM (wb : Nat) (ta : Option Addr) (tn tc : Nat) (rb : Nat) (rn rc : Nat) (na : Option Addr) (nn nc : Nat) (ca : Option Addr) (cn cc : Nat) (da : Option Addr) (dn dc : Nat) (sb cb tb : Nat) (ref : List Int) (gs : List Grp) (ga : Option Addr × Nat) (ks : List (Option Addr × Nat)) (M : List Assn) : List Assn :=
  ptA wb 61 (hdrW ta tn tc (some ⟨rb, 0, none⟩) rn rc na nn nc ca cn cc da dn dc ga.1 gs.length ga.2 sb cb tb) :: ownA 3 1 (some ⟨rb, 0, none⟩) rc (ints ref) :: ownA 42 2 ga.1 ga.2 (grRows gs ks) :: listsI (vlists gs) ks :: M
theorem fillB_mono {p q : Nat → Option (Nat × Nat)} (h : ∀ i x, p i = some x → q i = some x) : ∀ (ps : List (Nat × Value)) (cs r : List Value), fillB p cs ps = some r → fillB q cs ps = some r
  | [], _, _, e => e
  | (i, v) :: ps, cs, r, e => by
    unfold fillB at e ⊢
    cases hp : p i with
    | none => rw [hp] at e; cases e
    | some x =>
      obtain ⟨a, b⟩ := x
      rw [hp] at e
      rw [h i _ hp]
      simp only [] at e ⊢
      split at e
      · exact fillB_mono h ps _ _ e
      · cases e
instance tsPair : TStruct Try.prog 104 [(0, 1), (1, 1)] [.int .i64 0, .int .i64 0] := ⟨fun w ps cs h => by
  unfold Instr.build
  rw [run_ok (Try.zeroValue104 w), run_ok (Try.runUnderlying104 w)]
  simp only []
  rw [run_ok (TSize.size (P := Try.prog) (t := 3) w)]
  have := fill_ok (place := fun i => some (i * 1, 1)) ps.toList (Value.agg #[.int .i64 0, .int .i64 0]).cells cs (fillB_mono (fun i x hx => by
    match i, hx with
    | 0, hx => simpa using hx
    | 1, hx => simpa using hx) _ _ _ h)
  rw [this]; rfl⟩
set_option maxHeartbeats 16000000 in
theorem group_ct (t : List Nd) (wb : Nat) (ta : Option Addr) (tc : Nat) (rb rc : Nat) (na : Option Addr) (nn nc : Nat) (ca : Option Addr) (cn cc : Nat) (da : Option Addr) (dn dc : Nat) (sb cb tb : Nat) (ref : List Int) (gs : List Grp) (ga : Option Addr × Nat) (ks : List (Option Addr × Nat)) (M : List Assn)
    (hT : TreeR M ta tc t) (hw : WF t) (i : Nat) (hi : i < t.length) (hrl : ref.length = t.length) (hks : ks.length = gs.length) (hgs : gs.length ≤ 36000000) :
    Ct Try.prog 25 #[.pointer (some ⟨wb, 0, none⟩), .int .i64 (i : Int)] (gM wb ta t.length tc rb t.length rc na nn nc ca cn cc da dn dc sb cb tb ref gs ga ks M)
      (ret fun v L' => v = .tuple #[] ∧ ∃ ga' ks', ks'.length = (gs ++ groupF t ref i).length ∧ L' = gM wb ta t.length tc rb t.length rc na nn nc ca cn cc da dn dc sb cb tb ref (gs ++ groupF t ref i) ga' ks' M) := by
  have hlen := hw.len
  obtain ⟨f1, f2, f3, f4⟩ := functions_ok hw hi
  refine Ct.body Try.func25 rfl Try.ntmps25 Try.results25 rfl ?_
  refine pur ?_
  refine S.loadN (vs := [.slice ta t.length tc]) rfl rfl (Ent.pt 0 1 rfl rfl) rfl ?_
  refine pur ?_
  refine WpO.call Try.call45 rfl rfl (functions_ct t ta tc i _ (hT.wk fun k s => s.tail.tail.tail.tail) hw hi) fun v L' ⟨fa, fc, fks, e1, hkl, e2⟩ => ⟨Keeps.none, ?_⟩
  subst e1; subst e2
  generalize hR : functionsF t i = R at *
  refine WpO.parts (L' := ptA wb 61 (hdrW ta t.length tc (some ⟨rb, 0, none⟩) t.length rc na nn nc ca cn cc da dn dc ga.1 gs.length ga.2 sb cb tb) :: ownA 3 1 (some ⟨rb, 0, none⟩) rc (ints ref) :: ownA 42 2 ga.1 ga.2 (grRows gs ks) :: listsI (vlists gs) ks :: (ownA 26 1 fa fc (gridRows R fks) :: listsP R fks :: M)) (fun k s => Sat.sel (T := M) 6 (M := [_, _, _, _, _, _]) (M' := [_, _, _, _, _, _]) [2, 3, 4, 5, 0, 1] rfl s) ?_
  refine WpO.know (fun k hs => grid_know (L := ownA 26 1 fa fc (gridRows R fks) :: listsP R fks :: M) 0 1 rfl rfl hkl hs.tail.tail.tail.tail) fun hGB => ?_
  obtain ⟨B, hB⟩ : ∃ B, B = ownA 26 1 fa fc (gridRows R fks) :: listsP R fks :: M := ⟨_, rfl⟩
  have hBM : LeL B M := by subst hB; exact fun k s => s.tail.tail
  rw [← hB] at hGB ⊢
  have hTB := hT.wk hBM
  refine pur ?_
  have hwr : ∀ n : Nat, n < 100000 → IntKind.i64.wrap ((n : Int) + 1) = ((n + 1 : Nat) : Int) := fun n h => by rw [wrap_id (by omega) (by omega)]; omega
  refine Wp.loopI (α := Nat × Option Addr × Nat) (0, none, 0)
    (fun x => [(0, .v (.pointer (some ⟨wb, 0, none⟩))), (1, .v (.int .i64 i)), (4, .v (.slice x.2.1 x.1 x.2.2)), (5, .v (.slice none 0 0)), (6, .v (.slice fa R.length fc)), (25, .v (.slice fa R.length fc)), (26, .v (.int .i64 R.length)), (27, .v (.int .i64 x.1))])
    (fun x => ownA 3 1 x.2.1 x.2.2 (ints (varsG ref (R.take x.1))) :: gM wb ta t.length tc rb t.length rc na nn nc ca cn cc da dn dc sb cb tb ref gs ga ks B)
    (fun x => R.length - x.1) (fun x => x.1 ≤ R.length) (Nat.zero_le _) ⟨rfl, rfl, rfl, rfl, rfl, rfl, rfl, rfl, trivial⟩ (fun k s => Sat.ownNil s) ?_
  rintro ⟨j, va, vk⟩ hj
  simp only [] at hj ⊢
  have hvl : ∀ j, j ≤ R.length → (ints (varsG ref (R.take j))).length = j := fun j h => by rw [ints_length]; unfold varsG; simp; omega
  refine pur ?_
  refine Wp.branch rfl (fun h => ?_) (fun h => ?_)
  · have hjl : j < R.length := by have := of_decide_eq_true h; omega
    obtain ⟨l, hl⟩ : ∃ l, R[j]? = some l := ⟨_, List.getElem?_eq_getElem hjl⟩
    obtain ⟨hne, hlt⟩ := f1 l (List.mem_of_getElem? hl)
    have hl0 : 0 < l.length := List.length_pos_iff.2 hne
    obtain ⟨fb, fo, la, lc, e1, hE3, hS⟩ := hGB.at hl
    subst e1
    obtain ⟨lb, lo, e2, hE4⟩ := nat_at hS (gOf_get hl0)
    subst e2
    have hr0 := hlt _ (List.mem_of_getElem? (gOf_get hl0))
    generalize hr0e : gOf l 0 = r0 at *
    have hvs : ints (varsG ref (R.take j)) ++ [[.int .i64 (refAt ref r0)]] = ints (varsG ref (R.take (j + 1))) := by
      rw [List.take_add_one, hl]; simp [varsG, ints, hr0e]
    refine pur ?_
    refine S.idx j rfl rfl rfl rfl hjl ?_
    refine S.load (v := .slice (some ⟨lb, lo, none⟩) l.length lc) rfl rfl (by infer_instance) (hE3.app [_, _, _, _, _]) ?_
    refine pur ?_
    refine Wp.draw rfl [0,1,2,3,4,5,6,7,8,9,10,11,12,13] 12 12 (gM wb ta t.length tc rb t.length rc na nn nc ca cn cc da dn dc sb cb tb ref gs ga ks B) rfl (by decide +kernel) (fun _ s => s.tail) ?_
    refine pur ?_
    refine S.idx 0 rfl rfl rfl rfl hl0 ?_
    refine S.load (v := .int .i64 (r0 : Nat)) rfl rfl (by infer_instance) (hE4.app [_, _, _, _]) ?_
    refine S.idx r0 rfl rfl rfl rfl hr0 ?_
    refine S.load (v := .int .i64 (refAt ref r0)) rfl rfl (by infer_instance) (own_ent 1 r0 rfl (ints_get (by omega))) ?_
    refine WpO.buildSlice rfl rfl rfl rfl rfl rfl rfl (fun _ => Keeps.by fun _ s => s.tail.tail) fun b42 => ?_
    refine WpO.appendLit 0 [[.int .i64 (refAt ref r0)]] rfl rfl rfl rfl (hvl j hj).symm rfl rfl rfl rfl rfl rfl rfl (by rw [hvl j hj]; simp; omega) (fun _ _ => Keeps.last) fun a2 k2 => ?_
    dsimp only [List.set]
    rw [hvs, hvl _ hjl]
    refine pur ?_
    rw [hwr j (by omega)]
    exact Round.mk (j + 1, a2, k2) (by show _ - (j + 1) < _ - j; omega) hjl ⟨rfl, rfl, rfl, rfl, rfl, rfl, rfl, rfl, trivial⟩ (LeL.refl _)
  have hjl : R.length = j := by have := of_decide_eq_false h; omega
  subst hjl
  rw [List.take_length]
  have hvl : (varsG ref R).length = R.length := by simp [varsG]
  obtain ⟨U, hU⟩ : ∃ U, usesG t ref R = U := ⟨_, rfl⟩
  have hUl : U.length ≤ 36000000 := by have := usesG_len hw hi ref; rw [hR, hU] at this; exact this
  have hUr : R.flatMap (useR t ref (varsG ref R)) = U := hU
  obtain ⟨vars, hvars⟩ : ∃ vars, varsG ref R = vars := ⟨_, rfl⟩
  rw [hvars] at hvl hUr ⊢
  have hpl : ∀ l : List (Int × Int), (pairRows l).length = l.length := fun l => by simp [pairRows]
  refine pur ?_
  refine Wp.loopI (α := Nat × List (Int × Int) × Option Addr × Nat) (0, [], none, 0)
    (fun z => [(0, .v (.pointer (some ⟨wb, 0, none⟩))), (1, .v (.int .i64 i)), (4, .v (.slice va R.length vk)), (5, .v (.slice z.2.2.1 z.2.1.length z.2.2.2)), (45, .v (.slice fa R.length fc)), (46, .v (.int .i64 R.length)), (47, .v (.int .i64 z.1))])
    (fun z => ownA 104 2 z.2.2.1 z.2.2.2 (pairRows z.2.1) :: ownA 3 1 va vk (ints vars) :: gM wb ta t.length tc rb t.length rc na nn nc ca cn cc da dn dc sb cb tb ref gs ga ks B)
    (fun z => R.length - z.1) (fun z => z.1 ≤ R.length ∧ z.2.1 ++ (R.drop z.1).flatMap (useR t ref vars) = U) ⟨Nat.zero_le _, hUr⟩ ⟨rfl, rfl, rfl, rfl, rfl, rfl, rfl, trivial⟩ (fun k s => Sat.ownNil s) ?_
  rintro ⟨j, u, ua, uc⟩ ⟨hj, hu⟩
  simp only [] at hj hu ⊢
  refine pur ?_
  refine Wp.branch rfl (fun h => ?_) (fun h => ?_)
  · have hjl : j < R.length := by have := of_decide_eq_true h; omega
    obtain ⟨l, hl⟩ : ∃ l, R[j]? = some l := ⟨_, List.getElem?_eq_getElem hjl⟩
    obtain ⟨hne, hlt⟩ := f1 l (List.mem_of_getElem? hl)
    have hll := f4 l (List.mem_of_getElem? hl)
    obtain ⟨fb, fo, la, lc, e1, hE3, hS⟩ := hGB.at hl
    subst e1
    obtain ⟨v, hv⟩ : ∃ v, refAt ref (gOf l 0) = v := ⟨_, rfl⟩
    have hvj : vars[j]? = some v := by rw [← hvars]; unfold varsG; rw [List.getElem?_map, hl]; simp [hv]
    rw [drop_get hl, List.flatMap_cons] at hu
    generalize hrest : (R.drop (j + 1)).flatMap (useR t ref vars) = rest at hu
    unfold useR at hu
    rw [hv] at hu
    refine pur ?_
    refine S.idx j rfl rfl rfl rfl hjl ?_
    refine S.load (v := .slice la l.length lc) rfl rfl (by infer_instance) (hE3.app [_, _, _, _, _, _]) ?_
    refine pur ?_
    refine Wp.loopI (α := Nat × List (Int × Int) × Option Addr × Nat) (0, u, ua, uc)
      (fun z => [(0, .v (.pointer (some ⟨wb, 0, none⟩))), (1, .v (.int .i64 i)), (4, .v (.slice va R.length vk)), (5, .v (.slice z.2.2.1 z.2.1.length z.2.2.2)), (45, .v (.slice (some ⟨fb, fo, none⟩) R.length fc)), (46, .v (.int .i64 R.length)), (47, .v (.int .i64 j)), (9, .v (.int .i64 j)), (52, .v (.slice la l.length lc)), (53, .v (.int .i64 l.length)), (54, .v (.int .i64 z.1))])
      (fun z => ownA 104 2 z.2.2.1 z.2.2.2 (pairRows z.2.1) :: ownA 3 1 va vk (ints vars) :: gM wb ta t.length tc rb t.length rc na nn nc ca cn cc da dn dc sb cb tb ref gs ga ks B)
      (fun z => l.length - z.1) (fun z => z.1 ≤ l.length ∧ z.2.1 ++ ((l.drop z.1).flatMap (useC t ref vars v) ++ rest) = U) ⟨Nat.zero_le _, hu⟩ ⟨rfl, rfl, rfl, rfl, rfl, rfl, rfl, rfl, rfl, rfl, rfl, trivial⟩ (LeL.refl _) ?_
    clear hu
    rintro ⟨q, u, ua, uc⟩ ⟨hq, hu⟩
    simp only [] at hq hu ⊢
    refine pur ?_
    refine Wp.branch rfl (fun h2 => ?_) (fun h2 => ?_)
    · have hql : q < l.length := by have := of_decide_eq_true h2; omega
      have hk := gOf_get hql
      generalize hce : gOf l q = c at hk
      have hct := hlt c (List.mem_of_getElem? hk)
      obtain ⟨lb, lo, e2, hE4⟩ := nat_at hS hk
      subst e2
      rw [drop_get hk, List.flatMap_cons, List.append_assoc] at hu
      generalize hrest2 : (l.drop (q + 1)).flatMap (useC t ref vars v) ++ rest = rest2 at hu
      unfold useC at hu
      have hbl := beginN_lt hw (c + 1) c hct
      obtain ⟨tb1, tp, ka1, kc1, et, _, _⟩ := hw.at hT hct
      refine pur ?_
      refine S.idx q rfl rfl rfl rfl hql ?_
      refine S.load (v := .int .i64 (c : Nat)) rfl rfl (by infer_instance) (hE4.app [_, _, _, _, _, _]) ?_
      refine pur ?_
      refine S.loadN (vs := [.slice ta t.length tc]) rfl rfl (Ent.pt 2 1 rfl rfl) rfl ?_
      refine pur ?_
      refine WpO.call Try.call50 rfl rfl (begin_ct t ta tc c _ (hTB.wk fun k s => Sat.drop [_, _, _, _, _, _] s) hw hct) fun r L' ⟨e1, e2⟩ => ⟨Keeps.none, ?_⟩
      subst e1; subst e2
      refine pur ?_
      refine Wp.loopI (α := Nat × List (Int × Int) × Option Addr × Nat) (beginF t c, u, ua, uc)
        (fun z => [(0, .v (.pointer (some ⟨wb, 0, none⟩))), (1, .v (.int .i64 i)), (4, .v (.slice va R.length vk)), (5, .v (.slice z.2.2.1 z.2.1.length z.2.2.2)), (45, .v (.slice (some ⟨fb, fo, none⟩) R.length fc)), (46, .v (.int .i64 R.length)), (47, .v (.int .i64 j)), (9, .v (.int .i64 j)), (52, .v (.slice (some ⟨lb, lo, none⟩) l.length lc)), (53, .v (.int .i64 l.length)), (54, .v (.int .i64 q)), (12, .v (.int .i64 c)), (13, .v (.int .i64 z.1))])
        (fun z => ownA 104 2 z.2.2.1 z.2.2.2 (pairRows z.2.1) :: ownA 3 1 va vk (ints vars) :: gM wb ta t.length tc rb t.length rc na nn nc ca cn cc da dn dc sb cb tb ref gs ga ks B)
        (fun z => c - z.1) (fun z => z.1 ≤ c ∧ z.2.1 ++ (((List.range c).drop z.1).flatMap (useK t ref vars v) ++ rest2) = U) ⟨hbl, hu⟩ ⟨rfl, rfl, rfl, rfl, rfl, rfl, rfl, rfl, rfl, rfl, rfl, rfl, rfl, trivial⟩ (LeL.refl _) ?_
      clear hu
      rintro ⟨k, u, ua, uc⟩ ⟨hk1, hu⟩
      simp only [] at hk1 hu ⊢
      refine pur ?_
      refine Wp.branch rfl (fun h3 => ?_) (fun h3 => ?_)
      · have hkc : k < c := by have := of_decide_eq_true h3; omega
        have hkt : k < t.length := by omega
        rw [drop_get (x := k) (by rw [List.getElem?_range hkc]), List.flatMap_cons, List.append_assoc] at hu
        refine Wp.know (fun k hs => own_know 1 rfl hs) fun hvk => ?_
        obtain ⟨tb2, tp2, ka, kc, et2, hE, _⟩ := hw.at hTB hkt
        rw [et2] at et ⊢
        simp only [Option.some.injEq, Addr.mk.injEq, and_true] at et
        obtain ⟨rfl, rfl⟩ := et
        have hE := hE.app [ownA 104 2 ua uc (pairRows u), ownA 3 1 va vk (ints vars), ptA wb 61 (hdrW (some ⟨tb2, tp2, none⟩) t.length tc (some ⟨rb, 0, none⟩) t.length rc na nn nc ca cn cc da dn dc ga.1 gs.length ga.2 sb cb tb), ownA 3 1 (some ⟨rb, 0, none⟩) rc (ints ref), ownA 42 2 ga.1 ga.2 (grRows gs ks), listsI (vlists gs) ks]
        refine pur ?_
        refine S.idx k rfl rfl rfl rfl hkt ?_
        refine pur ?_
        refine G.idx k rfl rfl rfl (by infer_instance) rfl (by infer_instance) (fun _ => ⟨rfl, hkt⟩) ?_
        refine pur ?_
        refine G.loadIf (v := .int .i64 (refAt ref k)) rfl rfl rfl (by infer_instance) (by infer_instance) (fun _ => own_ent 3 k rfl (ints_get (by omega))) ?_
        refine pur ?_
        refine WpO.callqg (v := .bool (decide (refAt ref k ∈ vars))) Try.call51 rfl rfl (.cons rfl (by infer_instance) (.cons rfl (by infer_instance) .nil)) (fun _ => contains_ct vars R.length hvl (refAt ref k) va vk _ (Sl.own 1 rfl hvk) (by omega)) Keeps.none ?_
        refine pur ?_
        refine Wp.branch rfl (fun h4 => ?_) (fun h4 => ?_)
        · have h4 : opN t k = 1 ∧ refAt ref k ∈ vars := by simpa using h4
          have huk : useK t ref vars v k = [(v, refAt ref k)] := by unfold useK; rw [if_pos h4]
          rw [huk] at hu
          have hul : u.length < 36000001 := by
            have := congrArg List.length hu
            simp only [List.length_append] at this
            omega
          refine Wp.know (fun k hs => own_some 1 rfl hs (by rw [ints_length]; omega)) fun ⟨vb, vo, e5⟩ => ?_
          subst e5
          have hvg : (ints vars)[j]? = some [.int .i64 v] := by unfold ints; rw [List.getElem?_map, hvj]; rfl
          refine Wp.draw rfl [0,1,2,3,4,5,6,7,8,9,10,11,12,13,14,15,16] 15 15 (ownA 3 1 (some ⟨vb, vo, none⟩) vk (ints vars) :: gM wb (some ⟨tb2, tp2, none⟩) t.length tc rb t.length rc na nn nc ca cn cc da dn dc sb cb tb ref gs ga ks B) rfl (by decide +kernel) (fun _ s => s.tail) ?_
          refine pur ?_
          refine S.idx j rfl rfl rfl rfl (by omega) ?_
          refine S.load (v := .int .i64 v) rfl rfl (by infer_instance) (own_ent 0 j rfl hvg) ?_
          refine pur ?_
          refine S.idx k rfl rfl rfl rfl hkt ?_
          refine S.load (v := .int .i64 (refAt ref k)) rfl rfl (by infer_instance) (own_ent 2 k rfl (ints_get (by omega))) ?_
          refine pur ?_
          refine S.build rfl rfl rfl ?_
          refine pur ?_
          refine WpO.buildSlice rfl rfl rfl rfl rfl rfl rfl (fun _ => Keeps.by fun _ s => s.tail.tail) fun b42 => ?_
          refine WpO.appendLit 0 [[.int .i64 v, .int .i64 (refAt ref k)]] rfl rfl rfl rfl (hpl u).symm rfl rfl rfl rfl rfl rfl rfl (by rw [hpl]; simp; omega) (fun _ _ => Keeps.last) fun a2 k2 => ?_
          dsimp only [List.set]
          have hps : pairRows u ++ [[.int .i64 v, .int .i64 (refAt ref k)]] = pairRows (u ++ [(v, refAt ref k)]) := by simp [pairRows]
          rw [hps, hpl]
          refine pur ?_
          rw [hwr k (by omega)]
          exact Round.mk (k + 1, u ++ [(v, refAt ref k)], a2, k2) (by show _ - (k + 1) < _ - k; omega) ⟨by show k + 1 ≤ _; omega, by rw [List.append_assoc]; exact hu⟩ ⟨rfl, rfl, rfl, rfl, rfl, rfl, rfl, rfl, rfl, rfl, rfl, rfl, rfl, trivial⟩ (LeL.refl _)
        · have huk : useK t ref vars v k = [] := by unfold useK; rw [if_neg (by simpa using h4)]
          rw [huk, List.nil_append] at hu
          refine pur ?_
          rw [hwr k (by omega)]
          exact Round.mk (k + 1, u, ua, uc) (by show _ - (k + 1) < _ - k; omega) ⟨by show k + 1 ≤ _; omega, hu⟩ ⟨rfl, rfl, rfl, rfl, rfl, rfl, rfl, rfl, rfl, rfl, rfl, rfl, rfl, trivial⟩ (LeL.refl _)
      · have hkc : k = c := by have := of_decide_eq_false h3; omega
        rw [hkc, List.drop_of_length_le (by simp)] at hu
        refine pur ?_
        rw [hwr q (by omega)]
        exact Round.mk (q + 1, u, ua, uc) (by show _ - (q + 1) < _ - q; omega) ⟨by show q + 1 ≤ _; omega, by rw [← hrest2] at hu; exact hu⟩ ⟨rfl, rfl, rfl, rfl, rfl, rfl, rfl, rfl, rfl, rfl, rfl, trivial⟩ (LeL.refl _)
    · have hql : q = l.length := by have := of_decide_eq_false h2; omega
      rw [hql, List.drop_length] at hu
      refine pur ?_
      rw [hwr j (by omega)]
      exact Round.mk (j + 1, u, ua, uc) (by show _ - (j + 1) < _ - j; omega) ⟨by show j + 1 ≤ _; omega, by rw [← hrest] at hu; exact hu⟩ ⟨rfl, rfl, rfl, rfl, rfl, rfl, rfl, trivial⟩ (LeL.refl _)
  have hjl : j = R.length := by have := of_decide_eq_false h; omega
  rw [hjl, List.drop_length] at hu
  have hu : u = U := by simpa using hu
  subst hu
  refine Wp.know (fun k hs => own_know 1 rfl hs) fun hvk => ?_
  refine Wp.know (fun k hs => own_know 0 rfl hs) fun huk => ?_
  refine pur ?_
  refine WpO.call Try.call52 rfl rfl (groups2_ct vars u R.length u.length hvl rfl va ua vk uc _ (Sl.own 1 rfl hvk) (Sl.own 0 rfl huk) (by omega) (by omega)) fun v L' ⟨oa, oc, ks2, e, e1, e3, e2⟩ => ⟨Keeps.none, ?_⟩
  subst e1; subst e2
  have hgF : groupF t ref i = (groupsG vars u).map fun l => ((i : Int), l) := by unfold groupF; rw [hR, hU, hvars]
  have hggl := groupsG_len vars u
  generalize hG : groupsG vars u = gg at *
  obtain ⟨Gf, hGf⟩ : ∃ Gf : Nat → List Grp, ∀ j, Gf j = gs ++ (gg.take j).map fun l => ((i : Int), l) := ⟨_, fun _ => rfl⟩
  have hG0 : Gf 0 = gs := by rw [hGf]; simp
  have hGl : ∀ j, j ≤ gg.length → (Gf j).length = gs.length + j := fun j h => by rw [hGf]; simp; omega
  refine pur ?_
  refine Wp.loopI (α := Nat × Option Addr × Nat) (0, ga)
    (fun x => [(0, .v (.pointer (some ⟨wb, 0, none⟩))), (1, .v (.int .i64 i)), (117, .v (.slice oa gg.length oc)), (118, .v (.int .i64 gg.length)), (119, .v (.int .i64 x.1))])
    (fun x => ptA wb 61 (hdrW ta t.length tc (some ⟨rb, 0, none⟩) t.length rc na nn nc ca cn cc da dn dc x.2.1 (Gf x.1).length x.2.2 sb cb tb) :: ownA 3 1 (some ⟨rb, 0, none⟩) rc (ints ref) :: ownA 42 2 x.2.1 x.2.2 (grRows (Gf x.1) (ks ++ ks2.take x.1)) :: ownA 26 1 oa oc (gridI gg ks2) :: listsI (vlists gs) ks :: listsI gg ks2 :: B)
    (fun x => gg.length - x.1) (fun x => x.1 ≤ gg.length) (Nat.zero_le _) ⟨rfl, rfl, rfl, rfl, rfl, trivial⟩ (fun k s => ?_) ?_
  · simp only [hG0, List.take_zero, List.append_nil]
    exact Sat.sel (T := B) 8 (M := [_, _, _, _, _, _, _, _]) (M' := [_, _, _, _, _, _]) [4, 5, 6, 0, 7, 1] rfl s
  rintro ⟨j, va2, vk2⟩ hj
  simp only [] at hj ⊢
  have hgrl : (grRows (Gf j) (ks ++ ks2.take j)).length = (Gf j).length := grRows_length (by rw [hGl j hj]; simp; omega)
  refine pur ?_
  refine Wp.branch rfl (fun h => ?_) (fun h => ?_)
  · have hjl : j < gg.length := by have := of_decide_eq_true h; omega
    obtain ⟨l, hl⟩ : ∃ l, gg[j]? = some l := ⟨_, List.getElem?_eq_getElem hjl⟩
    obtain ⟨k0, hk0⟩ : ∃ k0, ks2[j]? = some k0 := ⟨_, List.getElem?_eq_getElem (by omega)⟩
    have hrow : (gridI gg ks2)[j]? = some [.slice k0.1 l.length k0.2] := by unfold gridI; rw [List.getElem?_zipWith, hl, hk0]
    refine Wp.know (fun k hs => own_some 3 rfl hs (by rw [gridI_length e3]; omega)) fun ⟨ob, oo, e5⟩ => ?_
    subst e5
    refine pur ?_
    refine S.idx j rfl rfl rfl rfl hjl ?_
    refine S.load (v := .slice k0.1 l.length k0.2) rfl rfl (by infer_instance) (own_ent 3 j rfl hrow) ?_
    refine pur ?_
    refine S.build rfl rfl rfl ?_
    refine WpO.buildSlice rfl rfl rfl rfl rfl rfl rfl (fun _ => Keeps.none) fun b42 => ?_
    refine WpO.appendLit 2 [[.int .i64 (i : Int), .slice k0.1 l.length k0.2]] rfl rfl rfl rfl hgrl.symm rfl rfl rfl rfl rfl rfl rfl (by rw [hgrl, hGl j hj]; simp; omega) (fun _ _ => Keeps.none) fun a2 k2 => ?_
    dsimp only [List.set]
    have hsn := grRows_snoc (gs := Gf j) (ks := ks ++ ks2.take j) (by rw [hGl j hj]; simp; omega) (i : Int) l k0
    have hG1 : Gf j ++ [((i : Int), l)] = Gf (j + 1) := by rw [hGf, hGf, List.take_add_one, hl]; simp
    have hk1 : (ks ++ ks2.take j) ++ [k0] = ks ++ ks2.take (j + 1) := by rw [List.take_add_one, hk0]; simp
    rw [hG1, hk1] at hsn
    rw [hsn]
    have hgrl1 : (grRows (Gf (j + 1)) (ks ++ ks2.take (j + 1))).length = (Gf (j + 1)).length := grRows_length (by rw [hGl _ hjl]; simp; omega)
    rw [hgrl1]
    refine pur ?_
    rw [hwr j (by omega)]
    exact Round.mk (j + 1, a2, k2) (by show _ - (j + 1) < _ - j; omega) hjl ⟨rfl, rfl, rfl, rfl, rfl, trivial⟩ (LeL.refl _)
  have hjl : j = gg.length := by have := of_decide_eq_false h; omega
  subst hjl
  have hGe : Gf gg.length = gs ++ groupF t ref i := by rw [hGf, List.take_length, hgF]
  rw [hGe]
  rw [show ks2.take gg.length = ks2 by rw [← e3, List.take_length]]
  refine pur ?_
  refine RetNL rfl (fun k s => ?_) ⟨rfl, (va2, vk2), ks ++ ks2, ?_, rfl⟩
  · have s1 := Sat.sel (T := B) 6 (M := [_, _, _, _, _, _]) (M' := [_, _, _, _, _]) [0, 1, 2, 4, 5] rfl s
    have hvl3 : vlists (gs ++ groupF t ref i) = vlists gs ++ gg := by rw [hgF]; simp [vlists, Function.comp_def]
    unfold gM
    rw [hvl3]
    exact Sat.cons_mono (fun k s => Sat.cons_mono (fun k s => Sat.cons_mono (fun k s => Sat.cons_mono hBM (listsI_app (by simp [vlists]; omega) s)) s) s) s1
  · rw [hgF]; simp; omega
end Go.Proofs.Ytibkdjjdfcpdaaa
end

section
/- rename.builtin, slices.Clone. -/
namespace Go.Ab
section
variable {P : Program} {E : Env} {L : List Assn} {ty : TypeId} {pos : String} {af : Array Edge} {x y : Operand} {t et : TypeId} {c1 c2 g : Bool} {a : Option Addr} {ln cp : Nat}
theorem run_eqSN {w : World} (hu : P.underlying t = some (.slice et)) : (Op.equal t (.slice a ln cp) (.slice none 0 0)).run P w = .ok a.isNone w := by
  unfold Op.equal
  rw [show Op.maxDepth = 9999 + 1 from rfl]
  unfold Op.equalIn
  rw [run_ok (run_u hu w)]
  cases a <;> rfl
theorem Qt.snil {d : Option Tmp} {gd : Option (Nat × Bool)} {u : TypeId} (hu : P.underlying t = some (.slice et)) (hx : opv x E = some (c1, .slice a ln cp)) [Imp g c1] (hy : opv y E = some (c2, .slice none 0 0)) [Imp g c2] : Qt P E L ⟨d, .binOp .eql t x y u, ty, pos, af, gd⟩ g (.bool a.isNone) :=
  .of2 (fun ρ w h1 h2 => by
    simp only [execOp, h1, h2]
    refine run_v ?_
    rw [run_ok (run_eqGuard (by cases a <;> simp) (by simp) w)]
    show (do pure (Value.bool (← Op.equal t (.slice a ln cp) (.slice none 0 0))) : Sem Value).run P w = _
    rw [run_ok (run_eqSN hu)]; rfl) (EvG.of hx) (EvG.of hy)
end
attribute [local irreducible] Wp WpO Qt OpT Ct
section
variable {P : Program} {n : Nat} {Q : Post} {E : Env} {D : List Deferred} {L : List Assn} {ops : Array Oper} {rest : List Oper} {m m' : Md} {d : Nat} {ty : TypeId} {pos : String} {af : Array Edge} {x y : Operand} {t et : TypeId} {a : Option Addr} {ln cp : Nat}
theorem S.snil [Nxt m m'] {u : TypeId} (hu : P.underlying t = some (.slice et)) (hdn : Nat.blt d n = true) (hx : opv x E = some (true, .slice a ln cp)) (hy : opv y E = some (true, .slice none 0 0))
    (h : WpO P n ops Q m' rest ((d, .v (.bool a.isNone)) :: E) D L) : WpO P n ops Q m (⟨some d, .binOp .eql t x y u, ty, pos, af, none⟩ :: rest) E D L := WpO.q rfl hdn (Qt.snil hu hx hy) h
end
end Go.Ab
namespace Go.Proofs.Ytibkdjjdfcpdaaa
open Go Go.Ab
attribute [local irreducible] Wp WpO Qt OpT Ct
/-- The name of a tuple's constructor. -/
def tupName (n : Nat) : List UInt8 := 40 :: (List.replicate (n - 1) 44 ++ [41])
def bNames : List (List UInt8) := [[113, 117, 111, 116], [114, 101, 109], [111, 114, 100], [99, 104, 114], [101, 114, 114, 111, 114], [110, 101, 103, 97, 116, 101]]
def bCons0 : List CN := [([70, 97, 108, 115, 101], 0, 2), ([84, 114, 117, 101], 0, 2), ([40, 41], 0, 3), ([91, 93], 0, 4), ([58], 2, 4)]
def bDatas0 : List DN := [([73, 110, 116], 0), ([67, 104, 97, 114], 0), ([66, 111, 111, 108], 0), ([40, 41], 0), ([91, 93], 1), ([45, 62], 2)]
def bConsK (k : Nat) : List CN := bCons0 ++ (List.range k).map fun j => (tupName (j + 2), ((j + 2 : Nat) : Int), ((j + 6 : Nat) : Int))
def bDatasK (k : Nat) : List DN := bDatas0 ++ (List.range k).map fun j => (tupName (j + 2), ((j + 2 : Nat) : Int))
def bCons : List CN := bConsK 7
def bDatas : List DN := bDatasK 7
theorem bConsK_len (k : Nat) : ((bConsK k).map conRow).length = 5 + k := by simp [bConsK, bCons0]; omega
theorem bDatasK_len (k : Nat) : ((bDatasK k).map datRow).length = 6 + k := by simp [bDatasK, bDatas0]; omega
theorem bConsK_succ (k : Nat) : bConsK (k + 1) = bConsK k ++ [(tupName (k + 2), ((k + 2 : Nat) : Int), ((k + 6 : Nat) : Int))] := by simp [bConsK, List.range_succ]
theorem bDatasK_succ (k : Nat) : bDatasK (k + 1) = bDatasK k ++ [(tupName (k + 2), ((k + 2 : Nat) : Int))] := by simp [bDatasK, List.range_succ]
set_option maxHeartbeats 8000000 in
theorem rbuiltin_ct (L : List Assn) :
    Ct Try.prog 15 #[] L (ret fun v L' => ∃ na ca da : Option Addr × Nat, v = .agg #[.slice none 0 0, .slice none 0 0, .slice na.1 6 na.2, .slice ca.1 12 ca.2, .slice da.1 13 da.2, .slice none 0 0] ∧
      L' = ownA 9 1 na.1 na.2 (strRs bNames) :: ownA 48 3 ca.1 ca.2 (bCons.map conRow) :: ownA 50 2 da.1 da.2 (bDatas.map datRow) :: L) := by
  refine Ct.bodyC Try.func15 rfl Try.ntmps15 Try.results15 rfl ?_
  refine pur ?_
  refine WpO.alloc rfl rfl (fun _ => Keeps.none) fun b0 => ?_
  refine pur ?_
  refine WpO.buildSlice rfl rfl rfl rfl rfl rfl rfl (fun _ => Keeps.none) fun bn => ?_
  refine S.build rfl rfl rfl ?_
  refine S.build rfl rfl rfl ?_
  refine S.build rfl rfl rfl ?_
  refine S.build rfl rfl rfl ?_
  refine S.build rfl rfl rfl ?_
  refine WpO.buildSlice rfl rfl rfl rfl rfl rfl rfl (fun _ => Keeps.none) fun bc => ?_
  refine S.build rfl rfl rfl ?_
  refine S.build rfl rfl rfl ?_
  refine S.build rfl rfl rfl ?_
  refine S.build rfl rfl rfl ?_
  refine S.build rfl rfl rfl ?_
  refine S.build rfl rfl rfl ?_
  refine WpO.buildSlice rfl rfl rfl rfl rfl rfl rfl (fun _ => Keeps.none) fun bd => ?_
  refine S.build rfl rfl rfl ?_
  refine WpO.alloc rfl rfl (fun _ => Keeps.none) fun b1 => ?_
  refine pur ?_
  have hz : ([.slice none 0 0, .slice none 0 0, .slice none 0 0, .slice none 0 0, .slice none 0 0, .slice none 0 0] : List Value) = [.slice none 0 0, .slice none 0 0, .slice none 0 0, .slice none 0 0, .slice none 0 0, .slice none 0 0] := rfl
  refine Wp.loopI (α := Nat × (Option Addr × Nat) × (Option Addr × Nat)) (0, (some ⟨bc, 0, none⟩, 5), (some ⟨bd, 0, none⟩, 6))
    (fun x => [(0, .v (.pointer (some ⟨b0, 0, none⟩))), (1, .v (.pointer (some ⟨b1, 0, none⟩))), (2, .v (.int .i64 ((x.1 + 2 : Nat) : Int)))])
    (fun x => ptA b1 32 [.slice none 0 0, .slice none 0 0, .slice (some ⟨bn, 0, none⟩) 6 6, .slice x.2.1.1 (5 + x.1) x.2.1.2, .slice x.2.2.1 (6 + x.1) x.2.2.2, .slice none 0 0] ::
      ptA b0 32 [.slice none 0 0, .slice none 0 0, .slice none 0 0, .slice none 0 0, .slice none 0 0, .slice none 0 0] :: ownA 9 1 (some ⟨bn, 0, none⟩) 6 (strRs bNames) ::
      ownA 48 3 x.2.1.1 x.2.1.2 ((bConsK x.1).map conRow) :: ownA 50 2 x.2.2.1 x.2.2.2 ((bDatasK x.1).map datRow) :: L)
    (fun x => 7 - x.1) (fun x => x.1 ≤ 7) (Nat.zero_le _) ⟨rfl, rfl, rfl, trivial⟩ (fun k s => ?_) ?_
  · have s1 := Sat.sel (T := L) 5 (M := [_, _, _, _, _]) (M' := [_, _, _, _, _]) [0, 4, 3, 2, 1] rfl s
    refine Sat.cons_mono (fun k s => Sat.cons_mono (fun k s => ?_) s) s1
    refine LeL.head (fun _ hk => ownA.ofPt (by rfl) (by intro r hr; simp [bNames, strRs] at hr; rcases hr with rfl | rfl | rfl | rfl | rfl | rfl <;> rfl) rfl hk) k (Sat.cons_mono (fun k s => ?_) s)
    refine LeL.head (fun _ hk => ownA.ofPt (by rfl) (by intro r hr; simp [bConsK, bCons0, conRow] at hr; rcases hr with rfl | rfl | rfl | rfl | rfl <;> rfl) rfl hk) k (Sat.cons_mono (fun k s => ?_) s)
    exact LeL.head (fun _ hk => ownA.ofPt (by rfl) (by intro r hr; simp [bDatasK, bDatas0, datRow] at hr; rcases hr with rfl | rfl | rfl | rfl | rfl | rfl <;> rfl) rfl hk) k s
  rintro ⟨k, ⟨ca, cc⟩, ⟨da, dc⟩⟩ hk
  simp only [] at hk ⊢
  refine pur ?_
  refine Wp.branch rfl (fun h => ?_) (fun h => ?_)
  · have hk7 : k < 7 := by have := of_decide_eq_true h; omega
    have hrp := repeat_ct ⟨#[44]⟩ (k + 1) (ptA b1 32 [.slice none 0 0, .slice none 0 0, .slice (some ⟨bn, 0, none⟩) 6 6, .slice ca (5 + k) cc, .slice da (6 + k) dc, .slice none 0 0] ::
      ptA b0 32 [.slice none 0 0, .slice none 0 0, .slice none 0 0, .slice none 0 0, .slice none 0 0, .slice none 0 0] :: ownA 9 1 (some ⟨bn, 0, none⟩) 6 (strRs bNames) ::
      ownA 48 3 ca cc ((bConsK k).map conRow) :: ownA 50 2 da dc ((bDatasK k).map datRow) :: L) (by omega) (by show 1 * (k + 1) ≤ _; omega)
    rw [show (⟨#[44]⟩ : ByteArray).data.toList = [44] from rfl, repeatL_comma] at hrp
    refine pur ?_
    rw [show IntKind.i64.wrap (((k + 2 : Nat) : Int) - 1) = ((k + 1 : Nat) : Int) by rw [wrap_id (by omega) (by omega)]; omega]
    refine WpO.call Try.call38 rfl rfl hrp fun v L' ⟨e1, e2⟩ => ⟨Keeps.none, ?_⟩
    subst e1; subst e2
    have hl1 : (bs (ofL (List.replicate (k + 1) 44))).length = k + 1 := by rw [bs_ofL, List.length_replicate]
    refine S.sadd (b := ofL (List.replicate (k + 1) 44)) rfl rfl rfl (by rw [hl1]; show 1 + _ < _; omega) ?_
    refine S.sadd rfl rfl rfl (by rw [bs_append, List.length_append, hl1]; show 1 + _ + 1 < _; omega) ?_
    have hnm : (⟨#[40]⟩ : ByteArray) ++ ofL (List.replicate (k + 1) 44) ++ ⟨#[41]⟩ = ofL (tupName (k + 2)) := by
      have e : bs ((⟨#[40]⟩ : ByteArray) ++ ofL (List.replicate (k + 1) 44) ++ ⟨#[41]⟩) = tupName (k + 2) := by
        rw [bs_append, bs_append, bs_ofL]; rfl
      rw [← e, ofL_bs]
    rw [hnm]
    generalize hnmg : ofL (tupName (k + 2)) = nm
    refine pur ?_
    rw [show IntKind.i64.wrap (4 + ((k + 2 : Nat) : Int)) = ((k + 6 : Nat) : Int) by rw [wrap_id (by omega) (by omega)]; omega]
    refine S.build rfl rfl rfl ?_
    refine WpO.buildSlice rfl rfl rfl rfl rfl rfl rfl (fun _ => Keeps.none) fun b35 => ?_
    refine WpO.appendLit 3 [[.string nm, .int .i64 ((k + 2 : Nat) : Int), .int .i64 ((k + 6 : Nat) : Int)]] rfl rfl rfl rfl (bConsK_len k).symm rfl rfl rfl rfl rfl rfl rfl (by rw [bConsK_len]; simp; omega) (fun _ _ => Keeps.none) fun a2 k2 => ?_
    dsimp only [List.set]
    have hc1 : (bConsK k).map conRow ++ [[.string nm, .int .i64 ((k + 2 : Nat) : Int), .int .i64 ((k + 6 : Nat) : Int)]] = (bConsK (k + 1)).map conRow := by rw [bConsK_succ, List.map_append, ← hnmg]; rfl
    rw [hc1, bConsK_len]
    refine pur ?_
    refine S.build rfl rfl rfl ?_
    refine WpO.buildSlice rfl rfl rfl rfl rfl rfl rfl (fun _ => Keeps.none) fun b35 => ?_
    refine WpO.appendLit 4 [[.string nm, .int .i64 ((k + 2 : Nat) : Int)]] rfl rfl rfl rfl (bDatasK_len k).symm rfl rfl rfl rfl rfl rfl rfl (by rw [bDatasK_len]; simp; omega) (fun _ _ => Keeps.none) fun a3 k3 => ?_
    dsimp only [List.set]
    have hd1 : (bDatasK k).map datRow ++ [[.string nm, .int .i64 ((k + 2 : Nat) : Int)]] = (bDatasK (k + 1)).map datRow := by rw [bDatasK_succ, List.map_append, ← hnmg]; rfl
    rw [hd1, bDatasK_len]
    refine pur ?_
    rw [show IntKind.i64.wrap (((k + 2 : Nat) : Int) + 1) = ((k + 3 : Nat) : Int) by rw [wrap_id (by omega) (by omega)]; omega]
    exact Round.mk (k + 1, (a2, k2), (a3, k3)) (by show 7 - (k + 1) < 7 - k; omega) hk7 ⟨rfl, rfl, rfl, trivial⟩ (LeL.refl _)
  have hk7 : k = 7 := by have := of_decide_eq_false h; omega
  subst hk7
  refine pur ?_
  refine S.loadN (vs := [.slice none 0 0, .slice none 0 0, .slice (some ⟨bn, 0, none⟩) 6 6, .slice ca 12 cc, .slice da 13 dc, .slice none 0 0]) rfl rfl (Ent.pt 0 6 rfl rfl) rfl ?_
  refine pur ?_
  exact Wp.ret (RetC 2 (.cons (.agg (vs := [.slice none 0 0, .slice none 0 0, .slice (some ⟨bn, 0, none⟩) 6 6, .slice ca 12 cc, .slice da 13 dc, .slice none 0 0]) rfl (by infer_instance) (Ent.pt 1 6 rfl rfl) rfl) .nil) ⟨(some ⟨bn, 0, none⟩, 6), (ca, cc), (da, dc), rfl, rfl⟩)
/-! ### slices.Clone -/
theorem sl_none {L : List Assn} {c sz : Nat} {rows : List (List Value)} (h : Sl L none c sz rows) : rows = [] := by
  obtain ⟨_, b, o, h1, _⟩ := h
  cases rows with
  | nil => rfl
  | cons r l => exact absurd (h1 (by simp)) (by simp)
theorem cloneInts_ct (l : List Int) (n : Nat) (hn : l.length = n) (a : Option Addr) (c : Nat) (L : List Assn) (hl : Sl L a c 1 (ints l)) (hb : n ≤ 1048576) :
    Ct Try.prog 18 #[.slice a n c] L (ret fun v L' => ∃ b k, v = .slice b n k ∧ L' = ownA 3 1 b k (ints l) :: L) := by
  subst hn
  refine Ct.body Try.func18 rfl Try.ntmps18 Try.results18 rfl ?_
  refine pur ?_
  refine S.snil Try.underlying26 rfl rfl rfl ?_
  refine pur ?_
  refine Wp.branch rfl (fun h => ?_) (fun h => ?_)
  · obtain rfl : a = none := by simpa using h
    have h0 : (ints l) = [] := sl_none hl
    rw [h0]
    have h1 : l.length = 0 := (by rw [← ints_length l, h0]; rfl)
    rw [h1]
    refine pur ?_
    exact Wp.ret (RetL rfl (fun k s => Sat.ownNil s) ⟨none, 0, rfl, rfl⟩)
  · refine pur ?_
    refine WpO.buildSlice rfl rfl rfl rfl rfl rfl rfl (fun _ => Keeps.none) fun b5 => ?_
    refine pur ?_
    refine WpO.parts (L' := ownA 3 1 (some ⟨b5, 0, none⟩) 0 [] :: L) (LeL.head fun _ hk => ownA.ofPt rfl (by simp) rfl hk) ?_
    refine WpO.append 0 (ints l) rfl rfl rfl rfl rfl (ints_length l).symm hl.cons rfl (by simp [ints, scalar]) rfl (by simp [ints]; omega) (fun _ _ => Keeps.none) fun a2 k2 => ?_
    dsimp only [List.set]
    refine pur ?_
    refine Wp.ret (Ret 0 rfl ⟨a2, k2, ?_, rfl⟩)
    simp [ints]
theorem cloneNodes_ct (rows : List (List Value)) (n : Nat) (hn : rows.length = n) (hr : rows.flatten.all scalar = true) (a : Option Addr) (c : Nat) (L : List Assn) (hl : Sl L a c 4 rows) (hb : n ≤ 1048576) :
    Ct Try.prog 17 #[.slice a n c] L (ret fun v L' => ∃ b k, v = .slice b n k ∧ L' = ownA 38 4 b k rows :: L) := by
  subst hn
  refine Ct.body Try.func17 rfl Try.ntmps17 Try.results17 rfl ?_
  refine pur ?_
  refine S.snil Try.underlying22 rfl rfl rfl ?_
  refine pur ?_
  refine Wp.branch rfl (fun h => ?_) (fun h => ?_)
  · obtain rfl : a = none := by simpa using h
    have h0 : rows = [] := sl_none hl
    subst h0
    refine pur ?_
    exact Wp.ret (RetL rfl (fun k s => Sat.ownNil s) ⟨none, 0, rfl, rfl⟩)
  · refine pur ?_
    refine WpO.buildSlice rfl rfl rfl rfl rfl rfl rfl (fun _ => Keeps.none) fun b5 => ?_
    refine pur ?_
    refine WpO.parts (L' := ownA 38 4 (some ⟨b5, 0, none⟩) 0 [] :: L) (LeL.head fun _ hk => ownA.ofPt rfl (by simp) rfl hk) ?_
    refine WpO.append 0 rows rfl rfl rfl rfl rfl rfl hl.cons rfl hr rfl (by simp; omega) (fun _ _ => Keeps.none) fun a2 k2 => ?_
    dsimp only [List.set]
    refine pur ?_
    refine Wp.ret (Ret 0 rfl ⟨a2, k2, ?_, rfl⟩)
    simp
end Go.Proofs.Ytibkdjjdfcpdaaa
end

section
/- rename.Resolve as a plain function; what a checked tree is like. -/
namespace Go.Proofs.Ytibkdjjdfcpdaaa
open Go Go.Ab
/-! ### What is known of a tree that is sound -/
theorem runs_node {good : List Int → Nd → Bool} {t : List Nd} : ∀ (x : List Nd) (i : Nat) (free out : List Nat), (∀ j ∈ free, j < i) → free.length ≤ i → runs good t x i free = some out → ∀ (j : Nat) (nd : Nd), x[j]? = some nd →
    ∃ fs : List Nat, nd.kids = natI fs ∧ (∀ k ∈ fs, k < i + j) ∧ fs.length ≤ i + j ∧ good (fs.map (opAt t)) nd = true ∧ (nd.op = 20 → i + j + 1 = t.length ∨ t.length ≤ i + j)
  | [], _, _, _, _, _, _, j, nd, hj => by simp at hj
  | nd0 :: x, i, free, out, hf, hl, h, j, nd, hj => by
    rw [runs] at h
    split at h
    · rename_i hc
      simp only [Bool.and_eq_true, decide_eq_true_eq, Bool.not_eq_true', Bool.and_eq_false_iff, decide_eq_false_iff_not] at hc
      obtain ⟨⟨⟨c1, c2⟩, c3⟩, c4⟩ := hc
      cases j with
      | zero =>
        obtain rfl : nd0 = nd := by simpa using hj
        refine ⟨_, c2, fun k hk => by have := hf k (List.mem_of_mem_drop hk); omega, by rw [List.length_drop]; omega, c4, fun h20 => ?_⟩
        rcases c3 with q | q
        · exact absurd h20 q
        · omega
      | succ j =>
        obtain ⟨fs, q1, q2, q3, q4, q5⟩ := runs_node x (i + 1) _ out (fun k hk => by
          rcases List.mem_append.1 hk with q | q
          · have := hf k (List.mem_of_mem_take q); omega
          · obtain rfl : k = i := by simpa using q
            omega) (by simp only [List.length_append, List.length_take, List.length_cons, List.length_nil]; omega) h j nd (by simpa using hj)
        exact ⟨fs, q1, fun k hk => by have := q2 k hk; omega, by omega, q4, fun h20 => by have := q5 h20; omega⟩
    · cases h
/-- A tree that is sound. -/
structure TreeOk (t : List Nd) : Prop where
  pos : 1 ≤ t.length
  len : t.length ≤ 6000
  top : opN t (t.length - 1) = 20
  node : ∀ i, i < t.length → (ndAt t i).kids = natI (kidsN t i) ∧ (∀ k ∈ kidsN t i, k < i) ∧ (kidsN t i).length ≤ i ∧ goodF ((kidsN t i).map (opAt t)) (ndAt t i) = true ∧ (opN t i = 20 → i + 1 = t.length)
theorem opAt_opN {t : List Nd} {i : Nat} (h : i < t.length) : opAt t i = opN t i := by
  unfold opAt opN; rw [nd_get h]; rfl
theorem treeOk_of {t : List Nd} (h : checkF goodF t = 0) : TreeOk t := by
  unfold checkF at h
  split at h
  · rename_i h1
    obtain ⟨h1, h2, h3⟩ := h1
    cases hr : runs goodF t t 0 [] with
    | none => rw [hr] at h; cases h
    | some out =>
      refine ⟨h1, h2, by rw [← opAt_opN (by omega)]; exact h3, fun i hi => ?_⟩
      obtain ⟨fs, q1, q2, q3, q4, q5⟩ := runs_node t 0 [] out nofun (Nat.le_refl _) hr i (ndAt t i) (nd_get hi)
      have hk : kidsN t i = fs := by unfold kidsN; rw [q1, natI_toNat]
      rw [hk]
      exact ⟨q1, fun k hk => by have := q2 k hk; omega, by omega, q4, fun h20 => by have := q5 h20; omega⟩
  · cases h
theorem TreeOk.wf {t : List Nd} (h : TreeOk t) : WF t := ⟨h.len, fun i hi => by obtain ⟨h1, h2, h3, _⟩ := h.node i hi; exact ⟨h1, h2, h3⟩⟩
theorem TreeOk.shaped {t : List Nd} (h : TreeOk t) : Shaped t := fun i hi hop => by
  obtain ⟨_, _, _, h4, _⟩ := h.node i hi
  rcases Nat.eq_zero_or_pos (kidsN t i).length with h0 | h0
  · exfalso
    rw [List.eq_nil_of_length_eq_zero h0] at h4
    unfold goodF at h4
    rw [Bool.and_eq_true, Bool.and_eq_true] at h4
    have h5 : shapedF (opN t i) [] = true := h4.1.1
    rcases hop with e | e | e | e | e <;> (rw [e] at h5; revert h5; decide)
  · exact h0
theorem check_two (t : List Nd) : checkF goodF t = 0 ∨ checkF goodF t = 7 := by
  unfold checkF
  split
  · split
    · split
      · exact .inl rfl
      · exact .inr rfl
    · exact .inr rfl
  · exact .inr rfl
/-- What number adds stands behind what there was. -/
theorem numFrom_grow {t : List Nd} {lt : List (Nat × Nat)} : ∀ (l : List Nat) (x y : Ns), numFrom t lt l x = some y → ∃ n c d, y.names = x.names ++ n ∧ y.cons = x.cons ++ c ∧ y.datas = x.datas ++ d ∧ y.ref.length = x.ref.length
  | [], x, y, h => by
    simp only [numFrom, Option.some.injEq] at h
    subst h; exact ⟨[], [], [], by simp, by simp, by simp, rfl⟩
  | i :: l, x, y, h => by
    unfold numFrom at h
    cases hs : numStep t lt x i with
    | none => rw [hs] at h; cases h
    | some z =>
      rw [hs] at h
      obtain ⟨n, c, d, h1, h2, h3, h4⟩ := numFrom_grow l z y h
      have : ∃ n c d, z.names = x.names ++ n ∧ z.cons = x.cons ++ c ∧ z.datas = x.datas ++ d ∧ z.ref.length = x.ref.length := by
        unfold numStep at hs
        split at hs
        · split at hs <;> (simp only [Option.some.injEq] at hs; subst hs)
          · exact ⟨[], [], [], by simp, by simp, by simp, by simp⟩
          · exact ⟨[textN t i], [], [], by simp, by simp, by simp, by simp⟩
        · split at hs
          · split at hs
            · cases hs
            · simp only [Option.some.injEq] at hs; subst hs
              exact ⟨[], [_], [], by simp, rfl, by simp, by simp⟩
          · split at hs
            · split at hs
              · cases hs
              · simp only [Option.some.injEq] at hs; subst hs
                exact ⟨[], [], [_], by simp, by simp, rfl, by simp⟩
            · simp only [Option.some.injEq] at hs; subst hs
              exact ⟨[], [], [], by simp, by simp, by simp, by simp⟩
      obtain ⟨n2, c2, d2, g1, g2, g3, g4⟩ := this
      exact ⟨n2 ++ n, c2 ++ c, d2 ++ d, by rw [h1, g1, List.append_assoc], by rw [h2, g2, List.append_assoc], by rw [h3, g3, List.append_assoc], by rw [h4, g4]⟩
theorem numberF_grow {t : List Nd} {x y : Ns} (h : numberF t x = some y) : ∃ n c d, y.names = x.names ++ n ∧ y.cons = x.cons ++ c ∧ y.datas = x.datas ++ d ∧ y.ref.length = t.length := by
  obtain ⟨n, c, d, h1, h2, h3, h4⟩ := numFrom_grow _ _ _ h
  exact ⟨n, c, d, h1, h2, h3, by rw [h4, List.length_replicate]⟩
/-! ### What Resolve answers -/
structure Bd where
  t : List Nd
  ref : List Int
  names : List (List UInt8)
  cons : List CN
  datas : List DN
  groups : List Grp
def Bd.nil : Bd := ⟨[], [], [], [], [], []⟩
def ns0 : Ns := ⟨[], bNames, bCons, bDatas⟩
def frm0 : Frm := ixs bNames 0
def mainS : List UInt8 := [109, 97, 105, 110]
def dataAll (t : List Nd) (datas : List DN) (i : Nat) (ref : List Int) : Option (List Int) := if opN t i = 21 then dataF t datas t.length i ref else some ref
def groupsAll (t : List Nd) (ref : List Int) (i : Nat) : List Grp := if opN t i = 18 ∨ opN t i = 20 then groupF t ref i else []
def resolveO (t : List Nd) : Option Bd :=
  match numberF t ns0 with
  | none => none
  | some y => match foldO (dataAll t y.datas) (List.range t.length) y.ref with
    | none => none
    | some r1 => match (resN t y.cons t.length).2 (t.length - 1) r1 [frm0] with
      | none => none
      | some s => match findR s.2 mainS with
        | none => none
        | some v => if v.2 = 1 ∧ 6 ≤ v.1 then some ⟨t, s.1, y.names, y.cons, y.datas, (List.range t.length).flatMap (groupsAll t s.1)⟩ else none
/-- What Resolve answers. -/
def resolveF (t : List Nd) : Bd × Int :=
  if checkF goodF t = 0 then (match resolveO t with
    | some b => (b, 0)
    | none => (Bd.nil, 9)) else (Bd.nil, 7)
end Go.Proofs.Ytibkdjjdfcpdaaa
end

section
/- rename.Resolve: the walk. -/
namespace Go.Proofs.Ytibkdjjdfcpdaaa
open Go Go.Ab
attribute [local irreducible] Wp WpO WpE Qt OpT Ct Ent
/-! ### Where a Bound lies -/
structure BA where
  ta : Option Addr × Nat
  ra : Option Addr × Nat
  na : Option Addr × Nat
  ca : Option Addr × Nat
  da : Option Addr × Nat
  ga : Option Addr × Nat
def BA.nil : BA := ⟨(none, 0), (none, 0), (none, 0), (none, 0), (none, 0), (none, 0)⟩
def bdCs (B : Bd) (A : BA) : List Value := [.slice A.ta.1 B.t.length A.ta.2, .slice A.ra.1 B.ref.length A.ra.2, .slice A.na.1 B.names.length A.na.2, .slice A.ca.1 B.cons.length A.ca.2, .slice A.da.1 B.datas.length A.da.2, .slice A.ga.1 B.groups.length A.ga.2]
def bdV (B : Bd) (A : BA) : Value := .agg (bdCs B A).toArray
def ndRs (t : List Nd) (ks : List (Option Addr × Nat)) : List (List Value) := List.zipWith ndRow t ks
def kidsL (t : List Nd) : List (List Int) := t.map Nd.kids
@[reducible] def bdM (B : Bd) (A : BA) (ks gks : List (Option Addr × Nat)) (L : List Assn) : List Assn :=
  ownA 38 4 A.ta.1 A.ta.2 (ndRs B.t ks) :: listsI (kidsL B.t) ks :: ownA 3 1 A.ra.1 A.ra.2 (ints B.ref) :: ownA 9 1 A.na.1 A.na.2 (strRs B.names) :: ownA 48 3 A.ca.1 A.ca.2 (B.cons.map conRow) :: ownA 50 2 A.da.1 A.da.2 (B.datas.map datRow) ::
    ownA 42 2 A.ga.1 A.ga.2 (grRows B.groups gks) :: listsI (vlists B.groups) gks :: L
/-- A Bound with memory of its own. -/
def bdA (B : Bd) (A : BA) : Assn := pkgA fun M => ∃ ks gks, ks.length = B.t.length ∧ gks.length = B.groups.length ∧ M = bdM B A ks gks []
theorem bdA_close {B : Bd} {A : BA} {ks gks : List (Option Addr × Nat)} {L : List Assn} {k : Hp} (h1 : ks.length = B.t.length) (h2 : gks.length = B.groups.length) (s : Sat k (bdM B A ks gks L)) : Sat k (bdA B A :: L) :=
  Sat.closeP (φ := fun M => ∃ ks gks : List (Option Addr × Nat), ks.length = B.t.length ∧ gks.length = B.groups.length ∧ M = bdM B A ks gks []) (M := bdM B A ks gks []) ⟨ks, gks, h1, h2, rfl⟩ s
theorem bdA_nil {L : List Assn} : LeL L (bdA Bd.nil BA.nil :: L) := fun k s =>
  bdA_close (ks := []) (gks := []) rfl rfl (Sat.ownNil (listsI_nil (Sat.ownNil (Sat.ownNil (Sat.ownNil (Sat.ownNil (Sat.ownNil (listsI_nil s))))))))
theorem ndRs_length {t : List Nd} {ks : List (Option Addr × Nat)} (h : ks.length = t.length) : (ndRs t ks).length = t.length := by unfold ndRs; rw [List.length_zipWith, h, Nat.min_self]
/-- What is read of a list of lists that is one's own. -/
theorem listsI_sl {L : List Assn} {g : List (List Int)} {ks : List (Option Addr × Nat)} {k : Hp} (j : Nat) (hj : L[j]? = some (listsI g ks)) (hs : Sat k L) {n : Nat} {l : List Int} {key : Option Addr × Nat} (e1 : g[n]? = some l) (e2 : ks[n]? = some key) : Sl L key.1 key.2 1 (ints l) := by
  have hL : ∀ k', Sat k' L → Sat k' (listsIM g ks ++ L.eraseIdx j) := fun k' s => by
    obtain ⟨M, hM, hs⟩ := Sat.openP (Sat.pull hj s)
    subst hM; exact hs
  have hidx : (listsIM g ks ++ L.eraseIdx j)[n]? = some (ownA 3 1 key.1 key.2 (ints l)) := by
    have : (listsIM g ks)[n]? = some (ownA 3 1 key.1 key.2 (ints l)) := by unfold listsIM; rw [List.getElem?_zipWith, e1, e2]
    rw [List.getElem?_append_left (List.getElem?_eq_some_iff.1 this).1]
    exact this
  exact (Sl.own _ hidx (own_know _ hidx (hL k hs))).wk hL
theorem tree_knowI {L : List Assn} {q : Option Addr × Nat} {t : List Nd} {ks : List (Option Addr × Nat)} {k : Hp} (i j : Nat) (hi : L[i]? = some (ownA 38 4 q.1 q.2 (ndRs t ks))) (hj : L[j]? = some (listsI (kidsL t) ks)) (hk : ks.length = t.length) (hs : Sat k L) : TreeR L q.1 q.2 t :=
  ⟨ks, hk, Sl.own i hi (own_know i hi hs), fun n nd key e1 e2 => listsI_sl j hj hs (by unfold kidsL; rw [List.getElem?_map, e1]; rfl) e2⟩
/-! ### The closure that recovers -/
@[reducible] def p2m (b2 b3 : Nat) (vs : List Value) (e : Int) (L : List Assn) : List Assn := ptA b3 33 [.int .i64 e] :: ptA b2 32 vs :: L
@[reducible] def zBd : List Value := [.slice none 0 0, .slice none 0 0, .slice none 0 0, .slice none 0 0, .slice none 0 0, .slice none 0 0]
@[reducible] def capR (b2 b3 : Nat) : Array Value := #[.pointer (some ⟨b2, 0, none⟩), .pointer (some ⟨b3, 0, none⟩)]
set_option maxHeartbeats 1000000 in
theorem rsl_rec (b2 b3 : Nat) (e0 : Int) (L : List Assn) :
    CtD Try.prog 14 (capR b2 b3) (.panicking [{ v := misV, recovered := false }]) (p2m b2 b3 zBd e0 L)
      (fun en u L' => en = .returned (.tuple #[]) ∧ u = .panicking [{ v := misV, recovered := true }] ∧ L' = p2m b2 b3 zBd 9 L) := by
  refine CtD.panicking Try.func14 rfl Try.ntmps14 rfl rfl rfl ?_
  refine pur ?_
  refine S.isNil rfl rfl rfl rfl ?_
  refine pur ?_
  refine S.assert rfl rfl ?_
  refine pur ?_
  refine WpO.alloc rfl rfl (fun _ => Keeps.none) fun bf => ?_
  refine pur ?_
  refine S.build rfl rfl rfl ?_
  refine pur ?_
  exact RetN 1 rfl rfl
theorem rsl_ret (b2 b3 : Nat) (L : List Assn) :
    CtD Try.prog 14 (capR b2 b3) .returning L (fun e u L' => e = .returned (.tuple #[]) ∧ u = .returning ∧ L' = L) := by
  refine CtD.returning Try.func14 rfl Try.ntmps14 rfl rfl rfl ?_
  refine pur ?_
  refine S.isNil rfl rfl rfl rfl ?_
  refine pur ?_
  exact RetN 0 rfl rfl
theorem ndRs_scalar (t : List Nd) (ks : List (Option Addr × Nat)) : (ndRs t ks).flatten.all scalar = true := by
  rw [List.all_eq_true]
  intro v hv
  obtain ⟨r, hr, hv⟩ := List.mem_flatten.1 hv
  obtain ⟨i, hi⟩ := List.getElem?_of_mem hr
  unfold ndRs at hi
  rw [List.getElem?_zipWith] at hi
  cases h1 : t[i]? with
  | none => rw [h1] at hi; cases h2 : ks[i]? <;> (rw [h2] at hi; cases hi)
  | some nd =>
    cases h2 : ks[i]? with
    | none => rw [h1, h2] at hi; cases hi
    | some k =>
      rw [h1, h2] at hi
      simp only [Option.some.injEq] at hi
      subst hi
      simp only [ndRow, List.mem_cons, List.not_mem_nil, or_false] at hv
      rcases hv with rfl | rfl | rfl | rfl <;> rfl
theorem ndRs_one (t : List Nd) (ks : List (Option Addr × Nat)) : ∀ r ∈ ndRs t ks, r.length = 4 := fun r hr => by
  obtain ⟨i, hi⟩ := List.getElem?_of_mem hr
  unfold ndRs at hi
  rw [List.getElem?_zipWith] at hi
  cases h1 : t[i]? with
  | none => rw [h1] at hi; cases h2 : ks[i]? <;> (rw [h2] at hi; cases hi)
  | some nd =>
    cases h2 : ks[i]? with
    | none => rw [h1, h2] at hi; cases hi
    | some k =>
      rw [h1, h2] at hi
      simp only [Option.some.injEq] at hi
      subst hi; rfl
theorem sfind_take {l : List (List UInt8)} (h : l.Nodup) {i : Nat} {k : List UInt8} (hi : l[i]? = some k) : sfind (l.take i) k 0 = none := by
  refine sfind_none.2 fun hm => ?_
  have e : l = l.take i ++ (k :: l.drop (i + 1)) := by rw [← drop_get hi, List.take_append_drop]
  rw [e] at h
  exact (List.nodup_append.1 h).2.2 k hm k (by simp) rfl
theorem bCons_nodup : (conNs bCons).Nodup := by decide
theorem bDatas_nodup : (datNs bDatas).Nodup := by decide
theorem bNames_nodup : bNames.Nodup := by decide
theorem bCons_length : bCons.length = 12 := by decide
theorem bDatas_length : bDatas.length = 13 := by decide
theorem bNames_length : bNames.length = 6 := by decide
theorem conNs_take (l : List CN) (i : Nat) : conNs (l.take i) = (conNs l).take i := by simp [conNs, List.map_take]
theorem datNs_take (l : List DN) (i : Nat) : datNs (l.take i) = (datNs l).take i := by simp [datNs, List.map_take]
theorem wbind0_ct {M : List Assn} (wb : Nat) (ta : Option Addr) (tn tc : Nat) (ra : Option Addr) (rn rc : Nat) (na : Option Addr) (nn nc : Nat) (ca : Option Addr) (cn cc : Nat) (da : Option Addr) (dn dc : Nat) (ga : Option Addr) (gn gc : Nat) (sb cb tb : Nat)
    (hH : Ent M (CellsAt wb 0 (hdrW ta tn tc ra rn rc na nn nc ca cn cc da dn dc ga gn gc sb cb tb))) (g : Frm) (rs : List Frm) (k : ByteArray) (v : Int) (hl : rs.length ≤ 1048576) (hg : g.length ≤ 1048576) (hs : sget g (bs k) = none) :
    Ct Try.prog 19 #[.pointer (some ⟨wb, 0, none⟩), .string k, .int .i64 v] (scR sb (g :: rs) :: M) (ret fun r L' => r = .tuple #[] ∧ L' = scR sb ((g ++ [(bs k, v)]) :: rs) :: M) := by
  unfold hdrW at hH
  refine Ct.body Try.func19 rfl Try.ntmps19 Try.results19 rfl ?_
  refine pur ?_
  refine WpO.call Try.call40 rfl rfl (bindR_ct sb g rs k v _ 0 rfl hl hg) fun r L' ⟨e1, e2⟩ => ⟨Keeps.none, ?_⟩
  subst e1; subst e2
  dsimp only [List.set]
  rw [hs]
  refine pur ?_
  refine WpO.callP Try.call24 rfl rfl (rfail_ct _ _) (fun v L' ⟨e1, e2, e3⟩ => by cases e1) (fun v L' ⟨e1, e2⟩ => ⟨Keeps.none, ?_⟩)
  subst e2
  refine pur ?_
  exact RetN 0 rfl ⟨rfl, rfl⟩
theorem sget_frm {i : Nat} {k : List UInt8} (hk : bNames[i]? = some k) : sget (ixs (bNames.take i) 0) k = none := by
  rw [sget_ixs, sfind_take bNames_nodup hk]; rfl
theorem WpE.know {P : Program} {n : Nat} {Q : Post} {E : Env} {D : List Deferred} {L : List Assn} {c : Code} {φ : Prop} (h : ∀ k, Sat k L → φ) (k : φ → WpE P n c Q E D L) : WpE P n c Q E D L := by
  unfold WpE at *
  exact fun a w h1 h2 h3 h4 => k (h _ h4) a w h1 h2 h3 h4
/-- The contract's end: a Bound with memory of its own, an error. -/
@[reducible] def RRes (r : Bd × Int) (L : List Assn) : Ending → List Assn → Prop :=
  ret fun v L' => ∃ A, v = .tuple #[bdV r.1 A, .int .i64 r.2] ∧ L' = bdA r.1 A :: L
set_option maxHeartbeats 16000000 in
theorem resolve_ct (t : List Nd) (ta : Option Addr) (tc : Nat) (L : List Assn) (hT : TreeR L ta tc t) (hs : Small t) :
    Ct Try.prog 6 #[.agg #[.slice ta t.length tc]] L (RRes (resolveF t) L) := by
  generalize hR : resolveF t = R
  unfold resolveF at hR
  refine Ct.bodyE Try.func6 rfl Try.ntmps6 Try.results6 rfl ?_
  repeat refine WpE.seq ?_
  refine WpE.np ?_
  refine pur ?_
  refine WpO.box (vs := [.slice ta t.length tc]) rfl rfl rfl (fun _ => Keeps.none) fun b1 => ?_
  refine pur ?_
  refine WpO.alloc rfl rfl (fun _ => Keeps.none) fun b2 => ?_
  refine pur ?_
  refine WpO.alloc rfl rfl (fun _ => Keeps.none) fun b3 => ?_
  refine pur ?_
  repeat refine WpE.seq ?_
  refine WpE.np ?_
  refine pur ?_
  refine S.loadN (vs := [.slice ta t.length tc]) rfl rfl (Ent.pt 2 1 rfl rfl) rfl ?_
  refine pur ?_
  refine WpO.call Try.call13 rfl rfl (check_ct t ta tc _ (hT.wk fun k s => s.tail.tail.tail) hs) fun v L' ⟨e1, e2⟩ => ⟨Keeps.none, ?_⟩
  subst e1; subst e2
  refine pur ?_
  repeat refine WpE.seq ?_
  refine WpE.np ?_
  refine pur ?_
  refine WpE.branch rfl (fun h => ?_) (fun h => ?_)
  · have h' : checkF goodF t = 7 := by
      rcases check_two t with q | q
      · rw [q] at h; exact absurd h (by decide)
      · exact q
    rw [h', if_neg (by decide)] at hR
    rw [h']
    subst hR
    repeat refine WpE.seq ?_
    refine WpE.np ?_
    refine pur ?_
    refine S.loadN (vs := zBd) rfl rfl (Ent.pt 1 6 rfl rfl) rfl ?_
    refine pur ?_
    refine WpE.ret ?_
    exact ⟨[.agg zBd.toArray, .int .i64 7], bdA Bd.nil BA.nil :: L, .cons (.agg (vs := zBd) rfl (by infer_instance) (Ent.pt 1 6 rfl rfl) rfl) (.cons (.one rfl (by infer_instance) (Ent.pt 0 1 rfl rfl)) .nil), fun k hk => bdA_nil _ hk.tail.tail.tail, BA.nil, rfl, rfl⟩
  have h0 : checkF goodF t = 0 := by
    rcases check_two t with q | q
    · exact q
    · rw [q] at h; exact absurd h (by decide)
  rw [if_pos h0] at hR
  have hok := treeOk_of h0
  have hw := hok.wf
  have hlen := hok.len
  have hpos := hok.pos
  refine WpE.skip ?_
  repeat refine WpE.seq ?_
  refine WpE.np ?_
  refine pur ?_
  refine S.makeFuncM rfl .nil (.cons rfl (by infer_instance) (.cons rfl (by infer_instance) .nil)) ?_
  refine WpO.defer rfl Keeps.none ?_
  refine pur ?_
  repeat refine WpE.seq ?_
  refine WpE.np ?_
  refine pur ?_
  refine WpO.call Try.call15 rfl rfl (rbuiltin_ct _) fun v L' ⟨na, ca, da, e1, e2⟩ => ⟨Keeps.none, ?_⟩
  subst e1; subst e2
  refine pur ?_
  refine WpO.call Try.call16 rfl rfl (new_ct _) fun v L' ⟨sb, e1, e2⟩ => ⟨Keeps.none, ?_⟩
  subst e1; subst e2
  refine pur ?_
  refine WpO.mmake (κ := List UInt8) rfl (fun _ => Keeps.none) fun cb => ?_
  refine pur ?_
  refine WpO.mmake (κ := List UInt8) rfl (fun _ => Keeps.none) fun tb => ?_
  refine pur ?_
  refine S.build rfl rfl rfl ?_
  refine WpO.box (vs := hdrW none 0 0 none 0 0 na.1 6 na.2 ca.1 12 ca.2 da.1 13 da.2 none 0 0 sb cb tb) rfl rfl rfl (fun _ => Keeps.none) fun wb => ?_
  refine pur ?_
  refine WpE.weaken (L' := ptA wb 61 (hdrW none 0 0 none 0 0 na.1 6 na.2 ca.1 12 ca.2 da.1 13 da.2 none 0 0 sb cb tb) :: ptA b1 24 [.slice ta t.length tc] :: mapA (κ := List UInt8) tb [] :: mapA (κ := List UInt8) cb [] :: scA sb [[]] :: ownA 9 1 na.1 na.2 (strRs bNames) :: ownA 48 3 ca.1 ca.2 (bCons.map conRow) :: ownA 50 2 da.1 da.2 (bDatas.map datRow) :: p2m b2 b3 zBd 0 L)
    (fun _ _ h => h) (fun k hk => Sat.sel (T := L) 10 (M := [_, _, _, _, _, _, _, _, _, _]) (M' := [_, _, _, _, _, _, _, _, _, _]) [0, 9, 1, 2, 3, 4, 5, 6, 7, 8] rfl hk) ?_
  obtain ⟨ks0, hks0, hS0, hkid0⟩ := hT.ex
  obtain ⟨B, hB⟩ : ∃ B, B = mapA (κ := List UInt8) tb [] :: mapA (κ := List UInt8) cb [] :: scA sb [[]] :: ownA 9 1 na.1 na.2 (strRs bNames) :: ownA 48 3 ca.1 ca.2 (bCons.map conRow) :: ownA 50 2 da.1 da.2 (bDatas.map datRow) :: p2m b2 b3 zBd 0 L := ⟨_, rfl⟩
  have hBL : LeL B L := by subst hB; exact fun k s => Sat.drop [_, _, _, _, _, _, _, _] s
  rw [← hB]
  have hTB := hT.wk hBL
  have hS0B : Sl B ta tc 4 (ndRs t ks0) := hS0.wk hBL
  repeat refine WpE.seq ?_
  refine WpE.np ?_
  refine pur ?_
  refine WpO.call Try.call17 rfl rfl (cloneNodes_ct (ndRs t ks0) t.length (ndRs_length hks0) (ndRs_scalar t ks0) ta tc _ (hS0B.app [_, _]) (by omega)) fun v L' ⟨qb, qc, e1, e2⟩ => ⟨Keeps.none, ?_⟩
  subst e1; subst e2
  refine WpO.parts (L' := ptA wb 61 (hdrW none 0 0 none 0 0 na.1 6 na.2 ca.1 12 ca.2 da.1 13 da.2 none 0 0 sb cb tb) :: ptA b1 24 [.slice ta t.length tc] :: ownA 38 4 qb qc (ndRs t ks0) :: B) (fun k s => Sat.sel (T := B) 3 (M := [_, _, _]) (M' := [_, _, _]) [1, 2, 0] rfl s) ?_
  refine pur ?_
  repeat refine WpE.seq ?_
  refine WpE.np ?_
  refine pur ?_
  repeat refine WpE.seq ?_
  refine WpE.np ?_
  refine pur ?_
  have hwr : ∀ n : Nat, n < 100000 → IntKind.i64.wrap ((n : Int) + 1) = ((n + 1 : Nat) : Int) := fun n h => by rw [wrap_id (by omega) (by omega)]; omega
  refine Wp.loopI (α := Nat × List (Option Addr × Nat)) (0, [])
    (fun x => [(1, .v (.pointer (some ⟨b1, 0, none⟩))), (2, .v (.pointer (some ⟨b2, 0, none⟩))), (3, .v (.pointer (some ⟨b3, 0, none⟩))), (5, .v (.pointer (some ⟨wb, 0, none⟩))), (46, .v (.slice qb t.length qc)), (47, .v (.int .i64 t.length)), (48, .v (.int .i64 x.1))])
    (fun x => ptA wb 61 (hdrW qb t.length qc none 0 0 na.1 6 na.2 ca.1 12 ca.2 da.1 13 da.2 none 0 0 sb cb tb) :: ptA b1 24 [.slice ta t.length tc] :: ownA 38 4 qb qc (ndRs t (x.2 ++ ks0.drop x.1)) :: listsI (kidsL (t.take x.1)) x.2 :: B)
    (fun x => t.length - x.1) (fun x => x.1 ≤ t.length ∧ x.2.length = x.1) ⟨Nat.zero_le _, rfl⟩ ⟨rfl, rfl, rfl, rfl, rfl, rfl, rfl, trivial⟩ (fun k s => Sat.cons_mono (fun k s => Sat.cons_mono (fun k s => Sat.cons_mono (fun k s => listsI_nil s) s) s) s) ?_
  · rintro ⟨i, ks⟩ ⟨hi, hkl⟩
    simp only [] at hi hkl ⊢
    refine pur ?_
    refine Wp.branch rfl (fun h => ?_) (fun h => ?_)
    · have hil : i < t.length := by have := of_decide_eq_true h; omega
      obtain ⟨nd, hnd⟩ : ∃ nd, t[i]? = some nd := ⟨_, List.getElem?_eq_getElem hil⟩
      obtain ⟨tb1, tp, ka, kc, e1, hE, hS⟩ := hTB.at hnd
      have hE' := hE
      refine Wp.know (fun k hs => own_some 2 rfl hs (by rw [ndRs_length (by simp; omega)]; omega)) fun ⟨qb1, qo, e2⟩ => ?_
      subst e1; subst e2
      obtain ⟨k0, hk0⟩ : ∃ k0, (ks ++ ks0.drop i)[i]? = some k0 := ⟨_, List.getElem?_eq_getElem (by simp; omega)⟩
      have hrow : (ndRs t (ks ++ ks0.drop i))[i]? = some (ndRow nd k0) := by unfold ndRs; rw [List.getElem?_zipWith, hnd, hk0]
      have hkn := (hok.node i hil).2.2.1
      have hkln : nd.kids.length < 6000 := by
        have := (hok.node i hil).1
        rw [nd_get hil] at hnd
        simp only [Option.some.injEq] at hnd
        rw [← hnd, this]; simp [natI]; omega
      refine pur ?_
      refine Wp.draw rfl [0,1,2,3,4,5,6,7,8,9,10,11,12,13,14,15,16] 16 16 _ rfl (by decide +kernel) (fun _ h => h) ?_
      refine pur ?_
      refine S.idx i rfl rfl rfl rfl hil ?_
      refine pur ?_
      refine WpO.call Try.call18 rfl rfl (cloneInts_ct nd.kids nd.kids.length rfl ka kc _ (hS.app [_, _, _, _]) (by omega)) fun v L' ⟨nb, nk, e1, e2⟩ => ⟨by subst e2; exact Keeps.by fun _ s => s.tail, ?_⟩
      subst e1; subst e2
      refine S.idx i rfl rfl rfl rfl hil ?_
      refine pur ?_
      refine WpO.storeRow (v := .slice nb nd.kids.length nk) (r := ndRow nd k0) 3 i 3 rfl rfl rfl hrow rfl rfl rfl (Nat.le_refl 4) Keeps.last ?_
      dsimp only [List.set]
      refine pur ?_
      rw [hwr i (by omega)]
      have hset : (ndRs t (ks ++ ks0.drop i)).set i (lset (ndRow nd k0) 3 (Value.slice nb nd.kids.length nk).cells.toList) = ndRs t ((ks ++ [(nb, nk)]) ++ ks0.drop (i + 1)) := by
        unfold ndRs
        refine List.ext_getElem? fun j => ?_
        rw [List.getElem?_set, List.getElem?_zipWith, List.getElem?_zipWith]
        by_cases hj : i = j
        · subst hj
          rw [if_pos rfl, hnd, List.getElem?_append_left (by simp; omega), List.getElem?_append_right (by omega)]
          simp only [List.length_zipWith, hkl, Nat.sub_self, List.getElem?_cons_zero]
          rw [if_pos (by simp; omega)]
          rfl
        · rw [if_neg hj]
          rcases Nat.lt_or_gt_of_ne hj with q | q
          · rw [List.getElem?_append_right (by omega), List.getElem?_append_right (by simp; omega), List.getElem?_drop, List.getElem?_drop]
            congr 2
            simp; omega
          · rw [List.getElem?_append_left (by omega), List.append_assoc, List.getElem?_append_left (by omega)]
      rw [hset]
      refine Round.mk (i + 1, ks ++ [(nb, nk)]) (by show t.length - (i + 1) < t.length - i; omega) ⟨by show i + 1 ≤ _; omega, by simp; omega⟩ ⟨rfl, rfl, rfl, rfl, rfl, rfl, rfl, trivial⟩ (fun k s => ?_)
      have hkt : kidsL (t.take (i + 1)) = kidsL (t.take i) ++ [nd.kids] := by unfold kidsL; rw [List.take_add_one, hnd]; simp
      rw [hkt]
      have s1 := Sat.sel (T := B) 5 (M := [_, _, _, _, _]) (M' := [_, _, _, _, _]) [1, 2, 3, 0, 4] rfl s
      exact Sat.cons_mono (fun k s => Sat.cons_mono (fun k s => Sat.cons_mono (fun k s => listsI_snoc (by unfold kidsL; simp; omega) nd.kids (nb, nk) s) s) s) s1
    · have hil : t.length = i := by have := of_decide_eq_false h; omega
      subst hil
      refine pur ?_
      rw [List.take_length, List.drop_of_length_le (by omega), List.append_nil]
      repeat refine WpE.seq ?_
      clear hTB hS0B hBL
      subst hB
      refine WpE.weaken (L' := ptA wb 61 (hdrW qb t.length qc none 0 0 na.1 6 na.2 ca.1 12 ca.2 da.1 13 da.2 none 0 0 sb cb tb) :: mapA cb (vM (ixs (conNs (bCons.take 0)) 0)) :: ownA 48 3 ca.1 ca.2 (bCons.map conRow) :: (ptA b1 24 [.slice ta t.length tc] :: ownA 38 4 qb qc (ndRs t ks) :: listsI (kidsL t) ks :: mapA (κ := List UInt8) tb [] :: scA sb [[]] :: ownA 9 1 na.1 na.2 (strRs bNames) :: ownA 50 2 da.1 da.2 (bDatas.map datRow) :: p2m b2 b3 zBd 0 L))
        (fun _ _ h => h) (fun k hk => Sat.sel (T := L) 12 (M := [_, _, _, _, _, _, _, _, _, _, _, _]) (M' := [_, _, _, _, _, _, _, _, _, _, _, _]) [0, 5, 8, 1, 2, 3, 4, 6, 7, 9, 10, 11] rfl hk) ?_
      obtain ⟨C, hC⟩ : ∃ C, C = ptA b1 24 [.slice ta t.length tc] :: ownA 38 4 qb qc (ndRs t ks) :: listsI (kidsL t) ks :: mapA (κ := List UInt8) tb [] :: scA sb [[]] :: ownA 9 1 na.1 na.2 (strRs bNames) :: ownA 50 2 da.1 da.2 (bDatas.map datRow) :: p2m b2 b3 zBd 0 L := ⟨_, rfl⟩
      rw [← hC]
      refine WpE.np ?_
      refine pur ?_
      repeat refine WpE.seq ?_
      refine WpE.np ?_
      refine pur ?_
      refine Wp.loopI (α := Nat) 0
        (fun x => [(1, .v (.pointer (some ⟨b1, 0, none⟩))), (2, .v (.pointer (some ⟨b2, 0, none⟩))), (3, .v (.pointer (some ⟨b3, 0, none⟩))), (5, .v (.pointer (some ⟨wb, 0, none⟩))), (72, .v (.slice ca.1 12 ca.2)), (73, .v (.int .i64 (12 : Nat))), (74, .v (.int .i64 x))])
        (fun x => ptA wb 61 (hdrW qb t.length qc none 0 0 na.1 6 na.2 ca.1 12 ca.2 da.1 13 da.2 none 0 0 sb cb tb) :: mapA cb (vM (ixs (conNs (bCons.take x)) 0)) :: ownA 48 3 ca.1 ca.2 (bCons.map conRow) :: C)
        (fun x => 12 - x) (fun x => x ≤ 12) (Nat.zero_le _) ⟨rfl, rfl, rfl, rfl, rfl, rfl, rfl, trivial⟩ (LeL.refl _) ?_
      rintro i hi
      refine pur ?_
      refine Wp.branch rfl (fun h => ?_) (fun h => ?_)
      · have hil : i < 12 := by have := of_decide_eq_true h; omega
        obtain ⟨c, hc⟩ : ∃ c, bCons[i]? = some c := ⟨_, List.getElem?_eq_getElem (by rw [bCons_length]; exact hil)⟩
        have hrow : (bCons.map conRow)[i]? = some (conRow c) := by rw [List.getElem?_map, hc]; rfl
        have hnf := sfind_take bCons_nodup (i := i) (k := c.1) (by unfold conNs; rw [List.getElem?_map, hc]; rfl)
        rw [← conNs_take] at hnf
        have hms := mset_ixs hnf
        rw [conNs_length, List.length_take, bCons_length, Nat.min_eq_left (by omega), conNs_snoc, show bCons.take i ++ [c] = bCons.take (i + 1) by rw [List.take_add_one, hc]; rfl] at hms
        refine Wp.know (fun k hs => own_some 2 rfl hs (by rw [List.length_map, bCons_length]; omega)) fun ⟨cab, cao, e2⟩ => ?_
        obtain ⟨ca1, ca2⟩ := ca
        simp only [] at e2
        subst e2
        refine pur ?_
        refine S.idx i rfl rfl rfl rfl hil ?_
        refine S.loadN (vs := conRow c) rfl rfl (own_ent 2 i rfl hrow) rfl ?_
        refine WpO.alloc rfl rfl (fun _ => Keeps.none) fun b8 => ?_
        refine pur ?_
        refine Wp.draw rfl [0,1,2,3,4,5,6,7] 7 7 _ rfl (by decide +kernel) (fun _ h => h) ?_
        refine pur ?_
        refine WpO.mset c.1 2 rfl rfl rfl rfl rfl Keeps.last ?_
        dsimp only [List.set]
        rw [hms]
        refine pur ?_
        rw [hwr i (by omega)]
        exact Round.mk (i + 1) (by show 12 - (i + 1) < 12 - i; omega) hil ⟨rfl, rfl, rfl, rfl, rfl, rfl, rfl, trivial⟩ (fun k s => s.tail)
      have hil : i = 12 := by have := of_decide_eq_false h; omega
      subst hil
      rw [show bCons.take 12 = bCons from by rw [← bCons_length, List.take_length]]
      refine pur ?_
      repeat refine WpE.seq ?_
      subst hC
      refine WpE.weaken (L' := ptA wb 61 (hdrW qb t.length qc none 0 0 na.1 6 na.2 ca.1 12 ca.2 da.1 13 da.2 none 0 0 sb cb tb) :: mapA tb (vM (ixs (datNs (bDatas.take 0)) 0)) :: ownA 50 2 da.1 da.2 (bDatas.map datRow) :: (ptA b1 24 [.slice ta t.length tc] :: ownA 38 4 qb qc (ndRs t ks) :: listsI (kidsL t) ks :: mapA cb (vM (ixs (conNs bCons) 0)) :: scA sb [[]] :: ownA 9 1 na.1 na.2 (strRs bNames) :: ownA 48 3 ca.1 ca.2 (bCons.map conRow) :: p2m b2 b3 zBd 0 L))
        (fun _ _ h => h) (fun k hk => Sat.sel (T := L) 12 (M := [_, _, _, _, _, _, _, _, _, _, _, _]) (M' := [_, _, _, _, _, _, _, _, _, _, _, _]) [0, 6, 9, 3, 4, 5, 1, 7, 8, 2, 10, 11] rfl hk) ?_
      obtain ⟨C, hC⟩ : ∃ C, C = ptA b1 24 [.slice ta t.length tc] :: ownA 38 4 qb qc (ndRs t ks) :: listsI (kidsL t) ks :: mapA cb (vM (ixs (conNs bCons) 0)) :: scA sb [[]] :: ownA 9 1 na.1 na.2 (strRs bNames) :: ownA 48 3 ca.1 ca.2 (bCons.map conRow) :: p2m b2 b3 zBd 0 L := ⟨_, rfl⟩
      rw [← hC]
      refine WpE.np ?_
      refine pur ?_
      repeat refine WpE.seq ?_
      refine WpE.np ?_
      refine pur ?_
      refine Wp.loopI (α := Nat) 0
        (fun x => [(1, .v (.pointer (some ⟨b1, 0, none⟩))), (2, .v (.pointer (some ⟨b2, 0, none⟩))), (3, .v (.pointer (some ⟨b3, 0, none⟩))), (5, .v (.pointer (some ⟨wb, 0, none⟩))), (91, .v (.slice da.1 13 da.2)), (92, .v (.int .i64 (13 : Nat))), (93, .v (.int .i64 x))])
        (fun x => ptA wb 61 (hdrW qb t.length qc none 0 0 na.1 6 na.2 ca.1 12 ca.2 da.1 13 da.2 none 0 0 sb cb tb) :: mapA tb (vM (ixs (datNs (bDatas.take x)) 0)) :: ownA 50 2 da.1 da.2 (bDatas.map datRow) :: C)
        (fun x => 13 - x) (fun x => x ≤ 13) (Nat.zero_le _) ⟨rfl, rfl, rfl, rfl, rfl, rfl, rfl, trivial⟩ (LeL.refl _) ?_
      rintro i hi
      refine pur ?_
      refine Wp.branch rfl (fun h => ?_) (fun h => ?_)
      · have hil : i < 13 := by have := of_decide_eq_true h; omega
        obtain ⟨c, hc⟩ : ∃ c, bDatas[i]? = some c := ⟨_, List.getElem?_eq_getElem (by rw [bDatas_length]; exact hil)⟩
        have hrow : (bDatas.map datRow)[i]? = some (datRow c) := by rw [List.getElem?_map, hc]; rfl
        have hnf := sfind_take bDatas_nodup (i := i) (k := c.1) (by unfold datNs; rw [List.getElem?_map, hc]; rfl)
        rw [← datNs_take] at hnf
        have hms := mset_ixs hnf
        rw [datNs_length, List.length_take, bDatas_length, Nat.min_eq_left (by omega), datNs_snoc, show bDatas.take i ++ [c] = bDatas.take (i + 1) by rw [List.take_add_one, hc]; rfl] at hms
        refine Wp.know (fun k hs => own_some 2 rfl hs (by rw [List.length_map, bDatas_length]; omega)) fun ⟨dab, dao, e2⟩ => ?_
        obtain ⟨da1, da2⟩ := da
        simp only [] at e2
        subst e2
        refine pur ?_
        refine S.idx i rfl rfl rfl rfl hil ?_
        refine S.loadN (vs := datRow c) rfl rfl (own_ent 2 i rfl hrow) rfl ?_
        refine WpO.alloc rfl rfl (fun _ => Keeps.none) fun b8 => ?_
        refine pur ?_
        refine Wp.draw rfl [0,1,2,3,4,5,6,7] 7 7 _ rfl (by decide +kernel) (fun _ h => h) ?_
        refine pur ?_
        refine WpO.mset c.1 2 rfl rfl rfl rfl rfl Keeps.last ?_
        dsimp only [List.set]
        rw [hms]
        refine pur ?_
        rw [hwr i (by omega)]
        exact Round.mk (i + 1) (by show 13 - (i + 1) < 13 - i; omega) hil ⟨rfl, rfl, rfl, rfl, rfl, rfl, rfl, trivial⟩ (fun k s => s.tail)
      have hil : i = 13 := by have := of_decide_eq_false h; omega
      subst hil
      rw [show bDatas.take 13 = bDatas from by rw [← bDatas_length, List.take_length]]
      refine pur ?_
      repeat refine WpE.seq ?_
      subst hC
      refine WpE.weaken (L' := scR sb [ixs (bNames.take 0) 0] :: ptA wb 61 (hdrW qb t.length qc none 0 0 na.1 6 na.2 ca.1 12 ca.2 da.1 13 da.2 none 0 0 sb cb tb) :: ownA 9 1 na.1 na.2 (strRs bNames) :: (ownA 48 3 ca.1 ca.2 (bCons.map conRow) :: ownA 50 2 da.1 da.2 (bDatas.map datRow) :: mapA cb (vM (ixs (conNs bCons) 0)) :: mapA tb (vM (ixs (datNs bDatas) 0)) :: ptA b1 24 [.slice ta t.length tc] :: ownA 38 4 qb qc (ndRs t ks) :: listsI (kidsL t) ks :: p2m b2 b3 zBd 0 L))
        (fun _ _ h => h) (fun k hk => Sat.sel (T := L) 12 (M := [_, _, _, _, _, _, _, _, _, _, _, _]) (M' := [_, _, _, _, _, _, _, _, _, _, _, _]) [7, 0, 8, 9, 2, 6, 1, 3, 4, 5, 10, 11] rfl hk) ?_
      obtain ⟨C, hC⟩ : ∃ C, C = ownA 48 3 ca.1 ca.2 (bCons.map conRow) :: ownA 50 2 da.1 da.2 (bDatas.map datRow) :: mapA cb (vM (ixs (conNs bCons) 0)) :: mapA tb (vM (ixs (datNs bDatas) 0)) :: ptA b1 24 [.slice ta t.length tc] :: ownA 38 4 qb qc (ndRs t ks) :: listsI (kidsL t) ks :: p2m b2 b3 zBd 0 L := ⟨_, rfl⟩
      rw [← hC]
      refine WpE.np ?_
      refine pur ?_
      repeat refine WpE.seq ?_
      refine WpE.np ?_
      refine pur ?_
      refine Wp.loopI (α := Nat) 0
        (fun x => [(1, .v (.pointer (some ⟨b1, 0, none⟩))), (2, .v (.pointer (some ⟨b2, 0, none⟩))), (3, .v (.pointer (some ⟨b3, 0, none⟩))), (5, .v (.pointer (some ⟨wb, 0, none⟩))), (110, .v (.slice na.1 6 na.2)), (111, .v (.int .i64 (6 : Nat))), (112, .v (.int .i64 x))])
        (fun x => scR sb [ixs (bNames.take x) 0] :: ptA wb 61 (hdrW qb t.length qc none 0 0 na.1 6 na.2 ca.1 12 ca.2 da.1 13 da.2 none 0 0 sb cb tb) :: ownA 9 1 na.1 na.2 (strRs bNames) :: C)
        (fun x => 6 - x) (fun x => x ≤ 6) (Nat.zero_le _) ⟨rfl, rfl, rfl, rfl, rfl, rfl, rfl, trivial⟩ (LeL.refl _) ?_
      rintro i hi
      refine pur ?_
      refine Wp.branch rfl (fun h => ?_) (fun h => ?_)
      · have hil : i < 6 := by have := of_decide_eq_true h; omega
        obtain ⟨c, hc⟩ : ∃ c, bNames[i]? = some c := ⟨_, List.getElem?_eq_getElem (by rw [bNames_length]; exact hil)⟩
        have hrow : (strRs bNames)[i]? = some [.string (ofL c)] := by unfold strRs; rw [List.getElem?_map, hc]; rfl
        refine Wp.know (fun k hs => own_some 2 rfl hs (by unfold strRs; rw [List.length_map, bNames_length]; omega)) fun ⟨nab, nao, e2⟩ => ?_
        obtain ⟨na1, na2⟩ := na
        simp only [] at e2
        subst e2
        refine pur ?_
        refine S.idx i rfl rfl rfl rfl hil ?_
        refine S.load (v := .string (ofL c)) rfl rfl (by infer_instance) (own_ent 2 i rfl hrow) ?_
        refine pur ?_
        have hbl : (ixs (bNames.take i) 0).length ≤ 6 := by
          have : ∀ (l : List (List UInt8)) (n : Nat), (ixs l n).length = l.length := by
            intro l
            induction l with
            | nil => intro n; rfl
            | cons x l ih => intro n; show (ixs l (n + 1)).length + 1 = _; rw [ih]; rfl
          rw [this, List.length_take]; omega
        refine WpO.call Try.call19 rfl rfl (wbind0_ct wb _ _ _ _ _ _ _ _ _ _ _ _ _ _ _ _ _ _ _ _ _ (Ent.pt 0 9 rfl rfl) (ixs (bNames.take i) 0) [] (ofL c) (i : Int) (by simp) (by omega) (by rw [bs_ofL]; exact sget_frm hc)) fun v L' ⟨e1, e2⟩ => ⟨Keeps.none, ?_⟩
        subst e1; subst e2
        have hfr : ixs (bNames.take i) 0 ++ [(bs (ofL c), (i : Int))] = ixs (bNames.take (i + 1)) 0 := by
          rw [bs_ofL, List.take_add_one, hc]
          have := ixs_snoc (bNames.take i) c 0
          rw [List.length_take, bNames_length, Nat.min_eq_left (by omega), Nat.zero_add] at this
          exact this.symm
        rw [hfr]
        refine pur ?_
        rw [hwr i (by omega)]
        exact Round.mk (i + 1) (by show 6 - (i + 1) < 6 - i; omega) hil ⟨rfl, rfl, rfl, rfl, rfl, rfl, rfl, trivial⟩ (LeL.refl _)
      have hil : i = 6 := by have := of_decide_eq_false h; omega
      subst hil
      have hfr0 : ixs (bNames.take 6) 0 = frm0 := by rw [← bNames_length, List.take_length]; rfl
      rw [hfr0]
      refine pur ?_
      repeat refine WpE.seq ?_
      subst hC
      refine WpE.weaken (L' := numM wb qb t.length qc none 0 ns0 na ca da none 0 0 sb cb tb (scR sb [frm0] :: ptA b1 24 [.slice ta t.length tc] :: ownA 38 4 qb qc (ndRs t ks) :: listsI (kidsL t) ks :: p2m b2 b3 zBd 0 L))
        (fun _ _ h => h) (fun k hk => ?_) ?_
      · have s1 := Sat.sel (T := L) 12 (M := [_, _, _, _, _, _, _, _, _, _, _, _]) (M' := [_, _, _, _, _, _, _, _, _, _, _, _]) [1, 2, 3, 4, 5, 6, 0, 7, 8, 9, 10, 11] rfl hk
        exact (Sat.ownNil s1).swap
      refine WpE.know (fun k hs => tree_knowI (q := (qb, qc)) 2 3 rfl rfl hkl (Sat.drop [_, _, _, _, _, _, _] hs)) fun hTq => ?_
      have hend : ∀ (F : Env) L', getV 2 F = some (.pointer (some ⟨b2, 0, none⟩)) → getV 3 F = some (.pointer (some ⟨b3, 0, none⟩)) → LeL L' (p2m b2 b3 zBd 0 L) → R = (Bd.nil, 9) → EndE Try.prog [.cell 2 32, .cell 3 33] (RRes R L) (.panicking [{ v := misV, recovered := false }]) F
          [{ target := .fn (.func 14) (capR b2 b3), args := #[] }] L' := fun F L' hF2 hF3 hL' hR' => by
        subst hR'
        refine ⟨nofun, _, _, _, fun L' => L' = p2m b2 b3 zBd 9 L, rfl, Try.call14, CtD_weaken (rsl_rec b2 b3 0 L) hL', ?_⟩
        intro L' e
        subst e
        exact ⟨[.agg zBd.toArray, .int .i64 9], bdA Bd.nil BA.nil :: L, .cons (.agg (vs := zBd) hF2 (by infer_instance) (Ent.pt 1 6 rfl rfl) rfl) (.cons (.one hF3 (by infer_instance) (Ent.pt 0 1 rfl rfl)) .nil), fun k hk => bdA_nil _ hk.tail.tail, BA.nil, rfl, rfl⟩
      refine WpE.region [(1, .v (.pointer (some ⟨b1, 0, none⟩))), (2, .v (.pointer (some ⟨b2, 0, none⟩))), (3, .v (.pointer (some ⟨b3, 0, none⟩))), (5, .v (.pointer (some ⟨wb, 0, none⟩)))] (EnvLe.look ⟨rfl, rfl, rfl, rfl, trivial⟩) rfl ?_
      refine pur ?_
      refine WpO.callP Try.call20 rfl rfl (number_ct t wb qb qc ns0 na ca da none 0 0 sb cb tb _ hTq hw rfl ⟨by decide, by decide, by decide⟩) (fun v L' ⟨e1, e2, e3⟩ => ?_) fun v L' ⟨y, hy, _, hyl, rb, na, ca, da, e2⟩ => ⟨Keeps.none, ?_⟩
      · subst e2
        exact hend _ _ rfl rfl (fun k s => Sat.drop [_, _, _, _] (e3 k s)) (by rw [← hR]; unfold resolveO; rw [e1])
      subst e2
      refine pur ?_
      repeat refine WpE.seq ?_
      obtain ⟨nx, cx, dx, hnx, hcx, hdx, _⟩ := numberF_grow hy
      have hcl : 0 < (y.cons.map conRow).length := by rw [hcx]; show 0 < (List.map conRow (bCons ++ cx)).length; rw [List.length_map, List.length_append, bCons_length]; omega
      have hdl : 0 < (y.datas.map datRow).length := by rw [hdx]; show 0 < (List.map datRow (bDatas ++ dx)).length; rw [List.length_map, List.length_append, bDatas_length]; omega
      obtain ⟨X, hX0⟩ : ∃ X : RX, X = ⟨t, y.cons, y.datas, wb, qb, qc, rb, na, y.names.length, ca, da, none, 0, 0, sb, cb, tb⟩ := ⟨_, rfl⟩
      obtain ⟨M1, hM1⟩ : ∃ M1, M1 = ptA wb 61 X.hdr :: ownA 9 1 na.1 na.2 (strRs y.names) :: ownA 48 3 ca.1 ca.2 (y.cons.map conRow) :: ownA 50 2 da.1 da.2 (y.datas.map datRow) :: mapA cb (vM (ixs (conNs y.cons) 0)) :: mapA tb (vM (ixs (datNs y.datas) 0)) :: ptA b1 24 [.slice ta t.length tc] :: ownA 38 4 qb qc (ndRs t ks) :: listsI (kidsL t) ks :: p2m b2 b3 zBd 0 L := ⟨_, rfl⟩
      refine WpE.weaken (L' := rsL X y.ref [frm0] M1) (fun _ _ h => h) (fun k hk => ?_) ?_
      · subst hX0; subst hM1
        unfold numM at hk
        rw [hyl] at hk
        exact Sat.sel (T := L) 13 (M := [_, _, _, _, _, _, _, _, _, _, _, _, _]) (M' := [_, _, _, _, _, _, _, _, _, _, _, _, _]) [1, 7, 0, 2, 3, 4, 5, 6, 8, 9, 10, 11, 12] rfl hk
      refine WpE.know (fun k hs => tree_knowI (L := M1) (q := (qb, qc)) 7 8 (by subst hM1; rfl) (by subst hM1; rfl) hkl (Sat.drop [_, _] hs)) fun hTq1 => ?_
      refine WpE.know (fun k hs => own_know (L := M1) 2 (by subst hM1; rfl) (Sat.drop [_, _] hs)) fun hkc => ?_
      refine WpE.know (fun k hs => own_know (L := M1) 3 (by subst hM1; rfl) (Sat.drop [_, _] hs)) fun hkd => ?_
      refine WpE.know (fun k hs => own_some (L := M1) 2 (by subst hM1; rfl) (Sat.drop [_, _] hs) hcl) fun hca => ?_
      refine WpE.know (fun k hs => own_some (L := M1) 3 (by subst hM1; rfl) (Sat.drop [_, _] hs) hdl) fun hda => ?_
      have hX : X.Ok M1 := by
        subst hX0; subst hM1
        exact ⟨Ent.pt 0 9 rfl rfl, hTq1, hw, Ent.map 4 rfl, Ent.map 5 rfl, Sl.own 2 rfl hkc, Sl.own 3 rfl hkd⟩
      have hXt : X.t = t := by subst hX0; rfl
      have hM1L : LeL M1 (p2m b2 b3 zBd 0 L) := by subst hM1; exact fun k s => Sat.drop [_, _, _, _, _, _, _, _, _] s
      have hTM : TreeR M1 ta tc t := hT.wk fun k s => Sat.drop [_, _] (hM1L k s)
      have hb1M : Ent M1 (CellsAt b1 0 [.slice ta t.length tc]) := by subst hM1; exact Ent.pt 6 1 rfl rfl
      obtain ⟨RR, hRR⟩ : ∃ RR, foldO (dataAll t y.datas) (List.range t.length) y.ref = RR := ⟨_, rfl⟩
      refine WpE.np ?_
      refine pur ?_
      repeat refine WpE.seq ?_
      refine WpE.block ?_
      refine WpE.loopI (α := Nat × List Int) (0, y.ref)
        (fun x => [(1, .v (.pointer (some ⟨b1, 0, none⟩))), (2, .v (.pointer (some ⟨b2, 0, none⟩))), (3, .v (.pointer (some ⟨b3, 0, none⟩))), (5, .v (.pointer (some ⟨wb, 0, none⟩))), (125, .v (.slice ta t.length tc)), (126, .v (.int .i64 t.length)), (127, .v (.int .i64 x.1))])
        (fun x => rsL X x.2 [frm0] M1) (fun x => t.length - x.1) (fun x => x.1 ≤ t.length ∧ x.2.length = t.length ∧ foldO (dataAll t y.datas) ((List.range t.length).drop x.1) x.2 = RR) ⟨Nat.zero_le _, hyl, hRR⟩ ⟨rfl, rfl, rfl, rfl, rfl, rfl, rfl, trivial⟩ (LeL.refl _) ?_
      rintro ⟨i, ref⟩ ⟨hi, hrl, hf⟩
      simp only [] at hi hrl hf ⊢
      repeat refine WpE.seq ?_
      refine WpE.np ?_
      refine pur ?_
      repeat refine WpE.seq ?_
      refine WpE.branch rfl (fun h => ?_) (fun h => ?_)
      · have hil : i < t.length := by have := of_decide_eq_true h; omega
        obtain ⟨tb1, tp, ka, kc, e1, hE, hS⟩ := hw.at hTM hil
        subst e1
        rw [drop_get (x := i) (by rw [List.getElem?_range hil]), foldO] at hf
        refine WpE.skip ?_
        repeat refine WpE.seq ?_
        refine WpE.block ?_
        repeat refine WpE.seq ?_
        refine WpE.np ?_
        refine pur ?_
        refine S.idx i rfl rfl rfl rfl hil ?_
        refine S.loadN (vs := [.int .i64 (opN t i), .string (ndAt t i).text, .int .i64 (ndAt t i).num, .slice ka (kidsN t i).length kc]) rfl rfl (hE.app [_, _]) rfl ?_
        refine WpO.alloc rfl rfl (fun _ => Keeps.none) fun b14 => ?_
        refine pur ?_
        repeat refine WpE.seq ?_
        refine WpE.np ?_
        refine pur ?_
        refine WpE.branch rfl (fun h2 => ?_) (fun h2 => ?_)
        · have hop : opN t i = 21 := of_decide_eq_true h2
          have hst : dataAll t y.datas i ref = dataF t y.datas t.length i ref := by unfold dataAll; rw [if_pos hop]
          rw [hst] at hf
          refine WpE.region [(1, .v (.pointer (some ⟨b1, 0, none⟩))), (2, .v (.pointer (some ⟨b2, 0, none⟩))), (3, .v (.pointer (some ⟨b3, 0, none⟩))), (5, .v (.pointer (some ⟨wb, 0, none⟩))), (125, .v (.slice (some ⟨tb1, tp, none⟩) t.length tc)), (126, .v (.int .i64 t.length)), (127, .v (.int .i64 i))] (EnvLe.look ⟨rfl, rfl, rfl, rfl, rfl, rfl, rfl, trivial⟩) rfl ?_
          refine pur ?_
          refine S.loadN (vs := [.int .i64 (opN t i), .string (ndAt t i).text, .int .i64 (ndAt t i).num, .slice ka (kidsN t i).length kc]) rfl rfl (Ent.pt 0 4 rfl rfl) rfl ?_
          refine WpO.parts (L' := rsL X ref [frm0] (ptA b14 38 [.int .i64 (opN t i), .string (ndAt t i).text, .int .i64 (ndAt t i).num, .slice ka (kidsN t i).length kc] :: M1)) (fun k s => Sat.sel (T := M1) 3 (M := [_, _, _]) (M' := [_, _, _]) [1, 2, 0] rfl s) ?_
          have hdc := data_ct (X := X) (by subst hX0; exact hda) (M := ptA b14 38 [.int .i64 (opN t i), .string (ndAt t i).text, .int .i64 (ndAt t i).num, .slice ka (kidsN t i).length kc] :: M1) (hX.wk fun k s => s.tail) t.length i ref [frm0] ka kc (by rw [hXt]; exact hS.cons) hil (by rw [hXt]; exact hil) (by rw [hXt]; exact hrl)
          rw [hXt, show X.datas = y.datas by subst hX0; rfl, show X.wb = wb by subst hX0; rfl] at hdc
          refine WpO.callP Try.call21 rfl rfl hdc (fun v L' ⟨e1, e2, e3⟩ => ?_) fun v L' ⟨r2, e1, _, e2⟩ => ⟨Keeps.none, ?_⟩
          · subst e2
            rw [e1] at hf
            exact hend _ _ rfl rfl (fun k s => hM1L k (e3 k s).tail) (by rw [← hR]; unfold resolveO; rw [hy]; simp only []; rw [hRR, ← hf])
          subst e2
          rw [e1] at hf
          have hr2l : r2.length = t.length := by
            unfold dataF at e1
            cases hq : foldO (dataStep t y.datas t.length) (kidsN t i) ([], ref) with
            | none => rw [hq] at e1; cases e1
            | some s0 =>
              rw [hq] at e1
              simp only [Option.some.injEq] at e1
              subst e1
              exact foldO_inv (fun s : List (List UInt8) × List Int => s.2.length = t.length) _ _ _ _ hq hrl fun j _ s s' hs hf => by rw [(dataStep_len hf).1]; exact hs
          refine pur ?_
          repeat refine WpE.seq ?_
          refine WpE.np ?_
          refine pur ?_
          rw [hwr i (by omega)]
          exact Round.mk (i + 1, r2) (by show t.length - (i + 1) < t.length - i; omega) ⟨by show i + 1 ≤ _; omega, hr2l, hf⟩ ⟨rfl, rfl, rfl, rfl, rfl, rfl, rfl, trivial⟩ (fun k s => Sat.sel (T := M1) 3 (M := [_, _, _]) (M' := [_, _]) [0, 1] rfl s)
        · have hop : ¬ opN t i = 21 := of_decide_eq_false h2
          have hst : dataAll t y.datas i ref = some ref := by unfold dataAll; rw [if_neg hop]
          rw [hst] at hf
          refine WpE.skip ?_
          repeat refine WpE.seq ?_
          refine WpE.np ?_
          refine pur ?_
          rw [hwr i (by omega)]
          exact Round.mk (i + 1, ref) (by show t.length - (i + 1) < t.length - i; omega) ⟨by show i + 1 ≤ _; omega, hrl, hf⟩ ⟨rfl, rfl, rfl, rfl, rfl, rfl, rfl, trivial⟩ (fun k s => s.tail)
      · have hil : i = t.length := by have := of_decide_eq_false h; omega
        subst hil
        rw [List.drop_of_length_le (by simp)] at hf
        have hf : some ref = RR := hf
        subst hf
        refine WpE.exit ?_
        repeat refine WpE.seq ?_
        refine WpE.region [(1, .v (.pointer (some ⟨b1, 0, none⟩))), (2, .v (.pointer (some ⟨b2, 0, none⟩))), (3, .v (.pointer (some ⟨b3, 0, none⟩))), (5, .v (.pointer (some ⟨wb, 0, none⟩)))] (EnvLe.look ⟨rfl, rfl, rfl, rfl, trivial⟩) rfl ?_
        refine pur ?_
        rw [show IntKind.i64.wrap ((t.length : Int) - 1) = ((t.length - 1 : Nat) : Int) by rw [wrap_id (by omega) (by omega)]; omega]
        have hdc := (res_all (X := X) (by rw [hXt]; exact hok.shaped) (by subst hX0; exact hca) t.length).2 M1 hX (t.length - 1) ref [frm0] (by omega) (by rw [hXt]; omega) (by rw [hXt]; exact hrl) (by simp) (by simp; omega)
        rw [hXt, show X.cons = y.cons by subst hX0; rfl, show X.wb = wb by subst hX0; rfl] at hdc
        refine WpO.callP Try.call22 rfl rfl hdc (fun v L' ⟨e1, e2, e3⟩ => ?_) fun v L' ⟨s, e1, _, e2⟩ => ⟨Keeps.none, ?_⟩
        · subst e2
          exact hend _ _ rfl rfl (fun k s => hM1L k (e3 k s)) (by rw [← hR]; unfold resolveO; rw [hy]; simp only []; rw [hRR]; simp only []; rw [e1])
        subst e2
        have hso : RstOk t [frm0] s := by
          have := (res_ok hw hok.shaped (cons := y.cons) t.length).decl (t.length - 1) ref [frm0] s (by omega) hrl e1
          exact this
        obtain ⟨ref, rs⟩ := s
        obtain ⟨hrl2, g, hrs, hgk⟩ := hso
        simp only [] at hrl2 hrs e1 ⊢
        subst hrs
        refine pur ?_
        repeat refine WpE.seq ?_
        refine WpE.np ?_
        have hH := hX.hdr
        rw [show X.hdr = hdrW qb t.length qc (some ⟨rb, 0, none⟩) t.length t.length na.1 y.names.length na.2 ca.1 y.cons.length ca.2 da.1 y.datas.length da.2 none 0 0 sb cb tb by subst hX0; rfl, show X.wb = wb by subst hX0; rfl] at hH
        unfold hdrW at hH
        refine pur ?_
        refine WpO.call Try.call23 rfl rfl (findR_ct sb (g :: [frm0]) ⟨#[109, 97, 105, 110]⟩ _ 1 (by subst hX0; rfl) (by simp) (by simp)) fun v L' ⟨e1, e2⟩ => ⟨Keeps.none, ?_⟩
        subst e1; subst e2
        dsimp only [List.set]
        have hmS : bs ⟨#[109, 97, 105, 110]⟩ = mainS := rfl
        rw [hmS]
        obtain ⟨mv, ml, me, hfv, hgd, hbd⟩ : ∃ mv ml me : Int, findV (findR [g, frm0] mainS) = .tuple #[.int .i64 mv, .int .i64 ml, .int .i64 me] ∧ (me = 0 ∧ ml = 1 ∧ 6 ≤ mv → ∃ v : Int × Nat, findR [g, frm0] mainS = some v ∧ v.2 = 1 ∧ 6 ≤ v.1) ∧ (¬ (me = 0 ∧ ml = 1 ∧ 6 ≤ mv) → resolveO t = none) := by
          cases hfm : findR [g, frm0] mainS with
          | none => exact ⟨0, 0, 6, rfl, fun h => absurd h.1 (by decide), fun _ => by unfold resolveO; rw [hy]; simp only []; rw [hRR]; simp only []; rw [e1]; simp only []; rw [hfm]⟩
          | some v =>
            refine ⟨v.1, (v.2 : Int), 0, rfl, fun h => ⟨v, rfl, by omega, h.2.2⟩, fun h => ?_⟩
            unfold resolveO; rw [hy]; simp only []; rw [hRR]; simp only []; rw [e1]; simp only []; rw [hfm]
            simp only []
            rw [if_neg (fun q => h ⟨rfl, by omega, q.2⟩)]
        rw [hfv]
        refine pur ?_
        repeat refine WpE.seq ?_
        refine WpE.region [(1, .v (.pointer (some ⟨b1, 0, none⟩))), (2, .v (.pointer (some ⟨b2, 0, none⟩))), (3, .v (.pointer (some ⟨b3, 0, none⟩))), (5, .v (.pointer (some ⟨wb, 0, none⟩)))] (EnvLe.look ⟨rfl, rfl, rfl, rfl, trivial⟩) rfl ?_
        refine pur ?_
        refine WpO.callP Try.call24 rfl rfl (rfail_ct _ _) (fun v L' ⟨q1, q2, q3⟩ => ?_) fun v L' ⟨q1, q2⟩ => ⟨Keeps.none, ?_⟩
        · subst q2; subst q3
          refine hend _ _ rfl rfl (fun k s => hM1L k s.tail.tail) ?_
          rw [← hR, hbd (fun h => by rw [h.1, h.2.1] at q1; simp at q1; omega)]
        subst q2
        obtain ⟨v, hfm, hv1, hv2⟩ := hgd (by
          have hz : me = 0 := by
            rcases Decidable.em (me = 0) with q | q
            · exact q
            · simp [q] at q1
          have hl : ml = 1 := by
            rcases Decidable.em (ml = 1) with q | q
            · exact q
            · simp [hz, q] at q1
          exact ⟨hz, hl, by simp [hz, hl] at q1; omega⟩)
        have hres : resolveO t = some ⟨t, ref, y.names, y.cons, y.datas, (List.range t.length).flatMap (groupsAll t ref)⟩ := by
          unfold resolveO; rw [hy]; simp only []; rw [hRR]; simp only []; rw [e1]; simp only []; rw [hfm]; simp only []; rw [if_pos ⟨hv1, hv2⟩]
        rw [hres] at hR
        simp only [] at hR
        generalize hGG : (List.range t.length).flatMap (groupsAll t ref) = GG at hR
        refine pur ?_
        repeat refine WpE.seq ?_
        refine WpE.np ?_
        refine pur ?_
        repeat refine WpE.seq ?_
        obtain ⟨M3, hM3⟩ : ∃ M3, M3 = ownA 9 1 na.1 na.2 (strRs y.names) :: ownA 48 3 ca.1 ca.2 (y.cons.map conRow) :: ownA 50 2 da.1 da.2 (y.datas.map datRow) :: ptA b1 24 [.slice ta t.length tc] :: ownA 38 4 qb qc (ndRs t ks) :: listsI (kidsL t) ks :: p2m b2 b3 zBd 0 L := ⟨_, rfl⟩
        refine WpE.weaken (L' := gM wb qb t.length qc rb t.length t.length na.1 y.names.length na.2 ca.1 y.cons.length ca.2 da.1 y.datas.length da.2 sb cb tb ref [] (none, 0) [] M3) (fun _ _ h => h) (fun k hk => ?_) ?_
        · subst hX0; subst hM1; subst hM3
          have s1 := Sat.sel (T := L) 13 (M := [_, _, _, _, _, _, _, _, _, _, _, _, _]) (M' := [_, _, _, _, _, _, _, _, _, _]) [2, 0, 3, 4, 5, 8, 9, 10, 11, 12] rfl hk
          exact Sat.cons_mono (fun k s => Sat.cons_mono (fun k s => Sat.ownNil (listsI_nil s)) s) s1
        have hM3L : LeL M3 (p2m b2 b3 zBd 0 L) := by subst hM3; exact fun k s => Sat.drop [_, _, _, _, _, _] s
        have hT3 : TreeR M3 ta tc t := hT.wk fun k s => Sat.drop [_, _] (hM3L k s)
        refine WpE.know (fun k hs => tree_knowI (L := M3) (q := (qb, qc)) 4 5 (by subst hM3; rfl) (by subst hM3; rfl) hkl (Sat.drop [_, _, _, _] hs)) fun hTq3 => ?_
        refine WpE.np ?_
        refine pur ?_
        refine Wp.loopI (α := Nat × List Grp × (Option Addr × Nat) × List (Option Addr × Nat)) (0, [], (none, 0), [])
          (fun x => [(1, .v (.pointer (some ⟨b1, 0, none⟩))), (2, .v (.pointer (some ⟨b2, 0, none⟩))), (3, .v (.pointer (some ⟨b3, 0, none⟩))), (5, .v (.pointer (some ⟨wb, 0, none⟩))), (165, .v (.slice ta t.length tc)), (166, .v (.int .i64 t.length)), (167, .v (.int .i64 x.1))])
          (fun x => gM wb qb t.length qc rb t.length t.length na.1 y.names.length na.2 ca.1 y.cons.length ca.2 da.1 y.datas.length da.2 sb cb tb ref x.2.1 x.2.2.1 x.2.2.2 M3) (fun x => t.length - x.1) (fun x => x.1 ≤ t.length ∧ x.2.2.2.length = x.2.1.length ∧ x.2.1.length ≤ x.1 * 6000 ∧ x.2.1 ++ ((List.range t.length).drop x.1).flatMap (groupsAll t ref) = GG)
          ⟨Nat.zero_le _, rfl, Nat.zero_le _, hGG⟩ ⟨rfl, rfl, rfl, rfl, rfl, rfl, rfl, trivial⟩ (LeL.refl _) ?_
        rintro ⟨i, gs, ga, gks⟩ ⟨hi, hgk1, hgl, hf⟩
        simp only [] at hi hgk1 hgl hf ⊢
        refine pur ?_
        refine Wp.branch rfl (fun h => ?_) (fun h => ?_)
        · have hil : i < t.length := by have := of_decide_eq_true h; omega
          obtain ⟨tb1, tp, ka, kc, e1, hE, hS⟩ := hw.at hT3 hil
          subst e1
          rw [drop_get (x := i) (by rw [List.getElem?_range hil]), List.flatMap_cons, ← List.append_assoc] at hf
          have hgfl := groupF_len hw hil ref
          have hgi : gs.length ≤ 36000000 := by omega
          refine pur ?_
          refine S.idx i rfl rfl rfl rfl hil ?_
          refine S.loadN (vs := [.int .i64 (opN t i), .string (ndAt t i).text, .int .i64 (ndAt t i).num, .slice ka (kidsN t i).length kc]) rfl rfl (hE.app [_, _, _, _]) rfl ?_
          refine WpO.alloc rfl rfl (fun _ => Keeps.none) fun b19 => ?_
          refine pur ?_
          refine Wp.branch rfl (fun h2 => ?_) (fun h2 => ?_)
          · have hop : opN t i = 18 ∨ opN t i = 20 := by simpa using h2
            have hst : groupsAll t ref i = groupF t ref i := by unfold groupsAll; rw [if_pos hop]
            rw [hst] at hf
            refine pur ?_
            refine WpO.parts (L' := gM wb qb t.length qc rb t.length t.length na.1 y.names.length na.2 ca.1 y.cons.length ca.2 da.1 y.datas.length da.2 sb cb tb ref gs ga gks (ptA b19 38 [.int .i64 (opN t i), .string (ndAt t i).text, .int .i64 (ndAt t i).num, .slice ka (kidsN t i).length kc] :: M3)) (fun k s => Sat.sel (T := M3) 5 (M := [_, _, _, _, _]) (M' := [_, _, _, _, _]) [1, 2, 3, 4, 0] rfl s) ?_
            refine WpO.call Try.call25 rfl rfl (group_ct t wb qb qc rb t.length na.1 y.names.length na.2 ca.1 y.cons.length ca.2 da.1 y.datas.length da.2 sb cb tb ref gs ga gks _ (hTq3.wk fun k s => s.tail) hw i hil hrl2 hgk1 hgi) fun v L' ⟨_, ga2, ks2, hk2, e2⟩ => ⟨Keeps.none, ?_⟩
            subst e2
            refine pur ?_
            rw [hwr i (by omega)]
            refine Round.mk (i + 1, gs ++ groupF t ref i, ga2, ks2) (by show t.length - (i + 1) < t.length - i; omega) ⟨by show i + 1 ≤ _; omega, hk2, ?_, hf⟩ ⟨rfl, rfl, rfl, rfl, rfl, rfl, rfl, trivial⟩ (fun k s => Sat.sel (T := M3) 5 (M := [_, _, _, _, _]) (M' := [_, _, _, _]) [0, 1, 2, 3] rfl s)
            show (gs ++ groupF t ref i).length ≤ (i + 1) * 6000
            rw [List.length_append]; omega
          · have hop : ¬ (opN t i = 18 ∨ opN t i = 20) := by simpa using h2
            have hst : groupsAll t ref i = [] := by unfold groupsAll; rw [if_neg hop]
            rw [hst, List.append_nil] at hf
            refine pur ?_
            rw [hwr i (by omega)]
            exact Round.mk (i + 1, gs, ga, gks) (by show t.length - (i + 1) < t.length - i; omega) ⟨by show i + 1 ≤ _; omega, hgk1, Nat.le_trans hgl (Nat.mul_le_mul_right 6000 (Nat.le_succ i)), hf⟩ ⟨rfl, rfl, rfl, rfl, rfl, rfl, rfl, trivial⟩ (fun k s => s.tail)
        · have hil : i = t.length := by have := of_decide_eq_false h; omega
          subst hil
          rw [List.drop_of_length_le (by simp)] at hf
          have hf : gs = GG := by simpa using hf
          subst hf
          subst hR
          subst hM3
          refine pur ?_
          repeat refine WpE.seq ?_
          refine WpE.np ?_
          refine pur ?_
          refine S.loadN (vs := [.slice qb t.length qc, .slice (some ⟨rb, 0, none⟩) t.length t.length, .slice na.1 y.names.length na.2, .slice ca.1 y.cons.length ca.2, .slice da.1 y.datas.length da.2, .slice ga.1 gs.length ga.2]) rfl rfl (Ent.pt 0 6 rfl rfl) rfl ?_
          refine WpO.store 11 rfl rfl rfl rfl rfl rfl rfl rfl Keeps.none ?_
          refine WpO.store 10 rfl rfl rfl rfl rfl rfl rfl rfl Keeps.none ?_
          dsimp only [List.set]
          refine pur ?_
          refine WpE.ret ?_
          refine ⟨nofun, _, _, .returning, fun L' => L' = _, rfl, Try.call14, rsl_ret b2 b3 _, ?_⟩
          intro L' e
          subst e
          refine ⟨[.agg #[.slice qb t.length qc, .slice (some ⟨rb, 0, none⟩) t.length t.length, .slice na.1 y.names.length na.2, .slice ca.1 y.cons.length ca.2, .slice da.1 y.datas.length da.2, .slice ga.1 gs.length ga.2], .int .i64 0], bdA ⟨t, ref, y.names, y.cons, y.datas, gs⟩ ⟨(qb, qc), (some ⟨rb, 0, none⟩, t.length), na, ca, da, ga⟩ :: L,
            .cons (.agg (vs := [.slice qb t.length qc, .slice (some ⟨rb, 0, none⟩) t.length t.length, .slice na.1 y.names.length na.2, .slice ca.1 y.cons.length ca.2, .slice da.1 y.datas.length da.2, .slice ga.1 gs.length ga.2]) rfl (by infer_instance) (Ent.pt 11 6 rfl rfl) rfl) (.cons (.one rfl (by infer_instance) (Ent.pt 10 1 rfl rfl)) .nil), fun k hk => ?_, ⟨(qb, qc), (some ⟨rb, 0, none⟩, t.length), na, ca, da, ga⟩, ?_, rfl⟩
          · refine bdA_close (ks := ks) (gks := gks) hkl hgk1 ?_
            exact Sat.sel (T := L) 12 (M := [_, _, _, _, _, _, _, _, _, _, _, _]) (M' := [_, _, _, _, _, _, _, _]) [8, 9, 1, 4, 5, 6, 2, 3] rfl hk
          · show _ = Value.tuple #[.agg #[.slice qb t.length qc, .slice (some ⟨rb, 0, none⟩) ref.length t.length, .slice na.1 y.names.length na.2, .slice ca.1 y.cons.length ca.2, .slice da.1 y.datas.length da.2, .slice ga.1 gs.length ga.2], .int .i64 0]
            rw [hrl2]; rfl
end Go.Proofs.Ytibkdjjdfcpdaaa
end
