/- Parts of a proof: Ua Ub Uc Ud Ue Uf Ug Uh Ui Uj. -/
import Derived.Test.YtibkdjjdfcpdaaaMe
import Derived.Test.YtibkdjjdfcpdaaaMd
set_option linter.unusedVariables false
set_option linter.unusedSimpArgs false
set_option linter.unusedSectionVars false
section
/- rename: trees whose parts come first; the runs of clauses of a node. -/
namespace Go.Proofs.Ytibkdjjdfcpdaaa
open Go Go.Ab
attribute [local irreducible] Wp WpO Qt OpT Ct
def ndAt (t : List Nd) (i : Nat) : Nd := t[i]?.getD ⟨0, ⟨#[]⟩, 0, []⟩
def kidsN (t : List Nd) (i : Nat) : List Nat := (ndAt t i).kids.map Int.toNat
def textN (t : List Nd) (i : Nat) : List UInt8 := bs (ndAt t i).text
def opN (t : List Nd) (i : Nat) : Int := (ndAt t i).op
theorem nd_get {t : List Nd} {i : Nat} (h : i < t.length) : t[i]? = some (ndAt t i) := by unfold ndAt; rw [List.getElem?_eq_getElem h]; rfl
/-- Of each node the parts are nodes ahead of it. -/
structure WF (t : List Nd) : Prop where
  len : t.length ≤ 6000
  kids : ∀ i, i < t.length → (ndAt t i).kids = natI (kidsN t i) ∧ (∀ k ∈ kidsN t i, k < i) ∧ (kidsN t i).length ≤ i
theorem natI_toNat (l : List Nat) : (natI l).map Int.toNat = l := by
  unfold natI
  rw [List.map_map]
  conv => rhs; rw [← List.map_id l]
  exact List.map_congr_left fun x _ => by simp
theorem ints_natI (l : List Nat) : ints (natI l) = natRows l := by simp [ints, natI, natRows]
/-- A node is read. -/
theorem WF.at {t : List Nd} {L : List Assn} {a : Option Addr} {c : Nat} (hw : WF t) (hT : TreeR L a c t) {i : Nat} (hi : i < t.length) :
    ∃ b o ka kc, a = some ⟨b, o, none⟩ ∧ Ent L (CellsAt b (o + i * 4) [.int .i64 (opN t i), .string (ndAt t i).text, .int .i64 (ndAt t i).num, .slice ka (kidsN t i).length kc]) ∧ Sl L ka kc 1 (natRows (kidsN t i)) := by
  obtain ⟨b, o, ka, kc, e1, e2, e3⟩ := hT.at (nd_get hi)
  obtain ⟨w1, _, _⟩ := hw.kids i hi
  refine ⟨b, o, ka, kc, e1, ?_, ?_⟩
  · have : (ndAt t i).kids.length = (kidsN t i).length := by unfold kidsN; rw [List.length_map]
    rw [← this]; exact e2
  · rw [w1, ints_natI] at e3; exact e3
theorem WF.kid {t : List Nd} (hw : WF t) {i k : Nat} (hi : i < t.length) (hk : k ∈ kidsN t i) : k < t.length := by have := (hw.kids i hi).2.1 k hk; omega
/-! ### Lists of numbers, one more -/
theorem gridRows_snoc {g : List (List Nat)} {ks : List (Option Addr × Nat)} (h : ks.length = g.length) (l : List Nat) (k : Option Addr × Nat) : gridRows g ks ++ [[.slice k.1 l.length k.2]] = gridRows (g ++ [l]) (ks ++ [k]) := by
  unfold gridRows
  rw [List.zipWith_append h.symm]; rfl
theorem lists_snoc {g : List (List Nat)} {ks : List (Option Addr × Nat)} (h : ks.length = g.length) (l : List Nat) (k0 : Option Addr × Nat) {L : List Assn} {k : Hp} (s : Sat k (ownA 3 1 k0.1 k0.2 (natRows l) :: listsP g ks :: L)) : Sat k (listsP (g ++ [l]) (ks ++ [k0]) :: L) := by
  have s1 : Sat k (ownA 3 1 k0.1 k0.2 (natRows l) :: (listsM g ks ++ L)) := Sat.cons_mono (fun k s => by
    obtain ⟨M', hM, s2⟩ := Sat.openP s
    subst hM; exact s2) s
  have e : listsM (g ++ [l]) (ks ++ [k0]) = listsM g ks ++ [ownA 3 1 k0.1 k0.2 (natRows l)] := by
    unfold listsM; rw [List.zipWith_append h.symm]; rfl
  refine Sat.closeP (φ := fun M => M = listsM (g ++ [l]) (ks ++ [k0])) rfl ?_
  rw [e]
  refine Sat.perm ?_ s1
  rw [List.append_assoc]
  exact List.perm_middle.symm
theorem lists_nil0 {L : List Assn} {k : Hp} (s : Sat k L) : Sat k (listsP [] [] :: L) := Sat.closeP (φ := fun M => M = listsM [] []) rfl s
/-! ### Runs of clauses -/
def runStep (t : List Nd) (x : List (List Nat) × Option Nat) (i : Nat) : List (List Nat) × Option Nat :=
  if opN t i ≠ 19 then (x.1, none) else
  match x.2 with
  | some w => if textN t w = textN t i then (x.1.modify (x.1.length - 1) (· ++ [i]), some i) else (x.1 ++ [[i]], some i)
  | none => (x.1 ++ [[i]], some i)
def runsOf (t : List Nd) (l : List Nat) (x : List (List Nat) × Option Nat) : List (List Nat) × Option Nat := l.foldl (runStep t) x
/-- The runs of clauses of a node. -/
def functionsF (t : List Nd) (n : Nat) : List (List Nat) := (runsOf t (kidsN t n) ([], none)).1
def wasI : Option Nat → Int
  | some w => (w : Int)
  | none => -1
/-- What holds of the runs under way. -/
structure RunOk (t : List Nd) (x : List (List Nat) × Option Nat) : Prop where
  was : ∀ w, x.2 = some w → w < t.length ∧ x.1 ≠ []
  lt : ∀ l ∈ x.1, l ≠ [] ∧ ∀ k ∈ l, k < t.length
theorem RunOk.step {t : List Nd} {x : List (List Nat) × Option Nat} {i : Nat} (h : RunOk t x) (hi : i < t.length) : RunOk t (runStep t x i) ∧ (runStep t x i).1.flatten.length ≤ x.1.flatten.length + 1 := by
  have hnew : RunOk t (x.1 ++ [[i]], some i) ∧ (x.1 ++ [[i]]).flatten.length ≤ x.1.flatten.length + 1 := by
    refine ⟨⟨fun w hw => ?_, fun l hl => ?_⟩, by simp⟩
    · simp only [Option.some.injEq] at hw
      subst hw; exact ⟨hi, by simp⟩
    · rcases List.mem_append.1 hl with q | q
      · exact h.lt l q
      · obtain rfl := List.mem_singleton.1 q
        exact ⟨by simp, fun k hk => by obtain rfl := List.mem_singleton.1 hk; exact hi⟩
  unfold runStep
  split
  · exact ⟨⟨nofun, h.lt⟩, by simp⟩
  · split
    · rename_i w hw
      split
      · obtain ⟨_, hne⟩ := h.was w hw
        obtain ⟨r, z, hz⟩ : ∃ r z, x.1 = r ++ [z] := by
          rcases List.eq_nil_or_concat x.1 with q | ⟨r, z, q⟩
          · exact absurd q hne
          · exact ⟨r, z, by rw [q, List.concat_eq_append]⟩
        have hm : x.1.modify (x.1.length - 1) (· ++ [i]) = r ++ [z ++ [i]] := by
          rw [modify_set (l := z) (by rw [hz]; simp), hz, List.set_append_right _ _ (by simp)]
          simp
        rw [hm]
        refine ⟨⟨fun w hw => ?_, fun l hl => ?_⟩, by rw [hz]; simp; omega⟩
        · simp only [Option.some.injEq] at hw
          subst hw; exact ⟨hi, by simp⟩
        · rcases List.mem_append.1 hl with q | q
          · exact h.lt l (by rw [hz]; simp [q])
          · obtain rfl := List.mem_singleton.1 q
            refine ⟨by simp, fun k hk => ?_⟩
            rcases List.mem_append.1 hk with q | q
            · exact (h.lt z (by rw [hz]; simp)).2 k q
            · obtain rfl := List.mem_singleton.1 q; exact hi
      · exact hnew
    · exact hnew
theorem runs_ok {t : List Nd} : ∀ (l : List Nat) (x : List (List Nat) × Option Nat), RunOk t x → (∀ k ∈ l, k < t.length) → RunOk t (runsOf t l x) ∧ (runsOf t l x).1.flatten.length ≤ x.1.flatten.length + l.length
  | [], x, h, _ => ⟨h, by simp [runsOf]⟩
  | i :: l, x, h, hl => by
    obtain ⟨h1, h2⟩ := h.step (hl i (by simp))
    obtain ⟨w1, w2⟩ := runs_ok l _ h1 (fun k hk => hl k (by simp [hk]))
    exact ⟨w1, by show (runsOf t l (runStep t x i)).1.flatten.length ≤ _; simp only [List.length_cons]; omega⟩
theorem flat_le {l : List Nat} : ∀ {g : List (List Nat)}, l ∈ g → l.length ≤ g.flatten.length
  | x :: g, h => by
    rw [List.flatten_cons, List.length_append]
    rcases List.mem_cons.1 h with rfl | h
    · omega
    · have := flat_le h; omega
theorem flat_len : ∀ {g : List (List Nat)}, (∀ l ∈ g, l ≠ []) → g.length ≤ g.flatten.length
  | [], _ => Nat.le_refl _
  | x :: g, h => by
    have h1 := flat_len (g := g) fun l hl => h l (by simp [hl])
    have h2 : 0 < x.length := List.length_pos_iff.2 (h x (by simp))
    rw [List.flatten_cons, List.length_append, List.length_cons]; omega
theorem functions_ok {t : List Nd} (hw : WF t) {n : Nat} (hn : n < t.length) : (∀ l ∈ functionsF t n, l ≠ [] ∧ ∀ k ∈ l, k < t.length) ∧ (functionsF t n).flatten.length ≤ 6000 ∧ (functionsF t n).length ≤ 6000 ∧ ∀ l ∈ functionsF t n, l.length ≤ 6000 := by
  obtain ⟨h1, h2, h3⟩ := hw.kids n hn
  obtain ⟨w1, w2⟩ := runs_ok (t := t) (kidsN t n) ([], none) ⟨nofun, nofun⟩ (fun k hk => hw.kid hn hk)
  have hlen := hw.len
  have hfl : (functionsF t n).flatten.length ≤ 6000 := by
    have : (functionsF t n).flatten.length ≤ 0 + (kidsN t n).length := w2
    omega
  refine ⟨w1.lt, hfl, ?_, fun l hl => ?_⟩
  · have := flat_len (g := functionsF t n) fun l hl => (w1.lt l hl).1
    omega
  · have := flat_le hl; omega
set_option maxHeartbeats 8000000 in
theorem functions_ct (t : List Nd) (ta : Option Addr) (tc n : Nat) (L : List Assn) (hT : TreeR L ta tc t) (hw : WF t) (hn : n < t.length) :
    Ct Try.prog 45 #[.agg #[.slice ta t.length tc], .int .i64 (n : Int)] L
      (ret fun v L' => ∃ ra rc ks, v = .slice ra (functionsF t n).length rc ∧ ks.length = (functionsF t n).length ∧ L' = ownA 26 1 ra rc (gridRows (functionsF t n) ks) :: listsP (functionsF t n) ks :: L) := by
  obtain ⟨k1, k2, k3⟩ := hw.kids n hn
  have hlen := hw.len
  obtain ⟨tb, tp, ka, kc, e1, hE, hS⟩ := hw.at hT hn
  subst e1
  refine Ct.body Try.func45 rfl Try.ntmps45 Try.results45 rfl ?_
  refine pur ?_
  refine WpO.box (vs := [.slice (some ⟨tb, tp, none⟩) t.length tc]) rfl rfl rfl (fun _ => Keeps.none) fun b2 => ?_
  refine pur ?_
  refine S.idx n rfl rfl rfl rfl hn ?_
  refine pur ?_
  refine Wp.loopI (α := Nat × (List (List Nat) × Option Nat) × List (Option Addr × Nat) × (Option Addr × Nat)) (0, ([], none), [], (none, 0))
    (fun x => [(2, .v (.pointer (some ⟨b2, 0, none⟩))), (5, .v (.slice x.2.2.2.1 x.2.1.1.length x.2.2.2.2)), (6, .v (.int .i64 (wasI x.2.1.2))), (14, .v (.slice ka (kidsN t n).length kc)), (15, .v (.int .i64 (kidsN t n).length)), (16, .v (.int .i64 x.1))])
    (fun x => ownA 26 1 x.2.2.2.1 x.2.2.2.2 (gridRows x.2.1.1 x.2.2.1) :: listsP x.2.1.1 x.2.2.1 :: ptA b2 24 [.slice (some ⟨tb, tp, none⟩) t.length tc] :: L)
    (fun x => (kidsN t n).length - x.1) (fun x => x.1 ≤ (kidsN t n).length ∧ RunOk t x.2.1 ∧ x.2.2.1.length = x.2.1.1.length ∧ x.2.1.1.flatten.length ≤ x.1 ∧ (runsOf t ((kidsN t n).drop x.1) x.2.1).1 = functionsF t n)
    ⟨Nat.zero_le _, ⟨nofun, nofun⟩, rfl, Nat.le_refl _, rfl⟩ ⟨rfl, rfl, rfl, rfl, rfl, rfl, trivial⟩ (fun k s => Sat.ownNil (lists_nil0 s)) ?_
  rintro ⟨i, ⟨rs, was⟩, ks, ⟨ra, rc⟩⟩ ⟨hi, hok, hkl, hfl, hrun⟩
  simp only [] at hi hok hkl hfl hrun ⊢
  refine pur ?_
  refine Wp.branch rfl (fun h => ?_) (fun h => ?_)
  · have hil : i < (kidsN t n).length := by have := of_decide_eq_true h; omega
    have hk := gOf_get hil
    generalize hke : gOf (kidsN t n) i = k at hk
    have hkl2 : k < t.length := hw.kid hn (List.mem_of_getElem? hk)
    rw [drop_get hk] at hrun
    obtain ⟨ok1, ok2⟩ := hok.step hkl2
    have hrun : (runsOf t ((kidsN t n).drop (i + 1)) (runStep t (rs, was) k)).1 = functionsF t n := hrun
    obtain ⟨kb, ko, e2, hEk⟩ := nat_at hS hk
    subst e2
    have hEk := hEk.app [ownA 26 1 ra rc (gridRows rs ks), listsP rs ks, ptA b2 24 [.slice (some ⟨tb, tp, none⟩) t.length tc]]
    obtain ⟨tb2, tp2, ka2, kc2, e3, hE2, _⟩ := hw.at hT hkl2
    simp only [Option.some.injEq, Addr.mk.injEq, and_true] at e3
    obtain ⟨rfl, rfl⟩ := e3
    have hE2 := hE2.app [ownA 26 1 ra rc (gridRows rs ks), listsP rs ks, ptA b2 24 [.slice (some ⟨tb, tp, none⟩) t.length tc]]
    have hw1 : IntKind.i64.wrap ((i : Int) + 1) = ((i + 1 : Nat) : Int) := by rw [wrap_id (by omega) (by omega)]; omega
    have hflen := flat_len (g := rs) fun l hl => (hok.lt l hl).1
    refine pur ?_
    refine S.idx i rfl rfl rfl rfl hil ?_
    refine pur ?_
    refine S.idx k rfl rfl rfl rfl hkl2 ?_
    refine pur ?_
    refine Wp.branch rfl (fun h2 => ?_) (fun h2 => ?_)
    · have hop : opN t k ≠ 19 := by simpa using h2
      have hst : runStep t (rs, was) k = (rs, none) := by unfold runStep; rw [if_pos hop]
      rw [hst] at hrun ok1
      refine pur ?_
      rw [hw1]
      exact Round.mk (i + 1, (rs, none), ks, (ra, rc)) (by show _ - (i + 1) < _ - i; omega) ⟨by show i + 1 ≤ _; omega, ok1, hkl, Nat.le_succ_of_le hfl, hrun⟩ ⟨rfl, rfl, rfl, rfl, rfl, rfl, trivial⟩ (LeL.refl _)
    have hop : ¬ opN t k ≠ 19 := by simpa using h2
    obtain ⟨wv, hwv⟩ : ∃ wv, wv = was.getD k := ⟨_, rfl⟩
    have hwl : wv < t.length := by
      subst hwv
      cases was with
      | none => exact hkl2
      | some w => exact (hok.was w rfl).1
    have hwi : decide (0 ≤ wasI was) = true → wasI was = (wv : Int) ∧ wv < t.length := fun h => by
      subst hwv
      cases was with
      | none => cases h
      | some w => exact ⟨rfl, hwl⟩
    obtain ⟨tb3, tp3, ka3, kc3, e3, hE3, _⟩ := hw.at hT hwl
    simp only [Option.some.injEq, Addr.mk.injEq, and_true] at e3
    obtain ⟨rfl, rfl⟩ := e3
    have hE3 := hE3.app [ownA 26 1 ra rc (gridRows rs ks), listsP rs ks, ptA b2 24 [.slice (some ⟨tb, tp, none⟩) t.length tc]]
    refine pur ?_
    refine Wp.draw rfl [0,1,2,3,4,5,6,7,8,9,10,11,12,13,14,15,16,17] 18 18 _ rfl (by decide +kernel) (fun _ h => h) ?_
    refine pur ?_
    refine G.idx wv rfl rfl rfl (by infer_instance) rfl (by infer_instance) hwi ?_
    refine pur ?_
    refine G.idx k rfl rfl rfl (by infer_instance) rfl (by infer_instance) (fun _ => ⟨rfl, hkl2⟩) ?_
    refine pur ?_
    refine Wp.branch rfl (fun h3 => ?_) (fun h3 => ?_)
    · rw [Bool.and_eq_true] at h3
      obtain ⟨w, hws⟩ : ∃ w, was = some w := by
        cases was with
        | none => cases h3.1
        | some w => exact ⟨w, rfl⟩
      subst hws
      have hwv : wv = w := hwv
      subst hwv
      have htx : textN t wv = textN t k := of_decide_eq_true h3.2
      have hst : runStep t (rs, some wv) k = (rs.modify (rs.length - 1) (· ++ [k]), some k) := by unfold runStep; rw [if_neg hop]; simp only [htx, if_true]
      rw [hst] at hrun ok1 ok2
      have hne := (hok.was wv rfl).2
      obtain ⟨r0, z, hz⟩ : ∃ r z, rs = r ++ [z] := by
        rcases List.eq_nil_or_concat rs with q | ⟨r, z, q⟩
        · exact absurd q hne
        · exact ⟨r, z, by rw [q, List.concat_eq_append]⟩
      have hrl : rs.length = r0.length + 1 := by rw [hz]; simp
      have hz1 : rs[r0.length]? = some z := by rw [hz]; simp
      obtain ⟨k0, hk0⟩ : ∃ k0, ks[r0.length]? = some k0 := ⟨_, List.getElem?_eq_getElem (by omega)⟩
      have hzl := flat_le (List.mem_of_getElem? hz1)
      rw [hrl, Nat.add_sub_cancel, modify_set hz1] at hrun ok1 ok2
      have hgr := gridRows_get hz1 hk0
      have hw2 : IntKind.i64.wrap (((rs.length : Nat) : Int) - 1) = ((r0.length : Nat) : Int) := by rw [wrap_id (by omega) (by omega)]; omega
      refine Wp.know (fun k' hs => own_some 0 rfl hs (by rw [gridRows_length hkl]; omega)) fun ⟨rb, ro, e⟩ => ?_
      subst e
      refine Wp.parts (L' := ownA 26 1 (some ⟨rb, ro, none⟩) rc (gridRows rs ks) :: ownA 3 1 k0.1 k0.2 (natRows z) :: pkgA (fun M' => M' = (listsM rs ks).eraseIdx r0.length) :: ptA b2 24 [.slice (some ⟨tb, tp, none⟩) t.length tc] :: L) (fun k' s => Sat.cons_mono (fun k' s => lists_take hz1 hk0 s) s) ?_
      refine pur ?_
      rw [hw2]
      refine S.idx r0.length rfl rfl rfl rfl (by omega) ?_
      refine S.load (v := .slice k0.1 z.length k0.2) rfl rfl (by infer_instance) (own_ent 0 r0.length rfl hgr) ?_
      refine pur ?_
      refine WpO.buildSlice rfl rfl rfl rfl rfl rfl rfl (fun _ => Keeps.none) fun b62 => ?_
      refine WpO.appendLit 1 [[.int .i64 (k : Nat)]] rfl rfl rfl rfl (by rw [natRows_length]) rfl rfl rfl rfl rfl rfl rfl (by rw [natRows_length]; simp; omega) (fun _ _ => Keeps.none) fun a2 k2 => ?_
      dsimp only [List.set]
      rw [natRows_snoc, natRows_length]
      refine S.idx r0.length rfl rfl rfl rfl (by omega) ?_
      refine WpO.storeRow1 0 r0.length rfl rfl rfl (by rw [gridRows_length hkl]; omega) rfl rfl Keeps.none (gridRows_one _ _) ?_
      dsimp only [List.set]
      have hset := gridRows_set rs ks r0.length (z ++ [k]) (a2, k2)
      rw [hset]
      refine pur ?_
      rw [hw1]
      refine Round.mk (i + 1, (rs.set r0.length (z ++ [k]), some k), ks.set r0.length (a2, k2), (some ⟨rb, ro, none⟩, rc)) (by show _ - (i + 1) < _ - i; omega) ⟨by show i + 1 ≤ _; omega, ok1, by simpa using hkl, Nat.le_trans ok2 (Nat.succ_le_succ hfl), hrun⟩ ⟨rfl, by simp [Ab.look], rfl, rfl, rfl, rfl, trivial⟩ (fun k' s => ?_)
      exact Sat.cons_mono (fun k' s => lists_put (by omega) (by omega) s) s
    · have hst : runStep t (rs, was) k = (rs ++ [[k]], some k) := by
        unfold runStep
        rw [if_neg hop]
        cases was with
        | none => rfl
        | some w =>
          have hwv : wv = w := hwv
          subst hwv
          have : ¬ textN t wv = textN t k := fun e => by
            have h4 : (decide (0 ≤ wasI (some wv)) && decide (textN t wv = textN t k)) = false := h3
            rw [decide_eq_true e, Bool.and_true] at h4
            exact absurd (Int.natCast_nonneg wv) (of_decide_eq_false h4)
          simp only [this, if_false]
      rw [hst] at hrun ok1 ok2
      refine pur ?_
      refine WpO.buildSlice rfl rfl rfl rfl rfl rfl rfl (fun _ => Keeps.none) fun b22 => ?_
      refine WpO.buildSlice rfl rfl rfl rfl rfl rfl rfl (fun _ => Keeps.none) fun b23 => ?_
      refine WpO.appendLit 1 [[.slice (some ⟨b22, 0, none⟩) 1 1]] rfl rfl rfl rfl (by rw [gridRows_length hkl]) rfl rfl rfl rfl rfl rfl rfl (by rw [gridRows_length hkl]; simp; omega) (fun _ _ => Keeps.none) fun a2 k2 => ?_
      dsimp only [List.set]
      have hsn := gridRows_snoc hkl [k] (some ⟨b22, 0, none⟩, 1)
      simp only [List.length_singleton] at hsn
      rw [hsn, gridRows_length (by simp; omega)]
      refine pur ?_
      rw [hw1]
      refine Round.mk (i + 1, (rs ++ [[k]], some k), ks ++ [(some ⟨b22, 0, none⟩, 1)], (a2, k2)) (by show _ - (i + 1) < _ - i; omega) ⟨by show i + 1 ≤ _; omega, ok1, by simp; omega, Nat.le_trans ok2 (Nat.succ_le_succ hfl), hrun⟩ ⟨rfl, rfl, rfl, rfl, rfl, rfl, trivial⟩ (fun k' s => ?_)
      refine Sat.swap ?_
      refine lists_snoc hkl [k] (some ⟨b22, 0, none⟩, 1) ?_
      have s1 := Sat.sel (T := ptA b2 24 [.slice (some ⟨tb, tp, none⟩) t.length tc] :: L) 3 (M := [_, _, _]) (M' := [_, _, _]) [0, 2, 1] rfl s
      obtain ⟨h1', l1, a1, s2⟩ := s1
      exact ⟨h1', l1, ownA.ofPt (rows := [[.int .i64 (k : Nat)]]) rfl (by simp) rfl a1, s2⟩
  · have hil : i = (kidsN t n).length := by have := of_decide_eq_false h; omega
    subst hil
    rw [List.drop_length] at hrun
    have hrun : rs = functionsF t n := hrun
    subst hrun
    refine pur ?_
    exact Wp.ret (RetL rfl (fun k s => Sat.cons_mono (fun k s => Sat.cons_mono (fun k s => s.tail) s) s) ⟨ra, rc, ks, rfl, hkl, rfl⟩)
end Go.Proofs.Ytibkdjjdfcpdaaa
end

section
/- rename.later: the clauses that are not the first of their functions. -/
namespace Go.Proofs.Ytibkdjjdfcpdaaa
open Go Go.Ab
attribute [local irreducible] Wp WpO Qt OpT Ct
def putN : List (Nat × Nat) → Nat → Nat → List (Nat × Nat)
  | [], k, v => [(k, v)]
  | e :: r, k, v => if e.1 = k then (k, v) :: r else e :: putN r k v
def getN : List (Nat × Nat) → Nat → Option Nat
  | [], _ => none
  | e :: r, k => if e.1 = k then some e.2 else getN r k
def nM (m : List (Nat × Nat)) : List (Int × Value) := m.map fun e => ((e.1 : Int), .int .i64 (e.2 : Int))
theorem mget_nM : ∀ (m : List (Nat × Nat)) (k : Nat), mget (nM m) (k : Int) = (getN m k).map fun v => .int .i64 (v : Int)
  | [], _ => rfl
  | e :: r, k => by
    show (if (e.1 : Int) = (k : Int) then some (Value.int .i64 (e.2 : Int)) else mget (nM r) (k : Int)) = _
    unfold getN
    by_cases h : e.1 = k
    · rw [if_pos (by omega), if_pos h]; rfl
    · rw [if_neg (by omega), if_neg h]; exact mget_nM r k
theorem mset_nM : ∀ (m : List (Nat × Nat)) (k v : Nat), mset (nM m) (k : Int) (.int .i64 (v : Int)) = nM (putN m k v)
  | [], _, _ => rfl
  | e :: r, k, v => by
    show (if (e.1 : Int) = (k : Int) then ((k : Int), Value.int .i64 (v : Int)) :: nM r else ((e.1 : Int), Value.int .i64 (e.2 : Int)) :: mset (nM r) (k : Int) (.int .i64 (v : Int))) = _
    unfold putN
    by_cases h : e.1 = k
    · rw [if_pos (by omega), if_pos h]; rfl
    · rw [if_neg (by omega), if_neg h, mset_nM r k v]; rfl
def laterRun (run : List Nat) (m : List (Nat × Nat)) : List (Nat × Nat) := (run.drop 1).foldl (fun m a => putN m a (gOf run 0)) m
def laterStep (t : List Nd) (m : List (Nat × Nat)) (i : Nat) : List (Nat × Nat) :=
  if opN t i = 18 ∨ opN t i = 20 then (functionsF t i).foldl (fun m run => laterRun run m) m else m
/-- The clauses that are not the first of their functions, with the first. -/
def laterF (t : List Nd) : List (Nat × Nat) := (List.range t.length).foldl (laterStep t) []
set_option maxHeartbeats 8000000 in
theorem later_ct (t : List Nd) (ta : Option Addr) (tc : Nat) (L : List Assn) (hT : TreeR L ta tc t) (hw : WF t) :
    Ct Try.prog 41 #[.agg #[.slice ta t.length tc]] L (ret fun v L' => ∃ mb, v = .map (some mb) ∧ L' = mapA mb (nM (laterF t)) :: L) := by
  have hlen := hw.len
  refine Ct.body Try.func41 rfl Try.ntmps41 Try.results41 rfl ?_
  refine pur ?_
  refine WpO.box (vs := [.slice ta t.length tc]) rfl rfl rfl (fun _ => Keeps.none) fun b1 => ?_
  refine pur ?_
  refine WpO.mmake (κ := Int) rfl (fun _ => Keeps.none) fun mb => ?_
  refine pur ?_
  refine Wp.loopI (α := Nat × List (Nat × Nat)) (0, [])
    (fun x => [(1, .v (.pointer (some ⟨b1, 0, none⟩))), (3, .v (.map (some mb))), (12, .v (.slice ta t.length tc)), (13, .v (.int .i64 t.length)), (14, .v (.int .i64 x.1))])
    (fun x => mapA mb (nM x.2) :: ptA b1 24 [.slice ta t.length tc] :: L)
    (fun x => t.length - x.1) (fun x => x.1 ≤ t.length ∧ ((List.range t.length).drop x.1).foldl (laterStep t) x.2 = laterF t) ⟨Nat.zero_le _, rfl⟩ ⟨rfl, rfl, rfl, rfl, rfl, trivial⟩ (LeL.refl _) ?_
  rintro ⟨i, m⟩ ⟨hi, hm⟩
  simp only [] at hi hm ⊢
  have hw1 : i < t.length → IntKind.i64.wrap ((i : Int) + 1) = ((i + 1 : Nat) : Int) := fun h => by rw [wrap_id (by omega) (by omega)]; omega
  refine pur ?_
  refine Wp.branch rfl (fun h => ?_) (fun h => ?_)
  · have hil : i < t.length := by have := of_decide_eq_true h; omega
    rw [drop_get (x := i) (by rw [List.getElem?_range hil]), List.foldl_cons] at hm
    obtain ⟨tb, tp, ka, kc, e1, hE, _⟩ := hw.at hT hil
    subst e1
    refine pur ?_
    refine S.idx i rfl rfl rfl rfl hil ?_
    refine S.loadN (vs := [.int .i64 (opN t i), .string (ndAt t i).text, .int .i64 (ndAt t i).num, .slice ka (kidsN t i).length kc]) rfl rfl (hE.app [_, _]) rfl ?_
    refine WpO.alloc rfl rfl (fun _ => Keeps.none) fun b5 => ?_
    refine pur ?_
    refine Wp.branch rfl (fun h2 => ?_) (fun h2 => ?_)
    · have hop : opN t i = 18 ∨ opN t i = 20 := by simpa using h2
      have hst : laterStep t m i = (functionsF t i).foldl (fun m run => laterRun run m) m := by unfold laterStep; rw [if_pos hop]
      rw [hst] at hm
      obtain ⟨f1, f2, f3, f4⟩ := functions_ok hw hil
      refine pur ?_
      refine S.loadN (vs := [.slice (some ⟨tb, tp, none⟩) t.length tc]) rfl rfl (Ent.pt 2 1 rfl rfl) rfl ?_
      refine pur ?_
      refine WpO.call Try.call45 rfl rfl (functions_ct t (some ⟨tb, tp, none⟩) tc i _ (hT.wk fun k s => s.tail.tail.tail) hw hil) fun v L' ⟨ra, rc, ks, e1, hkl, e2⟩ => ⟨Keeps.none, ?_⟩
      subst e1; subst e2
      refine WpO.know (fun k hs => grid_know (L := ownA 26 1 ra rc (gridRows (functionsF t i) ks) :: listsP (functionsF t i) ks :: L) 0 1 rfl rfl hkl (Sat.sel (T := L) 2 (M := [_, _, _, _, _]) (M' := [_, _]) [0, 1] rfl hs)) fun hGB => ?_
      obtain ⟨B, hB⟩ : ∃ B, B = ownA 26 1 ra rc (gridRows (functionsF t i) ks) :: listsP (functionsF t i) ks :: L := ⟨_, rfl⟩
      rw [← hB] at hGB
      generalize hR : functionsF t i = R at *
      refine pur ?_
      refine Wp.loopI (α := Nat × List (Nat × Nat)) (0, m)
        (fun x => [(1, .v (.pointer (some ⟨b1, 0, none⟩))), (3, .v (.map (some mb))), (12, .v (.slice (some ⟨tb, tp, none⟩) t.length tc)), (13, .v (.int .i64 t.length)), (14, .v (.int .i64 i)), (29, .v (.slice ra R.length rc)), (30, .v (.int .i64 R.length)), (31, .v (.int .i64 x.1))])
        (fun x => mapA mb (nM x.2) :: ptA b1 24 [.slice (some ⟨tb, tp, none⟩) t.length tc] :: B)
        (fun x => R.length - x.1) (fun x => x.1 ≤ R.length ∧ ((List.range t.length).drop (i + 1)).foldl (laterStep t) ((R.drop x.1).foldl (fun m run => laterRun run m) x.2) = laterF t) ⟨Nat.zero_le _, hm⟩ ⟨rfl, rfl, rfl, rfl, rfl, rfl, rfl, rfl, trivial⟩
        (fun k s => by subst hB; exact Sat.sel (T := L) 5 (M := [_, _, _, _, _]) (M' := [_, _, _, _]) [3, 4, 0, 1] rfl s) ?_
      rintro ⟨j, m⟩ ⟨hj, hm⟩
      simp only [] at hj hm ⊢
      refine pur ?_
      refine Wp.branch rfl (fun h3 => ?_) (fun h3 => ?_)
      · have hjl : j < R.length := by have := of_decide_eq_true h3; omega
        obtain ⟨l, hl⟩ : ∃ l, R[j]? = some l := ⟨_, List.getElem?_eq_getElem hjl⟩
        obtain ⟨hne, hlt⟩ := f1 l (List.mem_of_getElem? hl)
        have hll := f4 l (List.mem_of_getElem? hl)
        have hl0 : 0 < l.length := List.length_pos_iff.2 hne
        rw [drop_get hl, List.foldl_cons] at hm
        obtain ⟨rb, ro, la, lc, e1, hE3, hS⟩ := hGB.at hl
        subst e1
        obtain ⟨lb, lo, e2, hE4⟩ := nat_at hS (gOf_get hl0)
        subst e2
        have hlc := hS.cap
        rw [natRows_length] at hlc
        have hS2 := hS.drop 1 (by rw [natRows_length]; omega)
        have hdr : (natRows l).drop 1 = natRows (l.drop 1) := by simp [natRows, List.map_drop]
        rw [hdr] at hS2
        refine pur ?_
        refine S.idx j rfl rfl rfl rfl hjl ?_
        refine S.load (v := .slice (some ⟨lb, lo, none⟩) l.length lc) rfl rfl (by infer_instance) (hE3.app [_, _]) ?_
        refine pur ?_
        refine S.sliceL 1 l.length rfl rfl (Bd.at 1 rfl (by infer_instance) (fun _ => rfl)) Bd.no ⟨by omega, hlc⟩ ?_
        refine pur ?_
        refine Wp.loopI (α := Nat × List (Nat × Nat)) (0, m)
          (fun x => [(1, .v (.pointer (some ⟨b1, 0, none⟩))), (3, .v (.map (some mb))), (12, .v (.slice (some ⟨tb, tp, none⟩) t.length tc)), (13, .v (.int .i64 t.length)), (14, .v (.int .i64 i)), (29, .v (.slice (some ⟨rb, ro, none⟩) R.length rc)), (30, .v (.int .i64 R.length)), (31, .v (.int .i64 j)), (7, .v (.slice (some ⟨lb, lo, none⟩) l.length lc)), (36, .v (.slice (slA (some ⟨lb, lo, none⟩) lc 1 1) (l.length - 1) (lc - 1))), (37, .v (.int .i64 ((l.length - 1 : Nat) : Int))), (38, .v (.int .i64 x.1))])
          (fun x => mapA mb (nM x.2) :: ptA b1 24 [.slice (some ⟨tb, tp, none⟩) t.length tc] :: B)
          (fun x => (l.length - 1) - x.1) (fun x => x.1 ≤ l.length - 1 ∧ ((List.range t.length).drop (i + 1)).foldl (laterStep t) ((R.drop (j + 1)).foldl (fun m run => laterRun run m) (((l.drop 1).drop x.1).foldl (fun m a => putN m a (gOf l 0)) x.2)) = laterF t) ⟨Nat.zero_le _, hm⟩ ⟨rfl, rfl, rfl, rfl, rfl, rfl, rfl, rfl, rfl, rfl, rfl, rfl, trivial⟩ (LeL.refl _) ?_
        rintro ⟨q, m⟩ ⟨hq, hm⟩
        simp only [] at hq hm ⊢
        refine pur ?_
        refine Wp.branch rfl (fun h4 => ?_) (fun h4 => ?_)
        · have hql : q < l.length - 1 := by have := of_decide_eq_true h4; omega
          have hk := gOf_get (l := l.drop 1) (i := q) (by rw [List.length_drop]; exact hql)
          generalize hke : gOf (l.drop 1) q = kk at hk
          rw [drop_get hk, List.foldl_cons] at hm
          obtain ⟨qb, qo, e5, hE5⟩ := nat_at hS2 hk
          rw [e5]
          refine pur ?_
          refine S.idx q rfl rfl rfl rfl hql ?_
          refine S.load (v := .int .i64 (kk : Nat)) rfl rfl (by infer_instance) (hE5.app [_, _]) ?_
          refine pur ?_
          refine S.idx 0 rfl rfl rfl rfl hl0 ?_
          refine S.load (v := .int .i64 (gOf l 0 : Nat)) rfl rfl (by infer_instance) (hE4.app [_, _]) ?_
          refine WpO.mset (κ := Int) ((kk : Nat) : Int) 0 rfl rfl rfl rfl rfl Keeps.none ?_
          dsimp only [List.set]
          rw [mset_nM]
          refine pur ?_
          have hw2 : IntKind.i64.wrap ((q : Int) + 1) = ((q + 1 : Nat) : Int) := by rw [wrap_id (by omega) (by omega)]; omega
          rw [hw2]
          exact Round.mk (q + 1, putN m kk (gOf l 0)) (by show _ - (q + 1) < _ - q; omega) ⟨by show q + 1 ≤ _; omega, hm⟩ ⟨rfl, rfl, rfl, rfl, rfl, rfl, rfl, rfl, rfl, rfl, rfl, rfl, trivial⟩ (LeL.refl _)
        · have hql : q = l.length - 1 := by have := of_decide_eq_false h4; omega
          rw [hql, List.drop_of_length_le (by rw [List.length_drop]; omega)] at hm
          refine pur ?_
          have hw2 : IntKind.i64.wrap ((j : Int) + 1) = ((j + 1 : Nat) : Int) := by rw [wrap_id (by omega) (by omega)]; omega
          rw [hw2]
          exact Round.mk (j + 1, m) (by show _ - (j + 1) < _ - j; omega) ⟨by show j + 1 ≤ _; omega, hm⟩ ⟨rfl, rfl, rfl, rfl, rfl, rfl, rfl, rfl, trivial⟩ (LeL.refl _)
      · have hjl : j = R.length := by have := of_decide_eq_false h3; omega
        rw [hjl, List.drop_length] at hm
        refine pur ?_
        rw [hw1 hil]
        exact Round.mk (i + 1, m) (by show _ - (i + 1) < _ - i; omega) ⟨by show i + 1 ≤ _; omega, hm⟩ ⟨rfl, rfl, rfl, rfl, rfl, trivial⟩ (fun k s => by subst hB; exact Sat.sel (T := L) 4 (M := [_, _, _, _]) (M' := [_, _]) [0, 1] rfl s)
    · have hop : ¬ (opN t i = 18 ∨ opN t i = 20) := by simpa using h2
      have hst : laterStep t m i = m := by unfold laterStep; rw [if_neg hop]
      rw [hst] at hm
      refine pur ?_
      rw [hw1 hil]
      exact Round.mk (i + 1, m) (by show _ - (i + 1) < _ - i; omega) ⟨by show i + 1 ≤ _; omega, hm⟩ ⟨rfl, rfl, rfl, rfl, rfl, trivial⟩ (fun k s => s.tail)
  · have hil : i = t.length := by have := of_decide_eq_false h; omega
    rw [hil, List.drop_of_length_le (by simp)] at hm
    have hm : m = laterF t := hm
    subst hm
    refine pur ?_
    exact Wp.ret (RetL rfl (fun k s => Sat.cons_mono (fun k s => s.tail) s) ⟨mb, rfl, rfl⟩)
end Go.Proofs.Ytibkdjjdfcpdaaa
end

section
/- rename.number: what it computes; where the resolver lies. -/
namespace Go.Proofs.Ytibkdjjdfcpdaaa
open Go Go.Ab
attribute [local irreducible] Wp WpO Qt OpT Ct
/-- Names' numbers, as a map has them. -/
def ixs : List (List UInt8) → Nat → List (List UInt8 × Int)
  | [], _ => []
  | x :: r, n => (x, (n : Int)) :: ixs r (n + 1)
def sfind : List (List UInt8) → List UInt8 → Nat → Option Nat
  | [], _, _ => none
  | x :: r, k, n => if x = k then some n else sfind r k (n + 1)
theorem sget_ixs : ∀ (l : List (List UInt8)) (k : List UInt8) (n : Nat), sget (ixs l n) k = (sfind l k n).map fun (i : Nat) => (i : Int)
  | [], _, _ => rfl
  | x :: r, k, n => by
    unfold ixs sget sfind
    by_cases h : x = k
    · simp [h]
    · simp [h, sget_ixs r k (n + 1)]
theorem ixs_snoc : ∀ (l : List (List UInt8)) (k : List UInt8) (n : Nat), ixs (l ++ [k]) n = ixs l n ++ [(k, ((n + l.length : Nat) : Int))]
  | [], _, _ => rfl
  | x :: r, k, n => by
    show (x, (n : Int)) :: ixs (r ++ [k]) (n + 1) = _
    rw [ixs_snoc r k (n + 1)]
    show _ = (x, (n : Int)) :: (ixs r (n + 1) ++ [(k, ((n + (x :: r).length : Nat) : Int))])
    rw [show n + 1 + r.length = n + (x :: r).length by simp; omega]
theorem sfind_some : ∀ {l : List (List UInt8)} {k : List UInt8} {n i : Nat}, sfind l k n = some i → n ≤ i ∧ l[i - n]? = some k
  | [], _, _, _, h => by cases h
  | x :: r, k, n, i, h => by
    unfold sfind at h
    by_cases e : x = k
    · rw [if_pos e] at h
      simp only [Option.some.injEq] at h
      subst h
      simp [e]
    · rw [if_neg e] at h
      obtain ⟨h1, h2⟩ := sfind_some h
      refine ⟨by omega, ?_⟩
      rw [show i - n = (i - (n + 1)) + 1 by omega]
      simpa using h2
theorem sfind_lt {l : List (List UInt8)} {k : List UInt8} {i : Nat} (h : sfind l k 0 = some i) : i < l.length := (List.getElem?_eq_some_iff.1 (sfind_some h).2).1
theorem sfind_none : ∀ {l : List (List UInt8)} {k : List UInt8} {n : Nat}, sfind l k n = none ↔ k ∉ l
  | [], _, _ => by simp [sfind]
  | x :: r, k, n => by
    unfold sfind
    by_cases h : x = k
    · simp [h]
    · rw [if_neg h, sfind_none]
      simp [Ne.symm h]
theorem mset_ixs {l : List (List UInt8)} {k : List UInt8} (h : sfind l k 0 = none) : mset (vM (ixs l 0)) k (.int .i64 ((l.length : Nat) : Int)) = vM (ixs (l ++ [k]) 0) := by
  rw [mset_vM _ _ _ (by rw [sget_ixs, h]; rfl), ixs_snoc, Nat.zero_add]
/-- A constructor: its name, its arity, its type; a type: its name, its parameters. -/
abbrev CN := List UInt8 × Int × Int
abbrev DN := List UInt8 × Int
def conNs (l : List CN) : List (List UInt8) := l.map fun c => c.1
def datNs (l : List DN) : List (List UInt8) := l.map fun c => c.1
theorem conNs_snoc (l : List CN) (c : CN) : conNs l ++ [c.1] = conNs (l ++ [c]) := by simp [conNs]
theorem datNs_snoc (l : List DN) (c : DN) : datNs l ++ [c.1] = datNs (l ++ [c]) := by simp [datNs]
theorem conNs_length (l : List CN) : (conNs l).length = l.length := by simp [conNs]
theorem datNs_length (l : List DN) : (datNs l).length = l.length := by simp [datNs]
def conRow (c : CN) : List Value := [.string (ofL c.1), .int .i64 c.2.1, .int .i64 c.2.2]
def datRow (d : DN) : List Value := [.string (ofL d.1), .int .i64 d.2]
/-- What number turns. -/
structure Ns where
  ref : List Int
  names : List (List UInt8)
  cons : List CN
  datas : List DN
def refAt (ref : List Int) (i : Nat) : Int := ref[i]?.getD 0
def paramsF (t : List Nd) (i : Nat) : Int := idxI (fun a => decide (opN t a.toNat = 22)) (natI (kidsN t i))
def numStep (t : List Nd) (lt : List (Nat × Nat)) (x : Ns) (i : Nat) : Option Ns :=
  if opN t i = 25 ∨ opN t i = 19 then
    (match getN lt i with
      | some a => some { x with ref := (x.ref.set i (-1)).set i (refAt (x.ref.set i (-1)) a) }
      | none => some { x with ref := (x.ref.set i (-1)).set i (x.names.length : Int), names := x.names ++ [textN t i] })
  else if opN t i = 22 then
    (match sfind (conNs x.cons) (textN t i) 0 with
      | some _ => none
      | none => some { x with ref := (x.ref.set i (-1)).set i (x.cons.length : Int), cons := x.cons ++ [(textN t i, ((kidsN t i).length : Int), (x.datas.length : Int))] })
  else if opN t i = 21 then
    (match sfind (datNs x.datas) (textN t i) 0 with
      | some _ => none
      | none => some { x with ref := (x.ref.set i (-1)).set i (x.datas.length : Int), datas := x.datas ++ [(textN t i, paramsF t i)] })
  else some { x with ref := x.ref.set i (-1) }
def numFrom (t : List Nd) (lt : List (Nat × Nat)) : List Nat → Ns → Option Ns
  | [], x => some x
  | i :: r, x => match numStep t lt x i with
    | some y => numFrom t lt r y
    | none => none
/-- What number answers, from the names, constructors and types that there are. -/
def numberF (t : List Nd) (x : Ns) : Option Ns := numFrom t (laterF t) (List.range t.length) { x with ref := List.replicate t.length 0 }
theorem getN_put : ∀ (m : List (Nat × Nat)) (k v x : Nat), getN (putN m k v) x = if x = k then some v else getN m x
  | [], k, v, x => by
    show (if k = x then some v else none) = _
    by_cases h : x = k
    · subst h; simp [getN]
    · rw [if_neg (Ne.symm h), if_neg h]; rfl
  | e :: r, k, v, x => by
    unfold putN
    by_cases h : e.1 = k
    · rw [if_pos h]
      by_cases h2 : x = k
      · subst h2; simp [getN]
      · rw [if_neg h2]
        show (if k = x then some v else getN r x) = getN (e :: r) x
        rw [if_neg (Ne.symm h2)]
        show _ = (if e.1 = x then some e.2 else getN r x)
        rw [if_neg (by omega)]
    · rw [if_neg h]
      show (if e.1 = x then some e.2 else getN (putN r k v) x) = _
      rw [getN_put r k v x]
      show _ = if x = k then some v else if e.1 = x then some e.2 else getN r x
      by_cases h2 : x = k
      · subst h2; rw [if_neg h]; simp
      · simp [h2]
theorem foldl_inv {α β : Type} (I : β → Prop) (f : β → α → β) : ∀ (l : List α) (b : β), I b → (∀ b a, a ∈ l → I b → I (f b a)) → I (l.foldl f b)
  | [], _, h, _ => h
  | a :: l, b, h, hf => foldl_inv I f l (f b a) (hf b a (by simp) h) fun b a' ha hb => hf b a' (by simp [ha]) hb
theorem later_lt {t : List Nd} (hw : WF t) {i a : Nat} (h : getN (laterF t) i = some a) : a < t.length := by
  have : ∀ i a, getN (laterF t) i = some a → a < t.length := by
    unfold laterF
    refine foldl_inv (fun m => ∀ i a, getN m i = some a → a < t.length) _ _ _ (fun i a h => by cases h) fun m n hn hm => ?_
    have hnl := List.mem_range.1 hn
    unfold laterStep
    split
    · refine foldl_inv (fun m => ∀ i a, getN m i = some a → a < t.length) _ _ _ hm fun m run hrun hm => ?_
      obtain ⟨h1, h2⟩ := (functions_ok hw hnl).1 run hrun
      unfold laterRun
      refine foldl_inv (fun m => ∀ i a, getN m i = some a → a < t.length) _ _ _ hm fun m k hk hm i a h => ?_
      rw [getN_put] at h
      split at h
      · simp only [Option.some.injEq] at h
        subst h
        exact h2 _ (List.mem_of_getElem? (gOf_get (List.length_pos_iff.2 h1)))
      · exact hm i a h
    · exact hm
  exact this i a h
theorem conRow_map (l : List CN) (c : CN) : l.map conRow ++ [conRow c] = (l ++ [c]).map conRow := by simp
theorem datRow_map (l : List DN) (c : DN) : l.map datRow ++ [datRow c] = (l ++ [c]).map datRow := by simp
theorem strRs_snoc (l : List (List UInt8)) (s : ByteArray) : strRs l ++ [[.string s]] = strRs (l ++ [bs s]) := by simp [strRs, ofL_bs]
theorem strRs_length (l : List (List UInt8)) : (strRs l).length = l.length := by simp [strRs]
theorem ints_set (l : List Int) (i : Nat) (x : Int) : (ints l).set i [.int .i64 x] = ints (l.set i x) := by simp [ints, List.map_set]
theorem ints_one (l : List Int) : ∀ r ∈ ints l, r.length = 1 := fun r hr => by
  simp only [ints, List.mem_map] at hr
  obtain ⟨x, _, rfl⟩ := hr; rfl
theorem ints_get {l : List Int} {i : Nat} (h : i < l.length) : (ints l)[i]? = some [.int .i64 (refAt l i)] := by
  unfold refAt
  rw [List.getElem?_eq_getElem h]
  simp [ints, h]
theorem indexInt2_ct (l : List Int) (n : Nat) (hn : l.length = n) (a : Option Addr) (c : Nat) (f : FuncId) (cap : Array Value) (p : Int → Bool) (L : List Assn) (hS : Sl L a c 1 (ints l)) (hc : ∀ (args : Array Value) (w : World), Sem.run Try.prog (callFunc f args) w = .ok (.enter f args) w)
    (hf : ∀ r ∈ l, Ct Try.prog f ([Value.int .i64 r] ++ cap.toList).toArray L (ret fun v L' => v = .bool (p r) ∧ L' = L)) (hl : l.length < 1073741824) :
    Ct Try.prog 42 #[.slice a n c, .func (.func f) #[] cap] L (ret fun v L' => v = .int .i64 (idxI p l) ∧ L' = L) := by
  subst hn; exact indexInt_ct l a c f cap p L hS hc hf hl
/-- The resolver's cells. -/
def hdrW (ta : Option Addr) (tn tc : Nat) (ra : Option Addr) (rn rc : Nat) (na : Option Addr) (nn nc : Nat) (ca : Option Addr) (cn cc : Nat) (da : Option Addr) (dn dc : Nat) (ga : Option Addr) (gn gc : Nat) (sb cb tb : Nat) : List Value :=
  [.slice ta tn tc, .slice ra rn rc, .slice na nn nc, .slice ca cn cc, .slice da dn dc, .slice ga gn gc, .pointer (some ⟨sb, 0, none⟩), .map (some cb), .map (some tb)]
theorem isCon_ct (t : List Nd) (ta : Option Addr) (tc a b1 wb : Nat) (L : List Assn) (i j : Nat) (r : List Value) (h1 : L[i]? = some (ptA b1 55 [.pointer (some ⟨wb, 0, none⟩)])) (h2 : L[j]? = some (ptA wb 61 (.slice ta t.length tc :: r)))
    (hT : TreeR L ta tc t) (hw : WF t) (ha : a < t.length) :
    Ct Try.prog 43 #[.int .i64 (a : Int), .pointer (some ⟨b1, 0, none⟩)] L (ret fun v L' => v = .bool (decide (opN t a = 22)) ∧ L' = L) := by
  have hE1 : Ent L (CellsAt b1 0 [.pointer (some ⟨wb, 0, none⟩)]) := Ent.pt i 1 h1 rfl
  have hE2 : Ent L (CellsAt wb 0 [.slice ta t.length tc]) := Ent.pt j 1 h2 rfl
  obtain ⟨tb, tp, ka, kc, e1, hE, _⟩ := hw.at hT ha
  subst e1
  refine Ct.body Try.func43 rfl Try.ntmps43 Try.results43 rfl ?_
  refine pur ?_
  refine S.idx a rfl rfl rfl rfl ha ?_
  refine pur ?_
  exact Wp.ret (Ret 0 rfl ⟨rfl, rfl⟩)
end Go.Proofs.Ytibkdjjdfcpdaaa
end

section
/- rename.number: the walk. -/
namespace Go.Proofs.Ytibkdjjdfcpdaaa
open Go Go.Ab
attribute [local irreducible] Wp WpO Qt OpT Ct
/-- It answers what R says, or gives up where R says nothing. -/
def RO {α : Type} (R : Option α) (φ : α → Value → List Assn → Prop) (M : List Assn) : Ending → List Assn → Prop :=
  retP (fun v L' => ∃ y, R = some y ∧ φ y v L') (fun v L' => R = none ∧ v = misV ∧ LeL L' M)
theorem ro_panic {α : Type} {R : Option α} {φ : α → Value → List Assn → Prop} {M L' : List Assn} {v : Value} (h1 : R = none) (h2 : v = misV) (h3 : LeL L' M) : ([] : List Deferred) = [] ∧ RO R φ M (.panicked [{ v, recovered := false }]) L' := ⟨rfl, v, rfl, h1, h2, h3⟩
def Ns.x0 (t : List Nd) (x : Ns) : Ns := { x with ref := List.replicate t.length 0 }
/-- The resolver, where number has its parts for itself. -/
@[reducible] def numM (wb : Nat) (ta : Option Addr) (tn tc : Nat) (ra : Option Addr) (rc : Nat) (x : Ns) (na ca da : Option Addr × Nat) (ga : Option Addr) (gn gc sb cb tb : Nat) (M : List Assn) : List Assn :=
  ptA wb 61 (hdrW ta tn tc ra x.ref.length rc na.1 x.names.length na.2 ca.1 x.cons.length ca.2 da.1 x.datas.length da.2 ga gn gc sb cb tb) :: ownA 3 1 ra rc (ints x.ref) :: ownA 9 1 na.1 na.2 (strRs x.names) :: ownA 48 3 ca.1 ca.2 (x.cons.map conRow) :: ownA 50 2 da.1 da.2 (x.datas.map datRow) ::
    mapA cb (vM (ixs (conNs x.cons) 0)) :: mapA tb (vM (ixs (datNs x.datas) 0)) :: M
set_option maxHeartbeats 16000000 in
theorem number_ct (t : List Nd) (wb : Nat) (ta : Option Addr) (tc : Nat) (x0 : Ns) (na ca da : Option Addr × Nat) (ga : Option Addr) (gn gc sb cb tb : Nat) (M : List Assn) (hT : TreeR M ta tc t) (hw : WF t) (h0 : x0.ref = []) (hb : x0.names.length ≤ 100 ∧ x0.cons.length ≤ 100 ∧ x0.datas.length ≤ 100) :
    Ct Try.prog 20 #[.pointer (some ⟨wb, 0, none⟩)] (numM wb ta t.length tc none 0 x0 na ca da ga gn gc sb cb tb M)
      (RO (numberF t x0) (fun y v L' => v = .tuple #[] ∧ y.ref.length = t.length ∧ ∃ rb na ca da, L' = numM wb ta t.length tc (some ⟨rb, 0, none⟩) t.length y na ca da ga gn gc sb cb tb M) M) := by
  have hlen := hw.len
  generalize hR : numberF t x0 = R
  refine Ct.body Try.func20 rfl Try.ntmps20 Try.results20 rfl ?_
  refine pur ?_
  refine WpO.box rfl rfl rfl (fun _ => Keeps.none) fun b1 => ?_
  refine pur ?_
  refine S.loadN (vs := [.slice ta t.length tc]) rfl rfl (Ent.pt 1 1 rfl rfl) rfl ?_
  refine WpO.call Try.call41 rfl rfl (later_ct t ta tc _ (hT.wk fun k s => s.tail.tail.tail.tail.tail.tail.tail.tail) hw) fun v L' ⟨mb, e1, e2⟩ => ⟨Keeps.none, ?_⟩
  subst e1; subst e2
  refine pur ?_
  refine Wp.parts (L' := ptA b1 55 [.pointer (some ⟨wb, 0, none⟩)] :: ptA wb 61 (hdrW ta t.length tc none x0.ref.length 0 na.1 x0.names.length na.2 ca.1 x0.cons.length ca.2 da.1 x0.datas.length da.2 ga gn gc sb cb tb) :: ownA 9 1 na.1 na.2 (strRs x0.names) :: ownA 48 3 ca.1 ca.2 (x0.cons.map conRow) :: ownA 50 2 da.1 da.2 (x0.datas.map datRow) ::
    mapA cb (vM (ixs (conNs x0.cons) 0)) :: mapA tb (vM (ixs (datNs x0.datas) 0)) :: mapA mb (nM (laterF t)) :: M) (fun k s => Sat.sel (T := M) 9 (M := [_, _, _, _, _, _, _, _, _]) (M' := [_, _, _, _, _, _, _, _]) [1, 2, 4, 5, 6, 7, 8, 0] rfl s) ?_
  refine Wp.draw rfl [0,1,2,3,4,5,6,7,8,9,10,11,12] 12 12 [ptA b1 55 [.pointer (some ⟨wb, 0, none⟩)], ptA wb 61 (hdrW ta t.length tc none x0.ref.length 0 na.1 x0.names.length na.2 ca.1 x0.cons.length ca.2 da.1 x0.datas.length da.2 ga gn gc sb cb tb)] rfl (by decide +kernel) (fun _ s => Sat.take (M := [_, _]) s) ?_
  refine pur ?_
  refine WpO.make t.length t.length rfl rfl rfl rfl rfl (Nat.le_refl _) (by omega) rfl rfl rfl rfl (fun _ => Keeps.by fun _ s => Sat.take (M := [_, _]) s.tail) fun rb => ?_
  refine pur ?_
  have hri : List.replicate t.length [Value.int .i64 0] = ints (List.replicate t.length 0) := by simp [ints]
  refine Wp.loopI (α := Nat × Ns × (Option Addr × Nat) × (Option Addr × Nat) × (Option Addr × Nat)) (0, x0.x0 t, na, ca, da)
    (fun x => [(1, .v (.pointer (some ⟨b1, 0, none⟩))), (2, .v (.map (some mb))), (35, .v (.slice ta t.length tc)), (36, .v (.int .i64 t.length)), (37, .v (.int .i64 x.1))])
    (fun x => ptA b1 55 [.pointer (some ⟨wb, 0, none⟩)] :: numM wb ta t.length tc (some ⟨rb, 0, none⟩) t.length x.2.1 x.2.2.1 x.2.2.2.1 x.2.2.2.2 ga gn gc sb cb tb (mapA mb (nM (laterF t)) :: M))
    (fun x => t.length - x.1) (fun x => x.1 ≤ t.length ∧ x.2.1.ref.length = t.length ∧ numFrom t (laterF t) ((List.range t.length).drop x.1) x.2.1 = R ∧ x.2.1.names.length ≤ 100 + x.1 ∧ x.2.1.cons.length ≤ 100 + x.1 ∧ x.2.1.datas.length ≤ 100 + x.1)
    ⟨Nat.zero_le _, by simp [Ns.x0], hR, hb.1, hb.2.1, hb.2.2⟩ ⟨rfl, rfl, rfl, rfl, rfl, trivial⟩ (fun k s => ?_) ?_
  · have s1 : Sat k ([ownA 3 1 (some ⟨rb, 0, none⟩) t.length (List.replicate t.length [.int .i64 0]), ptA b1 55 [.pointer (some ⟨wb, 0, none⟩)], ptA wb 61 (hdrW ta t.length tc (some ⟨rb, 0, none⟩) t.length t.length na.1 x0.names.length na.2 ca.1 x0.cons.length ca.2 da.1 x0.datas.length da.2 ga gn gc sb cb tb)] ++ (ownA 9 1 na.1 na.2 (strRs x0.names) :: ownA 48 3 ca.1 ca.2 (x0.cons.map conRow) :: ownA 50 2 da.1 da.2 (x0.datas.map datRow) ::
      mapA cb (vM (ixs (conNs x0.cons) 0)) :: mapA tb (vM (ixs (datNs x0.datas) 0)) :: mapA mb (nM (laterF t)) :: M)) := s
    rw [hri] at s1
    have s2 := Sat.sel (M := [_, _, _]) (M' := [_, _, _]) 3 [1, 2, 0] rfl s1
    have hrl : (x0.x0 t).ref.length = t.length := by simp [Ns.x0]
    show Sat k (_ :: ptA wb 61 (hdrW ta t.length tc (some ⟨rb, 0, none⟩) (x0.x0 t).ref.length t.length na.1 x0.names.length na.2 ca.1 x0.cons.length ca.2 da.1 x0.datas.length da.2 ga gn gc sb cb tb) :: _)
    rw [hrl]
    exact s2
  rintro ⟨i, x, na, ca, da⟩ ⟨hi, hrl, hnf, hb1, hb2, hb3⟩
  simp only [] at hi hrl hnf hb1 hb2 hb3 ⊢
  unfold numM
  rw [hrl]
  refine pur ?_
  refine Wp.branch rfl (fun h => ?_) (fun h => ?_)
  · have hil : i < t.length := by have := of_decide_eq_true h; omega
    have hw1 : IntKind.i64.wrap ((i : Int) + 1) = ((i + 1 : Nat) : Int) := by rw [wrap_id (by omega) (by omega)]; omega
    rw [drop_get (x := i) (by rw [List.getElem?_range hil]), numFrom] at hnf
    obtain ⟨tb1, tp, ka, kc, e1, hE, hS⟩ := hw.at hT hil
    subst e1
    refine pur ?_
    refine S.idx i rfl rfl rfl rfl hil ?_
    refine S.loadN (vs := [.int .i64 (opN t i), .string (ndAt t i).text, .int .i64 (ndAt t i).num, .slice ka (kidsN t i).length kc]) rfl rfl (hE.app [_, _, _, _, _, _, _, _, _]) rfl ?_
    refine WpO.alloc rfl rfl (fun _ => Keeps.none) fun b4 => ?_
    refine pur ?_
    refine S.idx i rfl rfl rfl rfl hil ?_
    refine WpO.storeRow1 3 i rfl rfl rfl (by rw [ints_length]; omega) rfl rfl Keeps.none (ints_one _) ?_
    dsimp only [List.set]
    rw [ints_set]
    refine pur ?_
    have hrl1 : (x.ref.set i (-1)).length = t.length := by simpa using hrl
    refine Wp.meet (α := Unit) (fun _ => [(1, .v (.pointer (some ⟨b1, 0, none⟩))), (2, .v (.map (some mb))), (3, .v (.int .i64 i)), (4, .v (.pointer (some ⟨b4, 0, none⟩))), (35, .v (.slice (some ⟨tb1, tp, none⟩) t.length tc)), (36, .v (.int .i64 t.length)), (37, .v (.int .i64 i)), (50, .v (.int .i64 (opN t i))), (51, .v (.bool (decide (opN t i = 25) || decide (opN t i = 19))))]) (fun _ => ptA b4 38 [.int .i64 (opN t i), .string (ndAt t i).text, .int .i64 (ndAt t i).num, .slice ka (kidsN t i).length kc] :: ptA b1 55 [.pointer (some ⟨wb, 0, none⟩)] :: ptA wb 61 (hdrW (some ⟨tb1, tp, none⟩) t.length tc (some ⟨rb, 0, none⟩) t.length t.length na.1 x.names.length na.2 ca.1 x.cons.length ca.2 da.1 x.datas.length da.2 ga gn gc sb cb tb) :: ownA 3 1 (some ⟨rb, 0, none⟩) t.length (ints (x.ref.set i (-1))) :: ownA 9 1 na.1 na.2 (strRs x.names) :: ownA 48 3 ca.1 ca.2 (x.cons.map conRow) :: ownA 50 2 da.1 da.2 (x.datas.map datRow) :: mapA cb (vM (ixs (conNs x.cons) 0)) :: mapA tb (vM (ixs (datNs x.datas) 0)) :: mapA mb (nM (laterF t)) :: M) (fun _ => True) ?_ ?_
    · refine Wp.branch rfl (fun h2 => ?_) (fun h2 => ?_)
      · refine pur ?_
        exact ⟨(), trivial, ⟨rfl, rfl, rfl, rfl, rfl, rfl, rfl, rfl, by rw [h2]; rfl, trivial⟩, rfl, LeL.refl _⟩
      · refine pur ?_
        exact ⟨(), trivial, ⟨rfl, rfl, rfl, rfl, rfl, rfl, rfl, rfl, by rw [h2]; rfl, trivial⟩, rfl, LeL.refl _⟩
    rintro ⟨⟩ -
    refine Wp.branch rfl (fun h2 => ?_) (fun h2 => ?_)
    · have hop : opN t i = 25 ∨ opN t i = 19 := by simpa using h2
      refine pur ?_
      refine S.mlook (κ := Int) ((i : Nat) : Int) rfl (Ent.map 9 rfl) rfl rfl ?_
      refine pur ?_
      rw [mget_nM]
      cases hq : getN (laterF t) i with
      | some a =>
        have hal := later_lt hw hq
        have hst : numStep t (laterF t) x i = some { x with ref := (x.ref.set i (-1)).set i (refAt (x.ref.set i (-1)) a) } := by unfold numStep; rw [if_pos hop, hq]
        rw [hst] at hnf
        simp only [] at hnf
        refine pur ?_
        refine Wp.draw rfl [0,1,2,3,4,5,6,7,8,9,10,11,12,13,14,15] 15 15 _ rfl (by decide +kernel) (fun _ h => h) ?_
        refine pur ?_
        refine S.idx a rfl rfl rfl rfl hal ?_
        refine S.load (v := .int .i64 (refAt (x.ref.set i (-1)) a)) rfl rfl (by infer_instance) (own_ent 3 a rfl (ints_get (by omega))) ?_
        refine S.idx i rfl rfl rfl rfl hil ?_
        refine WpO.storeRow1 3 i rfl rfl rfl (by rw [ints_length]; omega) rfl rfl Keeps.last (ints_one _) ?_
        dsimp only [List.set]
        rw [ints_set]
        refine pur ?_
        rw [hw1]
        refine Round.mk (i + 1, { x with ref := (x.ref.set i (-1)).set i (refAt (x.ref.set i (-1)) a) }, na, ca, da) (by show _ - (i + 1) < _ - i; omega) ⟨by show i + 1 ≤ _; omega, by simpa using hrl, hnf, Nat.le_succ_of_le hb1, Nat.le_succ_of_le hb2, Nat.le_succ_of_le hb3⟩ ⟨rfl, rfl, rfl, rfl, rfl, trivial⟩ (fun k s => ?_)
        have hrl2 : ((x.ref.set i (-1)).set i (refAt (x.ref.set i (-1)) a)).length = t.length := by simpa using hrl
        show Sat k (_ :: ptA wb _ (hdrW _ _ _ _ ((x.ref.set i (-1)).set i (refAt (x.ref.set i (-1)) a)).length _ _ _ _ _ _ _ _ _ _ _ _ _ _ _ _) :: _)
        rw [hrl2]
        exact s.tail
      | none =>
        have hst : numStep t (laterF t) x i = some { x with ref := (x.ref.set i (-1)).set i (x.names.length : Int), names := x.names ++ [textN t i] } := by unfold numStep; rw [if_pos hop, hq]
        rw [hst] at hnf
        simp only [] at hnf
        refine pur ?_
        refine Wp.draw rfl [0,1,2,3,4,5,6,7,8,9,10,11,12,13] 13 13 _ rfl (by decide +kernel) (fun _ h => h) ?_
        refine pur ?_
        refine S.idx i rfl rfl rfl rfl hil ?_
        refine WpO.storeRow1 3 i rfl rfl rfl (by rw [ints_length]; omega) rfl rfl Keeps.last (ints_one _) ?_
        dsimp only [List.set]
        rw [ints_set]
        refine pur ?_
        refine Wp.draw rfl [0,1,2,3,4,5,6,7,8,9,10,11,12,13] 13 13 [ptA b4 38 [.int .i64 (opN t i), .string (ndAt t i).text, .int .i64 (ndAt t i).num, .slice ka (kidsN t i).length kc], ptA b1 55 [.pointer (some ⟨wb, 0, none⟩)], ptA wb 61 (hdrW (some ⟨tb1, tp, none⟩) t.length tc (some ⟨rb, 0, none⟩) t.length t.length na.1 x.names.length na.2 ca.1 x.cons.length ca.2 da.1 x.datas.length da.2 ga gn gc sb cb tb)] rfl (by decide +kernel) (fun _ s => Sat.take (M := [_, _, _]) s) ?_
        refine pur ?_
        refine WpO.buildSlice rfl rfl rfl rfl rfl rfl rfl (fun _ => Keeps.by fun _ s => Sat.take (M := [_, _, _]) s.tail) fun b97 => ?_
        refine WpO.appendLit 4 [[.string (ndAt t i).text]] rfl rfl rfl rfl (by rw [strRs_length]) rfl rfl rfl rfl rfl rfl rfl (by rw [strRs_length]; simp; omega) (fun _ _ => Keeps.by fun _ s => Sat.take (M := [_, _, _]) s) fun a2 k2 => ?_
        dsimp only [List.set]
        rw [strRs_snoc, strRs_length]
        refine pur ?_
        rw [hw1]
        refine Round.mk (i + 1, { x with ref := (x.ref.set i (-1)).set i (x.names.length : Int), names := x.names ++ [textN t i] }, (a2, k2), ca, da) (by show _ - (i + 1) < _ - i; omega) ⟨by show i + 1 ≤ _; omega, by simpa using hrl, hnf, by show (x.names ++ [textN t i]).length ≤ 100 + (i + 1); simp; omega, Nat.le_succ_of_le hb2, Nat.le_succ_of_le hb3⟩ ⟨rfl, rfl, rfl, rfl, rfl, trivial⟩ (fun k s => ?_)
        have hrl2 : ((x.ref.set i (-1)).set i (x.names.length : Int)).length = t.length := by simpa using hrl
        show Sat k (_ :: ptA wb _ (hdrW _ _ _ _ ((x.ref.set i (-1)).set i (x.names.length : Int)).length _ _ _ _ _ _ _ _ _ _ _ _ _ _ _ _) :: _)
        rw [hrl2]
        exact s.tail
    have hop : ¬ (opN t i = 25 ∨ opN t i = 19) := by simpa using h2
    refine pur ?_
    refine Wp.branch rfl (fun h3 => ?_) (fun h3 => ?_)
    · have hop2 : opN t i = 22 := of_decide_eq_true h3
      refine pur ?_
      refine Wp.draw rfl [0,1,2,3,4,5,6,7,8,9,10,11] 12 12 _ rfl (by decide +kernel) (fun _ h => h) ?_
      refine pur ?_
      refine S.mlook (textN t i) rfl (Ent.map 7 rfl) rfl rfl ?_
      refine pur ?_
      rw [mget_vM, sget_ixs]
      cases hq : sfind (conNs x.cons) (textN t i) 0 with
      | some q =>
        have hst : numStep t (laterF t) x i = none := by unfold numStep; rw [if_neg hop, if_pos hop2, hq]
        rw [hst] at hnf
        have hnf : (none : Option Ns) = R := hnf
        refine pur ?_
        exact WpO.callP Try.call24 rfl rfl (rfail_ct _ _) (fun v L' ⟨e1, e2, e3⟩ => ro_panic hnf.symm e2 (by subst e3; exact fun k s => Sat.drop [_, _, _, _, _, _, _, _, _, _] s)) (fun v L' ⟨e1, e2⟩ => by cases e1)
      | none =>
        have hst : numStep t (laterF t) x i = some { x with ref := (x.ref.set i (-1)).set i (x.cons.length : Int), cons := x.cons ++ [(textN t i, ((kidsN t i).length : Int), (x.datas.length : Int))] } := by unfold numStep; rw [if_neg hop, if_pos hop2, hq]
        rw [hst] at hnf
        simp only [] at hnf
        refine pur ?_
        refine WpO.callP Try.call24 rfl rfl (rfail_ct _ _) (fun v L' ⟨e1, e2, e3⟩ => by cases e1) (fun v L' ⟨e1, e2⟩ => ⟨Keeps.none, ?_⟩)
        subst e2
        refine pur ?_
        refine Wp.draw rfl [0,1,2,3,4,5,6,7,8,9,10,11,12,13] 13 13 _ rfl (by decide +kernel) (fun _ h => h) ?_
        refine pur ?_
        refine S.idx i rfl rfl rfl rfl hil ?_
        refine WpO.storeRow1 3 i rfl rfl rfl (by rw [ints_length]; omega) rfl rfl Keeps.last (ints_one _) ?_
        dsimp only [List.set]
        rw [ints_set]
        refine pur ?_
        refine Wp.draw rfl [0,1,2,3,4,5,6,7,8,9,10,11,12] 12 12 _ rfl (by decide +kernel) (fun _ h => h) ?_
        refine pur ?_
        have hms := mset_ixs hq
        rw [conNs_length] at hms
        have hsn := conNs_snoc x.cons (textN t i, ((kidsN t i).length : Int), (x.datas.length : Int))
        refine WpO.mset (textN t i) 7 rfl rfl rfl rfl rfl Keeps.last ?_
        dsimp only [List.set]
        rw [hms, hsn]
        refine pur ?_
        refine Wp.draw rfl [0,1,2,3,4,5,6,7,8,9,10,11,12,13,14,15,16,17,18,19,20,21,22,23] 23 23 [ptA b4 38 [.int .i64 (opN t i), .string (ndAt t i).text, .int .i64 (ndAt t i).num, .slice ka (kidsN t i).length kc], ptA b1 55 [.pointer (some ⟨wb, 0, none⟩)], ptA wb 61 (hdrW (some ⟨tb1, tp, none⟩) t.length tc (some ⟨rb, 0, none⟩) t.length t.length na.1 x.names.length na.2 ca.1 x.cons.length ca.2 da.1 x.datas.length da.2 ga gn gc sb cb tb)] rfl (by decide +kernel) (fun _ s => Sat.take (M := [_, _, _]) s) ?_
        refine pur ?_
        refine S.build rfl rfl rfl ?_
        refine WpO.buildSlice rfl rfl rfl rfl rfl rfl rfl (fun _ => Keeps.by fun _ s => Sat.take (M := [_, _, _]) s.tail) fun b97 => ?_
        refine WpO.appendLit 5 [[.string (ndAt t i).text, .int .i64 ((kidsN t i).length : Int), .int .i64 (x.datas.length : Int)]] rfl rfl rfl rfl (by rw [List.length_map]) rfl rfl rfl rfl rfl rfl rfl (by rw [List.length_map]; simp; omega) (fun _ _ => Keeps.by fun _ s => Sat.take (M := [_, _, _]) s) fun a2 k2 => ?_
        dsimp only [List.set]
        have hrw : x.cons.map conRow ++ [[.string (ndAt t i).text, .int .i64 ((kidsN t i).length : Int), .int .i64 (x.datas.length : Int)]] = (x.cons ++ [(textN t i, ((kidsN t i).length : Int), (x.datas.length : Int))]).map conRow := by rw [← conRow_map]; simp [conRow, textN, ofL_bs]
        rw [hrw, List.length_map]
        refine pur ?_
        rw [hw1]
        refine Round.mk (i + 1, { x with ref := (x.ref.set i (-1)).set i (x.cons.length : Int), cons := x.cons ++ [(textN t i, ((kidsN t i).length : Int), (x.datas.length : Int))] }, na, (a2, k2), da) (by show _ - (i + 1) < _ - i; omega) ⟨by show i + 1 ≤ _; omega, by simpa using hrl, hnf, Nat.le_succ_of_le hb1, by show (x.cons ++ [(textN t i, ((kidsN t i).length : Int), (x.datas.length : Int))]).length ≤ 100 + (i + 1); simp; omega, Nat.le_succ_of_le hb3⟩ ⟨rfl, rfl, rfl, rfl, rfl, trivial⟩ (fun k s => ?_)
        have hrl2 : ((x.ref.set i (-1)).set i (x.cons.length : Int)).length = t.length := by simpa using hrl
        show Sat k (_ :: ptA wb _ (hdrW _ _ _ _ ((x.ref.set i (-1)).set i (x.cons.length : Int)).length _ _ _ _ _ _ _ _ _ _ _ _ _ _ _ _) :: _)
        rw [hrl2]
        exact s.tail
    have hop2 : ¬ opN t i = 22 := of_decide_eq_false h3
    refine pur ?_
    refine Wp.branch rfl (fun h4 => ?_) (fun h4 => ?_)
    · have hop3 : opN t i = 21 := of_decide_eq_true h4
      refine pur ?_
      refine Wp.draw rfl [0,1,2,3,4,5,6,7,8,9,10,11] 12 12 _ rfl (by decide +kernel) (fun _ h => h) ?_
      refine pur ?_
      refine S.mlook (textN t i) rfl (Ent.map 8 rfl) rfl rfl ?_
      refine pur ?_
      rw [mget_vM, sget_ixs]
      cases hq : sfind (datNs x.datas) (textN t i) 0 with
      | some q =>
        have hst : numStep t (laterF t) x i = none := by unfold numStep; rw [if_neg hop, if_neg hop2, if_pos hop3, hq]
        rw [hst] at hnf
        have hnf : (none : Option Ns) = R := hnf
        refine pur ?_
        exact WpO.callP Try.call24 rfl rfl (rfail_ct _ _) (fun v L' ⟨e1, e2, e3⟩ => ro_panic hnf.symm e2 (by subst e3; exact fun k s => Sat.drop [_, _, _, _, _, _, _, _, _, _] s)) (fun v L' ⟨e1, e2⟩ => by cases e1)
      | none =>
        have hst : numStep t (laterF t) x i = some { x with ref := (x.ref.set i (-1)).set i (x.datas.length : Int), datas := x.datas ++ [(textN t i, paramsF t i)] } := by unfold numStep; rw [if_neg hop, if_neg hop2, if_pos hop3, hq]
        rw [hst] at hnf
        simp only [] at hnf
        refine pur ?_
        refine WpO.callP Try.call24 rfl rfl (rfail_ct _ _) (fun v L' ⟨e1, e2, e3⟩ => by cases e1) (fun v L' ⟨e1, e2⟩ => ⟨Keeps.none, ?_⟩)
        subst e2
        refine pur ?_
        refine Wp.draw rfl [0,1,2,3,4,5,6,7,8,9,10,11,12,13] 13 13 _ rfl (by decide +kernel) (fun _ h => h) ?_
        refine pur ?_
        refine S.idx i rfl rfl rfl rfl hil ?_
        refine WpO.storeRow1 3 i rfl rfl rfl (by rw [ints_length]; omega) rfl rfl Keeps.last (ints_one _) ?_
        dsimp only [List.set]
        rw [ints_set]
        refine pur ?_
        refine Wp.draw rfl [0,1,2,3,4,5,6,7,8,9,10,11,12] 12 12 _ rfl (by decide +kernel) (fun _ h => h) ?_
        refine pur ?_
        have hms := mset_ixs hq
        rw [datNs_length] at hms
        have hsn := datNs_snoc x.datas (textN t i, paramsF t i)
        refine WpO.mset (textN t i) 8 rfl rfl rfl rfl rfl Keeps.last ?_
        dsimp only [List.set]
        rw [hms, hsn]
        refine pur ?_
        refine S.makeFuncM rfl .nil (.cons rfl (by infer_instance) .nil) ?_
        refine WpO.call Try.call42 rfl rfl (indexInt2_ct (natI (kidsN t i)) (kidsN t i).length (by simp [natI]) ka kc 43 #[.pointer (some ⟨b1, 0, none⟩)] (fun a => decide (opN t a.toNat = 22)) _ (by rw [ints_natI]; exact hS.app [_, _, _, _, _, _, _, _, _, _]) Try.call43 (fun r hr => by
          obtain ⟨y, hy, rfl⟩ := List.mem_map.1 hr
          exact isCon_ct t (some ⟨tb1, tp, none⟩) tc y b1 wb _ 1 2 _ rfl rfl (hT.wk fun k s => Sat.drop [_, _, _, _, _, _, _, _, _, _] s) hw (hw.kid hil hy)) (by simp [natI]; have := (hw.kids i hil).2.2; omega)) fun v L' ⟨e1, e2⟩ => ⟨Keeps.none, ?_⟩
        subst e1; subst e2
        refine pur ?_
        refine Wp.draw rfl [0,1,2,3,4,5,6,7,8,9,10,11,12,13,14,15] 15 15 [ptA b4 38 [.int .i64 (opN t i), .string (ndAt t i).text, .int .i64 (ndAt t i).num, .slice ka (kidsN t i).length kc], ptA b1 55 [.pointer (some ⟨wb, 0, none⟩)], ptA wb 61 (hdrW (some ⟨tb1, tp, none⟩) t.length tc (some ⟨rb, 0, none⟩) t.length t.length na.1 x.names.length na.2 ca.1 x.cons.length ca.2 da.1 x.datas.length da.2 ga gn gc sb cb tb)] rfl (by decide +kernel) (fun _ s => Sat.take (M := [_, _, _]) s) ?_
        refine pur ?_
        refine S.build rfl rfl rfl ?_
        refine WpO.buildSlice rfl rfl rfl rfl rfl rfl rfl (fun _ => Keeps.by fun _ s => Sat.take (M := [_, _, _]) s.tail) fun b97 => ?_
        refine WpO.appendLit 6 [[.string (ndAt t i).text, .int .i64 (paramsF t i)]] rfl rfl rfl rfl (by rw [List.length_map]) rfl rfl rfl rfl rfl rfl rfl (by rw [List.length_map]; simp; omega) (fun _ _ => Keeps.by fun _ s => Sat.take (M := [_, _, _]) s) fun a2 k2 => ?_
        dsimp only [List.set]
        have hrw : x.datas.map datRow ++ [[.string (ndAt t i).text, .int .i64 (paramsF t i)]] = (x.datas ++ [(textN t i, paramsF t i)]).map datRow := by rw [← datRow_map]; simp [datRow, textN, ofL_bs]
        rw [hrw, List.length_map]
        refine pur ?_
        rw [hw1]
        refine Round.mk (i + 1, { x with ref := (x.ref.set i (-1)).set i (x.datas.length : Int), datas := x.datas ++ [(textN t i, paramsF t i)] }, na, ca, (a2, k2)) (by show _ - (i + 1) < _ - i; omega) ⟨by show i + 1 ≤ _; omega, by simpa using hrl, hnf, Nat.le_succ_of_le hb1, Nat.le_succ_of_le hb2, by show (x.datas ++ [(textN t i, paramsF t i)]).length ≤ 100 + (i + 1); simp; omega⟩ ⟨rfl, rfl, rfl, rfl, rfl, trivial⟩ (fun k s => ?_)
        have hrl2 : ((x.ref.set i (-1)).set i (x.datas.length : Int)).length = t.length := by simpa using hrl
        show Sat k (_ :: ptA wb _ (hdrW _ _ _ _ ((x.ref.set i (-1)).set i (x.datas.length : Int)).length _ _ _ _ _ _ _ _ _ _ _ _ _ _ _ _) :: _)
        rw [hrl2]
        exact s.tail
    have hop3 : ¬ opN t i = 21 := of_decide_eq_false h4
    have hst : numStep t (laterF t) x i = some { x with ref := x.ref.set i (-1) } := by unfold numStep; rw [if_neg hop, if_neg hop2, if_neg hop3]
    rw [hst] at hnf
    simp only [] at hnf
    refine pur ?_
    rw [hw1]
    refine Round.mk (i + 1, { x with ref := x.ref.set i (-1) }, na, ca, da) (by show _ - (i + 1) < _ - i; omega) ⟨by show i + 1 ≤ _; omega, by simpa using hrl, hnf, Nat.le_succ_of_le hb1, Nat.le_succ_of_le hb2, Nat.le_succ_of_le hb3⟩ ⟨rfl, rfl, rfl, rfl, rfl, trivial⟩ (fun k s => ?_)
    show Sat k (_ :: ptA wb _ (hdrW _ _ _ _ (x.ref.set i (-1)).length _ _ _ _ _ _ _ _ _ _ _ _ _ _ _ _) :: _)
    rw [hrl1]
    exact s.tail
  · have hil : i = t.length := by have := of_decide_eq_false h; omega
    rw [hil, List.drop_of_length_le (by simp)] at hnf
    have hnf : some x = R := hnf
    subst hnf
    refine pur ?_
    refine RetNL rfl (L' := numM wb ta t.length tc (some ⟨rb, 0, none⟩) t.length x na ca da ga gn gc sb cb tb M) (fun k s => ?_) ⟨x, rfl, rfl, hrl, rb, na, ca, da, rfl⟩
    show Sat k (ptA wb _ (hdrW _ _ _ _ x.ref.length _ _ _ _ _ _ _ _ _ _ _ _ _ _ _ _) :: _)
    rw [hrl]
    exact Sat.sel (T := M) 9 (M := [_, _, _, _, _, _, _, _, _]) (M' := [_, _, _, _, _, _, _]) [1, 2, 3, 4, 5, 6, 7] rfl s
end Go.Proofs.Ytibkdjjdfcpdaaa
end

section
/- The resolver when all has its number: bind, pattern, open. -/
namespace Go.Proofs.Ytibkdjjdfcpdaaa
open Go Go.Ab
attribute [local irreducible] Wp WpO Qt OpT Ct
abbrev Frm := List (List UInt8 × Int)
/-- Where the resolver lies, and what it has that is fixed. -/
structure RX where
  t : List Nd
  cons : List CN
  datas : List DN
  wb : Nat
  ta : Option Addr
  tc : Nat
  rb : Nat
  na : Option Addr × Nat
  nn : Nat
  ca : Option Addr × Nat
  da : Option Addr × Nat
  ga : Option Addr
  gn : Nat
  gc : Nat
  sb : Nat
  cb : Nat
  tb : Nat
def RX.hdr (X : RX) : List Value := hdrW X.ta X.t.length X.tc (some ⟨X.rb, 0, none⟩) X.t.length X.t.length X.na.1 X.nn X.na.2 X.ca.1 X.cons.length X.ca.2 X.da.1 X.datas.length X.da.2 X.ga X.gn X.gc X.sb X.cb X.tb
structure RX.Ok (X : RX) (M : List Assn) : Prop where
  hdr : Ent M (CellsAt X.wb 0 X.hdr)
  tree : TreeR M X.ta X.tc X.t
  wf : WF X.t
  cm : Ent M (mapA X.cb (vM (ixs (conNs X.cons) 0)))
  tm : Ent M (mapA X.tb (vM (ixs (datNs X.datas) 0)))
  cons : Sl M X.ca.1 X.ca.2 3 (X.cons.map conRow)
  datas : Sl M X.da.1 X.da.2 2 (X.datas.map datRow)
theorem RX.Ok.wk {X : RX} {M M' : List Assn} (h : X.Ok M) (hL : LeL M' M) : X.Ok M' :=
  ⟨fun k s => h.hdr k (hL k s), h.tree.wk hL, h.wf, fun k s => h.cm k (hL k s), fun k s => h.tm k (hL k s), h.cons.wk hL, h.datas.wk hL⟩
/-- Frames, the innermost ahead. -/
def scR (sb : Nat) (rs : List Frm) : Assn := scA sb rs.reverse
@[reducible] def rsL (X : RX) (ref : List Int) (rs : List Frm) (M : List Assn) : List Assn :=
  ownA 3 1 (some ⟨X.rb, 0, none⟩) X.t.length (ints ref) :: scR X.sb rs :: M
/-- A frame of names that the tree has. -/
structure FrOk (t : List Nd) (g : Frm) : Prop where
  nodup : (g.map (·.1)).Nodup
  sub : ∀ k ∈ g.map (·.1), ∃ i, i < t.length ∧ textN t i = k
theorem FrOk.nil (t : List Nd) : FrOk t [] := ⟨List.nodup_nil, nofun⟩
theorem nodup_le2 {α : Type} [DecidableEq α] : ∀ {l m : List α}, l.Nodup → (∀ x ∈ l, x ∈ m) → l.length ≤ m.length
  | [], _, _, _ => Nat.zero_le _
  | x :: l, m, h, hs => by
    obtain ⟨h1, h2⟩ := List.nodup_cons.1 h
    have hx := hs x (by simp)
    have := nodup_le2 (m := m.erase x) h2 fun y hy => by
      have hne : y ≠ x := fun e => by subst e; exact h1 hy
      exact (List.mem_erase_of_ne hne).2 (hs y (by simp [hy]))
    rw [List.length_erase_of_mem hx] at this
    have := List.length_pos_of_mem hx
    simp only [List.length_cons]
    omega
theorem FrOk.le {t : List Nd} {g : Frm} (h : FrOk t g) : g.length ≤ t.length := by
  have := nodup_le2 (m := (List.range t.length).map (textN t)) h.nodup fun k hk => by
    obtain ⟨i, h1, h2⟩ := h.sub k hk
    exact List.mem_map.2 ⟨i, List.mem_range.2 h1, h2⟩
  simpa using this
theorem sget_none : ∀ {g : Frm} {k : List UInt8}, sget g k = none ↔ k ∉ g.map (·.1)
  | [], _ => by simp [sget]
  | e :: r, k => by
    unfold sget
    by_cases h : e.1 = k
    · simp [h]
    · rw [if_neg h, sget_none]
      simp only [List.map_cons, List.mem_cons, not_or]
      exact ⟨fun q => ⟨Ne.symm h, q⟩, fun q => q.2⟩
theorem FrOk.bind {t : List Nd} {g : Frm} (h : FrOk t g) {i : Nat} (hi : i < t.length) (v : Int) (hn : sget g (textN t i) = none) : FrOk t (g ++ [(textN t i, v)]) := by
  refine ⟨?_, fun k hk => ?_⟩
  · rw [List.map_append]
    refine List.nodup_append.2 ⟨h.nodup, by simp, fun x hx y hy e => ?_⟩
    obtain rfl : y = textN t i := by simpa using hy
    subst e
    exact sget_none.1 hn hx
  · rw [List.map_append] at hk
    rcases List.mem_append.1 hk with q | q
    · exact h.sub k q
    · have : k = textN t i := by simpa using q
      exact ⟨i, hi, this.symm⟩
/-- A name bound in the innermost frame. -/
def bindF (rs : List Frm) (k : List UInt8) (v : Int) : Option (List Frm) := match rs with
  | [] => none
  | g :: r => if (sget g k).isSome then none else some ((g ++ [(k, v)]) :: r)
theorem bindF_cons (g : Frm) (r : List Frm) (k : List UInt8) (v : Int) : bindF (g :: r) k v = if (sget g k).isSome then none else some ((g ++ [(k, v)]) :: r) := rfl
theorem openR_ct (sb : Nat) (rs : List Frm) (L : List Assn) (i : Nat) (hi : L[i]? = some (scR sb rs)) (hl : rs.length ≤ 1048576) : Ct Try.prog 39 #[.pointer (some ⟨sb, 0, none⟩)] L (ret fun v L' => True ∧ L' = L.set i (scR sb ([] :: rs))) := by
  refine Ct.at (φ := fun _ => True) i hi ?_
  have h := open_ct (sb := sb) (fs := rs.reverse) (L.eraseIdx i) (by simpa using hl)
  unfold scR
  rw [List.reverse_cons]
  simp only [true_and]
  exact h
theorem closeR_ct (sb : Nat) (g : Frm) (rs : List Frm) (L : List Assn) (i : Nat) (hi : L[i]? = some (scR sb (g :: rs))) (hl : rs.length ≤ 1048576) (h1 : 1 ≤ rs.length) : Ct Try.prog 48 #[.pointer (some ⟨sb, 0, none⟩)] L (ret fun v L' => v = .int .i64 0 ∧ L' = L.set i (scR sb rs)) := by
  refine Ct.at (φ := fun v => v = .int .i64 0) i hi ?_
  unfold scR
  rw [List.reverse_cons]
  exact close_ct (sb := sb) (fs := rs.reverse) g _ (by simpa using hl) (by simpa using h1)
theorem levelR_ct (sb : Nat) (rs : List Frm) (L : List Assn) (i : Nat) (hi : L[i]? = some (scR sb rs)) (hl : rs.length ≤ 1048576) (h1 : 1 ≤ rs.length) : Ct Try.prog 67 #[.pointer (some ⟨sb, 0, none⟩)] L (ret fun v L' => v = .int .i64 ((rs.length - 1 : Nat) : Int) ∧ L' = L.set i (scR sb rs)) := by
  refine Ct.at (φ := fun v => v = .int .i64 ((rs.length - 1 : Nat) : Int)) i hi ?_
  have h := level_ct (sb := sb) (fs := rs.reverse) (L.eraseIdx i) (by simpa using hl) (by simpa using h1)
  rw [List.length_reverse] at h
  exact h
theorem findR_ct (sb : Nat) (rs : List Frm) (k : ByteArray) (L : List Assn) (i : Nat) (hi : L[i]? = some (scR sb rs)) (hl : rs.length ≤ 1048576) (h1 : 1 ≤ rs.length) : Ct Try.prog 23 #[.pointer (some ⟨sb, 0, none⟩), .string k] L (ret fun v L' => v = findV (findR rs (bs k)) ∧ L' = L.set i (scR sb rs)) := by
  refine Ct.at (φ := fun v => v = findV (findR rs (bs k))) i hi ?_
  have h := find_ct (sb := sb) (fs := rs.reverse) k (L.eraseIdx i) (by simpa using hl) (by simpa using h1)
  unfold findF at h
  rw [List.reverse_reverse] at h
  exact h
theorem bindR_ct (sb : Nat) (g : Frm) (rs : List Frm) (k : ByteArray) (v : Int) (L : List Assn) (i : Nat) (hi : L[i]? = some (scR sb (g :: rs))) (hl : rs.length ≤ 1048576) (hg : g.length ≤ 1048576) : Ct Try.prog 40 #[.pointer (some ⟨sb, 0, none⟩), .string k, .int .i64 v] L
    (ret fun r L' => r = .int .i64 (if (sget g (bs k)).isSome then 5 else 0) ∧ L' = L.set i (scR sb (if (sget g (bs k)).isSome then g :: rs else (g ++ [(bs k, v)]) :: rs))) := by
  refine Ct.at (φ := fun r => r = .int .i64 (if (sget g (bs k)).isSome then 5 else 0)) i hi ?_
  have h := bind_ct (sb := sb) (fs := rs.reverse) g k v (L.eraseIdx i) (by simpa using hl) hg
  unfold scR
  have e : (if (sget g (bs k)).isSome = true then g :: rs else (g ++ [(bs k, v)]) :: rs).reverse = if (sget g (bs k)).isSome = true then rs.reverse ++ [g] else rs.reverse ++ [g ++ [(bs k, v)]] := by split <;> simp
  rw [e, List.reverse_cons]
  exact h
section
variable {X : RX} {M : List Assn}
theorem wbind_ct (hX : X.Ok M) (ref : List Int) (g : Frm) (rs : List Frm) (k : ByteArray) (v : Int) (hl : rs.length ≤ 1048576) (hg : g.length ≤ 1048576) :
    Ct Try.prog 19 #[.pointer (some ⟨X.wb, 0, none⟩), .string k, .int .i64 v] (rsL X ref (g :: rs) M) (RO (bindF (g :: rs) (bs k) v) (fun y v L' => v = .tuple #[] ∧ L' = rsL X ref y M) M) := by
  have hH := hX.hdr
  unfold RX.hdr hdrW at hH
  refine Ct.body Try.func19 rfl Try.ntmps19 Try.results19 rfl ?_
  refine pur ?_
  refine WpO.call Try.call40 rfl rfl (bindR_ct X.sb g rs k v _ 1 rfl hl hg) fun r L' ⟨e1, e2⟩ => ⟨Keeps.none, ?_⟩
  subst e1; subst e2
  dsimp only [List.set]
  refine pur ?_
  rw [bindF_cons]
  cases hs : (sget g (bs k)).isSome with
  | true =>
    simp only [if_true]
    exact WpO.callP Try.call24 rfl rfl (rfail_ct _ _) (fun v L' ⟨e1, e2, e3⟩ => ro_panic rfl e2 (by subst e3; exact fun k s => s.tail.tail)) (fun v L' ⟨e1, e2⟩ => by cases e1)
  | false =>
    simp only [Bool.false_eq_true, if_false]
    refine WpO.callP Try.call24 rfl rfl (rfail_ct _ _) (fun v L' ⟨e1, e2, e3⟩ => by cases e1) (fun v L' ⟨e1, e2⟩ => ⟨Keeps.none, ?_⟩)
    subst e2
    refine pur ?_
    exact RetN 0 rfl ⟨_, rfl, rfl, rfl⟩
end
end Go.Proofs.Ytibkdjjdfcpdaaa
end

section
/- rename: patterns. -/
namespace Go.Proofs.Ytibkdjjdfcpdaaa
open Go Go.Ab
attribute [local irreducible] Wp WpO Qt OpT Ct
theorem inBlock_mono {id : Nat} {Q Q' : Post} (h : ∀ e E D L, Q e E D L → Q' e E D L) : ∀ e E D L, Post.inBlock id Q e E D L → Post.inBlock id Q' e E D L := fun e E D L hq => by
  cases e with
  | exit i =>
    unfold Post.inBlock at hq ⊢
    simp only [] at hq ⊢
    split
    · rename_i hb; rw [hb] at hq; exact h _ _ _ _ hq
    · rename_i hb; rw [hb] at hq; exact h _ _ _ _ hq
  | _ => exact h _ _ _ _ hq
/-- Where ways meet behind a block. -/
theorem Wp.meetB {P : Program} {n id : Nat} {Q Q2 : Post} {E : Env} {D : List Deferred} {L : List Assn} {c y : Code} {α : Type} (Ei : α → Env) (Li : α → List Assn) (inv : α → Prop)
    (h1 : Wp P n c (Post.inBlock id (Post.then (fun E' D' L' => ∃ z, inv z ∧ EnvLe (Ei z) E' ∧ D' = D ∧ LeL L' (Li z)) Q2)) E D L) (h2 : ∀ z, inv z → Wp P n y Q (Ei z) D (Li z)) : Wp P n c (Post.inBlock id (Post.then (Wp P n y Q) Q2)) E D L :=
  Wp.mono h1 (inBlock_mono fun e E' D' L' h => by
    cases e
    case normal => obtain ⟨z, q1, q2, q3, q4⟩ := h; subst q3; exact Wp.weaken (EnvLe.look q2) q4 (h2 z q1)
    all_goals exact h)
def foldO {σ : Type} (f : Nat → σ → Option σ) : List Nat → σ → Option σ
  | [], s => some s
  | k :: r, s => match f k s with
    | some s' => foldO f r s'
    | none => none
abbrev Rst := List Int × List Frm
def arityAt (cons : List CN) (k : Nat) : Int := match cons[k]? with
  | some c => c.2.1
  | none => 0
def patHead (t : List Nd) (cons : List CN) (i : Nat) (s : Rst) : Option Rst :=
  if opN t i = 25 then (match bindF s.2 (textN t i) (refAt s.1 i) with
    | some rs => some (s.1, rs)
    | none => none)
  else if opN t i = 30 then (match sfind (conNs cons) (textN t i) 0 with
    | some k => if arityAt cons k = ((kidsN t i).length : Int) then some (s.1.set i (k : Int), s.2) else none
    | none => none)
  else some s
/-- A pattern's variables bound, its constructors resolved. -/
def patF (t : List Nd) (cons : List CN) : Nat → Nat → Rst → Option Rst
  | 0, _, _ => none
  | n + 1, i, s => match patHead t cons i s with
    | some s' => foldO (patF t cons n) (kidsN t i) s'
    | none => none
structure RstOk (t : List Nd) (tl : List Frm) (s : Rst) : Prop where
  len : s.1.length = t.length
  fr : ∃ g, s.2 = g :: tl ∧ FrOk t g
theorem foldO_inv {σ : Type} (I : σ → Prop) (f : Nat → σ → Option σ) : ∀ (l : List Nat) (s s' : σ), foldO f l s = some s' → I s → (∀ k ∈ l, ∀ s s', I s → f k s = some s' → I s') → I s'
  | [], s, s', h, hi, _ => by
    simp only [foldO, Option.some.injEq] at h
    subst h; exact hi
  | k :: r, s, s', h, hi, hf => by
    unfold foldO at h
    cases hk : f k s with
    | none => rw [hk] at h; cases h
    | some s2 =>
      rw [hk] at h
      exact foldO_inv I f r s2 s' h (hf k (by simp) s s2 hi hk) fun j hj => hf j (by simp [hj])
theorem patHead_ok {t : List Nd} {cons : List CN} {i : Nat} {tl : List Frm} {s s' : Rst} (hi : i < t.length) (h : patHead t cons i s = some s') (hs : RstOk t tl s) : RstOk t tl s' := by
  obtain ⟨h1, g, h2, h3⟩ := hs
  unfold patHead at h
  split at h
  · rw [h2, bindF_cons] at h
    cases hg : sget g (textN t i) with
    | some v => rw [hg] at h; cases h
    | none =>
      rw [hg] at h
      simp only [Option.isSome_none, Bool.false_eq_true, if_false, Option.some.injEq] at h
      subst h
      exact ⟨h1, _, rfl, h3.bind hi _ hg⟩
  · split at h
    · cases hk : sfind (conNs cons) (textN t i) 0 with
      | none => rw [hk] at h; cases h
      | some k =>
        rw [hk] at h
        simp only [] at h
        split at h
        · simp only [Option.some.injEq] at h
          subst h
          exact ⟨by simpa using h1, g, h2, h3⟩
        · cases h
    · simp only [Option.some.injEq] at h
      subst h; exact ⟨h1, g, h2, h3⟩
theorem patF_ok {t : List Nd} (hw : WF t) {cons : List CN} {tl : List Frm} : ∀ (n i : Nat) (s s' : Rst), i < t.length → patF t cons n i s = some s' → RstOk t tl s → RstOk t tl s' := by
  intro n
  induction n with
  | zero => intro i s s' _ h; cases h
  | succ n ih =>
    intro i s s' hi h hs
    unfold patF at h
    cases hh : patHead t cons i s with
    | none => rw [hh] at h; cases h
    | some s2 =>
      rw [hh] at h
      exact foldO_inv (RstOk t tl) _ _ _ _ h (patHead_ok hi hh hs) fun k hk s s' hs hf => ih k s s' (hw.kid hi hk) hf hs
section
variable {X : RX} {M : List Assn}
/-- What is said of a node under the contract of patterns. -/
def PatCt (X : RX) (M : List Assn) (n : Nat) : Prop := ∀ (i : Nat) (tl : List Frm) (s : Rst), i < n → i < X.t.length → RstOk X.t tl s → tl.length ≤ 1000000 →
  Ct Try.prog 66 #[.pointer (some ⟨X.wb, 0, none⟩), .int .i64 (i : Int)] (rsL X s.1 s.2 M) (RO (patF X.t X.cons n i s) (fun y v L' => v = .tuple #[] ∧ L' = rsL X y.1 y.2 M) M)
set_option maxHeartbeats 16000000 in
theorem pat_ct (hX : X.Ok M) (hca : ∃ b o, X.ca.1 = some ⟨b, o, none⟩) : ∀ n, PatCt X M n := by
  have hw := hX.wf
  have hlen := hw.len
  have hH := hX.hdr
  unfold RX.hdr hdrW at hH
  obtain ⟨cab, cao, hcab⟩ := hca
  rw [hcab] at hH
  have hCS := hX.cons
  rw [hcab] at hCS
  intro n
  induction n with
  | zero => intro i _ _ h; omega
  | succ n ih =>
    intro i tl s hin hil hs htl
    obtain ⟨ref, rs⟩ := s
    obtain ⟨hrl, g, hrs, hg⟩ := hs
    simp only [] at hrl hrs
    subst hrs
    have hgl := hg.le
    generalize hR : patF X.t X.cons (n + 1) i (ref, g :: tl) = R
    unfold patF at hR
    show Ct _ _ _ (rsL X ref (g :: tl) M) _
    obtain ⟨tb1, tp, ka, kc, e1, hE, hS⟩ := hw.at hX.tree hil
    rw [e1] at hH
    obtain ⟨k1, k2, k3⟩ := hw.kids i hil
    refine Ct.body Try.func66 rfl Try.ntmps66 Try.results66 rfl ?_
    refine pur ?_
    refine S.idx i rfl rfl rfl rfl hil ?_
    refine S.loadN (vs := [.int .i64 (opN X.t i), .string (ndAt X.t i).text, .int .i64 (ndAt X.t i).num, .slice ka (kidsN X.t i).length kc]) rfl rfl (hE.app [_, _]) rfl ?_
    refine WpO.alloc rfl rfl (fun _ => Keeps.none) fun b4 => ?_
    refine pur ?_
    refine Wp.meetB (α := Rst) (fun _ => [(0, .v (.pointer (some ⟨X.wb, 0, none⟩))), (1, .v (.int .i64 i)), (4, .v (.pointer (some ⟨b4, 0, none⟩)))])
      (fun z => ptA b4 38 [.int .i64 (opN X.t i), .string (ndAt X.t i).text, .int .i64 (ndAt X.t i).num, .slice ka (kidsN X.t i).length kc] :: rsL X z.1 z.2 M) (fun z => patHead X.t X.cons i (ref, g :: tl) = some z) ?_ ?_
    · refine Wp.branch rfl (fun h => ?_) (fun h => ?_)
      · have hop : opN X.t i = 25 := of_decide_eq_true h
        refine Wp.draw rfl [0,1,2,3,4,5,6,7,8,9,10,11] 11 11 _ rfl (by decide +kernel) (fun _ h => h) ?_
        refine pur ?_
        refine S.idx i rfl rfl rfl rfl hil ?_
        refine S.load (v := .int .i64 (refAt ref i)) rfl rfl (by infer_instance) (own_ent 1 i rfl (ints_get (by omega))) ?_
        refine pur ?_
        have hhd : patHead X.t X.cons i (ref, g :: tl) = (match bindF (g :: tl) (textN X.t i) (refAt ref i) with
          | some rs => some (ref, rs)
          | none => none) := by unfold patHead; rw [if_pos hop]
        refine WpO.parts (L' := rsL X ref (g :: tl) (ptA b4 38 [.int .i64 (opN X.t i), .string (ndAt X.t i).text, .int .i64 (ndAt X.t i).num, .slice ka (kidsN X.t i).length kc] :: M)) (fun k s => Sat.sel (T := M) 3 (M := [_, _, _]) (M' := [_, _, _]) [1, 2, 0] rfl s) ?_
        refine WpO.callP Try.call19 rfl rfl (wbind_ct (hX.wk (M' := ptA b4 38 [.int .i64 (opN X.t i), .string (ndAt X.t i).text, .int .i64 (ndAt X.t i).num, .slice ka (kidsN X.t i).length kc] :: M) fun k s => s.tail) ref g tl (ndAt X.t i).text (refAt ref i) (by omega) (by omega)) (fun v L' ⟨e1, e2, e3⟩ => ro_panic (by rw [← hR, hhd]; rw [show bindF (g :: tl) (textN X.t i) (refAt ref i) = none from e1]) e2 (fun k s => (e3 k s).tail)) fun v L' ⟨y, e1, _, e2⟩ => ⟨Keeps.last, ?_⟩
        subst e2
        refine pur ?_
        refine ⟨(ref, y), ?_, ⟨rfl, rfl, rfl, trivial⟩, rfl, fun k s => Sat.sel (T := M) 3 (M := [_, _, _]) (M' := [_, _, _]) [2, 0, 1] rfl s⟩
        rw [hhd, show bindF (g :: tl) (textN X.t i) (refAt ref i) = some y from e1]
      have hop : ¬ opN X.t i = 25 := of_decide_eq_false h
      refine pur ?_
      refine Wp.branch rfl (fun h2 => ?_) (fun h2 => ?_)
      · have hop2 : opN X.t i = 30 := of_decide_eq_true h2
        have hhd : patHead X.t X.cons i (ref, g :: tl) = (match sfind (conNs X.cons) (textN X.t i) 0 with
          | some k => if arityAt X.cons k = ((kidsN X.t i).length : Int) then some (ref.set i (k : Int), g :: tl) else none
          | none => none) := by unfold patHead; rw [if_neg hop, if_pos hop2]
        refine pur ?_
        refine Wp.draw rfl [0,1,2,3,4,5,6,7,8,9,10,11] 12 12 _ rfl (by decide +kernel) (fun _ h => h) ?_
        refine pur ?_
        refine S.mlook (textN X.t i) rfl (hX.cm.app [_, _, _]) rfl rfl ?_
        refine pur ?_
        rw [mget_vM, sget_ixs]
        cases hq : sfind (conNs X.cons) (textN X.t i) 0 with
        | none =>
          rw [hq] at hhd
          refine pur ?_
          refine Wp.draw rfl [0,1,2,3,4,5,6,7,8,9,10,11,12,13,14,15,16,17] 17 17 _ rfl (by decide +kernel) (fun _ h => h) ?_
          refine pur ?_
          refine G.idx 0 rfl rfl rfl (by infer_instance) rfl (by infer_instance) (fun h => by cases h) ?_
          refine pur ?_
          refine G.loadIf (v := .int .i64 0) rfl rfl rfl (by infer_instance) (by infer_instance) (fun h => by cases h) ?_
          refine pur ?_
          exact WpO.callP Try.call24 rfl rfl (rfail_ct _ _) (fun v L' ⟨e1, e2, e3⟩ => ro_panic (by rw [← hR, hhd]) e2 (by subst e3; exact fun k s => s.tail.tail.tail)) (fun v L' ⟨e1, e2⟩ => by cases e1)
        | some k =>
          rw [hq] at hhd
          simp only [] at hhd
          have hkl := sfind_lt hq
          rw [conNs_length] at hkl
          obtain ⟨c, hc⟩ : ∃ c, X.cons[k]? = some c := ⟨_, List.getElem?_eq_getElem hkl⟩
          obtain ⟨cb2, co2, e3, _, hCE⟩ := hCS.at (i := k) (r := conRow c) (by rw [List.getElem?_map, hc]; rfl)
          simp only [Option.some.injEq, Addr.mk.injEq, and_true] at e3
          obtain ⟨rfl, rfl⟩ := e3
          have har : arityAt X.cons k = c.2.1 := by unfold arityAt; rw [hc]
          unfold conRow at hCE
          refine pur ?_
          refine Wp.draw rfl [0,1,2,3,4,5,6,7,8,9,10,11,12,13,14,15,16,17] 17 17 _ rfl (by decide +kernel) (fun _ h => h) ?_
          refine pur ?_
          refine G.idx k rfl rfl rfl (by infer_instance) rfl (by infer_instance) (fun _ => ⟨rfl, hkl⟩) ?_
          refine pur ?_
          refine WpO.callP Try.call24 rfl rfl (rfail_ct _ _) (fun v L' ⟨e1, e2, e3⟩ => ro_panic (by
            rw [← hR, hhd, if_neg (by rw [har]; intro e; rw [e] at e1; simp at e1)]) e2 (by subst e3; exact fun k s => s.tail.tail.tail)) (fun v L' ⟨e1, e2⟩ => ⟨Keeps.last, ?_⟩)
          subst e2
          have hae : arityAt X.cons k = ((kidsN X.t i).length : Int) := by rw [har]; simpa using e1
          refine pur ?_
          refine S.idx i rfl rfl rfl rfl hil ?_
          refine WpO.storeRow1 (v := .int .i64 (k : Int)) 1 i rfl rfl rfl (by rw [ints_length]; omega) rfl rfl Keeps.none (ints_one _) ?_
          dsimp only [List.set]
          rw [ints_set]
          refine pur ?_
          exact ⟨(ref.set i (k : Int), g :: tl), by rw [hhd, if_pos hae], ⟨rfl, rfl, rfl, trivial⟩, rfl, LeL.refl _⟩
      · have hop2 : ¬ opN X.t i = 30 := of_decide_eq_false h2
        refine pur ?_
        exact ⟨(ref, g :: tl), by unfold patHead; rw [if_neg hop, if_neg hop2], ⟨rfl, rfl, rfl, trivial⟩, rfl, LeL.refl _⟩
    rintro s1 hs1
    rw [hs1] at hR
    simp only [] at hR
    have hok1 := patHead_ok hil hs1 (RstOk.mk hrl ⟨g, rfl, hg⟩ : RstOk X.t tl (ref, g :: tl))
    refine pur ?_
    refine Wp.loopI (α := Nat × Rst) (0, s1) (fun z => [(0, .v (.pointer (some ⟨X.wb, 0, none⟩))), (73, .v (.slice ka (kidsN X.t i).length kc)), (74, .v (.int .i64 (kidsN X.t i).length)), (75, .v (.int .i64 z.1))])
      (fun z => rsL X z.2.1 z.2.2 M) (fun z => (kidsN X.t i).length - z.1) (fun z => z.1 ≤ (kidsN X.t i).length ∧ RstOk X.t tl z.2 ∧ foldO (patF X.t X.cons n) ((kidsN X.t i).drop z.1) z.2 = R) ⟨Nat.zero_le _, hok1, hR⟩ ⟨rfl, rfl, rfl, rfl, trivial⟩ (fun k s => s.tail) ?_
    rintro ⟨j, s⟩ ⟨hj, hok, hf⟩
    simp only [] at hj hok hf ⊢
    refine pur ?_
    refine Wp.branch rfl (fun h => ?_) (fun h => ?_)
    · have hjl : j < (kidsN X.t i).length := by have := of_decide_eq_true h; omega
      have hk := gOf_get hjl
      generalize hke : gOf (kidsN X.t i) j = kk at hk
      have hkm := List.mem_of_getElem? hk
      have hkk := k2 kk hkm
      rw [drop_get hk, foldO] at hf
      obtain ⟨kb, ko, e2, hEk⟩ := nat_at hS hk
      subst e2
      have hEk := hEk.app [ownA 3 1 (some ⟨X.rb, 0, none⟩) X.t.length (ints s.1), scR X.sb s.2]
      refine pur ?_
      refine S.idx j rfl rfl rfl rfl hjl ?_
      refine pur ?_
      refine WpO.callP Try.call66 rfl rfl (ih kk tl s (by omega) (by omega) hok htl) (fun v L' ⟨e1, e2, e3⟩ => ro_panic (by rw [← hf, e1]) e2 e3) fun v L' ⟨y, e1, _, e2⟩ => ⟨Keeps.none, ?_⟩
      subst e2
      rw [e1] at hf
      refine pur ?_
      have hw1 : IntKind.i64.wrap ((j : Int) + 1) = ((j + 1 : Nat) : Int) := by rw [wrap_id (by omega) (by omega)]; omega
      rw [hw1]
      exact Round.mk (j + 1, y) (by show _ - (j + 1) < _ - j; omega) ⟨by show j + 1 ≤ _; omega, patF_ok hw n kk s y (by omega) e1 hok, hf⟩ ⟨rfl, rfl, rfl, rfl, trivial⟩ (LeL.refl _)
    · have hjl : j = (kidsN X.t i).length := by have := of_decide_eq_false h; omega
      rw [hjl, List.drop_length] at hf
      have hf : some s = R := hf
      subst hf
      refine pur ?_
      exact RetN 0 rfl ⟨s, rfl, rfl, rfl⟩
end
end Go.Proofs.Ytibkdjjdfcpdaaa
end

section
/- rename: expressions and declarations, as plain functions; open. -/
namespace Go.Proofs.Ytibkdjjdfcpdaaa
open Go Go.Ab
attribute [local irreducible] Wp WpO Qt OpT Ct
abbrev NodeF := Nat → List Int → List Frm → Option (List Int)
abbrev DeclF := Nat → List Int → List Frm → Option Rst
def lastK (t : List Nd) (i : Nat) : Nat := (kidsN t i).length - 1
/-- Patterns' variables, in a frame of their own. -/
def openF (t : List Nd) (cons : List CN) (n : Nat) (l : List Nat) (ref : List Int) (rs : List Frm) : Option Rst := foldO (patF t cons n) l (ref, [] :: rs)
def nodeHead (t : List Nd) (cons : List CN) (n : Nat) (dc : DeclF) (i : Nat) (ref : List Int) (rs : List Frm) : Option (List Int × List Frm × List Nat) :=
  if opN t i = 1 then (match findR rs (textN t i) with
    | some v => some (ref.set i v.1, rs, kidsN t i)
    | none => none)
  else if opN t i = 2 then (match sfind (conNs cons) (textN t i) 0 with
    | some k => some (ref.set i (k : Int), rs, kidsN t i)
    | none => none)
  else if opN t i = 7 ∨ opN t i = 14 then (match openF t cons n ((kidsN t i).take (lastK t i)) ref rs with
    | some s => some (s.1, s.2, (kidsN t i).drop (lastK t i))
    | none => none)
  else if opN t i = 8 then (match dc (gOf (kidsN t i) 0) ref rs with
    | some s => some (s.1, s.2, (kidsN t i).drop 1)
    | none => none)
  else if opN t i = 15 then (match dc (gOf (kidsN t i) (lastK t i)) ref rs with
    | some s => some (s.1, s.2, (kidsN t i).take (lastK t i))
    | none => none)
  else some (ref, rs, kidsN t i)
def nodeStep (t : List Nd) (cons : List CN) (n : Nat) (nd : NodeF) (dc : DeclF) (i : Nat) (ref : List Int) (rs : List Frm) : Option (List Int) :=
  match nodeHead t cons n dc i ref rs with
  | some z => foldO (fun k r => nd k r z.2.1) z.2.2 z.1
  | none => none
/-- A run's name bound, if its clauses go together. -/
def runBind (t : List Nd) (ref : List Int) (run : List Nat) (rs : List Frm) : Option (List Frm) :=
  match bindF rs (textN t (gOf run 0)) (refAt ref (gOf run 0)) with
  | some rs' => if (kidsN t (gOf run 0)).length = 1 ∧ 1 < run.length then none
    else if run.all fun c => decide ((kidsN t c).length = (kidsN t (gOf run 0)).length) then some rs' else none
  | none => none
def foldR {σ : Type} (f : List Nat → σ → Option σ) : List (List Nat) → σ → Option σ
  | [], s => some s
  | k :: r, s => match f k s with
    | some s' => foldR f r s'
    | none => none
def clauseF (t : List Nd) (cons : List CN) (n : Nat) (nd : NodeF) (rs : List Frm) (c : Nat) (ref : List Int) : Option (List Int) :=
  match openF t cons n ((kidsN t c).take (lastK t c)) ref rs with
  | some s => nd (gOf (kidsN t c) (lastK t c)) s.1 s.2
  | none => none
def declStep (t : List Nd) (cons : List CN) (n : Nat) (nd : NodeF) (i : Nat) (ref : List Int) (rs : List Frm) : Option Rst :=
  match foldR (runBind t ref) (functionsF t i) ([] :: rs) with
  | some rs' => (match foldR (fun run r => foldO (clauseF t cons n nd rs') run r) (functionsF t i) ref with
    | some r => some (r, rs')
    | none => none)
  | none => none
/-- Expressions, and declarations, resolved. -/
def resN (t : List Nd) (cons : List CN) : Nat → NodeF × DeclF
  | 0 => (fun _ _ _ => none, fun _ _ _ => none)
  | n + 1 => (nodeStep t cons n (resN t cons n).1 (resN t cons n).2, declStep t cons n (resN t cons n).1)
/-- Which nodes have parts in any case. -/
def Shaped (t : List Nd) : Prop := ∀ i, i < t.length → (opN t i = 7 ∨ opN t i = 8 ∨ opN t i = 14 ∨ opN t i = 15 ∨ opN t i = 19) → 0 < (kidsN t i).length
theorem foldR_inv {σ : Type} (I : σ → Prop) (f : List Nat → σ → Option σ) : ∀ (l : List (List Nat)) (s s' : σ), foldR f l s = some s' → I s → (∀ k ∈ l, ∀ s s', I s → f k s = some s' → I s') → I s'
  | [], s, s', h, hi, _ => by
    simp only [foldR, Option.some.injEq] at h
    subst h; exact hi
  | k :: r, s, s', h, hi, hf => by
    unfold foldR at h
    cases hk : f k s with
    | none => rw [hk] at h; cases h
    | some s2 =>
      rw [hk] at h
      exact foldR_inv I f r s2 s' h (hf k (by simp) s s2 hi hk) fun j hj => hf j (by simp [hj])
theorem functions_op {t : List Nd} {n : Nat} : ∀ l ∈ functionsF t n, ∀ k ∈ l, opN t k = 19 := by
  unfold functionsF runsOf
  refine foldl_inv (fun x : List (List Nat) × Option Nat => ∀ l ∈ x.1, ∀ k ∈ l, opN t k = 19) _ _ _ nofun fun x i _ hx => ?_
  unfold runStep
  split
  · exact hx
  · rename_i hop
    have hop : opN t i = 19 := by simpa using hop
    have hnew : ∀ l ∈ x.1 ++ [[i]], ∀ k ∈ l, opN t k = 19 := fun l hl k hk => by
      rcases List.mem_append.1 hl with q | q
      · exact hx l q k hk
      · obtain rfl := List.mem_singleton.1 q
        obtain rfl := List.mem_singleton.1 hk; exact hop
    split
    · split
      · intro l hl k hk
        obtain ⟨j, hj⟩ := List.getElem?_of_mem hl
        rw [List.getElem?_modify] at hj
        cases hq : x.1[j]? with
        | none => rw [hq] at hj; simp at hj
        | some y =>
          rw [hq] at hj
          have hy := hx y (List.mem_of_getElem? hq)
          split at hj
          · have hj : some (y ++ [i]) = some l := hj
            simp only [Option.some.injEq] at hj
            subst hj
            rcases List.mem_append.1 hk with q | q
            · exact hy k q
            · obtain rfl := List.mem_singleton.1 q; exact hop
          · have hj : some y = some l := hj
            simp only [Option.some.injEq] at hj
            subst hj; exact hy k hk
      · exact hnew
    · exact hnew
theorem functions_sub {t : List Nd} {n : Nat} : ∀ l ∈ functionsF t n, ∀ k ∈ l, k ∈ kidsN t n := by
  unfold functionsF runsOf
  refine foldl_inv (fun x : List (List Nat) × Option Nat => ∀ l ∈ x.1, ∀ k ∈ l, k ∈ kidsN t n) _ _ _ nofun fun x i hi hx => ?_
  unfold runStep
  split
  · exact hx
  · have hnew : ∀ l ∈ x.1 ++ [[i]], ∀ k ∈ l, k ∈ kidsN t n := fun l hl k hk => by
      rcases List.mem_append.1 hl with q | q
      · exact hx l q k hk
      · obtain rfl := List.mem_singleton.1 q
        obtain rfl := List.mem_singleton.1 hk; exact hi
    split
    · split
      · intro l hl k hk
        obtain ⟨j, hj⟩ := List.getElem?_of_mem hl
        rw [List.getElem?_modify] at hj
        cases hq : x.1[j]? with
        | none => rw [hq] at hj; simp at hj
        | some y =>
          rw [hq] at hj
          have hy := hx y (List.mem_of_getElem? hq)
          split at hj
          · have hj : some (y ++ [i]) = some l := hj
            simp only [Option.some.injEq] at hj
            subst hj
            rcases List.mem_append.1 hk with q | q
            · exact hy k q
            · obtain rfl := List.mem_singleton.1 q; exact hi
          · have hj : some y = some l := hj
            simp only [Option.some.injEq] at hj
            subst hj; exact hy k hk
      · exact hnew
    · exact hnew
theorem openF_ok {t : List Nd} (hw : WF t) {cons : List CN} {n : Nat} {l : List Nat} {ref : List Int} {rs : List Frm} {s : Rst} (h : openF t cons n l ref rs = some s) (hl : ∀ k ∈ l, k < t.length) (hr : ref.length = t.length) : RstOk t rs s :=
  foldO_inv (RstOk t rs) _ _ _ _ h ⟨hr, [], rfl, FrOk.nil t⟩ fun k hk s s' hs hf => patF_ok hw n k s s' (hl k hk) hf hs
/-- A frame more, the numbers as many. -/
structure ResOk (t : List Nd) (nd : NodeF) (dc : DeclF) : Prop where
  node : ∀ i ref rs r, i < t.length → ref.length = t.length → nd i ref rs = some r → r.length = t.length
  decl : ∀ i ref rs s, i < t.length → ref.length = t.length → dc i ref rs = some s → RstOk t rs s
theorem nodeHead_ok {t : List Nd} (hw : WF t) (hsh : Shaped t) {cons : List CN} {n : Nat} {dc : DeclF} (hdc : ∀ i ref rs s, i < t.length → ref.length = t.length → dc i ref rs = some s → RstOk t rs s) {i : Nat} {ref : List Int} {rs : List Frm} {z : List Int × List Frm × List Nat}
    (hi : i < t.length) (hr : ref.length = t.length) (h : nodeHead t cons n dc i ref rs = some z) : z.1.length = t.length ∧ (z.2.1 = rs ∨ ∃ g, z.2.1 = g :: rs) ∧ (∀ k ∈ z.2.2, k ∈ kidsN t i) ∧ z.2.2.length ≤ (kidsN t i).length := by
  have hk : ∀ j, j < (kidsN t i).length → gOf (kidsN t i) j < t.length := fun j hj => hw.kid hi (List.mem_of_getElem? (gOf_get hj))
  unfold nodeHead at h
  split at h
  · cases hq : findR rs (textN t i) with
    | none => rw [hq] at h; cases h
    | some v => rw [hq] at h; simp only [Option.some.injEq] at h; subst h; exact ⟨by simpa using hr, .inl rfl, fun k hk => hk, Nat.le_refl _⟩
  split at h
  · cases hq : sfind (conNs cons) (textN t i) 0 with
    | none => rw [hq] at h; cases h
    | some v => rw [hq] at h; simp only [Option.some.injEq] at h; subst h; exact ⟨by simpa using hr, .inl rfl, fun k hk => hk, Nat.le_refl _⟩
  split at h
  · cases hq : openF t cons n ((kidsN t i).take (lastK t i)) ref rs with
    | none => rw [hq] at h; cases h
    | some s =>
      rw [hq] at h; simp only [Option.some.injEq] at h; subst h
      obtain ⟨w1, g, w2, _⟩ := openF_ok hw hq (fun k hk => hw.kid hi (List.mem_of_mem_take hk)) hr
      exact ⟨w1, .inr ⟨g, w2⟩, fun k hk => List.mem_of_mem_drop hk, by simp only [List.length_drop]; omega⟩
  split at h
  · rename_i h8
    have h0 := hsh i hi (by simp [h8])
    cases hq : dc (gOf (kidsN t i) 0) ref rs with
    | none => rw [hq] at h; cases h
    | some s =>
      rw [hq] at h; simp only [Option.some.injEq] at h; subst h
      obtain ⟨w1, g, w2, _⟩ := hdc _ _ _ _ (hk 0 h0) hr hq
      exact ⟨w1, .inr ⟨g, w2⟩, fun k hk => List.mem_of_mem_drop hk, by simp only [List.length_drop]; omega⟩
  split at h
  · rename_i h8
    have h0 := hsh i hi (by simp [h8])
    cases hq : dc (gOf (kidsN t i) (lastK t i)) ref rs with
    | none => rw [hq] at h; cases h
    | some s =>
      rw [hq] at h; simp only [Option.some.injEq] at h; subst h
      obtain ⟨w1, g, w2, _⟩ := hdc _ _ _ _ (hk (lastK t i) (by unfold lastK; omega)) hr hq
      exact ⟨w1, .inr ⟨g, w2⟩, fun k hk => List.mem_of_mem_take hk, by simp only [List.length_take]; omega⟩
  · simp only [Option.some.injEq] at h; subst h; exact ⟨hr, .inl rfl, fun k hk => hk, Nat.le_refl _⟩
theorem runBind_ok {t : List Nd} {ref : List Int} {run : List Nat} {rs tl : List Frm} {rs' : List Frm} (h0 : gOf run 0 < t.length) (h : runBind t ref run rs = some rs') (hs : ∃ g, rs = g :: tl ∧ FrOk t g) : ∃ g, rs' = g :: tl ∧ FrOk t g := by
  obtain ⟨g, rfl, hg⟩ := hs
  unfold runBind at h
  rw [bindF_cons] at h
  cases hq : sget g (textN t (gOf run 0)) with
  | some v => rw [hq] at h; cases h
  | none =>
    rw [hq] at h
    simp only [Option.isSome_none, Bool.false_eq_true, if_false] at h
    split at h
    · cases h
    · split at h
      · simp only [Option.some.injEq] at h
        subst h; exact ⟨_, rfl, hg.bind h0 _ hq⟩
      · cases h
theorem res_ok {t : List Nd} (hw : WF t) (hsh : Shaped t) (cons : List CN) : ∀ n, ResOk t (resN t cons n).1 (resN t cons n).2 := by
  intro n
  induction n with
  | zero => exact ⟨fun _ _ _ _ _ _ h => (by cases h), fun _ _ _ _ _ _ h => (by cases h)⟩
  | succ n ih =>
    refine ⟨fun i ref rs r hi hr h => ?_, fun i ref rs s hi hr h => ?_⟩
    · have h : nodeStep t cons n (resN t cons n).1 (resN t cons n).2 i ref rs = some r := h
      unfold nodeStep at h
      cases hq : nodeHead t cons n (resN t cons n).2 i ref rs with
      | none => rw [hq] at h; cases h
      | some z =>
        rw [hq] at h
        obtain ⟨w1, _, w3, _⟩ := nodeHead_ok hw hsh ih.decl hi hr hq
        exact foldO_inv (fun r : List Int => r.length = t.length) _ _ _ _ h w1 fun k hk s s' hs hf => ih.node k s _ s' (hw.kid hi (w3 k hk)) hs hf
    · have h : declStep t cons n (resN t cons n).1 i ref rs = some s := h
      obtain ⟨f1, _, _, _⟩ := functions_ok hw hi
      unfold declStep at h
      cases hq : foldR (runBind t ref) (functionsF t i) ([] :: rs) with
      | none => rw [hq] at h; cases h
      | some rs' =>
        rw [hq] at h
        have hg := foldR_inv (fun x => ∃ g, x = g :: rs ∧ FrOk t g) _ _ _ _ hq ⟨[], rfl, FrOk.nil t⟩ fun run hrun x x' hx hf => runBind_ok ((f1 run hrun).2 _ (List.mem_of_getElem? (gOf_get (List.length_pos_iff.2 (f1 run hrun).1)))) hf hx
        simp only [] at h
        cases hq2 : foldR (fun run r => foldO (clauseF t cons n (resN t cons n).1 rs') run r) (functionsF t i) ref with
        | none => rw [hq2] at h; cases h
        | some r =>
          rw [hq2] at h
          simp only [Option.some.injEq] at h
          subst h
          refine ⟨?_, hg⟩
          refine foldR_inv (fun r : List Int => r.length = t.length) _ _ _ _ hq2 hr fun run hrun x x' hx hf => ?_
          refine foldO_inv (fun r : List Int => r.length = t.length) _ _ _ _ hf hx fun c hc x x' hx hf => ?_
          unfold clauseF at hf
          have hcl := (f1 run hrun).2 c hc
          have hc0 := hsh c hcl (by simp [functions_op run hrun c hc])
          cases hq3 : openF t cons n ((kidsN t c).take (lastK t c)) x rs' with
          | none => rw [hq3] at hf; cases hf
          | some s2 =>
            rw [hq3] at hf
            obtain ⟨w1, _⟩ := openF_ok hw hq3 (fun k hk => hw.kid hcl (List.mem_of_mem_take hk)) hx
            exact ih.node _ _ _ _ (hw.kid hcl (List.mem_of_getElem? (gOf_get (by unfold lastK; omega)))) w1 hf
section
variable {X : RX} {M : List Assn}
set_option maxHeartbeats 4000000 in
theorem wopen_ct (hX : X.Ok M) (hca : ∃ b o, X.ca.1 = some ⟨b, o, none⟩) (n : Nat) (l : List Nat) (pa : Option Addr) (pc : Nat) (ref : List Int) (rs : List Frm) (hS : Sl M pa pc 1 (natRows l)) (hl : ∀ k ∈ l, k < n ∧ k < X.t.length) (hll : l.length ≤ 1000000) (hr : ref.length = X.t.length) (hrs : rs.length ≤ 1000000) :
    Ct Try.prog 46 #[.pointer (some ⟨X.wb, 0, none⟩), .slice pa l.length pc] (rsL X ref rs M) (RO (openF X.t X.cons n l ref rs) (fun y v L' => v = .tuple #[] ∧ L' = rsL X y.1 y.2 M) M) := by
  have hw := hX.wf
  have hH := hX.hdr
  unfold RX.hdr hdrW at hH
  have hpat := pat_ct hX hca n
  generalize hR : openF X.t X.cons n l ref rs = R
  unfold openF at hR
  refine Ct.body Try.func46 rfl Try.ntmps46 Try.results46 rfl ?_
  refine pur ?_
  refine WpO.call Try.call39 rfl rfl (openR_ct X.sb rs _ 1 rfl (by omega)) fun r L' ⟨_, e2⟩ => ⟨Keeps.none, ?_⟩
  subst e2
  dsimp only [List.set]
  refine pur ?_
  refine Wp.loopI (α := Nat × Rst) (0, (ref, [] :: rs)) (fun z => [(0, .v (.pointer (some ⟨X.wb, 0, none⟩))), (11, .v (.slice pa l.length pc)), (12, .v (.int .i64 l.length)), (13, .v (.int .i64 z.1))])
    (fun z => rsL X z.2.1 z.2.2 M) (fun z => l.length - z.1) (fun z => z.1 ≤ l.length ∧ RstOk X.t rs z.2 ∧ foldO (patF X.t X.cons n) (l.drop z.1) z.2 = R) ⟨Nat.zero_le _, ⟨hr, [], rfl, FrOk.nil _⟩, hR⟩ ⟨rfl, rfl, rfl, rfl, trivial⟩ (LeL.refl _) ?_
  rintro ⟨j, s⟩ ⟨hj, hok, hf⟩
  simp only [] at hj hok hf ⊢
  refine pur ?_
  refine Wp.branch rfl (fun h => ?_) (fun h => ?_)
  · have hjl : j < l.length := by have := of_decide_eq_true h; omega
    have hk := gOf_get hjl
    generalize hke : gOf l j = kk at hk
    obtain ⟨l1, l2⟩ := hl kk (List.mem_of_getElem? hk)
    rw [drop_get hk, foldO] at hf
    obtain ⟨kb, ko, e2, hEk⟩ := nat_at hS hk
    subst e2
    have hEk := hEk.app [ownA 3 1 (some ⟨X.rb, 0, none⟩) X.t.length (ints s.1), scR X.sb s.2]
    refine pur ?_
    refine S.idx j rfl rfl rfl rfl hjl ?_
    refine pur ?_
    refine WpO.callP Try.call66 rfl rfl (hpat kk rs s l1 l2 hok hrs) (fun v L' ⟨e1, e2, e3⟩ => ro_panic (by rw [← hf, e1]) e2 e3) fun v L' ⟨y, e1, _, e2⟩ => ⟨Keeps.none, ?_⟩
    subst e2
    rw [e1] at hf
    refine pur ?_
    have hw1 : IntKind.i64.wrap ((j : Int) + 1) = ((j + 1 : Nat) : Int) := by rw [wrap_id (by omega) (by omega)]; omega
    rw [hw1]
    exact Round.mk (j + 1, y) (by show _ - (j + 1) < _ - j; omega) ⟨by show j + 1 ≤ _; omega, patF_ok hw n kk s y l2 e1 hok, hf⟩ ⟨rfl, rfl, rfl, rfl, trivial⟩ (LeL.refl _)
  · have hjl : j = l.length := by have := of_decide_eq_false h; omega
    rw [hjl, List.drop_length] at hf
    have hf : some s = R := hf
    subst hf
    refine pur ?_
    exact RetN 0 rfl ⟨s, rfl, rfl, rfl⟩
theorem wopen2_ct (hX : X.Ok M) (hca : ∃ b o, X.ca.1 = some ⟨b, o, none⟩) (n : Nat) (l : List Nat) (m : Nat) (hm : l.length = m) (pa : Option Addr) (pc : Nat) (ref : List Int) (rs : List Frm) (hS : Sl M pa pc 1 (natRows l)) (hl : ∀ k ∈ l, k < n ∧ k < X.t.length) (hll : l.length ≤ 1000000) (hr : ref.length = X.t.length) (hrs : rs.length ≤ 1000000) :
    Ct Try.prog 46 #[.pointer (some ⟨X.wb, 0, none⟩), .slice pa m pc] (rsL X ref rs M) (RO (openF X.t X.cons n l ref rs) (fun y v L' => v = .tuple #[] ∧ L' = rsL X y.1 y.2 M) M) := by
  subst hm; exact wopen_ct hX hca n l pa pc ref rs hS hl hll hr hrs
end
end Go.Proofs.Ytibkdjjdfcpdaaa
end

section
/- rename: node. -/
namespace Go.Proofs.Ytibkdjjdfcpdaaa
open Go Go.Ab
attribute [local irreducible] Wp WpO Qt OpT Ct
def NodeCt (X : RX) (n : Nat) : Prop := ∀ M, X.Ok M → ∀ (i : Nat) (ref : List Int) (rs : List Frm), i < n → i < X.t.length → ref.length = X.t.length → 1 ≤ rs.length → rs.length + 2 * n ≤ 100000 →
  Ct Try.prog 47 #[.pointer (some ⟨X.wb, 0, none⟩), .int .i64 (i : Int)] (rsL X ref rs M) (RO ((resN X.t X.cons n).1 i ref rs) (fun y v L' => v = .tuple #[] ∧ L' = rsL X y rs M) M)
def DeclCt (X : RX) (n : Nat) : Prop := ∀ M, X.Ok M → ∀ (i : Nat) (ref : List Int) (rs : List Frm), i < n → i < X.t.length → ref.length = X.t.length → 1 ≤ rs.length → rs.length + 2 * n ≤ 100000 →
  Ct Try.prog 22 #[.pointer (some ⟨X.wb, 0, none⟩), .int .i64 (i : Int)] (rsL X ref rs M) (RO ((resN X.t X.cons n).2 i ref rs) (fun y v L' => v = .tuple #[] ∧ L' = rsL X y.1 y.2 M) M)
theorem natRows_take (l : List Nat) (m : Nat) : (natRows l).take m = natRows (l.take m) := by simp [natRows, List.map_take]
theorem natRows_drop (l : List Nat) (m : Nat) : (natRows l).drop m = natRows (l.drop m) := by simp [natRows, List.map_drop]
set_option maxHeartbeats 16000000 in
theorem node_step {X : RX} (hsh : Shaped X.t) (hca : ∃ b o, X.ca.1 = some ⟨b, o, none⟩) {n : Nat} (ihN : NodeCt X n) (ihD : DeclCt X n) : NodeCt X (n + 1) := by
  intro M hX i ref rs hin hil hrl hr1 hr2
  have hw := hX.wf
  have hlen := hw.len
  have hH := hX.hdr
  unfold RX.hdr hdrW at hH
  have hres := res_ok hw hsh X.cons n
  obtain ⟨tb1, tp, ka, kc, e1, hE, hS⟩ := hw.at hX.tree hil
  rw [e1] at hH
  obtain ⟨k1, k2, k3⟩ := hw.kids i hil
  have hkc := hS.cap
  rw [natRows_length] at hkc
  generalize hR : (resN X.t X.cons (n + 1)).1 i ref rs = R
  have hR : nodeStep X.t X.cons n (resN X.t X.cons n).1 (resN X.t X.cons n).2 i ref rs = R := hR
  unfold nodeStep at hR
  refine Ct.body Try.func47 rfl Try.ntmps47 Try.results47 rfl ?_
  refine pur ?_
  refine S.idx i rfl rfl rfl rfl hil ?_
  refine S.loadN (vs := [.int .i64 (opN X.t i), .string (ndAt X.t i).text, .int .i64 (ndAt X.t i).num, .slice ka (kidsN X.t i).length kc]) rfl rfl (hE.app [_, _]) rfl ?_
  refine WpO.alloc rfl rfl (fun _ => Keeps.none) fun b4 => ?_
  refine pur ?_
  refine WpO.call Try.call67 rfl rfl (levelR_ct X.sb rs _ 2 rfl (by omega) hr1) fun r L' ⟨e1, e2⟩ => ⟨Keeps.none, ?_⟩
  subst e1; subst e2
  dsimp only [List.set]
  refine pur ?_
  refine Wp.meetB (α := (List Int × List Frm × List Nat) × (Option Addr × Nat)) (fun z => [(0, .v (.pointer (some ⟨X.wb, 0, none⟩))), (6, .v (.int .i64 ((rs.length - 1 : Nat) : Int))), (7, .v (.slice z.2.1 z.1.2.2.length z.2.2))])
    (fun z => rsL X z.1.1 z.1.2.1 M) (fun z => nodeHead X.t X.cons n (resN X.t X.cons n).2 i ref rs = some z.1 ∧ Sl M z.2.1 z.2.2 1 (natRows z.1.2.2)) ?_ ?_
  · refine Wp.branch rfl (fun h => ?_) (fun h => ?_)
    · have hop : opN X.t i = 1 := of_decide_eq_true h
      have hhd : nodeHead X.t X.cons n (resN X.t X.cons n).2 i ref rs = (match findR rs (textN X.t i) with
        | some v => some (ref.set i v.1, rs, kidsN X.t i)
        | none => none) := by unfold nodeHead; rw [if_pos hop]; try rfl
      refine pur ?_
      refine Wp.draw rfl [0,1,2,3,4,5,6,7,8,9,10,11,12,13] 14 14 _ rfl (by decide +kernel) (fun _ h => h) ?_
      refine pur ?_
      refine WpO.call Try.call23 rfl rfl (findR_ct X.sb rs (ndAt X.t i).text _ 2 rfl (by omega) hr1) fun r L' ⟨e1, e2⟩ => ⟨?_, ?_⟩
      · subst e2; exact Keeps.by fun _ h => h
      subst e1; subst e2
      dsimp only [List.set]
      cases hq : findR rs (bs (ndAt X.t i).text) with
      | none =>
        rw [show findR rs (textN X.t i) = none from hq] at hhd
        refine pur ?_
        exact WpO.callP Try.call24 rfl rfl (rfail_ct _ _) (fun v L' ⟨e1, e2, e3⟩ => ro_panic (by rw [← hR, hhd]) e2 (by subst e3; exact fun k s => s.tail.tail.tail)) (fun v L' ⟨e1, e2⟩ => by cases e1)
      | some v =>
        rw [show findR rs (textN X.t i) = some v from hq] at hhd
        refine pur ?_
        refine WpO.callP Try.call24 rfl rfl (rfail_ct _ _) (fun v L' ⟨e1, e2, e3⟩ => by cases e1) (fun v' L' ⟨e1, e2⟩ => ⟨Keeps.none, ?_⟩)
        subst e2
        refine pur ?_
        refine S.idx i rfl rfl rfl rfl hil ?_
        refine WpO.storeRow1 (v := .int .i64 v.1) 1 i rfl rfl rfl (by rw [ints_length]; omega) rfl rfl Keeps.none (ints_one _) ?_
        dsimp only [List.set]
        rw [ints_set]
        refine pur ?_
        exact ⟨((ref.set i v.1, rs, kidsN X.t i), (ka, kc)), ⟨hhd, hS⟩, ⟨rfl, rfl, rfl, trivial⟩, rfl, fun k s => s.tail⟩
    have hop1 : ¬ opN X.t i = 1 := of_decide_eq_false h
    refine pur ?_
    refine Wp.branch rfl (fun h => ?_) (fun h => ?_)
    · have hop : opN X.t i = 2 := of_decide_eq_true h
      have hhd : nodeHead X.t X.cons n (resN X.t X.cons n).2 i ref rs = (match sfind (conNs X.cons) (textN X.t i) 0 with
        | some k => some (ref.set i (k : Int), rs, kidsN X.t i)
        | none => none) := by unfold nodeHead; rw [if_neg hop1, if_pos hop]; try rfl
      refine pur ?_
      refine Wp.draw rfl [0,1,2,3,4,5,6,7,8,9,10,11] 12 12 _ rfl (by decide +kernel) (fun _ h => h) ?_
      refine pur ?_
      refine S.mlook (textN X.t i) rfl (hX.cm.app [_, _, _]) rfl rfl ?_
      refine pur ?_
      rw [mget_vM, sget_ixs]
      cases hq : sfind (conNs X.cons) (textN X.t i) 0 with
      | none =>
        rw [hq] at hhd
        refine pur ?_
        exact WpO.callP Try.call24 rfl rfl (rfail_ct _ _) (fun v L' ⟨e1, e2, e3⟩ => ro_panic (by rw [← hR, hhd]) e2 (by subst e3; exact fun k s => s.tail.tail.tail)) (fun v L' ⟨e1, e2⟩ => by cases e1)
      | some q =>
        rw [hq] at hhd
        refine pur ?_
        refine WpO.callP Try.call24 rfl rfl (rfail_ct _ _) (fun v L' ⟨e1, e2, e3⟩ => by cases e1) (fun v' L' ⟨e1, e2⟩ => ⟨Keeps.none, ?_⟩)
        subst e2
        refine pur ?_
        refine S.idx i rfl rfl rfl rfl hil ?_
        refine WpO.storeRow1 (v := .int .i64 (q : Int)) 1 i rfl rfl rfl (by rw [ints_length]; omega) rfl rfl Keeps.none (ints_one _) ?_
        dsimp only [List.set]
        rw [ints_set]
        refine pur ?_
        exact ⟨((ref.set i (q : Int), rs, kidsN X.t i), (ka, kc)), ⟨hhd, hS⟩, ⟨rfl, rfl, rfl, trivial⟩, rfl, fun k s => s.tail⟩
    have hop2 : ¬ opN X.t i = 2 := of_decide_eq_false h
    refine pur ?_
    refine Wp.meet (α := Unit) (fun _ => [(0, .v (.pointer (some ⟨X.wb, 0, none⟩))), (1, .v (.int .i64 i)), (4, .v (.pointer (some ⟨b4, 0, none⟩))), (5, .v (.int .i64 (IntKind.i64.wrap (((kidsN X.t i).length : Int) - 1)))), (6, .v (.int .i64 ((rs.length - 1 : Nat) : Int))), (7, .v (.slice ka (kidsN X.t i).length kc)), (36, .v (.int .i64 (opN X.t i))), (84, .v (.bool (decide (opN X.t i = 7) || decide (opN X.t i = 14))))])
      (fun _ => ptA b4 38 [.int .i64 (opN X.t i), .string (ndAt X.t i).text, .int .i64 (ndAt X.t i).num, .slice ka (kidsN X.t i).length kc] :: rsL X ref rs M) (fun _ => True) ?_ ?_
    · refine Wp.branch rfl (fun h => ?_) (fun h => ?_)
      · refine pur ?_
        exact ⟨(), trivial, ⟨rfl, rfl, rfl, rfl, rfl, rfl, rfl, by rw [h]; rfl, trivial⟩, rfl, LeL.refl _⟩
      · refine pur ?_
        exact ⟨(), trivial, ⟨rfl, rfl, rfl, rfl, rfl, rfl, rfl, by rw [h]; rfl, trivial⟩, rfl, LeL.refl _⟩
    rintro ⟨⟩ -
    refine Wp.branch rfl (fun h => ?_) (fun h => ?_)
    · have hop : opN X.t i = 7 ∨ opN X.t i = 14 := by simpa using h
      have h0 := hsh i hil (by rcases hop with q | q <;> simp [q])
      obtain ⟨kb, ko, e2, _⟩ := nat_at hS (gOf_get h0)
      subst e2
      have hhd : nodeHead X.t X.cons n (resN X.t X.cons n).2 i ref rs = (match openF X.t X.cons n ((kidsN X.t i).take (lastK X.t i)) ref rs with
        | some s => some (s.1, s.2, (kidsN X.t i).drop (lastK X.t i))
        | none => none) := by unfold nodeHead; rw [if_neg hop1, if_neg hop2, if_pos hop]; try rfl
      have hlk : lastK X.t i < (kidsN X.t i).length := by unfold lastK; omega
      refine pur ?_
      refine S.sliceL 0 (lastK X.t i) rfl rfl Bd.no (Bd.at _ rfl (by infer_instance) (fun _ => by rw [wrap_id (by omega) (by omega)]; unfold lastK; omega)) ⟨Nat.zero_le _, by omega⟩ ?_
      rw [slA0]
      refine WpO.parts (L' := rsL X ref rs (ptA b4 38 [.int .i64 (opN X.t i), .string (ndAt X.t i).text, .int .i64 (ndAt X.t i).num, .slice (some ⟨kb, ko, none⟩) (kidsN X.t i).length kc] :: M)) (fun k s => Sat.sel (T := M) 3 (M := [_, _, _]) (M' := [_, _, _]) [1, 2, 0] rfl s) ?_
      refine WpO.callP Try.call46 rfl rfl (wopen2_ct (hX.wk (M' := ptA b4 38 [.int .i64 (opN X.t i), .string (ndAt X.t i).text, .int .i64 (ndAt X.t i).num, .slice (some ⟨kb, ko, none⟩) (kidsN X.t i).length kc] :: M) fun k s => s.tail) hca n ((kidsN X.t i).take (lastK X.t i)) (lastK X.t i - 0) (by rw [List.length_take]; omega) (some ⟨kb, ko, none⟩) (kc - 0) ref rs (by have := (hS.take (lastK X.t i)).cons (A := ptA b4 38 [.int .i64 (opN X.t i), .string (ndAt X.t i).text, .int .i64 (ndAt X.t i).num, .slice (some ⟨kb, ko, none⟩) (kidsN X.t i).length kc]); rw [natRows_take] at this; exact this) (fun k hk => by have := k2 k (List.mem_of_mem_take hk); omega) (by rw [List.length_take]; omega) hrl (by omega))
        (fun v L' ⟨e1, e2, e3⟩ => ro_panic (by rw [← hR, hhd, e1]) e2 (fun k s => (e3 k s).tail)) fun v L' ⟨y, e1, _, e2⟩ => ⟨Keeps.none, ?_⟩
      subst e2
      rw [e1] at hhd
      refine pur ?_
      refine S.sliceL (lastK X.t i) (kidsN X.t i).length rfl rfl (Bd.at _ rfl (by infer_instance) (fun _ => by rw [wrap_id (by omega) (by omega)]; unfold lastK; omega)) Bd.no ⟨by omega, hkc⟩ ?_
      refine pur ?_
      refine ⟨((y.1, y.2, (kidsN X.t i).drop (lastK X.t i)), (slA (some ⟨kb, ko, none⟩) kc (lastK X.t i) 1, kc - lastK X.t i)), ⟨hhd, ?_⟩, ⟨rfl, rfl, by rw [List.length_drop]; rfl, trivial⟩, rfl, fun k s => Sat.sel (T := M) 3 (M := [_, _, _]) (M' := [_, _]) [0, 1] rfl s⟩
      have := hS.drop (lastK X.t i) (by rw [natRows_length]; omega)
      rw [natRows_drop] at this
      exact this
    have hop3 : ¬ (opN X.t i = 7 ∨ opN X.t i = 14) := by simpa using h
    refine pur ?_
    refine Wp.branch rfl (fun h => ?_) (fun h => ?_)
    · have hop : opN X.t i = 8 := of_decide_eq_true h
      have h0 := hsh i hil (by simp [hop])
      obtain ⟨kb, ko, e2, hE0⟩ := nat_at hS (gOf_get h0)
      subst e2
      have hk0 := k2 _ (List.mem_of_getElem? (gOf_get h0))
      have hhd : nodeHead X.t X.cons n (resN X.t X.cons n).2 i ref rs = (match (resN X.t X.cons n).2 (gOf (kidsN X.t i) 0) ref rs with
        | some s => some (s.1, s.2, (kidsN X.t i).drop 1)
        | none => none) := by unfold nodeHead; rw [if_neg hop1, if_neg hop2, if_neg hop3, if_pos hop]; try rfl
      refine pur ?_
      refine S.idx 0 rfl rfl rfl rfl h0 ?_
      refine S.load (v := .int .i64 (gOf (kidsN X.t i) 0 : Nat)) rfl rfl (by infer_instance) (hE0.app [_, _, _]) ?_
      refine WpO.parts (L' := rsL X ref rs (ptA b4 38 [.int .i64 (opN X.t i), .string (ndAt X.t i).text, .int .i64 (ndAt X.t i).num, .slice (some ⟨kb, ko, none⟩) (kidsN X.t i).length kc] :: M)) (fun k s => Sat.sel (T := M) 3 (M := [_, _, _]) (M' := [_, _, _]) [1, 2, 0] rfl s) ?_
      refine WpO.callP Try.call22 rfl rfl (ihD _ (hX.wk (M' := ptA b4 38 [.int .i64 (opN X.t i), .string (ndAt X.t i).text, .int .i64 (ndAt X.t i).num, .slice (some ⟨kb, ko, none⟩) (kidsN X.t i).length kc] :: M) fun k s => s.tail) (gOf (kidsN X.t i) 0) ref rs (by omega) (by omega) hrl hr1 (by omega))
        (fun v L' ⟨e1, e2, e3⟩ => ro_panic (by rw [← hR, hhd, e1]) e2 (fun k s => (e3 k s).tail)) fun v L' ⟨y, e1, _, e2⟩ => ⟨Keeps.none, ?_⟩
      subst e2
      rw [e1] at hhd
      refine pur ?_
      refine S.sliceL 1 (kidsN X.t i).length rfl rfl (Bd.at 1 rfl (by infer_instance) (fun _ => rfl)) Bd.no ⟨by omega, hkc⟩ ?_
      refine pur ?_
      refine ⟨((y.1, y.2, (kidsN X.t i).drop 1), (slA (some ⟨kb, ko, none⟩) kc 1 1, kc - 1)), ⟨hhd, ?_⟩, ⟨rfl, rfl, by rw [List.length_drop]; rfl, trivial⟩, rfl, fun k s => Sat.sel (T := M) 3 (M := [_, _, _]) (M' := [_, _]) [0, 1] rfl s⟩
      have := hS.drop 1 (by rw [natRows_length]; omega)
      rw [natRows_drop] at this
      exact this
    have hop4 : ¬ opN X.t i = 8 := of_decide_eq_false h
    refine pur ?_
    refine Wp.branch rfl (fun h => ?_) (fun h => ?_)
    · have hop : opN X.t i = 15 := of_decide_eq_true h
      have h0 := hsh i hil (by simp [hop])
      have hlk : lastK X.t i < (kidsN X.t i).length := by unfold lastK; omega
      obtain ⟨kb, ko, e2, hE0⟩ := nat_at hS (gOf_get hlk)
      subst e2
      have hk0 := k2 _ (List.mem_of_getElem? (gOf_get hlk))
      have hhd : nodeHead X.t X.cons n (resN X.t X.cons n).2 i ref rs = (match (resN X.t X.cons n).2 (gOf (kidsN X.t i) (lastK X.t i)) ref rs with
        | some s => some (s.1, s.2, (kidsN X.t i).take (lastK X.t i))
        | none => none) := by unfold nodeHead; rw [if_neg hop1, if_neg hop2, if_neg hop3, if_neg hop4, if_pos hop]; try rfl
      have hwl : IntKind.i64.wrap (((kidsN X.t i).length : Int) - 1) = ((lastK X.t i : Nat) : Int) := by rw [wrap_id (by omega) (by omega)]; unfold lastK; omega
      rw [hwl]
      refine pur ?_
      refine S.idx (lastK X.t i) rfl rfl rfl rfl hlk ?_
      refine S.load (v := .int .i64 (gOf (kidsN X.t i) (lastK X.t i) : Nat)) rfl rfl (by infer_instance) (hE0.app [_, _, _]) ?_
      refine WpO.parts (L' := rsL X ref rs (ptA b4 38 [.int .i64 (opN X.t i), .string (ndAt X.t i).text, .int .i64 (ndAt X.t i).num, .slice (some ⟨kb, ko, none⟩) (kidsN X.t i).length kc] :: M)) (fun k s => Sat.sel (T := M) 3 (M := [_, _, _]) (M' := [_, _, _]) [1, 2, 0] rfl s) ?_
      refine WpO.callP Try.call22 rfl rfl (ihD _ (hX.wk (M' := ptA b4 38 [.int .i64 (opN X.t i), .string (ndAt X.t i).text, .int .i64 (ndAt X.t i).num, .slice (some ⟨kb, ko, none⟩) (kidsN X.t i).length kc] :: M) fun k s => s.tail) (gOf (kidsN X.t i) (lastK X.t i)) ref rs (by omega) (by omega) hrl hr1 (by omega))
        (fun v L' ⟨e1, e2, e3⟩ => ro_panic (by rw [← hR, hhd, e1]) e2 (fun k s => (e3 k s).tail)) fun v L' ⟨y, e1, _, e2⟩ => ⟨Keeps.none, ?_⟩
      subst e2
      rw [e1] at hhd
      refine pur ?_
      refine S.sliceL 0 (lastK X.t i) rfl rfl Bd.no (Bd.at _ rfl (by infer_instance) (fun _ => rfl)) ⟨Nat.zero_le _, by omega⟩ ?_
      rw [slA0]
      refine pur ?_
      refine ⟨((y.1, y.2, (kidsN X.t i).take (lastK X.t i)), (some ⟨kb, ko, none⟩, kc - 0)), ⟨hhd, ?_⟩, ⟨rfl, rfl, by rw [List.length_take, Nat.min_eq_left (by omega)]; rfl, trivial⟩, rfl, fun k s => Sat.sel (T := M) 3 (M := [_, _, _]) (M' := [_, _]) [0, 1] rfl s⟩
      have := hS.take (lastK X.t i)
      rw [natRows_take] at this
      exact this
    have hop5 : ¬ opN X.t i = 15 := of_decide_eq_false h
    refine pur ?_
    exact ⟨((ref, rs, kidsN X.t i), (ka, kc)), ⟨by unfold nodeHead; rw [if_neg hop1, if_neg hop2, if_neg hop3, if_neg hop4, if_neg hop5], hS⟩, ⟨rfl, rfl, rfl, trivial⟩, rfl, fun k s => s.tail⟩
  rintro ⟨⟨ref1, rs1, l⟩, ⟨la, lc⟩⟩ ⟨hhd, hSl⟩
  simp only [] at hhd hSl ⊢
  rw [hhd] at hR
  simp only [] at hR
  obtain ⟨w1, w2, w3, w4⟩ := nodeHead_ok hw hsh hres.decl hil hrl hhd
  simp only [] at w1 w2 w3 w4
  have hs1 : 1 ≤ rs1.length ∧ rs1.length ≤ rs.length + 1 := by
    rcases w2 with q | ⟨g, q⟩
    · subst q; omega
    · subst q; simp
  have hH : Ent M (CellsAt X.wb 0 (hdrW (some ⟨tb1, tp, none⟩) X.t.length X.tc (some ⟨X.rb, 0, none⟩) X.t.length X.t.length X.na.1 X.nn X.na.2 X.ca.1 X.cons.length X.ca.2 X.da.1 X.datas.length X.da.2 X.ga X.gn X.gc X.sb X.cb X.tb)) := hH
  unfold hdrW at hH
  refine pur ?_
  refine Wp.loopI (α := Nat × List Int) (0, ref1) (fun z => [(0, .v (.pointer (some ⟨X.wb, 0, none⟩))), (6, .v (.int .i64 ((rs.length - 1 : Nat) : Int))), (115, .v (.slice la l.length lc)), (116, .v (.int .i64 l.length)), (117, .v (.int .i64 z.1))])
    (fun z => rsL X z.2 rs1 M) (fun z => l.length - z.1) (fun z => z.1 ≤ l.length ∧ z.2.length = X.t.length ∧ foldO (fun k r => (resN X.t X.cons n).1 k r rs1) (l.drop z.1) z.2 = R) ⟨Nat.zero_le _, w1, hR⟩ ⟨rfl, rfl, rfl, rfl, rfl, trivial⟩ (LeL.refl _) ?_
  rintro ⟨j, r⟩ ⟨hj, hrl1, hf⟩
  simp only [] at hj hrl1 hf ⊢
  refine pur ?_
  refine Wp.branch rfl (fun h => ?_) (fun h => ?_)
  · have hjl : j < l.length := by have := of_decide_eq_true h; omega
    have hk := gOf_get hjl
    generalize hke : gOf l j = kk at hk
    have hkk := k2 kk (w3 kk (List.mem_of_getElem? hk))
    rw [drop_get hk, foldO] at hf
    obtain ⟨kb, ko, e2, hEk⟩ := nat_at hSl hk
    subst e2
    have hEk := hEk.app [ownA 3 1 (some ⟨X.rb, 0, none⟩) X.t.length (ints r), scR X.sb rs1]
    refine pur ?_
    refine S.idx j rfl rfl rfl rfl hjl ?_
    refine pur ?_
    refine WpO.callP Try.call47 rfl rfl (ihN M hX kk r rs1 (by omega) (by omega) hrl1 hs1.1 (by omega)) (fun v L' ⟨e1, e2, e3⟩ => ro_panic (by rw [← hf, e1]) e2 e3) fun v L' ⟨y, e1, _, e2⟩ => ⟨Keeps.none, ?_⟩
    subst e2
    rw [e1] at hf
    refine pur ?_
    have hw1 : IntKind.i64.wrap ((j : Int) + 1) = ((j + 1 : Nat) : Int) := by rw [wrap_id (by omega) (by omega)]; omega
    rw [hw1]
    exact Round.mk (j + 1, y) (by show _ - (j + 1) < _ - j; omega) ⟨by show j + 1 ≤ _; omega, hres.node kk r rs1 y (by omega) hrl1 e1, hf⟩ ⟨rfl, rfl, rfl, rfl, rfl, trivial⟩ (LeL.refl _)
  have hjl : j = l.length := by have := of_decide_eq_false h; omega
  rw [hjl, List.drop_length] at hf
  have hf : some r = R := hf
  subst hf
  refine pur ?_
  refine Wp.loopI (α := List Frm) rs1 (fun _ => [(0, .v (.pointer (some ⟨X.wb, 0, none⟩))), (6, .v (.int .i64 ((rs.length - 1 : Nat) : Int)))])
    (fun z => rsL X r z M) (fun z => z.length) (fun z => z = rs ∨ ∃ g, z = g :: rs) w2 ⟨rfl, rfl, trivial⟩ (LeL.refl _) ?_
  intro z hz
  have hz1 : 1 ≤ z.length ∧ z.length ≤ rs.length + 1 := by
    rcases hz with q | ⟨g, q⟩
    · subst q; omega
    · subst q; simp
  refine pur ?_
  refine WpO.call Try.call67 rfl rfl (levelR_ct X.sb z _ 1 rfl (by omega) hz1.1) fun v L' ⟨e1, e2⟩ => ⟨Keeps.none, ?_⟩
  subst e1; subst e2
  dsimp only [List.set]
  refine pur ?_
  refine Wp.branch rfl (fun h => ?_) (fun h => ?_)
  · have hlt : ((rs.length - 1 : Nat) : Int) < ((z.length - 1 : Nat) : Int) := of_decide_eq_true h
    obtain ⟨g, rfl⟩ : ∃ g, z = g :: rs := by
      rcases hz with q | q
      · subst q; omega
      · exact q
    refine pur ?_
    refine WpO.call Try.call48 rfl rfl (closeR_ct X.sb g rs _ 1 rfl (by omega) hr1) fun v L' ⟨e1, e2⟩ => ⟨Keeps.none, ?_⟩
    subst e1; subst e2
    dsimp only [List.set]
    refine pur ?_
    exact Round.mk rs (by simp) (.inl rfl) ⟨rfl, rfl, trivial⟩ (LeL.refl _)
  · have hlt : ¬ ((rs.length - 1 : Nat) : Int) < ((z.length - 1 : Nat) : Int) := of_decide_eq_false h
    have hzr : z = rs := by
      rcases hz with q | ⟨g, q⟩
      · exact q
      · subst q
        exfalso
        simp only [List.length_cons] at hlt
        omega
    subst hzr
    refine pur ?_
    exact RetN 0 rfl ⟨r, rfl, rfl, rfl⟩
end Go.Proofs.Ytibkdjjdfcpdaaa
end

section
/- rename: decls. -/
namespace Go.Proofs.Ytibkdjjdfcpdaaa
open Go Go.Ab
attribute [local irreducible] Wp WpO Qt OpT Ct
theorem foldR_cons {σ : Type} (f : List Nat → σ → Option σ) (k : List Nat) (r : List (List Nat)) (s : σ) : foldR f (k :: r) s = match f k s with
    | some s' => foldR f r s'
    | none => none := rfl
theorem runBind_eq {t : List Nd} {ref : List Int} {run : List Nat} {rs : List Frm} : runBind t ref run rs = match bindF rs (textN t (gOf run 0)) (refAt ref (gOf run 0)) with
  | some rs' => if (kidsN t (gOf run 0)).length = 1 ∧ 1 < run.length then none
    else if run.all fun c => decide ((kidsN t c).length = (kidsN t (gOf run 0)).length) then some rs' else none
  | none => none := rfl
set_option maxHeartbeats 16000000 in
theorem decl_step {X : RX} (hsh : Shaped X.t) (hca : ∃ b o, X.ca.1 = some ⟨b, o, none⟩) {n : Nat} (ihN : NodeCt X n) : DeclCt X (n + 1) := by
  intro M0 hX0 i ref rs hin hil hrl hr1 hr2
  have hw := hX0.wf
  have hlen := hw.len
  have hres := res_ok hw hsh X.cons n
  obtain ⟨f1, f2, f3, f4⟩ := functions_ok hw hil
  have fop := functions_op (t := X.t) (n := i)
  obtain ⟨k1, k2, k3⟩ := hw.kids i hil
  have fkid : ∀ run ∈ functionsF X.t i, ∀ c ∈ run, c ∈ kidsN X.t i := functions_sub
  have hH0 := hX0.hdr
  unfold RX.hdr hdrW at hH0
  generalize hR : (resN X.t X.cons (n + 1)).2 i ref rs = R
  have hR : declStep X.t X.cons n (resN X.t X.cons n).1 i ref rs = R := hR
  unfold declStep at hR
  refine Ct.body Try.func22 rfl Try.ntmps22 Try.results22 rfl ?_
  refine pur ?_
  refine WpO.call Try.call39 rfl rfl (openR_ct X.sb rs _ 1 rfl (by omega)) fun r L' ⟨_, e2⟩ => ⟨Keeps.none, ?_⟩
  subst e2
  dsimp only [List.set]
  refine pur ?_
  refine S.loadN (vs := [.slice X.ta X.t.length X.tc]) rfl rfl (Ent.sub 1 (j := 0) (hH0.app [_, _]) rfl) rfl ?_
  refine pur ?_
  refine WpO.call Try.call45 rfl rfl (functions_ct X.t X.ta X.tc i _ (hX0.tree.wk fun k s => s.tail.tail) hw hil) fun v L' ⟨ra, rc, ks, e1, hkl, e2⟩ => ⟨Keeps.none, ?_⟩
  subst e1; subst e2
  refine WpO.parts (L' := rsL X ref ([] :: rs) (ownA 26 1 ra rc (gridRows (functionsF X.t i) ks) :: listsP (functionsF X.t i) ks :: M0)) (fun k s => Sat.sel (T := M0) 4 (M := [_, _, _, _]) (M' := [_, _, _, _]) [2, 3, 0, 1] rfl s) ?_
  refine WpO.know (fun k hs => grid_know (L := ownA 26 1 ra rc (gridRows (functionsF X.t i) ks) :: listsP (functionsF X.t i) ks :: M0) 0 1 rfl rfl hkl (Sat.drop [_, _] hs)) fun hG => ?_
  obtain ⟨M, hM⟩ : ∃ M, M = ownA 26 1 ra rc (gridRows (functionsF X.t i) ks) :: listsP (functionsF X.t i) ks :: M0 := ⟨_, rfl⟩
  rw [← hM] at hG ⊢
  have hML : LeL M M0 := by subst hM; exact fun k s => s.tail.tail
  have hX : X.Ok M := hX0.wk hML
  clear hM
  have hH := hX.hdr
  unfold RX.hdr hdrW at hH
  clear hH0
  generalize hF : functionsF X.t i = F at *
  refine pur ?_
  refine Wp.loopI (α := Nat × List Frm) (0, [] :: rs) (fun z => [(0, .v (.pointer (some ⟨X.wb, 0, none⟩))), (4, .v (.slice ra F.length rc)), (28, .v (.slice ra F.length rc)), (29, .v (.int .i64 F.length)), (30, .v (.int .i64 z.1))])
    (fun z => rsL X ref z.2 M) (fun z => F.length - z.1) (fun z => z.1 ≤ F.length ∧ (∃ g, z.2 = g :: rs ∧ FrOk X.t g) ∧ (match foldR (runBind X.t ref) (F.drop z.1) z.2 with
      | some rs' => (match foldR (fun run r => foldO (clauseF X.t X.cons n (resN X.t X.cons n).1 rs') run r) F ref with
        | some r => some (r, rs')
        | none => none)
      | none => none) = R) ⟨Nat.zero_le _, ⟨[], rfl, FrOk.nil _⟩, by rw [← hR]; rfl⟩ ⟨rfl, rfl, rfl, rfl, rfl, trivial⟩ (LeL.refl _) ?_
  rintro ⟨j, fs⟩ ⟨hj, hfs, hf⟩
  simp only [] at hj hfs hf ⊢
  refine pur ?_
  refine Wp.branch rfl (fun h => ?_) (fun h => ?_)
  · have hjl : j < F.length := by have := of_decide_eq_true h; omega
    obtain ⟨run, hrun⟩ : ∃ run, F[j]? = some run := ⟨_, List.getElem?_eq_getElem hjl⟩
    have hrm := List.mem_of_getElem? hrun
    obtain ⟨hne, hlt⟩ := f1 run hrm
    have hrl2 := f4 run hrm
    have hr0 : 0 < run.length := List.length_pos_iff.2 hne
    obtain ⟨g, hfs1, hg⟩ := hfs
    subst hfs1
    have hgl := hg.le
    rw [drop_get hrun, foldR_cons, runBind_eq] at hf
    obtain ⟨rb, ro, la, lc, e1, hE1, hS1⟩ := hG.at hrun
    subst e1
    have hz := gOf_get hr0
    generalize hz0 : gOf run 0 = z0 at *
    have hz0l := hlt z0 (List.mem_of_getElem? hz)
    obtain ⟨lb, lo, e2, hE2⟩ := nat_at hS1 hz
    subst e2
    obtain ⟨tb1, tp, ka, kc, e3, hE3, _⟩ := hw.at hX.tree hz0l
    rw [e3] at hH
    have hE1 := hE1.app [ownA 3 1 (some ⟨X.rb, 0, none⟩) X.t.length (ints ref), scR X.sb (g :: rs)]
    have hE2 := hE2.app [ownA 3 1 (some ⟨X.rb, 0, none⟩) X.t.length (ints ref), scR X.sb (g :: rs)]
    refine pur ?_
    refine S.idx j rfl rfl rfl rfl hjl ?_
    refine pur ?_
    refine Wp.draw rfl [0,1,2,3,4,5,6,7,8,9,10,11,12] 12 12 (rsL X ref (g :: rs) M) rfl (by decide +kernel) (fun _ h => h) ?_
    refine pur ?_
    refine S.idx 0 rfl rfl rfl rfl hr0 ?_
    refine pur ?_
    refine S.idx z0 rfl rfl rfl rfl hz0l ?_
    refine S.loadN (vs := [.int .i64 (opN X.t z0), .string (ndAt X.t z0).text, .int .i64 (ndAt X.t z0).num, .slice ka (kidsN X.t z0).length kc]) rfl rfl (hE3.app [_, _]) rfl ?_
    refine WpO.alloc rfl rfl (fun _ => Keeps.by fun _ s => s.tail) fun b7 => ?_
    refine pur ?_
    refine Wp.draw rfl [0,1,2,3,4,5,6,7,8,9,10,11,12,13] 13 13 _ rfl (by decide +kernel) (fun _ h => h) ?_
    refine pur ?_
    refine S.idx 0 rfl rfl rfl rfl hr0 ?_
    refine pur ?_
    refine S.idx z0 rfl rfl rfl rfl hz0l ?_
    refine S.load (v := .int .i64 (refAt ref z0)) rfl rfl (by infer_instance) (own_ent 1 z0 rfl (ints_get (by omega))) ?_
    refine WpO.parts (L' := rsL X ref (g :: rs) (ptA b7 38 [.int .i64 (opN X.t z0), .string (ndAt X.t z0).text, .int .i64 (ndAt X.t z0).num, .slice ka (kidsN X.t z0).length kc] :: M)) (fun k s => Sat.sel (T := M) 3 (M := [_, _, _]) (M' := [_, _, _]) [1, 2, 0] rfl s) ?_
    have hX7 := hX.wk (M' := ptA b7 38 [.int .i64 (opN X.t z0), .string (ndAt X.t z0).text, .int .i64 (ndAt X.t z0).num, .slice ka (kidsN X.t z0).length kc] :: M) fun k s => s.tail
    refine WpO.callP Try.call19 rfl rfl (wbind_ct hX7 ref g rs (ndAt X.t z0).text (refAt ref z0) (by omega) (by omega)) (fun v L' ⟨e1, e2, e3⟩ => ro_panic (by rw [← hf, show bindF (g :: rs) (textN X.t z0) (refAt ref z0) = none from e1]) e2 (fun k s => hML k (e3 k s).tail)) fun v L' ⟨y, e1, _, e2⟩ => ⟨Keeps.last, ?_⟩
    subst e2
    have e1 : bindF (g :: rs) (textN X.t z0) (refAt ref z0) = some y := e1
    rw [e1] at hf
    simp only [] at hf
    have hy : ∃ g', y = g' :: rs ∧ FrOk X.t g' := by
      rw [bindF_cons] at e1
      cases hq : sget g (textN X.t z0) with
      | some v => rw [hq] at e1; cases e1
      | none =>
        rw [hq] at e1
        simp only [Option.isSome_none, Bool.false_eq_true, if_false, Option.some.injEq] at e1
        exact ⟨_, e1.symm, hg.bind hz0l _ hq⟩
    refine pur ?_
    refine WpO.callP Try.call24 rfl rfl (rfail_ct _ _) (fun v L' ⟨e1, e2, e3⟩ => ro_panic (by
      rw [← hf, if_pos (by
        have e1' : (decide (((kidsN X.t z0).length : Int) = 1) && decide ((1 : Int) < (run.length : Int))) = true := e1
        rw [Bool.and_eq_true] at e1'
        exact ⟨by have := of_decide_eq_true e1'.1; omega, by have := of_decide_eq_true e1'.2; omega⟩)]) e2 (by subst e3; exact fun k s => hML k s.tail.tail.tail)) (fun v' L' ⟨e1, e2⟩ => ⟨Keeps.none, ?_⟩)
    subst e2
    have hc1 : ¬ ((kidsN X.t z0).length = 1 ∧ 1 < run.length) := by
      rintro ⟨q1, q2⟩
      have : (decide (((kidsN X.t z0).length : Int) = 1) && decide ((1 : Int) < (run.length : Int))) = true := by
        rw [Bool.and_eq_true]; exact ⟨decide_eq_true (by omega), decide_eq_true (by omega)⟩
      have e1' : (decide (((kidsN X.t z0).length : Int) = 1) && decide ((1 : Int) < (run.length : Int))) = false := e1
      rw [this] at e1'; cases e1'
    rw [if_neg hc1] at hf
    refine pur ?_
    refine Wp.loopI (α := Nat) 0 (fun q => [(0, .v (.pointer (some ⟨X.wb, 0, none⟩))), (4, .v (.slice (some ⟨rb, ro, none⟩) F.length rc)), (28, .v (.slice (some ⟨rb, ro, none⟩) F.length rc)), (29, .v (.int .i64 F.length)), (30, .v (.int .i64 j)), (7, .v (.pointer (some ⟨b7, 0, none⟩))), (69, .v (.slice (some ⟨lb, lo, none⟩) run.length lc)), (70, .v (.int .i64 run.length)), (71, .v (.int .i64 q))])
      (fun _ => rsL X ref y (ptA b7 38 [.int .i64 (opN X.t z0), .string (ndAt X.t z0).text, .int .i64 (ndAt X.t z0).num, .slice ka (kidsN X.t z0).length kc] :: M)) (fun q => run.length - q) (fun q => q ≤ run.length ∧ ((run.take q).all fun c => decide ((kidsN X.t c).length = (kidsN X.t z0).length)) = true) ⟨Nat.zero_le _, rfl⟩ ⟨rfl, rfl, rfl, rfl, rfl, rfl, rfl, rfl, rfl, trivial⟩ (LeL.refl _) ?_
    rintro q ⟨hq, hall⟩
    refine pur ?_
    refine Wp.branch rfl (fun h2 => ?_) (fun h2 => ?_)
    · have hql : q < run.length := by have := of_decide_eq_true h2; omega
      have hk := gOf_get hql
      generalize hke : gOf run q = c at hk
      have hcl := hlt c (List.mem_of_getElem? hk)
      obtain ⟨qb, qo, e4, hE4⟩ := nat_at hS1 hk
      simp only [Option.some.injEq, Addr.mk.injEq, and_true] at e4
      obtain ⟨rfl, rfl⟩ := e4
      obtain ⟨tb2, tp2, ka2, kc2, e5, hE5, _⟩ := hw.at hX.tree hcl
      have e6 := e3.symm.trans e5
      simp only [Option.some.injEq, Addr.mk.injEq, and_true] at e6
      obtain ⟨rfl, rfl⟩ := e6
      have hE5 := hE5.app [ownA 3 1 (some ⟨X.rb, 0, none⟩) X.t.length (ints ref), scR X.sb y, ptA b7 38 [.int .i64 (opN X.t z0), .string (ndAt X.t z0).text, .int .i64 (ndAt X.t z0).num, .slice ka (kidsN X.t z0).length kc]]
      have hE4 := hE4.app [ownA 3 1 (some ⟨X.rb, 0, none⟩) X.t.length (ints ref), scR X.sb y, ptA b7 38 [.int .i64 (opN X.t z0), .string (ndAt X.t z0).text, .int .i64 (ndAt X.t z0).num, .slice ka (kidsN X.t z0).length kc]]
      refine pur ?_
      refine S.idx q rfl rfl rfl rfl hql ?_
      refine pur ?_
      refine Wp.draw rfl [0,1,2,3,4,5,6,7,8,9,10,11,12,13,14,15] 15 15 _ rfl (by decide +kernel) (fun _ h => h) ?_
      refine pur ?_
      refine S.idx c rfl rfl rfl rfl hcl ?_
      refine pur ?_
      have htk : run.take (q + 1) = run.take q ++ [c] := by rw [List.take_add_one, hk]; rfl
      refine WpO.callP Try.call24 rfl rfl (rfail_ct _ _) (fun v L' ⟨e1, e2, e3⟩ => ro_panic (by
        rw [← hf, if_neg]
        intro hc
        have := List.all_eq_true.1 hc c (List.mem_of_getElem? hk)
        have h5 := of_decide_eq_true this
        rw [h5] at e1
        simp at e1) e2 (by subst e3; exact fun k s => hML k s.tail.tail.tail)) (fun v' L' ⟨e1, e2⟩ => ⟨Keeps.last, ?_⟩)
      subst e2
      refine pur ?_
      have hw1 : IntKind.i64.wrap ((q : Int) + 1) = ((q + 1 : Nat) : Int) := by rw [wrap_id (by omega) (by omega)]; omega
      rw [hw1]
      refine Round.mk (q + 1) (by omega) ⟨by omega, ?_⟩ ⟨rfl, rfl, rfl, rfl, rfl, rfl, rfl, rfl, rfl, trivial⟩ (LeL.refl _)
      rw [htk, List.all_append, hall]
      have h6 : (kidsN X.t c).length = (kidsN X.t z0).length := by
        have h7 : (!decide (((kidsN X.t c).length : Int) = ((kidsN X.t z0).length : Int))) = false := e1
        have h8 : ((kidsN X.t c).length : Int) = ((kidsN X.t z0).length : Int) := by simpa using h7
        omega
      simp [h6]
    have hql : q = run.length := by have := of_decide_eq_false h2; omega
    rw [hql, List.take_length] at hall
    rw [if_pos hall] at hf
    refine pur ?_
    have hw1 : IntKind.i64.wrap ((j : Int) + 1) = ((j + 1 : Nat) : Int) := by rw [wrap_id (by omega) (by omega)]; omega
    rw [hw1]
    exact Round.mk (j + 1, y) (by show _ - (j + 1) < _ - j; omega) ⟨by show j + 1 ≤ _; omega, hy, hf⟩ ⟨rfl, rfl, rfl, rfl, rfl, trivial⟩ (fun k s => Sat.cons_mono (fun k s => Sat.cons_mono (fun k s => s.tail) s) s)
  have hjl : j = F.length := by have := of_decide_eq_false h; omega
  rw [hjl, List.drop_length] at hf
  have hf : (match foldR (fun run r => foldO (clauseF X.t X.cons n (resN X.t X.cons n).1 fs) run r) F ref with
        | some r => some (r, fs)
        | none => none) = R := hf
  obtain ⟨g, hfs1, hg⟩ := hfs
  have hfl : fs.length = rs.length + 1 := by rw [hfs1]; rfl
  refine pur ?_
  refine Wp.loopI (α := Nat × List Int) (0, ref) (fun z => [(0, .v (.pointer (some ⟨X.wb, 0, none⟩))), (93, .v (.slice ra F.length rc)), (94, .v (.int .i64 F.length)), (95, .v (.int .i64 z.1))])
    (fun z => rsL X z.2 fs M) (fun z => F.length - z.1) (fun z => z.1 ≤ F.length ∧ z.2.length = X.t.length ∧ (match foldR (fun run r => foldO (clauseF X.t X.cons n (resN X.t X.cons n).1 fs) run r) (F.drop z.1) z.2 with
        | some r => some (r, fs)
        | none => none) = R) ⟨Nat.zero_le _, hrl, hf⟩ ⟨rfl, rfl, rfl, rfl, trivial⟩ (LeL.refl _) ?_
  clear hf
  rintro ⟨j, r⟩ ⟨hj, hrl1, hf⟩
  simp only [] at hj hrl1 hf ⊢
  refine pur ?_
  refine Wp.branch rfl (fun h => ?_) (fun h => ?_)
  · have hjl : j < F.length := by have := of_decide_eq_true h; omega
    obtain ⟨run, hrun⟩ : ∃ run, F[j]? = some run := ⟨_, List.getElem?_eq_getElem hjl⟩
    have hrm := List.mem_of_getElem? hrun
    obtain ⟨hne, hlt⟩ := f1 run hrm
    have hrl2 := f4 run hrm
    rw [drop_get hrun, foldR_cons] at hf
    obtain ⟨rb, ro, la, lc, e1, hE1, hS1⟩ := hG.at hrun
    subst e1
    have hE1 := hE1.app [ownA 3 1 (some ⟨X.rb, 0, none⟩) X.t.length (ints r), scR X.sb fs]
    refine pur ?_
    refine S.idx j rfl rfl rfl rfl hjl ?_
    refine pur ?_
    refine Wp.loopI (α := Nat × List Int) (0, r) (fun z => [(0, .v (.pointer (some ⟨X.wb, 0, none⟩))), (93, .v (.slice (some ⟨rb, ro, none⟩) F.length rc)), (94, .v (.int .i64 F.length)), (95, .v (.int .i64 j)), (99, .v (.slice la run.length lc)), (100, .v (.int .i64 run.length)), (101, .v (.int .i64 z.1))])
      (fun z => rsL X z.2 fs M) (fun z => run.length - z.1) (fun z => z.1 ≤ run.length ∧ z.2.length = X.t.length ∧ (match (match foldO (clauseF X.t X.cons n (resN X.t X.cons n).1 fs) (run.drop z.1) z.2 with
          | some s' => foldR (fun run r => foldO (clauseF X.t X.cons n (resN X.t X.cons n).1 fs) run r) (F.drop (j + 1)) s'
          | none => none) with
        | some r => some (r, fs)
        | none => none) = R) ⟨Nat.zero_le _, hrl1, by cases hq : foldO (clauseF X.t X.cons n (resN X.t X.cons n).1 fs) run r <;> (rw [hq] at hf; simp only [List.drop_zero, hq]; exact hf)⟩ ⟨rfl, rfl, rfl, rfl, rfl, rfl, rfl, trivial⟩ (LeL.refl _) ?_
    clear hf
    rintro ⟨q, r⟩ ⟨hq, hrl1, hf⟩
    simp only [] at hq hrl1 hf ⊢
    refine pur ?_
    refine Wp.branch rfl (fun h2 => ?_) (fun h2 => ?_)
    · have hql : q < run.length := by have := of_decide_eq_true h2; omega
      have hk := gOf_get hql
      generalize hke : gOf run q = c at hk
      have hcm := List.mem_of_getElem? hk
      have hcl := hlt c hcm
      have hci := k2 c (fkid run hrm c hcm)
      have hc0 := hsh c hcl (by simp [fop run hrm c hcm])
      have hlk : lastK X.t c < (kidsN X.t c).length := by unfold lastK; omega
      rw [drop_get hk, foldO] at hf
      obtain ⟨qb, qo, e4, hE4⟩ := nat_at hS1 hk
      subst e4
      obtain ⟨tb2, tp2, ka2, kc2, e5, hE5, hS5⟩ := hw.at hX.tree hcl
      rw [e5] at hH
      obtain ⟨kb, ko, e6, hE6⟩ := nat_at hS5 (gOf_get hlk)
      subst e6
      obtain ⟨q1, q2, q3⟩ := hw.kids c hcl
      have hkl3 := q2 _ (List.mem_of_getElem? (gOf_get hlk))
      have hkc := hS5.cap
      rw [natRows_length] at hkc
      have hE5 := hE5.app [ownA 3 1 (some ⟨X.rb, 0, none⟩) X.t.length (ints r), scR X.sb fs]
      have hE4 := hE4.app [ownA 3 1 (some ⟨X.rb, 0, none⟩) X.t.length (ints r), scR X.sb fs]
      have hwl : IntKind.i64.wrap (((kidsN X.t c).length : Int) - 1) = ((lastK X.t c : Nat) : Int) := by rw [wrap_id (by omega) (by omega)]; unfold lastK; omega
      refine pur ?_
      refine S.idx q rfl rfl rfl rfl hql ?_
      refine pur ?_
      refine S.idx c rfl rfl rfl rfl hcl ?_
      refine pur ?_
      rw [hwl]
      refine S.sliceL 0 (lastK X.t c) rfl rfl Bd.no (Bd.at _ rfl (by infer_instance) (fun _ => rfl)) ⟨Nat.zero_le _, by omega⟩ ?_
      rw [slA0]
      refine WpO.callP Try.call46 rfl rfl (wopen2_ct hX hca n ((kidsN X.t c).take (lastK X.t c)) (lastK X.t c - 0) (by rw [List.length_take]; omega) (some ⟨kb, ko, none⟩) (kc2 - 0) r fs (by have := hS5.take (lastK X.t c); rw [natRows_take] at this; exact this) (fun k hk => by have := q2 k (List.mem_of_mem_take hk); omega) (by rw [List.length_take]; omega) hrl1 (by omega))
        (fun v L' ⟨e1, e2, e3⟩ => ro_panic (by rw [← hf]; unfold clauseF; rw [e1]) e2 (e3.trans hML)) fun v L' ⟨y, e1, _, e2⟩ => ⟨Keeps.none, ?_⟩
      subst e2
      obtain ⟨y1, g1, y2, _⟩ := openF_ok hw e1 (fun k hk => hw.kid hcl (List.mem_of_mem_take hk)) hrl1
      have hcf : clauseF X.t X.cons n (resN X.t X.cons n).1 fs c r = (resN X.t X.cons n).1 (gOf (kidsN X.t c) (lastK X.t c)) y.1 y.2 := by unfold clauseF; rw [e1]
      rw [hcf] at hf
      refine pur ?_
      refine S.idx (lastK X.t c) rfl rfl rfl rfl hlk ?_
      refine S.load (v := .int .i64 (gOf (kidsN X.t c) (lastK X.t c) : Nat)) rfl rfl (by infer_instance) (hE6.app [_, _]) ?_
      refine WpO.callP Try.call47 rfl rfl (ihN M hX (gOf (kidsN X.t c) (lastK X.t c)) y.1 y.2 (by omega) (by omega) y1 (by rw [y2]; simp) (by rw [y2]; simp; omega)) (fun v L' ⟨e1, e2, e3⟩ => ro_panic (by rw [← hf, e1]) e2 (e3.trans hML)) fun v L' ⟨r2, e7, _, e2⟩ => ⟨Keeps.none, ?_⟩
      subst e2
      rw [e7] at hf
      simp only [] at hf
      rw [y2]
      refine pur ?_
      refine WpO.call Try.call48 rfl rfl (closeR_ct X.sb g1 fs _ 1 rfl (by omega) (by omega)) fun v L' ⟨e1, e2⟩ => ⟨Keeps.none, ?_⟩
      subst e1; subst e2
      dsimp only [List.set]
      refine pur ?_
      have hw1 : IntKind.i64.wrap ((q : Int) + 1) = ((q + 1 : Nat) : Int) := by rw [wrap_id (by omega) (by omega)]; omega
      rw [hw1]
      exact Round.mk (q + 1, r2) (by show _ - (q + 1) < _ - q; omega) ⟨by show q + 1 ≤ _; omega, hres.node _ _ _ r2 (by omega) y1 e7, hf⟩ ⟨rfl, rfl, rfl, rfl, rfl, rfl, rfl, trivial⟩ (LeL.refl _)
    have hql : q = run.length := by have := of_decide_eq_false h2; omega
    rw [hql, List.drop_length] at hf
    refine pur ?_
    have hw1 : IntKind.i64.wrap ((j : Int) + 1) = ((j + 1 : Nat) : Int) := by rw [wrap_id (by omega) (by omega)]; omega
    rw [hw1]
    exact Round.mk (j + 1, r) (by show _ - (j + 1) < _ - j; omega) ⟨by show j + 1 ≤ _; omega, hrl1, hf⟩ ⟨rfl, rfl, rfl, rfl, trivial⟩ (LeL.refl _)
  have hjl : j = F.length := by have := of_decide_eq_false h; omega
  rw [hjl, List.drop_length] at hf
  have hf : some (r, fs) = R := hf
  subst hf
  refine pur ?_
  exact RetNL rfl (fun k s => Sat.cons_mono (fun k s => Sat.cons_mono (fun k s => hML k s) s) s) ⟨(r, fs), rfl, rfl, rfl⟩
/-- Expressions and declarations, whole. -/
theorem res_all {X : RX} (hsh : Shaped X.t) (hca : ∃ b o, X.ca.1 = some ⟨b, o, none⟩) : ∀ n, NodeCt X n ∧ DeclCt X n
  | 0 => ⟨fun _ _ _ _ _ h => absurd h (Nat.not_lt_zero _), fun _ _ _ _ _ h => absurd h (Nat.not_lt_zero _)⟩
  | n + 1 => ⟨node_step hsh hca (res_all hsh hca n).1 (res_all hsh hca n).2, decl_step hsh hca (res_all hsh hca n).1⟩
end Go.Proofs.Ytibkdjjdfcpdaaa
end

section
/- rename: types and data declarations. -/
namespace Go.Proofs.Ytibkdjjdfcpdaaa
open Go Go.Ab
attribute [local irreducible] Wp WpO Qt OpT Ct
def paramsAt (datas : List DN) (k : Nat) : Int := match datas[k]? with
  | some d => d.2
  | none => 0
def typNames (t : List Nd) (datas : List DN) (i : Nat) (ps : List (List UInt8)) : List (List UInt8) := if opN t i = 23 then ps else datNs datas
/-- A type resolved. -/
def typF (t : List Nd) (datas : List DN) : Nat → Nat → List (List UInt8) → List Int → Option (List Int)
  | 0, _, _, _ => none
  | n + 1, i, ps, ref => match sfind (typNames t datas i ps) (textN t i) 0 with
    | some k => if opN t i = 24 ∧ paramsAt datas k ≠ ((kidsN t i).length : Int) then none
      else foldO (fun j r => typF t datas n j ps r) (kidsN t i) (ref.set i (k : Int))
    | none => none
def dataStep (t : List Nd) (datas : List DN) (n : Nat) (i : Nat) (s : List (List UInt8) × List Int) : Option (List (List UInt8) × List Int) :=
  if opN t i = 23 then (match sfind s.1 (textN t i) 0 with
    | some _ => none
    | none => some (s.1 ++ [textN t i], s.2.set i (s.1.length : Int)))
  else match foldO (fun j r => typF t datas n j s.1 r) (kidsN t i) s.2 with
    | some r => some (s.1, r)
    | none => none
/-- A data declaration resolved. -/
def dataF (t : List Nd) (datas : List DN) (n : Nat) (i : Nat) (ref : List Int) : Option (List Int) := match foldO (dataStep t datas n) (kidsN t i) ([], ref) with
  | some s => some s.2
  | none => none
theorem typF_len {t : List Nd} {datas : List DN} : ∀ (n i : Nat) (ps : List (List UInt8)) (ref r : List Int), typF t datas n i ps ref = some r → r.length = ref.length := by
  intro n
  induction n with
  | zero => intro i ps ref r h; cases h
  | succ n ih =>
    intro i ps ref r h
    unfold typF at h
    cases hq : sfind (typNames t datas i ps) (textN t i) 0 with
    | none => rw [hq] at h; cases h
    | some k =>
      rw [hq] at h
      simp only [] at h
      split at h
      · cases h
      · exact foldO_inv (fun r : List Int => r.length = ref.length) _ _ _ _ h (by simp) fun j _ s s' hs hf => (ih j ps s s' hf).trans hs
section
variable {X : RX}
def TypCt (X : RX) (n : Nat) : Prop := ∀ M, X.Ok M → ∀ (i pb : Nat) (ps : List (List UInt8)) (ref : List Int) (rs : List Frm), Ent M (mapA pb (vM (ixs ps 0))) → i < n → i < X.t.length → ref.length = X.t.length →
  Ct Try.prog 44 #[.pointer (some ⟨X.wb, 0, none⟩), .int .i64 (i : Int), .map (some pb)] (rsL X ref rs M) (RO (typF X.t X.datas n i ps ref) (fun y v L' => v = .tuple #[] ∧ L' = rsL X y rs M) M)
set_option maxHeartbeats 16000000 in
theorem typ_ct (hda : ∃ b o, X.da.1 = some ⟨b, o, none⟩) : ∀ n, TypCt X n := by
  intro n
  induction n with
  | zero => intro M _ i _ _ _ _ _ h; omega
  | succ n ih =>
    intro M hX i pb ps ref rs hP hin hil hrl
    have hw := hX.wf
    have hlen := hw.len
    have hH := hX.hdr
    unfold RX.hdr hdrW at hH
    obtain ⟨dab, dao, hdab⟩ := hda
    rw [hdab] at hH
    have hDS := hX.datas
    rw [hdab] at hDS
    generalize hR : typF X.t X.datas (n + 1) i ps ref = R
    unfold typF at hR
    obtain ⟨tb1, tp, ka, kc, e1, hE, hS⟩ := hw.at hX.tree hil
    rw [e1] at hH
    obtain ⟨k1, k2, k3⟩ := hw.kids i hil
    refine Ct.body Try.func44 rfl Try.ntmps44 Try.results44 rfl ?_
    refine pur ?_
    refine S.idx i rfl rfl rfl rfl hil ?_
    refine S.loadN (vs := [.int .i64 (opN X.t i), .string (ndAt X.t i).text, .int .i64 (ndAt X.t i).num, .slice ka (kidsN X.t i).length kc]) rfl rfl (hE.app [_, _]) rfl ?_
    refine WpO.alloc rfl rfl (fun _ => Keeps.none) fun b6 => ?_
    refine pur ?_
    obtain ⟨mx, hmx⟩ : ∃ mx, mx = if opN X.t i = 23 then pb else X.tb := ⟨_, rfl⟩
    have hEm : Ent M (mapA mx (vM (ixs (typNames X.t X.datas i ps) 0))) := by
      unfold typNames
      by_cases h : opN X.t i = 23
      · rw [hmx, if_pos h, if_pos h]; exact hP
      · rw [hmx, if_neg h, if_neg h]; exact hX.tm
    refine Wp.meet (α := Unit) (fun _ => [(0, .v (.pointer (some ⟨X.wb, 0, none⟩))), (1, .v (.int .i64 i)), (2, .v (.map (some pb))), (6, .v (.pointer (some ⟨b6, 0, none⟩))), (7, .v (.map (some mx)))])
      (fun _ => ptA b6 38 [.int .i64 (opN X.t i), .string (ndAt X.t i).text, .int .i64 (ndAt X.t i).num, .slice ka (kidsN X.t i).length kc] :: rsL X ref rs M) (fun _ => True) ?_ ?_
    · refine Wp.branch rfl (fun h => ?_) (fun h => ?_)
      · have hop : opN X.t i = 23 := of_decide_eq_true h
        rw [if_pos hop] at hmx
        refine pur ?_
        exact ⟨(), trivial, ⟨rfl, rfl, rfl, rfl, by rw [hmx]; rfl, trivial⟩, rfl, LeL.refl _⟩
      · have hop : ¬ opN X.t i = 23 := of_decide_eq_false h
        rw [if_neg hop] at hmx
        refine pur ?_
        exact ⟨(), trivial, ⟨rfl, rfl, rfl, rfl, by rw [hmx]; rfl, trivial⟩, rfl, LeL.refl _⟩
    rintro ⟨⟩ -
    refine pur ?_
    refine S.mlook (textN X.t i) rfl (hEm.app [_, _, _]) rfl rfl ?_
    refine pur ?_
    rw [mget_vM, sget_ixs]
    cases hq : sfind (typNames X.t X.datas i ps) (textN X.t i) 0 with
    | none =>
      rw [hq] at hR
      refine pur ?_
      refine Wp.draw rfl [0,1,2,3,4,5,6,7,8,9,10,11,12,13,14,15,16,17,18,19,20,21,22] 22 22 _ rfl (by decide +kernel) (fun _ h => h) ?_
      refine pur ?_
      refine G.idx 0 rfl rfl rfl (by infer_instance) rfl (by infer_instance) (fun h => by cases h) ?_
      refine pur ?_
      refine G.loadIf (v := .int .i64 0) rfl rfl rfl (by infer_instance) (by infer_instance) (fun h => by cases h) ?_
      refine pur ?_
      exact WpO.callP Try.call24 rfl rfl (rfail_ct _ _) (fun v L' ⟨e1, e2, e3⟩ => ro_panic hR.symm e2 (by subst e3; exact fun k s => s.tail.tail.tail)) (fun v L' ⟨e1, e2⟩ => by cases e1)
    | some k =>
      rw [hq] at hR
      simp only [] at hR
      have hkl := sfind_lt hq
      refine pur ?_
      refine Wp.draw rfl [0,1,2,3,4,5,6,7,8,9,10,11,12,13,14,15,16,17,18,19,20,21,22] 22 22 _ rfl (by decide +kernel) (fun _ h => h) ?_
      refine pur ?_
      have h24 : opN X.t i = 24 → k < X.datas.length ∧ Ent M (CellsAt dab (dao + k * 2 + 1) [.int .i64 (paramsAt X.datas k)]) := fun h => by
        have hkd : k < X.datas.length := by
          unfold typNames at hkl
          rw [if_neg (by rw [h]; decide), datNs_length] at hkl
          exact hkl
        obtain ⟨d, hd⟩ : ∃ d, X.datas[k]? = some d := ⟨_, List.getElem?_eq_getElem hkd⟩
        obtain ⟨b2, o2, e3, _, hDE⟩ := hDS.at (i := k) (r := datRow d) (by rw [List.getElem?_map, hd]; rfl)
        simp only [Option.some.injEq, Addr.mk.injEq, and_true] at e3
        obtain ⟨rfl, rfl⟩ := e3
        refine ⟨hkd, ?_⟩
        have : paramsAt X.datas k = d.2 := by unfold paramsAt; rw [hd]
        rw [this]
        exact Ent.sub 1 (j := 1) hDE rfl
      refine G.idx k rfl rfl rfl (by infer_instance) rfl (by infer_instance) (fun h => ⟨rfl, (h24 (by simpa using h)).1⟩) ?_
      refine pur ?_
      refine G.loadIf (v := .int .i64 (paramsAt X.datas k)) rfl rfl rfl (by infer_instance) (by infer_instance) (fun h => (h24 (by simpa using h)).2.app [_, _, _]) ?_
      refine pur ?_
      have hcond : ∀ b : Bool, (false || (decide (opN X.t i = 24) && !decide (paramsAt X.datas k = ((kidsN X.t i).length : Int)))) = b → (b = true ↔ opN X.t i = 24 ∧ paramsAt X.datas k ≠ ((kidsN X.t i).length : Int)) := fun b hb => by
        subst hb; simp
      refine WpO.callP Try.call24 rfl rfl (rfail_ct _ _) (fun v L' ⟨e1, e2, e3⟩ => ro_panic (by
        rw [← hR, if_pos ((hcond _ e1).1 rfl)]) e2 (by subst e3; exact fun k s => s.tail.tail.tail)) (fun v L' ⟨e1, e2⟩ => ⟨Keeps.last, ?_⟩)
      subst e2
      rw [if_neg (fun h => by have := (hcond _ e1).2 h; cases this)] at hR
      refine pur ?_
      refine S.idx i rfl rfl rfl rfl hil ?_
      refine WpO.storeRow1 (v := .int .i64 (k : Int)) 1 i rfl rfl rfl (by rw [ints_length]; omega) rfl rfl Keeps.none (ints_one _) ?_
      dsimp only [List.set]
      rw [ints_set]
      refine pur ?_
      refine Wp.loopI (α := Nat × List Int) (0, ref.set i (k : Int)) (fun z => [(0, .v (.pointer (some ⟨X.wb, 0, none⟩))), (2, .v (.map (some pb))), (68, .v (.slice ka (kidsN X.t i).length kc)), (69, .v (.int .i64 (kidsN X.t i).length)), (70, .v (.int .i64 z.1))])
        (fun z => rsL X z.2 rs M) (fun z => (kidsN X.t i).length - z.1) (fun z => z.1 ≤ (kidsN X.t i).length ∧ z.2.length = X.t.length ∧ foldO (fun j r => typF X.t X.datas n j ps r) ((kidsN X.t i).drop z.1) z.2 = R) ⟨Nat.zero_le _, by simpa using hrl, hR⟩ ⟨rfl, rfl, rfl, rfl, rfl, trivial⟩ (fun k s => s.tail) ?_
      rintro ⟨j, r⟩ ⟨hj, hrl1, hf⟩
      simp only [] at hj hrl1 hf ⊢
      refine pur ?_
      refine Wp.branch rfl (fun h => ?_) (fun h => ?_)
      · have hjl : j < (kidsN X.t i).length := by have := of_decide_eq_true h; omega
        have hk := gOf_get hjl
        generalize hke : gOf (kidsN X.t i) j = kk at hk
        have hkk := k2 kk (List.mem_of_getElem? hk)
        rw [drop_get hk, foldO] at hf
        obtain ⟨kb, ko, e2, hEk⟩ := nat_at hS hk
        subst e2
        have hEk := hEk.app [ownA 3 1 (some ⟨X.rb, 0, none⟩) X.t.length (ints r), scR X.sb rs]
        refine pur ?_
        refine S.idx j rfl rfl rfl rfl hjl ?_
        refine pur ?_
        refine WpO.callP Try.call44 rfl rfl (ih M hX kk pb ps r rs hP (by omega) (by omega) hrl1) (fun v L' ⟨e1, e2, e3⟩ => ro_panic (by rw [← hf, e1]) e2 e3) fun v L' ⟨y, e1, _, e2⟩ => ⟨Keeps.none, ?_⟩
        subst e2
        rw [e1] at hf
        refine pur ?_
        have hw1 : IntKind.i64.wrap ((j : Int) + 1) = ((j + 1 : Nat) : Int) := by rw [wrap_id (by omega) (by omega)]; omega
        rw [hw1]
        exact Round.mk (j + 1, y) (by show _ - (j + 1) < _ - j; omega) ⟨by show j + 1 ≤ _; omega, (typF_len n kk ps r y e1).trans hrl1, hf⟩ ⟨rfl, rfl, rfl, rfl, rfl, trivial⟩ (LeL.refl _)
      · have hjl : j = (kidsN X.t i).length := by have := of_decide_eq_false h; omega
        rw [hjl, List.drop_length] at hf
        have hf : some r = R := hf
        subst hf
        refine pur ?_
        exact RetN 0 rfl ⟨r, rfl, rfl, rfl⟩
theorem dataStep_len {t : List Nd} {datas : List DN} {n j : Nat} {s s' : List (List UInt8) × List Int} (h : dataStep t datas n j s = some s') : s'.2.length = s.2.length ∧ s'.1.length ≤ s.1.length + 1 := by
  unfold dataStep at h
  split at h
  · cases hq : sfind s.1 (textN t j) 0 with
    | some q => rw [hq] at h; cases h
    | none => rw [hq] at h; simp only [Option.some.injEq] at h; subst h; simp
  · cases hq : foldO (fun j r => typF t datas n j s.1 r) (kidsN t j) s.2 with
    | none => rw [hq] at h; cases h
    | some r =>
      rw [hq] at h
      simp only [Option.some.injEq] at h
      subst h
      exact ⟨foldO_inv (fun r : List Int => r.length = s.2.length) _ _ _ _ hq rfl fun j _ x x' hx hf => (typF_len n j s.1 x x' hf).trans hx, Nat.le_succ _⟩
set_option maxHeartbeats 16000000 in
theorem data_ct (hda : ∃ b o, X.da.1 = some ⟨b, o, none⟩) {M : List Assn} (hX : X.Ok M) (n i : Nat) (ref : List Int) (rs : List Frm) (ka : Option Addr) (kc : Nat) (hS : Sl M ka kc 1 (natRows (kidsN X.t i))) (hin : i < n) (hil : i < X.t.length) (hrl : ref.length = X.t.length) :
    Ct Try.prog 21 #[.pointer (some ⟨X.wb, 0, none⟩), .agg #[.int .i64 (opN X.t i), .string (ndAt X.t i).text, .int .i64 (ndAt X.t i).num, .slice ka (kidsN X.t i).length kc]] (rsL X ref rs M)
      (RO (dataF X.t X.datas n i ref) (fun y v L' => v = .tuple #[] ∧ L' = rsL X y rs M) M) := by
  have hw := hX.wf
  have hlen := hw.len
  have hH := hX.hdr
  unfold RX.hdr hdrW at hH
  generalize hR : dataF X.t X.datas n i ref = R
  unfold dataF at hR
  obtain ⟨k1, k2, k3⟩ := hw.kids i hil
  refine Ct.body Try.func21 rfl Try.ntmps21 Try.results21 rfl ?_
  refine pur ?_
  refine WpO.box (vs := [.int .i64 (opN X.t i), .string (ndAt X.t i).text, .int .i64 (ndAt X.t i).num, .slice ka (kidsN X.t i).length kc]) rfl rfl rfl (fun _ => Keeps.none) fun b3 => ?_
  refine pur ?_
  refine WpO.mmake (κ := List UInt8) rfl (fun _ => Keeps.none) fun pb => ?_
  refine pur ?_
  refine Wp.loopI (α := Nat × (List (List UInt8) × List Int)) (0, ([], ref)) (fun z => [(0, .v (.pointer (some ⟨X.wb, 0, none⟩))), (4, .v (.map (some pb))), (14, .v (.slice ka (kidsN X.t i).length kc)), (15, .v (.int .i64 (kidsN X.t i).length)), (16, .v (.int .i64 z.1))])
    (fun z => mapA pb (vM (ixs z.2.1 0)) :: rsL X z.2.2 rs M) (fun z => (kidsN X.t i).length - z.1) (fun z => z.1 ≤ (kidsN X.t i).length ∧ z.2.2.length = X.t.length ∧ z.2.1.length ≤ z.1 ∧ (match foldO (dataStep X.t X.datas n) ((kidsN X.t i).drop z.1) z.2 with
      | some s => some s.2
      | none => none) = R) ⟨Nat.zero_le _, hrl, Nat.le_refl _, by rw [← hR]; rfl⟩ ⟨rfl, rfl, rfl, rfl, rfl, trivial⟩ (fun k s => Sat.cons_mono (fun k s => s.tail) s) ?_
  rintro ⟨j, ps, r⟩ ⟨hj, hrl1, hpl, hf⟩
  simp only [] at hj hrl1 hpl hf ⊢
  refine pur ?_
  refine Wp.branch rfl (fun h => ?_) (fun h => ?_)
  · have hjl : j < (kidsN X.t i).length := by have := of_decide_eq_true h; omega
    have hw1 : IntKind.i64.wrap ((j : Int) + 1) = ((j + 1 : Nat) : Int) := by rw [wrap_id (by omega) (by omega)]; omega
    have hk := gOf_get hjl
    generalize hke : gOf (kidsN X.t i) j = kk at hk
    have hkk := k2 kk (List.mem_of_getElem? hk)
    have hkl : kk < X.t.length := by omega
    rw [drop_get hk, foldO] at hf
    obtain ⟨kb, ko, e2, hEk⟩ := nat_at hS hk
    subst e2
    obtain ⟨tb1, tp, ka2, kc2, e1, hE, hS2⟩ := hw.at hX.tree hkl
    rw [e1] at hH
    have hEk := hEk.app [mapA pb (vM (ixs ps 0)), ownA 3 1 (some ⟨X.rb, 0, none⟩) X.t.length (ints r), scR X.sb rs]
    refine pur ?_
    refine S.idx j rfl rfl rfl rfl hjl ?_
    refine pur ?_
    refine S.idx kk rfl rfl rfl rfl hkl ?_
    refine S.loadN (vs := [.int .i64 (opN X.t kk), .string (ndAt X.t kk).text, .int .i64 (ndAt X.t kk).num, .slice ka2 (kidsN X.t kk).length kc2]) rfl rfl (hE.app [_, _, _]) rfl ?_
    refine WpO.alloc rfl rfl (fun _ => Keeps.none) fun b7 => ?_
    refine pur ?_
    refine Wp.branch rfl (fun h2 => ?_) (fun h2 => ?_)
    · have hop : opN X.t kk = 23 := of_decide_eq_true h2
      refine pur ?_
      refine S.mlook (textN X.t kk) rfl (Ent.map 1 rfl) rfl rfl ?_
      refine pur ?_
      rw [mget_vM, sget_ixs]
      cases hq : sfind ps (textN X.t kk) 0 with
      | some q =>
        have hst : dataStep X.t X.datas n kk (ps, r) = none := by unfold dataStep; rw [if_pos hop, hq]
        rw [hst] at hf
        refine pur ?_
        exact WpO.callP Try.call24 rfl rfl (rfail_ct _ _) (fun v L' ⟨e1, e2, e3⟩ => ro_panic hf.symm e2 (by subst e3; exact fun k s => s.tail.tail.tail.tail)) (fun v L' ⟨e1, e2⟩ => by cases e1)
      | none =>
        have hst : dataStep X.t X.datas n kk (ps, r) = some (ps ++ [textN X.t kk], r.set kk (ps.length : Int)) := by unfold dataStep; rw [if_pos hop, hq]
        rw [hst] at hf
        simp only [] at hf
        refine pur ?_
        refine WpO.callP Try.call24 rfl rfl (rfail_ct _ _) (fun v L' ⟨e1, e2, e3⟩ => by cases e1) (fun v L' ⟨e1, e2⟩ => ⟨Keeps.none, ?_⟩)
        subst e2
        have hxl : (vM (ixs ps 0)).length = ps.length := by
          have : ∀ (l : List (List UInt8)) (n : Nat), (ixs l n).length = l.length := by
            intro l
            induction l with
            | nil => intro n; rfl
            | cons x l ih => intro n; show (ixs l (n + 1)).length + 1 = _; rw [ih]; rfl
          unfold vM; rw [List.length_map, this]
        refine pur ?_
        refine Wp.draw rfl [0,1,2,3,4,5,6,7,8,9] 9 9 _ rfl (by decide +kernel) (fun _ h => h) ?_
        refine pur ?_
        refine S.mlen rfl (Ent.map 1 rfl) rfl ?_
        rw [hxl]
        refine S.idx kk rfl rfl rfl rfl hkl ?_
        refine WpO.storeRow1 2 kk rfl rfl rfl (by rw [ints_length]; omega) rfl rfl Keeps.last (ints_one _) ?_
        dsimp only [List.set]
        rw [ints_set]
        refine pur ?_
        refine S.mlen rfl (Ent.map 1 rfl) rfl ?_
        rw [hxl]
        have hms := mset_ixs hq
        refine WpO.mset (textN X.t kk) 1 rfl rfl rfl rfl rfl Keeps.none ?_
        dsimp only [List.set]
        rw [hms]
        refine pur ?_
        rw [hw1]
        exact Round.mk (j + 1, (ps ++ [textN X.t kk], r.set kk (ps.length : Int))) (by show _ - (j + 1) < _ - j; omega) ⟨by show j + 1 ≤ _; omega, by simpa using hrl1, by show (ps ++ [textN X.t kk]).length ≤ j + 1; simp; omega, hf⟩ ⟨rfl, rfl, rfl, rfl, rfl, trivial⟩ (fun k s => s.tail)
    have hop : ¬ opN X.t kk = 23 := of_decide_eq_false h2
    have hst : dataStep X.t X.datas n kk (ps, r) = (match foldO (fun j r => typF X.t X.datas n j ps r) (kidsN X.t kk) r with
      | some r => some (ps, r)
      | none => none) := by unfold dataStep; rw [if_neg hop]; try rfl
    rw [hst] at hf
    obtain ⟨q1, q2, q3⟩ := hw.kids kk hkl
    refine pur ?_
    refine Wp.loopI (α := Nat × List Int) (0, r) (fun z => [(0, .v (.pointer (some ⟨X.wb, 0, none⟩))), (4, .v (.map (some pb))), (14, .v (.slice (some ⟨kb, ko, none⟩) (kidsN X.t i).length kc)), (15, .v (.int .i64 (kidsN X.t i).length)), (16, .v (.int .i64 j)), (56, .v (.slice ka2 (kidsN X.t kk).length kc2)), (57, .v (.int .i64 (kidsN X.t kk).length)), (58, .v (.int .i64 z.1))])
      (fun z => rsL X z.2 rs (mapA pb (vM (ixs ps 0)) :: M)) (fun z => (kidsN X.t kk).length - z.1) (fun z => z.1 ≤ (kidsN X.t kk).length ∧ z.2.length = X.t.length ∧ (match (match foldO (fun j r => typF X.t X.datas n j ps r) ((kidsN X.t kk).drop z.1) z.2 with
        | some r => some (ps, r)
        | none => none) with
        | some s' => (match foldO (dataStep X.t X.datas n) ((kidsN X.t i).drop (j + 1)) s' with
          | some s => some s.2
          | none => none)
        | none => none) = R) ⟨Nat.zero_le _, hrl1, ?_⟩ ⟨rfl, rfl, rfl, rfl, rfl, rfl, rfl, rfl, trivial⟩ (fun k s => Sat.sel (T := M) 4 (M := [_, _, _, _]) (M' := [_, _, _]) [2, 3, 1] rfl s) ?_
    · cases hq : foldO (fun j r => typF X.t X.datas n j ps r) (kidsN X.t kk) r <;> (rw [hq] at hf; simp only [List.drop_zero, hq]; exact hf)
    clear hf hst
    rintro ⟨q, r⟩ ⟨hq, hrl1, hf⟩
    simp only [] at hq hrl1 hf ⊢
    refine pur ?_
    refine Wp.branch rfl (fun h5 => ?_) (fun h5 => ?_)
    · have hql : q < (kidsN X.t kk).length := by have := of_decide_eq_true h5; omega
      have hk2 := gOf_get hql
      generalize hke2 : gOf (kidsN X.t kk) q = z at hk2
      have hz := q2 z (List.mem_of_getElem? hk2)
      rw [drop_get hk2, foldO] at hf
      obtain ⟨zb, zo, e4, hEz⟩ := nat_at hS2 hk2
      subst e4
      have hEz := hEz.app [ownA 3 1 (some ⟨X.rb, 0, none⟩) X.t.length (ints r), scR X.sb rs, mapA pb (vM (ixs ps 0))]
      refine pur ?_
      refine S.idx q rfl rfl rfl rfl hql ?_
      refine pur ?_
      refine WpO.callP Try.call44 rfl rfl (typ_ct hda n (mapA pb (vM (ixs ps 0)) :: M) (hX.wk fun k s => s.tail) z pb ps r rs (Ent.map 0 rfl) (by omega) (by omega) hrl1) (fun v L' ⟨e1, e2, e3⟩ => ro_panic (by rw [← hf, e1]) e2 (fun k s => (e3 k s).tail)) fun v L' ⟨y, e1, _, e2⟩ => ⟨Keeps.none, ?_⟩
      subst e2
      rw [e1] at hf
      refine pur ?_
      have hw2 : IntKind.i64.wrap ((q : Int) + 1) = ((q + 1 : Nat) : Int) := by rw [wrap_id (by omega) (by omega)]; omega
      rw [hw2]
      exact Round.mk (q + 1, y) (by show _ - (q + 1) < _ - q; omega) ⟨by show q + 1 ≤ _; omega, (typF_len n z ps r y e1).trans hrl1, hf⟩ ⟨rfl, rfl, rfl, rfl, rfl, rfl, rfl, rfl, trivial⟩ (LeL.refl _)
    · have hql : q = (kidsN X.t kk).length := by have := of_decide_eq_false h5; omega
      rw [hql, List.drop_length] at hf
      refine pur ?_
      rw [hw1]
      exact Round.mk (j + 1, (ps, r)) (by show _ - (j + 1) < _ - j; omega) ⟨by show j + 1 ≤ _; omega, hrl1, Nat.le_succ_of_le hpl, hf⟩ ⟨rfl, rfl, rfl, rfl, rfl, trivial⟩ (fun k s => Sat.sel (T := M) 3 (M := [_, _, _]) (M' := [_, _, _]) [2, 0, 1] rfl s)
  · have hjl : j = (kidsN X.t i).length := by have := of_decide_eq_false h; omega
    rw [hjl, List.drop_length] at hf
    have hf : some r = R := hf
    subst hf
    refine pur ?_
    exact RetNL rfl (fun k s => s.tail) ⟨r, rfl, rfl, rfl⟩
end
end Go.Proofs.Ytibkdjjdfcpdaaa
end
