/- Parts of a proof: Dn Na. -/
import Derived.Test.YtikgokpbhldlnaaGreatDoorQe
import Derived.Test.YtikgokpbhldlnaaGreatDoorQf
import Derived.Test.YtikgokpbhldlnaaGreatDoorQc
set_option linter.unusedVariables false
set_option linter.unusedSimpArgs false
set_option linter.unusedSectionVars false
section
/- parse.Parse. -/
namespace Go.Proofs.YtikgokpbhldlnaaGreatDoor
open Go Go.Ab
attribute [local irreducible] Wp WpO WpE Qt OpT Ct Ent

/-- A tree that has its memory for itself. -/
def treeA (q : Option Addr × Nat) (t : List Nd) : Assn := pkgA fun M => ∃ ks, ks.length = t.length ∧ M = [ownA 36 4 q.1 q.2 (ndRows t ks), kidsP t ks]
theorem treeA_nil {L : List Assn} : LeL L (treeA (none, 0) [] :: L) := fun _ s => Sat.closeP (M := [ownA 36 4 none 0 (ndRows [] []), kidsP [] []]) ⟨[], rfl, rfl⟩ (Sat.ownNil (kidsP_nil _ s))
/-- What is read of a tree of one's own. -/
theorem tree_know {L : List Assn} {q : Option Addr × Nat} {t : List Nd} {ks : List (Option Addr × Nat)} {k : Hp} (i j : Nat) (hi : L[i]? = some (ownA 36 4 q.1 q.2 (ndRows t ks))) (hj : L[j]? = some (kidsP t ks)) (hk : ks.length = t.length) (hs : Sat k L) : TreeR L q.1 q.2 t := by
  refine ⟨ks, hk, Sl.own i hi (own_know i hi hs), fun n nd key e1 e2 => ?_⟩
  have hL : ∀ k', Sat k' L → Sat k' (kidsA t ks ++ L.eraseIdx j) := fun k' s => by
    obtain ⟨M, hM, hs⟩ := Sat.openP (Sat.pull hj s)
    subst hM; exact hs
  have hn := (List.getElem?_eq_some_iff.1 e1).1
  have hz : (t.zip ks)[n]? = some (nd, key) := by rw [List.getElem?_zip_eq_some]; exact ⟨e1, e2⟩
  have hzl : (t.zip ks).length = t.length := by rw [List.length_zip]; omega
  have hidx : (kidsA t ks ++ L.eraseIdx j)[t.length - 1 - n]? = some (ownA 3 1 key.1 key.2 (ints nd.kids)) := by
    rw [List.getElem?_append_left (by unfold kidsA; simp; omega)]
    unfold kidsA
    rw [List.getElem?_map, List.getElem?_reverse (by omega), hzl, show t.length - 1 - (t.length - 1 - n) = n from by omega, hz]; rfl
  exact (Sl.own _ hidx (own_know _ hidx (hL k hs))).wk hL
/-- What Parse answers: a tree, a place, an error. -/
def parseF (s : List UInt8) : List Nd × Int × Int :=
  if (tokensF s).2.2 ≠ 0 then ([], (tokensF s).2.1, (tokensF s).2.2) else
  match programF (tokensF s).1 s.length (parseN (tokensF s).1 s.length ((tokensF s).1.length * 16 + 10)) ⟨[], 0⟩ with
  | .error e => ([], e.1, e.2)
  | .ok (_, st) => if 6000 < st.t.length ∨ 300 < depthOf (kssOf st.t) then ([], 0, 11) else (st.t, 0, 0)
/-- The three results of Parse lie in memory. -/
@[reducible] def p3m (b2 b3 b4 : Nat) (v : Value) (p e : Int) (L : List Assn) : List Assn :=
  ptA b4 26 [.int .i64 e] :: ptA b3 3 [.int .i64 p] :: ptA b2 24 [v] :: L
@[reducible] def capP (b2 b3 b4 : Nat) : Array Value := #[.pointer (some ⟨b2, 0, none⟩), .pointer (some ⟨b3, 0, none⟩), .pointer (some ⟨b4, 0, none⟩)]
theorem CtD_weaken {P : Program} {f : FuncId} {args : Array Value} {u : FrameMode} {L L' : List Assn} {R : Ending → FrameMode → List Assn → Prop} (h : CtD P f args u L' R) (hL : LeL L L') : CtD P f args u L R := fun w hw => h w (hL _ hw)
set_option maxHeartbeats 1000000 in
theorem prs_rec (b2 b3 b4 : Nat) (v : Value) (p0 e0 : Int) (e : Er) (L : List Assn) :
    CtD Tryz.prog 38 (capP b2 b3 b4) (.panicking [{ v := faultV e, recovered := false }]) (p3m b2 b3 b4 v p0 e0 L)
      (fun en u L' => en = .returned (.tuple #[]) ∧ u = .panicking [{ v := faultV e, recovered := true }] ∧ L' = p3m b2 b3 b4 (.slice none 0 0) e.1 e.2 L) := by
  refine CtD.panicking Tryz.func38 rfl Tryz.ntmps38 rfl rfl rfl ?_
  refine pur ?_
  refine S.isNil rfl rfl rfl rfl ?_
  refine pur ?_
  refine S.assert rfl rfl ?_
  refine pur ?_
  refine WpO.alloc rfl rfl (fun _ => Keeps.none) fun bf => ?_
  refine pur ?_
  refine Wp.draw rfl [0,1,2,3,4,5,6,7] 7 7 [ptA bf 69 [.int .i64 e.1, .int .i64 e.2]] rfl (by decide +kernel) (fun _ s => Sat.take (M := [_]) s) ?_
  refine pur ?_
  refine S.build rfl rfl rfl ?_
  refine pur ?_
  refine WpO.store 3 rfl rfl rfl rfl rfl rfl rfl rfl (Keeps.by fun _ s => Sat.take (M := [_]) s) ?_
  refine WpO.store 2 rfl rfl rfl rfl rfl rfl rfl rfl (Keeps.by fun _ s => Sat.take (M := [_]) s) ?_
  refine pur ?_
  exact RetN 1 rfl rfl
theorem prs_ret (b2 b3 b4 : Nat) (L : List Assn) :
    CtD Tryz.prog 38 (capP b2 b3 b4) .returning L (fun e u L' => e = .returned (.tuple #[]) ∧ u = .returning ∧ L' = L) := by
  refine CtD.returning Tryz.func38 rfl Tryz.ntmps38 rfl rfl rfl ?_
  refine pur ?_
  refine S.isNil rfl rfl rfl rfl ?_
  refine pur ?_
  exact RetN 0 rfl rfl
/-- The contract's end: a tree, a place, an error. -/
@[reducible] def RPrs (r : List Nd × Int × Int) (L : List Assn) : Ending → List Assn → Prop :=
  ret fun v L' => ∃ q : Option Addr × Nat, v = .tuple #[.agg #[.slice q.1 r.1.length q.2], .int .i64 r.2.1, .int .i64 r.2.2] ∧ L' = treeA q r.1 :: L
set_option maxHeartbeats 8000000 in
theorem parse_ct (s : ByteArray) (L : List Assn) (hE : ErrL L) (hl : (bs s).length < 1073741823) : Ct Tryz.prog 22 #[.string s] L (RPrs (parseF (bs s)) L) := by
  generalize hR : parseF (bs s) = R
  unfold parseF at hR
  obtain ⟨htl, _⟩ := tokens_len (bs s)
  have hto := tokens_ok (bs s)
  refine Ct.bodyE Tryz.func22 rfl Tryz.ntmps22 Tryz.results22 rfl ?_
  repeat refine WpE.seq ?_
  refine WpE.np ?_
  refine pur ?_
  refine WpO.alloc rfl rfl (fun _ => Keeps.none) fun b2 => ?_
  refine pur ?_
  refine WpO.alloc rfl rfl (fun _ => Keeps.none) fun b3 => ?_
  refine pur ?_
  refine WpO.alloc rfl rfl (fun _ => Keeps.none) fun b4 => ?_
  refine pur ?_
  repeat refine WpE.seq ?_
  refine WpE.np ?_
  refine pur ?_
  refine WpO.call Tryz.call24 rfl rfl (stokens_ct s _ hE.cons.cons.cons hl) fun v L' ⟨ta, tc, e1, e2⟩ => ⟨Keeps.none, ?_⟩
  subst e1; subst e2
  generalize tokensF (bs s) = T at hR htl hto
  obtain ⟨l, tat, te⟩ := T
  simp only [] at hR htl hto
  refine pur ?_
  repeat refine WpE.seq ?_
  refine WpE.np ?_
  refine pur ?_
  refine WpE.branch rfl (fun h => ?_) (fun h => ?_)
  · have h' : te ≠ 0 := by simpa using h
    rw [if_pos h'] at hR
    subst hR
    repeat refine WpE.seq ?_
    refine WpE.np ?_
    refine Wp.draw rfl [0,1,2,3,4,5] 5 5 [ptA b4 26 [.int .i64 te], ptA b3 3 [.int .i64 tat]] rfl (by decide +kernel) (fun _ s => Sat.take (M := [_, _]) s.tail) ?_
    refine S.build rfl rfl rfl ?_
    refine pur ?_
    refine WpO.store 3 rfl rfl rfl rfl rfl rfl rfl rfl (Keeps.by fun _ s => Sat.take (M := [_, _]) s.tail) ?_
    refine WpO.store 2 rfl rfl rfl rfl rfl rfl rfl rfl (Keeps.by fun _ s => Sat.take (M := [_, _]) s.tail) ?_
    refine pur ?_
    refine WpE.ret ?_
    exact ⟨[.agg #[.slice none 0 0], .int .i64 tat, .int .i64 te], treeA (none, 0) [] :: L, .cons (.agg (vs := [.slice none 0 0]) rfl (by infer_instance) (Ent.pt 3 1 rfl rfl) rfl) (.cons (.one rfl (by infer_instance) (Ent.pt 2 1 rfl rfl)) (.cons (.one rfl (by infer_instance) (Ent.pt 1 1 rfl rfl)) .nil)), fun k hk => treeA_nil _ hk.tail.tail.tail.tail, (none, 0), rfl, rfl⟩
  have h' : ¬ te ≠ 0 := by simpa using h
  have hte : te = 0 := by omega
  subst hte
  rw [if_neg h'] at hR
  refine WpE.skip ?_
  repeat refine WpE.seq ?_
  refine WpE.np ?_
  refine pur ?_
  refine S.makeFuncM rfl .nil (.cons rfl (by infer_instance) (.cons rfl (by infer_instance) (.cons rfl (by infer_instance) .nil))) ?_
  refine WpO.defer rfl Keeps.none ?_
  refine pur ?_
  repeat refine WpE.seq ?_
  refine WpE.np ?_
  refine pur ?_
  refine S.build rfl rfl rfl ?_
  refine WpO.box (vs := [.slice none 0 0, .slice ta l.length tc, .int .i64 0, .int .i64 ((bs s).length : Nat)]) rfl rfl rfl (fun _ => Keeps.none) fun b5 => ?_
  refine pur ?_
  repeat refine WpE.seq ?_
  refine WpE.weaken (L' := pA b5 l (bs s).length ⟨[], 0⟩ :: p3m b2 b3 b4 (.slice none 0 0) tat 0 L) (fun _ _ h => h) (fun k hk => closePA (q := (none, 0)) (tq := (ta, tc)) (ks := []) (st := ⟨[], 0⟩) rfl _ (Sat.cons_mono (fun _ s => Sat.ownNil (Sat.cons_mono (fun _ s => kidsP_nil _ s) s)) hk)) ?_
  refine WpE.region [(2, .v (.pointer (some ⟨b2, 0, none⟩))), (3, .v (.pointer (some ⟨b3, 0, none⟩))), (4, .v (.pointer (some ⟨b4, 0, none⟩)))] (EnvLe.look ⟨rfl, rfl, rfl, trivial⟩) rfl ?_
  refine pur ?_
  refine WpO.callP Tryz.call39 rfl rfl (program_ct b5 l (bs s).length ⟨[], 0⟩ htl (rec_all b5 l (bs s).length htl (l.length * 16 + 10)) (by omega) ⟨Nat.zero_le _, Nat.zero_le _⟩ _) (fun v L' ⟨e, e1, e2, e3⟩ => ?_) fun v L' ⟨a, st1, e1, _, e3⟩ => ⟨Keeps.none, ?_⟩
  · rw [e1] at hR
    subst hR
    subst e2
    refine ⟨nofun, _, _, _, fun L' => L' = p3m b2 b3 b4 (.slice none 0 0) e.1 e.2 L, rfl, Tryz.call38, CtD_weaken (prs_rec b2 b3 b4 _ _ _ e L) e3, ?_⟩
    intro L' e
    subst e
    exact ⟨[.agg #[.slice none 0 0], _, _], treeA (none, 0) [] :: L, .cons (.agg (vs := [.slice none 0 0]) rfl (by infer_instance) (Ent.pt 2 1 rfl rfl) rfl) (.cons (.one rfl (by infer_instance) (Ent.pt 1 1 rfl rfl)) (.cons (.one rfl (by infer_instance) (Ent.pt 0 1 rfl rfl)) .nil)), fun k hk => treeA_nil _ hk.tail.tail.tail, (none, 0), rfl, rfl⟩
  subst e3
  rw [e1] at hR
  simp only [] at hR
  refine pur ?_
  repeat refine WpE.seq ?_
  refine WpE.np ?_
  refine Wp.openPA 0 rfl fun q tq ks hks => ?_
  show Wp _ _ _ _ _ _ (pM b5 l (bs s).length st1 q tq ks (p3m b2 b3 b4 (.slice none 0 0) tat 0 L))
  refine Wp.know (fun k hs => tree_know 1 3 rfl rfl hks hs) fun hT => ?_
  refine pur ?_
  have hsnd : (!decide ((6000 : Int) < ((st1.t.length : Nat) : Int))) = true → st1.t.length ≤ 6000 ∧ st1.t.map Nd.kids = (kssOf st1.t).map (fun l => l.map Int.ofNat) ∧ (∀ (i : Nat) (ks : List Nat), (kssOf st1.t)[i]? = some ks → ∀ j ∈ ks, j < i) ∧ ∀ nd ∈ st1.t, nd.kids.length ≤ st1.t.length := fun h => by
    rw [Bool.not_eq_true'] at h
    have h6 := of_decide_eq_false h
    have h6' : st1.t.length ≤ 6000 := by omega
    obtain ⟨_, _, r, hr⟩ := program_sound hto e1 h6'
    exact ⟨h6', kss_of fun j nd hj => by
      obtain ⟨fs, w1, w2, w3⟩ := runs_kids st1.t 0 [] [r] nofun hr j nd hj
      exact ⟨fs, w1, fun k hk => by have := w2 k hk; omega, by simp only [List.length_nil] at w3; omega⟩⟩
  refine WpO.callqg (v := .int .i64 (depthOf (kssOf st1.t) : Nat)) Tryz.call40 rfl rfl (.cons rfl (by infer_instance) .nil) (fun hg => depth_ct st1.t q.1 q.2 _ hT (kssOf st1.t) (hsnd hg).2.1 (hsnd hg).2.2.1 (by have := (hsnd hg).1; omega) (fun nd hnd => by have := (hsnd hg).2.2.2 nd hnd; have := (hsnd hg).1; omega)) Keeps.none ?_
  refine pur ?_
  refine WpE.branch rfl (fun h => ?_) (fun h => ?_)
  · rw [if_pos (by
      rw [Bool.or_eq_true] at h
      rcases h with h | h
      · left; have := of_decide_eq_true h; omega
      · right; have := of_decide_eq_true h; omega)] at hR
    subst hR
    repeat refine WpE.seq ?_
    refine WpE.np ?_
    refine pur ?_
    refine S.build rfl rfl rfl ?_
    refine WpO.store 6 rfl rfl rfl rfl rfl rfl rfl rfl Keeps.none ?_
    refine WpO.store 5 rfl rfl rfl rfl rfl rfl rfl rfl Keeps.none ?_
    refine WpO.store 4 rfl rfl rfl rfl rfl rfl rfl rfl Keeps.none ?_
    refine pur ?_
    refine WpE.ret ?_
    refine ⟨nofun, _, _, .returning, fun L' => L' = _, rfl, Tryz.call38, prs_ret b2 b3 b4 _, ?_⟩
    intro L' e
    subst e
    exact ⟨[.agg #[.slice none 0 0], .int .i64 0, .int .i64 11], treeA (none, 0) [] :: L, .cons (.agg (vs := [.slice none 0 0]) rfl (by infer_instance) (Ent.pt 6 1 rfl rfl) rfl) (.cons (.one rfl (by infer_instance) (Ent.pt 5 1 rfl rfl)) (.cons (.one rfl (by infer_instance) (Ent.pt 4 1 rfl rfl)) .nil)), fun k hk => treeA_nil _ hk.tail.tail.tail.tail.tail.tail.tail, (none, 0), rfl, rfl⟩
  · rw [if_neg (by
      rw [Bool.or_eq_false_iff] at h
      have h1 := of_decide_eq_false h.1
      have h2 := of_decide_eq_false h.2
      omega)] at hR
    subst hR
    refine WpE.skip ?_
    repeat refine WpE.seq ?_
    refine WpE.np ?_
    refine pur ?_
    refine S.loadN (vs := [.slice q.1 st1.t.length q.2]) rfl rfl (Ent.pt 0 1 rfl rfl) rfl ?_
    refine WpO.store 6 rfl rfl rfl rfl rfl rfl rfl rfl Keeps.none ?_
    refine WpO.store 5 rfl rfl rfl rfl rfl rfl rfl rfl Keeps.none ?_
    refine WpO.store 4 rfl rfl rfl rfl rfl rfl rfl rfl Keeps.none ?_
    refine pur ?_
    refine WpE.ret ?_
    refine ⟨nofun, _, _, .returning, fun L' => L' = _, rfl, Tryz.call38, prs_ret b2 b3 b4 _, ?_⟩
    intro L' e
    subst e
    exact ⟨[.agg #[.slice q.1 st1.t.length q.2], .int .i64 0, .int .i64 0], treeA q st1.t :: L, .cons (.agg (vs := [.slice q.1 st1.t.length q.2]) rfl (by infer_instance) (Ent.pt 6 1 rfl rfl) rfl) (.cons (.one rfl (by infer_instance) (Ent.pt 5 1 rfl rfl)) (.cons (.one rfl (by infer_instance) (Ent.pt 4 1 rfl rfl)) .nil)), fun k hk => Sat.closeP (M := [_, _]) ⟨ks, hks, rfl⟩ (Sat.cons_mono (fun _ s => Sat.cons_mono (fun _ s => s.tail.tail.tail) s.tail) hk.tail), q, rfl, rfl⟩
end Go.Proofs.YtikgokpbhldlnaaGreatDoor
end

section
/- The statements of chapter 08: a fixed call; depth. -/
namespace Go.Proofs.YtikgokpbhldlnaaGreatDoor
open Go Go.Ab
attribute [local irreducible] Wp WpO WpE Qt OpT Ct Ent

/-- The tree of f = 1. -/
def fOne : List Nd := [⟨3, ⟨#[]⟩, 1, []⟩, ⟨17, ⟨#[]⟩, 0, [0]⟩, ⟨18, ⟨#[]⟩, 0, []⟩, ⟨15, ⟨#[]⟩, 0, [1, 2]⟩, ⟨19, ⟨#[102]⟩, 0, [3]⟩, ⟨20, ⟨#[]⟩, 0, [4]⟩]
theorem parse_one : parseF [102, 32, 61, 32, 49] = (fOne, 0, 0) := by kernel_rfl
set_option maxHeartbeats 2000000 in
theorem wakes8_ct (L : List Assn) (hE : ErrL L) : Ct Tryz.prog 21 #[] L (ret fun v L' => v = .bool true ∧ L' = L) := by
  refine Ct.body Tryz.func21 rfl Tryz.ntmps21 Tryz.results21 rfl ?_
  refine pur ?_
  have hp := parse_ct ⟨#[102, 32, 61, 32, 49]⟩ L hE (by decide)
  rw [show parseF (bs ⟨#[102, 32, 61, 32, 49]⟩) = (fOne, 0, 0) from parse_one] at hp
  refine WpO.call Tryz.call22 rfl rfl hp fun v L' ⟨q, e1, e2⟩ => ⟨Keeps.none, ?_⟩
  subst e1; subst e2
  refine WpO.openP 0 rfl fun M ⟨ks, hks, hM⟩ => ?_
  subst hM
  show WpO _ _ _ _ _ _ _ _ (ownA 36 4 q.1 q.2 (ndRows fOne ks) :: kidsP fOne ks :: L)
  refine WpO.know (fun k hs => tree_know (q := q) (t := fOne) (ks := ks) 0 1 rfl rfl hks hs) fun hT => ?_
  obtain ⟨b0, o0, ka, kc, e0, h0, _⟩ := hT.at (i := 0) rfl
  obtain ⟨b5, o5, ka5, kc5, e5, h5, _⟩ := hT.at (i := 5) rfl
  obtain ⟨qa, qc⟩ := q
  simp only [] at e0 e5
  subst e0
  simp only [Option.some.injEq, Addr.mk.injEq, and_true] at e5
  obtain ⟨rfl, rfl⟩ := e5
  refine pur ?_
  refine WpO.alloc rfl rfl (fun _ => Keeps.none) fun b1 => ?_
  have h0' := Ent.sub (j := 0) 1 h0 rfl
  have h0n := Ent.sub (j := 2) 1 h0 rfl
  have h5' := Ent.sub (j := 0) 1 h5 rfl
  refine pur ?_
  refine G.idx 0 rfl rfl rfl (by infer_instance) rfl (by infer_instance) (fun _ => ⟨rfl, by decide⟩) ?_
  refine pur ?_
  refine G.idx 0 rfl rfl rfl (by infer_instance) rfl (by infer_instance) (fun _ => ⟨rfl, by decide⟩) ?_
  refine pur ?_
  refine G.idx 5 rfl rfl rfl (by infer_instance) rfl (by infer_instance) (fun _ => ⟨rfl, by decide⟩) ?_
  refine pur ?_
  exact Wp.ret (Ret 3 rfl ⟨rfl, rfl⟩)
/-- A sound tree's parts. -/
theorem check_kids {t : List Nd} (h : checkF goodF t = 0) : t.map Nd.kids = (kssOf t).map (fun l => l.map Int.ofNat) ∧ (∀ (i : Nat) (ks : List Nat), (kssOf t)[i]? = some ks → ∀ j ∈ ks, j < i) ∧ (∀ nd ∈ t, nd.kids.length ≤ t.length) ∧ t.length ≤ 6000 := by
  unfold checkF at h
  split at h
  · rename_i hc
    split at h
    · rename_i out hr
      obtain ⟨k1, k2, k3⟩ := kss_of (t := t) fun j nd hj => by
        obtain ⟨fs, w1, w2, w3⟩ := runs_kids t 0 [] out nofun hr j nd hj
        exact ⟨fs, w1, fun k hk => by have := w2 k hk; omega, by simp only [List.length_nil] at w3; omega⟩
      exact ⟨k1, k2, k3, hc.2.1⟩
    · cases h
  · cases h
def depthF (t : List Nd) : Int × Int := if checkF goodF t = 0 then (depthOf (kssOf t), 0) else (0, 7)
theorem pdepth_ct (t : List Nd) (a : Option Addr) (c : Nat) (L : List Assn) (hT : TreeR L a c t) (hs : Small t) : Ct Tryz.prog 25 #[.agg #[.slice a t.length c]] L (ret fun v L' => v = .tuple #[.int .i64 (depthF t).1, .int .i64 (depthF t).2] ∧ L' = L) := by
  refine Ct.body Tryz.func25 rfl Tryz.ntmps25 Tryz.results25 rfl ?_
  refine pur ?_
  refine WpO.box (vs := [.slice a t.length c]) rfl rfl rfl (fun _ => Keeps.none) fun b1 => ?_
  refine pur ?_
  refine S.loadN (vs := [.slice a t.length c]) rfl rfl (Ent.pt 0 1 rfl rfl) rfl ?_
  refine WpO.callq Tryz.call23 rfl rfl (check_ct t a c _ hT.cons hs) Keeps.none ?_
  refine pur ?_
  refine Wp.branch rfl (fun h => ?_) (fun h => ?_)
  · have hc : ¬ checkF goodF t = 0 := by simpa using h
    have hc7 : checkF goodF t = 7 := (checkF_vals goodF t).resolve_left hc
    refine pur ?_
    refine Wp.ret (Ret 1 rfl ⟨?_, rfl⟩)
    unfold depthF
    rw [if_neg hc, hc7]
  · have hc : checkF goodF t = 0 := by simpa using h
    obtain ⟨k1, k2, k3, k4⟩ := check_kids hc
    refine pur ?_
    refine WpO.callq Tryz.call40 rfl rfl (depth_ct t a c _ hT.cons (kssOf t) k1 k2 (by omega) (fun nd hnd => by have := k3 nd hnd; omega)) Keeps.none ?_
    refine pur ?_
    refine Wp.ret (Ret 1 rfl ⟨?_, rfl⟩)
    unfold depthF
    rw [if_pos hc]
theorem rdepth_ct (t : List Nd) (a : Option Addr) (c : Nat) (L : List Assn) (hT : TreeR L a c t) (hs : Small t) : Ct Tryz.prog 26 #[.agg #[.slice a t.length c]] L (ret fun v L' => v = .tuple #[.int .i64 (depthF t).1, .int .i64 (depthF t).2] ∧ L' = L) := by
  refine Ct.body Tryz.func26 rfl Tryz.ntmps26 Tryz.results26 rfl ?_
  refine pur ?_
  refine WpO.box (vs := [.slice a t.length c]) rfl rfl rfl (fun _ => Keeps.none) fun b1 => ?_
  refine pur ?_
  refine S.loadN (vs := [.slice a t.length c]) rfl rfl (Ent.pt 0 1 rfl rfl) rfl ?_
  refine WpO.callq Tryz.call36 rfl rfl (rcheck_ct t a c _ hT.cons hs) Keeps.none ?_
  rw [← checkF_eq]
  refine pur ?_
  refine Wp.branch rfl (fun h => ?_) (fun h => ?_)
  · have hc : ¬ checkF goodF t = 0 := by simpa using h
    refine pur ?_
    refine Wp.ret (Ret 1 rfl ⟨?_, rfl⟩)
    unfold depthF
    rw [if_neg hc]
  · have hc : checkF goodF t = 0 := by simpa using h
    obtain ⟨k1, k2, k3, k4⟩ := check_kids hc
    refine pur ?_
    refine WpO.callq Tryz.call49 rfl rfl (deep_ct t a c _ hT.cons (kssOf t) k1 k2 (by omega) (fun nd hnd => by have := k3 nd hnd; omega)) Keeps.none ?_
    refine pur ?_
    refine Wp.ret (Ret 1 rfl ⟨?_, rfl⟩)
    unfold depthF
    rw [if_pos hc]
theorem parseChecks_ct (t : List Nd) (hs : Small t) (a : Option Addr) (c : Nat) (L : List Assn) (hT : TreeR L a c t) (hE : ErrL L) : Ct Tryz.prog 7 #[.agg #[.slice a t.length c]] L (ret fun v L' => v = .bool true ∧ L' = L) := by
  refine Ct.body Tryz.func7 rfl Tryz.ntmps7 Tryz.results7 rfl ?_
  refine pur ?_
  refine WpO.box (vs := [.slice a t.length c]) rfl rfl rfl (fun _ => Keeps.none) fun b1 => ?_
  refine pur ?_
  refine WpO.callq Tryz.call21 rfl rfl (wakes8_ct _ hE.cons) Keeps.none ?_
  refine pur ?_
  refine S.loadN (vs := [.slice a t.length c]) rfl rfl (Ent.pt 0 1 rfl rfl) rfl ?_
  refine WpO.callq Tryz.call23 rfl rfl (check_ct t a c _ hT.cons hs) Keeps.none ?_
  refine pur ?_
  refine S.loadN (vs := [.slice a t.length c]) rfl rfl (Ent.pt 0 1 rfl rfl) rfl ?_
  refine WpO.callq Tryz.call25 rfl rfl (pdepth_ct t a c _ hT.cons hs) Keeps.none ?_
  refine pur ?_
  refine S.loadN (vs := [.slice a t.length c]) rfl rfl (Ent.pt 0 1 rfl rfl) rfl ?_
  refine WpO.callq Tryz.call26 rfl rfl (rdepth_ct t a c _ hT.cons hs) Keeps.none ?_
  have h1 : checkF goodF t = (depthF t).2 := by
    unfold depthF
    split
    · rename_i h; exact h
    · rename_i h; exact (checkF_vals goodF t).resolve_left h
  rw [h1]
  refine pur ?_
  refine Wp.ret (Ret 1 rfl ⟨?_, rfl⟩)
  have h2 : (depthF t).2 = 0 ∨ (depthF t).2 = 7 := by rw [← h1]; exact checkF_vals goodF t
  rw [decide_eq_true rfl, decide_eq_true rfl]
  rcases h2 with h2 | h2 <;> rw [h2] <;> rfl
end Go.Proofs.YtikgokpbhldlnaaGreatDoor
end
