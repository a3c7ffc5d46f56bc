/- Parts of a proof: Dn Na. -/
import Derived.Test.YtikgokpbhldlnaaGreatDoorYQe
import Derived.Test.YtikgokpbhldlnaaGreatDoorYQf
import Derived.Test.YtikgokpbhldlnaaGreatDoorYQc
set_option linter.unusedVariables false
set_option linter.unusedSimpArgs false
set_option linter.unusedSectionVars false
section
/- parse.Parse. -/
namespace Go.Proofs.YtikgokpbhldlnaaGreatDoor
open Go Go.Ab
attribute [local irreducible] Wp WpO WpE Qt OpT Ct Ent
/-- A tree that has its memory for itself. -/
def treeA (q : Option Addr × Nat) (t : List Nd) : Assn := pkgA fun M => ∃ ks, ks.length = t.length ∧ M = [ownA 36 4 q.1 q.2 (ndRows t ks), kidsP t ks]
theorem treeA_nil {L : List Assn} : LeL L (treeA (none, 0) [] :: L) := fun _ s => Sat.closeP (M := [ownA 36 4 none 0 (ndRows [] []), kidsP [] []]) ⟨[], rfl, rfl⟩ (Sat.ownNil (kidsP_nil _ s))
/-- What is read of a tree of one's own. -/
theorem tree_know {L : List Assn} {q : Option Addr × Nat} {t : List Nd} {ks : List (Option Addr × Nat)} {k : Hp} (i j : Nat) (hi : L[i]? = some (ownA 36 4 q.1 q.2 (ndRows t ks))) (hj : L[j]? = some (kidsP t ks)) (hk : ks.length = t.length) (hs : Sat k L) : TreeR L q.1 q.2 t := by
  refine ⟨ks, hk, Sl.own i hi (own_know i hi hs), fun n nd key e1 e2 => ?_⟩
  have hL : ∀ k', Sat k' L → Sat k' (kidsA t ks ++ L.eraseIdx j) := fun k' s => by
    obtain ⟨M, hM, hs⟩ := Sat.openP (Sat.pull hj s)
    subst hM; exact hs
  have hn := (List.getElem?_eq_some_iff.1 e1).1
  have hz : (t.zip ks)[n]? = some (nd, key) := by rw [List.getElem?_zip_eq_some]; exact ⟨e1, e2⟩
  have hzl : (t.zip ks).length = t.length := by rw [List.length_zip]; omega
  have hidx : (kidsA t ks ++ L.eraseIdx j)[t.length - 1 - n]? = some (ownA 3 1 key.1 key.2 (ints nd.kids)) := by
    rw [List.getElem?_append_left (by unfold kidsA; simp; omega)]
    unfold kidsA
    rw [List.getElem?_map, List.getElem?_reverse (by omega), hzl, show t.length - 1 - (t.length - 1 - n) = n from by omega, hz]; rfl
  exact (Sl.own _ hidx (own_know _ hidx (hL k hs))).wk hL
/-- What Parse answers: a tree, a place, an error. -/
def parseF (s : List UInt8) : List Nd × Int × Int :=
  if (tokensF s).2.2 ≠ 0 then ([], (tokensF s).2.1, (tokensF s).2.2) else
  match programF (tokensF s).1 s.length (parseN (tokensF s).1 s.length ((tokensF s).1.length * 16 + 10)) ⟨[], 0⟩ with
  | .error e => ([], e.1, e.2)
  | .ok (_, st) => if 6000 < st.t.length ∨ 300 < depthOf (kssOf st.t) then ([], 0, 11) else (st.t, 0, 0)
/-- The three results of Parse lie in memory. -/
@[reducible] def p3m (b2 b3 b4 : Nat) (v : Value) (p e : Int) (L : List Assn) : List Assn :=
  ptA b4 26 [.int .i64 e] :: ptA b3 3 [.int .i64 p] :: ptA b2 24 [v] :: L
@[reducible] def capP (b2 b3 b4 : Nat) : Array Value := #[.pointer (some ⟨b2, 0, none⟩), .pointer (some ⟨b3, 0, none⟩), .pointer (some ⟨b4, 0, none⟩)]
theorem CtD_weaken {P : Program} {f : FuncId} {args : Array Value} {u : FrameMode} {L L' : List Assn} {R : Ending → FrameMode → List Assn → Prop} (h : CtD P f args u L' R) (hL : LeL L L') : CtD P f args u L R := fun w hw => h w (hL _ hw)
set_option maxHeartbeats 1000000 in
theorem prs_rec (b2 b3 b4 : Nat) (v : Value) (p0 e0 : Int) (e : Er) (L : List Assn) :
    CtD Tryz.prog 38 (capP b2 b3 b4) (.panicking [{ v := faultV e, recovered := false }]) (p3m b2 b3 b4 v p0 e0 L)
      (fun en u L' => en = .returned (.tuple #[]) ∧ u = .panicking [{ v := faultV e, recovered := true }] ∧ L' = p3m b2 b3 b4 (.slice none 0 0) e.1 e.2 L) := by
  refine CtD.panicking Tryz.func38 rfl Tryz.ntmps38 rfl rfl rfl ?_
  refine pur ?_
  refine S.isNil rfl rfl rfl rfl ?_
  refine pur ?_
  refine S.assert rfl rfl ?_
  refine pur ?_
  refine WpO.alloc rfl rfl (fun _ => Keeps.none) fun bf => ?_
  refine pur ?_
  refine Wp.draw rfl [0,1,2,3,4,5,6,7] 7 7 [ptA bf 69 [.int .i64 e.1, .int .i64 e.2]] rfl (by decide +kernel) (fun _ s => Sat.take (M := [_]) s) ?_
  refine pur ?_
  refine S.build rfl rfl rfl ?_
  refine pur ?_
  refine WpO.store 3 rfl rfl rfl rfl rfl rfl rfl rfl (Keeps.by fun _ s => Sat.take (M := [_]) s) ?_
  refine WpO.store 2 rfl rfl rfl rfl rfl rfl rfl rfl (Keeps.by fun _ s => Sat.take (M := [_]) s) ?_
  refine pur ?_
  exact RetN 1 rfl rfl
theorem prs_ret (b2 b3 b4 : Nat) (L : List Assn) :
    CtD Tryz.prog 38 (capP b2 b3 b4) .returning L (fun e u L' => e = .returned (.tuple #[]) ∧ u = .returning ∧ L' = L) := by
  refine CtD.returning Tryz.func38 rfl Tryz.ntmps38 rfl rfl rfl ?_
  refine pur ?_
  refine S.isNil rfl rfl rfl rfl ?_
  refine pur ?_
  exact RetN 0 rfl rfl
/-- The contract's end: a tree, a place, an error. -/
@[reducible] def RPrs (r : List Nd × Int × Int) (L : List Assn) : Ending → List Assn → Prop :=
  ret fun v L' => ∃ q : Option Addr × Nat, v = .tuple #[.agg #[.slice q.1 r.1.length q.2], .int .i64 r.2.1, .int .i64 r.2.2] ∧ L' = treeA q r.1 :: L
set_option maxHeartbeats 8000000 in
theorem parse_ct (s : ByteArray) (L : List Assn) (hE : ErrL L) (hl : (bs s).length < 1073741823) : Ct Tryz.prog 22 #[.string s] L (RPrs (parseF (bs s)) L) := by
  generalize hR : parseF (bs s) = R
  unfold parseF at hR
  obtain ⟨htl, _⟩ := tokens_len (bs s)
  have hto := tokens_ok (bs s)
  refine Ct.bodyE Tryz.func22 rfl Tryz.ntmps22 Tryz.results22 rfl ?_
  repeat refine WpE.seq ?_
  refine WpE.np ?_
  refine pur ?_
  refine WpO.alloc rfl rfl (fun _ => Keeps.none) fun b2 => ?_
  refine pur ?_
  refine WpO.alloc rfl rfl (fun _ => Keeps.none) fun b3 => ?_
  refine pur ?_
  refine WpO.alloc rfl rfl (fun _ => Keeps.none) fun b4 => ?_
  refine pur ?_
  repeat refine WpE.seq ?_
  refine WpE.np ?_
  refine pur ?_
  refine WpO.call Tryz.call24 rfl rfl (stokens_ct s _ hE.cons.cons.cons hl) fun v L' ⟨ta, tc, e1, e2⟩ => ⟨Keeps.none, ?_⟩
  subst e1; subst e2
  generalize tokensF (bs s) = T at hR htl hto
  obtain ⟨l, tat, te⟩ := T
  simp only [] at hR htl hto
  refine pur ?_
  repeat refine WpE.seq ?_
  refine WpE.np ?_
  refine pur ?_
  refine WpE.branch rfl (fun h => ?_) (fun h => ?_)
  · have h' : te ≠ 0 := by simpa using h
    rw [if_pos h'] at hR
    subst hR
    repeat refine WpE.seq ?_
    refine WpE.np ?_
    refine Wp.draw rfl [0,1,2,3,4,5] 5 5 [ptA b4 26 [.int .i64 te], ptA b3 3 [.int .i64 tat]] rfl (by decide +kernel) (fun _ s => Sat.take (M := [_, _]) s.tail) ?_
    refine S.build rfl rfl rfl ?_
    refine pur ?_
    refine WpO.store 3 rfl rfl rfl rfl rfl rfl rfl rfl (Keeps.by fun _ s => Sat.take (M := [_, _]) s.tail) ?_
    refine WpO.store 2 rfl rfl rfl rfl rfl rfl rfl rfl (Keeps.by fun _ s => Sat.take (M := [_, _]) s.tail) ?_
    refine pur ?_
    refine WpE.ret ?_
    exact ⟨[.agg #[.slice none 0 0], .int .i64 tat, .int .i64 te], treeA (none, 0) [] :: L, .cons (.agg (vs := [.slice none 0 0]) rfl (by infer_instance) (Ent.pt 3 1 rfl rfl) rfl) (.cons (.one rfl (by infer_instance) (Ent.pt 2 1 rfl rfl)) (.cons (.one rfl (by infer_instance) (Ent.pt 1 1 rfl rfl)) .nil)), fun k hk => treeA_nil _ hk.tail.tail.tail.tail, (none, 0), rfl, rfl⟩
  have h' : ¬ te ≠ 0 := by simpa using h
  have hte : te = 0 := by omega
  subst hte
  rw [if_neg h'] at hR
  refine WpE.skip ?_
  repeat refine WpE.seq ?_
  refine WpE.np ?_
  refine pur ?_
  refine S.makeFuncM rfl .nil (.cons rfl (by infer_instance) (.cons rfl (by infer_instance) (.cons rfl (by infer_instance) .nil))) ?_
  refine WpO.defer rfl Keeps.none ?_
  refine pur ?_
  repeat refine WpE.seq ?_
  refine WpE.np ?_
  refine pur ?_
  refine S.build rfl rfl rfl ?_
  refine WpO.box (vs := [.slice none 0 0, .slice ta l.length tc, .int .i64 0, .int .i64 ((bs s).length : Nat)]) rfl rfl rfl (fun _ => Keeps.none) fun b5 => ?_
  refine pur ?_
  repeat refine WpE.seq ?_
  refine WpE.weaken (L' := pA b5 l (bs s).length ⟨[], 0⟩ :: p3m b2 b3 b4 (.slice none 0 0) tat 0 L) (fun _ _ h => h) (fun k hk => closePA (q := (none, 0)) (tq := (ta, tc)) (ks := []) (st := ⟨[], 0⟩) rfl _ (Sat.cons_mono (fun _ s => Sat.ownNil (Sat.cons_mono (fun _ s => kidsP_nil _ s) s)) hk)) ?_
  refine WpE.region [(2, .v (.pointer (some ⟨b2, 0, none⟩))), (3, .v (.pointer (some ⟨b3, 0, none⟩))), (4, .v (.pointer (some ⟨b4, 0, none⟩)))] (EnvLe.look ⟨rfl, rfl, rfl, trivial⟩) rfl ?_
  refine pur ?_
  refine WpO.callP Tryz.call39 rfl rfl (program_ct b5 l (bs s).length ⟨[], 0⟩ htl (rec_all b5 l (bs s).length htl (l.length * 16 + 10)) (by omega) ⟨Nat.zero_le _, Nat.zero_le _⟩ _) (fun v L' ⟨e, e1, e2, e3⟩ => ?_) fun v L' ⟨a, st1, e1, _, e3⟩ => ⟨Keeps.none, ?_⟩
  · rw [e1] at hR
    subst hR
    subst e2
    refine ⟨nofun, _, _, _, fun L' => L' = p3m b2 b3 b4 (.slice none 0 0) e.1 e.2 L, rfl, Tryz.call38, CtD_weaken (prs_rec b2 b3 b4 _ _ _ e L) e3, ?_⟩
    intro L' e
    subst e
    exact ⟨[.agg #[.slice none 0 0], _, _], treeA (none, 0) [] :: L, .cons (.agg (vs := [.slice none 0 0]) rfl (by infer_instance) (Ent.pt 2 1 rfl rfl) rfl) (.cons (.one rfl (by infer_instance) (Ent.pt 1 1 rfl rfl)) (.cons (.one rfl (by infer_instance) (Ent.pt 0 1 rfl rfl)) .nil)), fun k hk => treeA_nil _ hk.tail.tail.tail, (none, 0), rfl, rfl⟩
  subst e3
  rw [e1] at hR
  simp only [] at hR
  refine pur ?_
  repeat refine WpE.seq ?_
  refine WpE.np ?_
  refine Wp.openPA 0 rfl fun q tq ks hks => ?_
  show Wp _ _ _ _ _ _ (pM b5 l (bs s).length st1 q tq ks (p3m b2 b3 b4 (.slice none 0 0) tat 0 L))
  refine Wp.know (fun k hs => tree_know 1 3 rfl rfl hks hs) fun hT => ?_
  refine pur ?_
  have hsnd : (!decide ((6000 : Int) < ((st1.t.length : Nat) : Int))) = true → st1.t.length ≤ 6000 ∧ st1.t.map Nd.kids = (kssOf st1.t).map (fun l => l.map Int.ofNat) ∧ (∀ (i : Nat) (ks : List Nat), (kssOf st1.t)[i]? = some ks → ∀ j ∈ ks, j < i) ∧ ∀ nd ∈ st1.t, nd.kids.length ≤ st1.t.length := fun h => by
    rw [Bool.not_eq_true'] at h
    have h6 := of_decide_eq_false h
    have h6' : st1.t.length ≤ 6000 := by omega
    obtain ⟨_, _, r, hr⟩ := program_sound hto e1 h6'
    exact ⟨h6', kss_of fun j nd hj => by
      obtain ⟨fs, w1, w2, w3⟩ := runs_kids st1.t 0 [] [r] nofun hr j nd hj
      exact ⟨fs, w1, fun k hk => by have := w2 k hk; omega, by simp only [List.length_nil] at w3; omega⟩⟩
  refine WpO.callqg (v := .int .i64 (depthOf (kssOf st1.t) : Nat)) Tryz.call40 rfl rfl (.cons rfl (by infer_instance) .nil) (fun hg => depth_ct st1.t q.1 q.2 _ hT (kssOf st1.t) (hsnd hg).2.1 (hsnd hg).2.2.1 (by have := (hsnd hg).1; omega) (fun nd hnd => by have := (hsnd hg).2.2.2 nd hnd; have := (hsnd hg).1; omega)) Keeps.none ?_
  refine pur ?_
  refine WpE.branch rfl (fun h => ?_) (fun h => ?_)
  · rw [if_pos (by
      rw [Bool.or_eq_true] at h
      rcases h with h | h
      · left; have := of_decide_eq_true h; omega
      · right; have := of_decide_eq_true h; omega)] at hR
    subst hR
    repeat refine WpE.seq ?_
    refine WpE.np ?_
    refine pur ?_
    refine S.build rfl rfl rfl ?_
    refine WpO.store 6 rfl rfl rfl rfl rfl rfl rfl rfl Keeps.none ?_
    refine WpO.store 5 rfl rfl rfl rfl rfl rfl rfl rfl Keeps.none ?_
    refine WpO.store 4 rfl rfl rfl rfl rfl rfl rfl rfl Keeps.none ?_
    refine pur ?_
    refine WpE.ret ?_
    refine ⟨nofun, _, _, .returning, fun L' => L' = _, rfl, Tryz.call38, prs_ret b2 b3 b4 _, ?_⟩
    intro L' e
    subst e
    exact ⟨[.agg #[.slice none 0 0], .int .i64 0, .int .i64 11], treeA (none, 0) [] :: L, .cons (.agg (vs := [.slice none 0 0]) rfl (by infer_instance) (Ent.pt 6 1 rfl rfl) rfl) (.cons (.one rfl (by infer_instance) (Ent.pt 5 1 rfl rfl)) (.cons (.one rfl (by infer_instance) (Ent.pt 4 1 rfl rfl)) .nil)), fun k hk => treeA_nil _ hk.tail.tail.tail.tail.tail.tail.tail, (none, 0), rfl, rfl⟩
  · rw [if_neg (by
      rw [Bool.or_eq_false_iff] at h
      have h1 := of_decide_eq_false h.1
      have h2 := of_decide_eq_false h.2
      omega)] at hR
    subst hR
    refine WpE.skip ?_
    repeat refine WpE.seq ?_
    refine WpE.np ?_
    refine pur ?_
    refine S.loadN (vs := [.slice q.1 st1.t.length q.2]) rfl rfl (Ent.pt 0 1 rfl rfl) rfl ?_
    refine WpO.store 6 rfl rfl rfl rfl rfl rfl rfl rfl Keeps.none ?_
    refine WpO.store 5 rfl rfl rfl rfl rfl rfl rfl rfl Keeps.none ?_
    refine WpO.store 4 rfl rfl rfl rfl rfl rfl rfl rfl Keeps.none ?_
    refine pur ?_
    refine WpE.ret ?_
    refine ⟨nofun, _, _, .returning, fun L' => L' = _, rfl, Tryz.call38, prs_ret b2 b3 b4 _, ?_⟩
    intro L' e
    subst e
    exact ⟨[.agg #[.slice q.1 st1.t.length q.2], .int .i64 0, .int .i64 0], treeA q st1.t :: L, .cons (.agg (vs := [.slice q.1 st1.t.length q.2]) rfl (by infer_instance) (Ent.pt 6 1 rfl rfl) rfl) (.cons (.one rfl (by infer_instance) (Ent.pt 5 1 rfl rfl)) (.cons (.one rfl (by infer_instance) (Ent.pt 4 1 rfl rfl)) .nil)), fun k hk => Sat.closeP (M := [_, _]) ⟨ks, hks, rfl⟩ (Sat.cons_mono (fun _ s => Sat.cons_mono (fun _ s => s.tail.tail.tail) s.tail) hk.tail), q, rfl, rfl⟩
end Go.Proofs.YtikgokpbhldlnaaGreatDoor
end
section
/- The statements of chapter 08: a fixed call; depth. -/
namespace Go.Proofs.YtikgokpbhldlnaaGreatDoor
open Go Go.Ab
attribute [local irreducible] Wp WpO WpE Qt OpT Ct Ent
end Go.Proofs.YtikgokpbhldlnaaGreatDoor
end
