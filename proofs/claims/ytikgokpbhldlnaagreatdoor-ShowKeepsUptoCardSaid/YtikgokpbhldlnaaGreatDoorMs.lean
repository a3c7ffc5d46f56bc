/- Parts of a proof: Sy Sz Sza Szb Szc. -/
import Derived.Test.YtikgokpbhldlnaaGreatDoorMn
set_option linter.unusedVariables false
set_option linter.unusedSimpArgs false
set_option linter.unusedSectionVars false
section
/- Lists of numbers that are kept: loiterref01's SameInts, Roomy, Kept. -/
namespace Go.Proofs.YtikgokpbhldlnaaGreatDoor
open Go Go.Ab
attribute [local irreducible] Wp WpO Qt OpT Ct Ent

/-- Two parts as one. -/
def bothA (A B : Assn) : Assn := fun h => Sat h [A, B]
theorem Sat.both {A B : Assn} {L : List Assn} {k : Hp} (h : Sat k (A :: B :: L)) : Sat k (bothA A B :: L) := by
  obtain ⟨h1, l1, a1, h2, l2, a2, s⟩ := h
  have hd : ∀ b o, h2 b = some o → h1 b = none ∧ k b = some o := fun b o e => by
    have e : (if (h1 b).isSome then none else k b) = some o := l2 b o e
    split at e
    · cases e
    · rename_i hn; exact ⟨by simpa using hn, e⟩
  have hle : Hp.le (Hp.diff (Hp.diff k h1) h2) (Hp.diff k ⟨fun x => if (h1 x).isSome then h1 x else h2 x, h1.met⟩) := ⟨fun b o e => by
    have e : (if (h2 b).isSome then none else if (h1 b).isSome then none else k b) = some o := e
    show (if (if (h1 b).isSome then h1 b else h2 b).isSome then none else k b) = some o
    split at e
    · cases e
    · rename_i hn
      split at e
      · cases e
      · rename_i hm
        rw [if_neg hm, if_neg hn]; exact e, rfl⟩
  refine ⟨⟨fun x => if (h1 x).isSome then h1 x else h2 x, h1.met⟩, ⟨fun b o e => ?_, l1.m⟩, ⟨h1, ⟨fun b o e => ?_, rfl⟩, a1, h2, ⟨fun b o e => ?_, l2.m.trans l1.m.symm⟩, a2, trivial⟩, Sat.mono hle s⟩
  · have e : (if (h1 b).isSome then h1 b else h2 b) = some o := e
    split at e
    · exact l1 b o e
    · exact (hd b o e).2
  · show (if (h1 b).isSome then h1 b else h2 b) = some o
    rw [if_pos (by rw [e]; rfl)]; exact e
  · show (if (h1 b).isSome then none else if (h1 b).isSome then h1 b else h2 b) = some o
    have := (hd b o e).1
    rw [this]; simpa using e
theorem LeL.both {A B : Assn} {L : List Assn} : LeL (A :: B :: L) (bothA A B :: L) := fun _ s => Sat.both s
theorem both_fst {A B : Assn} {L : List Assn} : LeL (bothA A B :: L) [A] := fun _ s => by
  obtain ⟨h1, l1, ⟨h2, l2, a2, _⟩, _⟩ := s
  exact ⟨h2, Hp.le_trans l2 l1, a2, trivial⟩
theorem both_snd {A B : Assn} {L : List Assn} : LeL (bothA A B :: L) [B] := fun _ s => by
  obtain ⟨h1, l1, a, _⟩ := s
  exact Sat.mono l1 (Sat.tail a)
theorem LeL.one {A : Assn} {L : List Assn} : LeL (A :: L) [A] := fun _ ⟨h, l, a, _⟩ => ⟨h, l, a, trivial⟩

theorem sameInts_ct (l l' : List Int) (a a' : Option Addr) (c c' : Nat) (L : List Assn) (hl : Sl L a c 1 (ints l)) (hl' : Sl L a' c' 1 (ints l')) (hn : l.length ≤ 1099511627776) (hn' : l'.length ≤ 1099511627776) :
    Ct Tryz.prog 52 #[.slice a l.length c, .slice a' l'.length c'] L (ret fun v L' => v = .bool (decide (l = l')) ∧ L' = L) := by
  refine Ct.body Tryz.func52 rfl Tryz.ntmps52 Tryz.results52 rfl ?_
  refine pur ?_
  refine Wp.branch rfl (fun h => ?_) (fun h => ?_)
  · have hne : l.length ≠ l'.length := fun e => by simp [e] at h
    refine pur ?_
    refine Wp.ret (Ret 0 rfl ⟨?_, rfl⟩)
    rw [decide_eq_false (fun e => hne (by rw [e]))]
  have he : l.length = l'.length := by simp at h; omega
  refine pur ?_
  refine Wp.loopI (α := Nat) 0 (fun i => [(0, .v (.slice a l.length c)), (1, .v (.slice a' l'.length c')), (5, .v (.int .i64 i))]) (fun _ => L) (fun i => l.length - i) (fun i => i ≤ l.length ∧ l.take i = l'.take i) ⟨Nat.zero_le _, rfl⟩ ⟨rfl, rfl, rfl, trivial⟩ (LeL.refl _) ?_
  rintro i ⟨h1, h2⟩
  refine pur ?_
  refine Wp.branch rfl (fun h => ?_) (fun h => ?_)
  · have hi : i < l.length := by have := of_decide_eq_true h; omega
    have hi' : i < l'.length := by omega
    obtain ⟨b, o, rfl, hE⟩ := ints_at hl (List.getElem?_eq_getElem hi)
    obtain ⟨b', o', rfl, hE'⟩ := ints_at hl' (List.getElem?_eq_getElem hi')
    refine pur ?_
    refine Wp.draw rfl [0,1,2,3,4,5,6,7,8] 9 9 _ rfl (by decide +kernel) (fun _ h => h) ?_
    refine pur ?_
    refine S.idx i rfl rfl rfl rfl hi ?_
    refine pur ?_
    refine S.idx i rfl rfl rfl rfl hi' ?_
    refine pur ?_
    refine Wp.branch rfl (fun h => ?_) (fun h => ?_)
    · have hx : l[i] ≠ l'[i] := by simpa using h
      refine pur ?_
      refine Wp.ret (Ret 0 rfl ⟨?_, rfl⟩)
      rw [decide_eq_false (fun e => hx (by subst e; rfl))]
    · have hx : l[i] = l'[i] := by simpa using h
      refine pur ?_
      refine Round.mk (i + 1) (by show l.length - (i + 1) < l.length - i; omega) ⟨hi, ?_⟩ ⟨rfl, rfl, inc_e (by omega), trivial⟩ (LeL.refl _)
      rw [List.take_add_one, List.take_add_one, h2, List.getElem?_eq_getElem hi, List.getElem?_eq_getElem hi', hx]
  · have hin : l.length ≤ i := by have := of_decide_eq_false h; omega
    refine pur ?_
    refine Wp.ret (Ret 0 rfl ⟨?_, rfl⟩)
    rw [List.take_of_length_le hin, List.take_of_length_le (by omega)] at h2
    rw [decide_eq_true h2]
/-- The twenty marks. -/
def marks (n : Nat) : List Int := (List.range n).map fun i : Nat => -100 - (i : Int)
theorem marks_succ (n : Nat) : marks (n + 1) = marks n ++ [-100 - (n : Int)] := by simp [marks, List.range_succ]
theorem marks_len (n : Nat) : (marks n).length = n := by simp [marks]
theorem ints_append (l m : List Int) : ints (l ++ m) = ints l ++ ints m := by simp [ints]
theorem roomy1_ct (l : List Int) (a : Option Addr) (c : Nat) (L : List Assn) (hl : Sl L a c 1 (ints l)) (hn : l.length ≤ 1048576) :
    Ct Tryz.prog 33 #[.slice a l.length c] L (ret fun v L' => ∃ b k, v = .slice b (l.length + 20) k ∧ L' = ownA 3 1 b k (ints (l ++ marks 20)) :: L) := by
  refine Ct.body Tryz.func33 rfl Tryz.ntmps33 Tryz.results33 rfl ?_
  refine pur ?_
  rw [wrap_id (by omega) (by omega)]
  refine WpO.make 0 (l.length + 20) rfl rfl rfl rfl (by omega) (Nat.zero_le _) (by omega) rfl rfl rfl rfl (fun _ => Keeps.none) fun b => ?_
  refine pur ?_
  refine WpO.append 0 (ints l) rfl rfl rfl rfl rfl (ints_length l).symm hl.cons rfl ?_ rfl (by simp [ints]; omega) (fun _ _ => Keeps.none) fun a2 k2 => ?_
  · simp [ints, scalar]
  refine pur ?_
  refine Wp.loopI (α := Nat × Option Addr × Nat) (0, a2, k2) (fun x => [(3, .v (.slice x.2.1 (l.length + x.1) x.2.2)), (4, .v (.int .i64 x.1))]) (fun x => ownA 3 1 x.2.1 x.2.2 (ints (l ++ marks x.1)) :: L) (fun x => 20 - x.1) (fun x => x.1 ≤ 20) (Nat.zero_le _) ⟨by simp [ints]; rfl, rfl, trivial⟩ (by simp [marks, LeL.refl]) ?_
  rintro ⟨i, ia, ik⟩ h1
  simp only at h1
  refine pur ?_
  refine Wp.branch rfl (fun h => ?_) (fun h => ?_)
  · have hi : i < 20 := by have := of_decide_eq_true h; omega
    refine pur ?_
    rw [wrap_id (by omega) (by omega)]
    refine WpO.buildSlice rfl rfl rfl rfl rfl rfl rfl (fun _ => Keeps.none) fun b2 => ?_
    refine pur ?_
    refine WpO.appendLit 0 [[.int .i64 (-100 - (i : Int))]] rfl rfl rfl rfl (by simp [ints, marks]) rfl rfl rfl rfl rfl rfl rfl (by simp [ints, marks]; omega) (fun _ _ => Keeps.none) fun a3 k3 => ?_
    refine pur ?_
    refine Round.mk (i + 1, a3, k3) (by simp only []; omega) (by simp only []; omega) ⟨?_, inc_e (by omega), trivial⟩ ?_
    · simp [ints, marks]; rfl
    · show LeL (ownA 3 1 a3 k3 (ints (l ++ marks i) ++ [[.int .i64 (-100 - (i : Int))]]) :: L) (ownA 3 1 a3 k3 (ints (l ++ marks (i + 1))) :: L)
      rw [marks_succ, ← List.append_assoc, ints_append (l ++ marks i)]; exact LeL.refl _
  · have hin : i = 20 := by have := of_decide_eq_false h; omega
    subst hin
    refine pur ?_
    exact Wp.ret (Ret 0 rfl ⟨ia, ik, rfl, rfl⟩)
end Go.Proofs.YtikgokpbhldlnaaGreatDoor
end

section
/- Trees that are kept: loiterref01.Kept, loiterref08's Same, Copy. -/
namespace Go.Proofs.YtikgokpbhldlnaaGreatDoor
open Go Go.Ab
attribute [local irreducible] Wp WpO Qt OpT Ct Ent

theorem marks_at (l : List Int) {i : Nat} (h : i < 20) : (l ++ marks 20)[l.length + i]? = some (-100 - (i : Int)) := by
  rw [List.getElem?_append_right (by omega), show l.length + i - l.length = i from by omega, marks, List.getElem?_map, List.getElem?_range h]; rfl
theorem kept1_ct (l : List Int) (a a' : Option Addr) (c c' : Nat) (L : List Assn) (hf : Sl L a c 1 (ints (l ++ marks 20))) (hl : Sl L a' c' 1 (ints l)) (hn : l.length ≤ 1048576) :
    Ct Tryz.prog 34 #[.slice a ((l.length + 20 : Nat)) c, .slice a' l.length c'] L (ret fun v L' => v = .bool true ∧ L' = L) := by
  have hcap := hf.cap
  rw [ints_length, List.length_append, marks_len] at hcap
  obtain ⟨b, o, rfl, _⟩ := ints_at hf (marks_at l (i := 0) (by decide))
  refine Ct.body Tryz.func34 rfl Tryz.ntmps34 Tryz.results34 rfl ?_
  refine pur ?_
  refine G.sliceL 0 l.length rfl rfl rfl (by infer_instance) Bd.no (Bd.at l.length rfl (by infer_instance) (fun _ => rfl)) (fun _ => ⟨Nat.zero_le _, by omega⟩) ?_
  rw [slA_zero (.inr ⟨b, o, rfl⟩), Nat.sub_zero, Nat.sub_zero]
  refine pur ?_
  have ht : Sl L (some ⟨b, o, none⟩) c 1 (ints l) := by
    have := hf.take l.length
    rwa [ints_append, List.take_left' (ints_length l)] at this
  refine WpO.callqg Tryz.call52 rfl rfl (.cons rfl (by infer_instance) (.cons rfl (by infer_instance) .nil)) (fun _ => sameInts_ct l l _ a' c c' L ht hl (by omega) (by omega)) Keeps.none ?_
  refine pur ?_
  rw [wrap_id (by omega) (by omega)]
  refine Wp.branch rfl (fun h => ?_) (fun h => ?_)
  · simp at h
  clear h
  refine pur ?_
  refine Wp.loopI (α := Nat) 0 (fun i => [(0, .v (.slice (some ⟨b, o, none⟩) (l.length + 20) c)), (1, .v (.slice a' l.length c')), (5, .v (.int .i64 i))]) (fun _ => L) (fun i => 20 - i) (fun i => i ≤ 20) (Nat.zero_le _) ⟨rfl, rfl, rfl, trivial⟩ (LeL.refl _) ?_
  intro i h1
  refine pur ?_
  refine Wp.branch rfl (fun h => ?_) (fun h => ?_)
  · have hi : i < 20 := by have := of_decide_eq_true h; omega
    obtain ⟨b2, o2, e, hE⟩ := ints_at hf (marks_at l hi)
    obtain ⟨rfl, rfl⟩ : b = b2 ∧ o = o2 := by simpa using e
    refine pur ?_
    rw [wrap_id (by omega) (by omega)]
    refine S.idx (l.length + i) rfl rfl rfl (by omega) (by omega) ?_
    refine pur ?_
    rw [wrap_id (by omega) (by omega)]
    refine Wp.branch rfl (fun h => ?_) (fun h => ?_)
    · simp at h
    · refine pur ?_
      exact Round.mk (i + 1) (by show 20 - (i + 1) < 20 - i; omega) hi ⟨rfl, rfl, inc_e (by omega), trivial⟩ (LeL.refl _)
  · refine pur ?_
    exact Wp.ret (Ret 0 rfl ⟨rfl, rfl⟩)

theorem nd_eq {x y : Nd} : x = y ↔ x.op = y.op ∧ x.text = y.text ∧ x.num = y.num ∧ x.kids = y.kids := by
  cases x; cases y; simp
set_option maxHeartbeats 4000000 in
theorem same_tree_ct (t u : List Nd) (a a' : Option Addr) (c c' : Nat) (L : List Assn) (hT : TreeR L a c t) (hU : TreeR L a' c' u) (ht : Small t) (hu : Small u) :
    Ct Tryz.prog 28 #[.agg #[.slice a t.length c], .agg #[.slice a' u.length c']] L (ret fun v L' => (∃ r, v = .bool r ∧ (r = true ↔ t = u)) ∧ L' = L) := by
  have hlen := ht.len
  have hlen' := hu.len
  refine Ct.body Tryz.func28 rfl Tryz.ntmps28 Tryz.results28 rfl ?_
  refine pur ?_
  refine WpO.box (vs := [.slice a t.length c]) rfl rfl rfl (fun _ => Keeps.none) fun b2 => ?_
  refine pur ?_
  refine WpO.box (vs := [.slice a' u.length c']) rfl rfl rfl (fun _ => Keeps.none) fun b3 => ?_
  refine pur ?_
  refine Wp.branch rfl (fun h => ?_) (fun h => ?_)
  · have hne : t.length ≠ u.length := fun e => by simp [e] at h
    refine pur ?_
    refine Wp.ret (Ret 2 rfl ⟨⟨false, rfl, ?_⟩, rfl⟩)
    exact ⟨nofun, fun e => absurd (by rw [e]) hne⟩
  have he : t.length = u.length := by simp at h; omega
  refine pur ?_
  refine Wp.loopI (α := Nat) 0 (fun i => [(2, .v (.pointer (some ⟨b2, 0, none⟩))), (3, .v (.pointer (some ⟨b3, 0, none⟩))), (5, .v (.int .i64 i))]) (fun _ => ptA b3 24 [.slice a' u.length c'] :: ptA b2 24 [.slice a t.length c] :: L) (fun i => t.length - i) (fun i => i ≤ t.length ∧ t.take i = u.take i) ⟨Nat.zero_le _, rfl⟩ ⟨rfl, rfl, rfl, trivial⟩ (LeL.refl _) ?_
  rintro i ⟨h1, h2⟩
  refine pur ?_
  refine Wp.branch rfl (fun h => ?_) (fun h => ?_)
  · have hi : i < t.length := by have := of_decide_eq_true h; omega
    have hi' : i < u.length := by omega
    have e1 := List.getElem?_eq_getElem hi
    have e2 := List.getElem?_eq_getElem hi'
    obtain ⟨b, o, ka, kc, rfl, hE, hK⟩ := hT.at e1
    obtain ⟨b', o', ka', kc', rfl, hE', hK'⟩ := hU.at e2
    have hkl := ht.kids _ (List.getElem_mem hi)
    have hkl' := hu.kids _ (List.getElem_mem hi')
    generalize t[i] = x at e1 hE hK hkl
    generalize u[i] = y at e2 hE' hK' hkl'
    refine pur ?_
    refine S.idx i rfl rfl rfl rfl hi ?_
    refine S.loadN rfl rfl hE.cons.cons rfl ?_
    refine WpO.alloc rfl rfl (fun _ => Keeps.none) fun b6 => ?_
    refine pur ?_
    refine S.idx i rfl rfl rfl rfl hi' ?_
    refine S.loadN rfl rfl hE'.cons.cons.cons rfl ?_
    refine WpO.alloc rfl rfl (fun _ => Keeps.none) fun b7 => ?_
    refine pur ?_
    refine WpO.callqg Tryz.call52 rfl rfl (.cons rfl (by infer_instance) (.cons rfl (by infer_instance) .nil)) (fun _ => sameInts_ct x.kids y.kids ka ka' kc kc' _ hK.cons.cons.cons.cons hK'.cons.cons.cons.cons (by omega) (by omega)) Keeps.none ?_
    refine pur ?_
    refine Wp.branch rfl (fun h => ?_) (fun h => ?_)
    · have hx : x ≠ y := fun e => by subst e; simp at h
      refine pur ?_
      refine Wp.ret (Ret 4 rfl ⟨⟨false, rfl, ?_⟩, rfl⟩)
      refine ⟨nofun, fun e => absurd ?_ hx⟩
      subst e
      exact Option.some.inj (e1.symm.trans e2)
    · have hx : x = y := by
        have q : x.op = y.op ∧ x.text.data = y.text.data ∧ x.num = y.num ∧ x.kids = y.kids := by simpa [and_assoc] using h
        exact nd_eq.2 ⟨q.1, ByteArray.ext q.2.1, q.2.2.1, q.2.2.2⟩
      refine pur ?_
      refine Round.mk (i + 1) (by show t.length - (i + 1) < t.length - i; omega) ⟨hi, ?_⟩ ⟨rfl, rfl, inc_e (by omega), trivial⟩ (LeL.drop 2 _)
      rw [List.take_add_one, List.take_add_one, h2, e1, e2, hx]
  · have hin : t.length ≤ i := by have := of_decide_eq_false h; omega
    refine pur ?_
    refine Wp.ret (Ret 2 rfl ⟨⟨true, rfl, ?_⟩, rfl⟩)
    rw [List.take_of_length_le hin, List.take_of_length_le (by omega)] at h2
    exact ⟨fun _ => h2, fun _ => rfl⟩
end Go.Proofs.YtikgokpbhldlnaaGreatDoor
end

section
/- Trees that are kept: loiterref08's Copy. -/
namespace Go.Proofs.YtikgokpbhldlnaaGreatDoor
open Go Go.Ab
attribute [local irreducible] Wp WpO Qt OpT Ct Ent

/-- A tree that is being built: its nodes so far, and what reads their lists. -/
structure Cp where
  i : Nat
  a : Option Addr
  c : Nat
  ks : List (Option Addr × Nat)
  R : Assn
def rowsTo (t : List Nd) (x : Cp) : List (List Value) := List.zipWith ndRow (t.take x.i) x.ks
/-- R reads the lists; 'more' stands behind each. -/
def KidsR (R : Assn) (more : List Int) (t : List Nd) (ks : List (Option Addr × Nat)) : Prop :=
  ∀ (j : Nat) (nd : Nd) (k : Option Addr × Nat), t[j]? = some nd → ks[j]? = some k → Sl [R] k.1 k.2 1 (ints (nd.kids ++ more))
structure CpOk (more : List Int) (t : List Nd) (x : Cp) : Prop where
  le : x.i ≤ t.length
  len : x.ks.length = x.i
  kr : KidsR x.R more t x.ks
theorem rowsTo_len {more : List Int} {t : List Nd} {x : Cp} (h : CpOk more t x) : (rowsTo t x).length = x.i := by
  have := h.le
  have := h.len
  simp [rowsTo]; omega
theorem rowsTo_next {more : List Int} {t : List Nd} {x : Cp} (h : CpOk more t x) {nd : Nd} (hn : t[x.i]? = some nd) (k : Option Addr × Nat) (a : Option Addr) (c : Nat) (R : Assn) :
    rowsTo t ⟨x.i + 1, a, c, x.ks ++ [k], R⟩ = rowsTo t x ++ [ndRow nd k] := by
  have hl := h.len
  have hlt := (List.getElem?_eq_some_iff.1 hn).1
  unfold rowsTo
  simp only []
  rw [List.take_add_one, hn, Option.toList_some, List.zipWith_append (by simp; omega)]; rfl
theorem CpOk.next {more : List Int} {t : List Nd} {x : Cp} (h : CpOk more t x) {nd : Nd} (hn : t[x.i]? = some nd) {k : Option Addr × Nat} {K : Assn} (hk : Sl [K] k.1 k.2 1 (ints (nd.kids ++ more))) (a : Option Addr) (c : Nat) :
    CpOk more t ⟨x.i + 1, a, c, x.ks ++ [k], bothA K x.R⟩ := by
  have hl := h.len
  have hlt := (List.getElem?_eq_some_iff.1 hn).1
  refine ⟨hlt, by simp [hl], fun j nd' k' e1 e2 => ?_⟩
  simp only at e2
  rcases Nat.lt_or_ge j x.ks.length with hj | hj
  · rw [List.getElem?_append_left hj] at e2
    exact (h.kr j nd' k' e1 e2).wk both_snd
  · rw [List.getElem?_append_right hj] at e2
    have hj2 : j = x.ks.length := by
      rcases Nat.lt_or_ge (j - x.ks.length) 1 with q | q
      · omega
      · rw [List.getElem?_eq_none (by simpa using q)] at e2; cases e2
    subst hj2
    rw [Nat.sub_self] at e2
    obtain rfl : k = k' := by simpa using e2
    rw [hl, hn] at e1
    obtain rfl : nd = nd' := by simpa using e1
    exact hk.wk both_fst
theorem WpO.emptyRow {P : Program} {n : Nat} {ops : Array Oper} {Q : Exit → Env → List Deferred → List Assn → Prop} {m : Md} {l : List Oper} {E : Env} {D : List Deferred} {L : List Assn} {b e sz : Nat} (h : WpO P n ops Q m l E D (ownA e sz (some ⟨b, 0, none⟩) 0 [] :: L)) : WpO P n ops Q m l E D (ptA b e [] :: L) :=
  WpO.parts (LeL.head fun _ => ownA.ofPt (rows := []) (c := 0) rfl (by simp) rfl) h
theorem LeL.round {K B N R : Assn} {M : List Assn} : LeL (K :: B :: N :: R :: M) (N :: bothA K R :: M) := fun _ s =>
  Sat.cons_mono (fun _ s => Sat.both s) (Sat.swap (Sat.cons_mono (fun _ s => s.tail) s))
set_option maxHeartbeats 4000000 in
theorem copy_ct (t : List Nd) (a : Option Addr) (c : Nat) (L : List Assn) (hT : TreeR L a c t) (ht : Small t) :
    Ct Tryz.prog 16 #[.agg #[.slice a t.length c]] L (ret fun v L' => ∃ a' c', v = .agg #[.slice a' t.length c'] ∧ TreeR L' a' c' t ∧ LeL L' L) := by
  have hlen := ht.len
  refine Ct.bodyC Tryz.func16 rfl Tryz.ntmps16 Tryz.results16 rfl ?_
  refine pur ?_
  refine WpO.box (vs := [.slice a t.length c]) rfl rfl rfl (fun _ => Keeps.none) fun b1 => ?_
  refine pur ?_
  refine WpO.alloc rfl rfl (fun _ => Keeps.none) fun b2 => ?_
  refine pur ?_
  refine WpO.alloc rfl rfl (fun _ => Keeps.none) fun b3 => ?_
  refine pur ?_
  refine Wp.parts (L' := ownA 36 4 none 0 [] :: ownA 3 1 none 0 [] :: ptA b3 24 [.slice none 0 0] :: ptA b2 24 [.slice none 0 0] :: ptA b1 24 [.slice a t.length c] :: L) (fun k hk => Sat.ownNil (Sat.ownNil hk)) ?_
  refine Wp.loopI (α := Cp) ⟨0, none, 0, [], ownA 3 1 none 0 []⟩
    (fun x => [(1, .v (.pointer (some ⟨b1, 0, none⟩))), (2, .v (.pointer (some ⟨b2, 0, none⟩))), (3, .v (.pointer (some ⟨b3, 0, none⟩))), (4, .v (.int .i64 x.i))])
    (fun x => ownA 36 4 x.a x.c (rowsTo t x) :: x.R :: ptA b3 24 [.slice x.a x.i x.c] :: ptA b2 24 [.slice none 0 0] :: ptA b1 24 [.slice a t.length c] :: L)
    (fun x => t.length - x.i) (CpOk [] t) ⟨Nat.zero_le _, rfl, fun j nd k _ e => by simp at e⟩ ⟨rfl, rfl, rfl, rfl, trivial⟩ (LeL.refl _) ?_
  intro y hok
  have hle := hok.le
  have hrl := rowsTo_len hok
  refine pur ?_
  refine Wp.branch rfl (fun h => ?_) (fun h => ?_)
  · have hi : y.i < t.length := by have := of_decide_eq_true h; omega
    have e1 := List.getElem?_eq_getElem hi
    obtain ⟨b, o, ka, kc, rfl, hE, hK⟩ := hT.at e1
    have hkl := ht.kids _ (List.getElem_mem hi)
    generalize t[y.i] = x at e1 hE hK hkl
    refine pur ?_
    refine S.idx y.i rfl rfl rfl rfl hi ?_
    refine S.loadN rfl rfl hE.cons.cons.cons.cons.cons rfl ?_
    refine WpO.alloc rfl rfl (fun _ => Keeps.none) fun b5 => ?_
    refine pur ?_
    refine WpO.buildSlice rfl rfl rfl rfl rfl rfl rfl (fun _ => Keeps.none) fun b6 => ?_
    refine WpO.emptyRow (sz := 1) ?_
    refine pur ?_
    refine WpO.append 0 (ints x.kids) rfl rfl rfl rfl rfl (ints_length _).symm hK.cons.cons.cons.cons.cons.cons.cons rfl ?_ rfl (by simp [ints]; omega) (fun _ _ => Keeps.none) fun a2 k2 => ?_
    · simp [ints, scalar]
    rw [List.nil_append, ints_length]
    refine WpO.know (fun k q => own_know 0 rfl q) fun hkn => ?_
    refine pur ?_
    refine S.loadN (vs := ndRow x (a2, k2)) rfl rfl (Ent.pt 1 4 rfl rfl) rfl ?_
    refine pur ?_
    refine WpO.buildSlice rfl rfl rfl rfl rfl rfl rfl (fun _ => Keeps.none) fun b7 => ?_
    refine pur ?_
    refine WpO.appendLit 2 [ndRow x (a2, k2)] rfl rfl rfl rfl hrl.symm rfl rfl rfl rfl rfl rfl rfl (by rw [hrl]; simp; omega) (fun _ _ => Keeps.none) fun a3 k3 => ?_
    refine pur ?_
    refine WpO.store 4 rfl rfl rfl rfl rfl rfl rfl rfl Keeps.none ?_
    refine pur ?_
    refine Round.mk ⟨y.i + 1, a3, k3, y.ks ++ [(a2, k2)], bothA (ownA 3 1 a2 k2 (ints x.kids)) y.R⟩ (by show t.length - (y.i + 1) < t.length - y.i; omega) (hok.next (k := (a2, k2)) e1 (by rw [List.append_nil]; exact Sl.own (e := 3) 0 rfl hkn) _ _) ⟨rfl, rfl, rfl, inc_e (by omega), trivial⟩ ?_
    rw [rowsTo_next hok e1]
    rw [show (rowsTo t y ++ [ndRow x (a2, k2)]).length = y.i + 1 from by rw [List.length_append, hrl]; rfl]
    exact LeL.round
  · have hin : y.i = t.length := by have := of_decide_eq_false h; omega
    refine pur ?_
    refine S.loadN (vs := [.slice y.a y.i y.c]) rfl rfl (Ent.pt 2 1 rfl rfl) rfl ?_
    refine WpO.know (fun k q => own_know 0 rfl q) fun hkn => ?_
    refine WpO.store 3 rfl rfl rfl rfl rfl rfl rfl rfl Keeps.none ?_
    refine pur ?_
    refine Wp.ret (RetC 0 (.cons (.agg rfl (by infer_instance) (Ent.pt 3 1 rfl rfl) rfl) .nil) ⟨y.a, y.c, by rw [hin]; rfl, ⟨y.ks, by rw [hok.len, hin], ?_, fun i nd k e1 e2 => ?_⟩, ?_⟩)
    · rw [show List.zipWith ndRow t y.ks = rowsTo t y from by unfold rowsTo; rw [List.take_of_length_le (by omega)]]
      exact Sl.own 0 rfl hkn
    · have := hok.kr i nd k e1 e2
      rw [List.append_nil] at this
      exact this.wk fun _ s => LeL.one _ (Sat.tail s)
    · exact LeL.drop 5 _
end Go.Proofs.YtikgokpbhldlnaaGreatDoor
end

section
/- Trees that are kept: loiterref08's Roomy. -/
namespace Go.Proofs.YtikgokpbhldlnaaGreatDoor
open Go Go.Ab
attribute [local irreducible] Wp WpO Qt OpT Ct Ent

def fullRow (nd : Nd) (k : Option Addr × Nat) : List Value := [.slice k.1 (nd.kids.length + 20) k.2]
structure Rm where
  y : Cp
  fa : Option Addr
  fc : Nat
def fullTo (t : List Nd) (x : Cp) : List (List Value) := List.zipWith fullRow (t.take x.i) x.ks
theorem fullTo_len {more : List Int} {t : List Nd} {x : Cp} (h : CpOk more t x) : (fullTo t x).length = x.i := by
  have := h.le
  have := h.len
  simp [fullTo]; omega
theorem fullTo_next {more : List Int} {t : List Nd} {x : Cp} (h : CpOk more t x) {nd : Nd} (hn : t[x.i]? = some nd) (k : Option Addr × Nat) (a : Option Addr) (c : Nat) (R : Assn) :
    fullTo t ⟨x.i + 1, a, c, x.ks ++ [k], R⟩ = fullTo t x ++ [fullRow nd k] := by
  have hl := h.len
  have hlt := (List.getElem?_eq_some_iff.1 hn).1
  unfold fullTo
  simp only []
  rw [List.take_add_one, hn, Option.toList_some, List.zipWith_append (by simp; omega)]; rfl
def markRow (n : Int) : List Value := ndRow ⟨n, ⟨#[]⟩, 0, []⟩ (none, 0)
theorem LeL.round2 {K B N F R : Assn} {M : List Assn} : LeL (K :: B :: N :: F :: R :: M) (N :: F :: bothA K R :: M) := fun _ s =>
  Sat.cons_mono (fun _ s => Sat.cons_mono (fun _ s => Sat.both s) s.swap) (Sat.swap (Sat.cons_mono (fun _ s => s.tail) s))
theorem LeL.keep3 {A B C X Y : Assn} {L : List Assn} : LeL (A :: B :: C :: X :: Y :: L) (A :: B :: C :: L) := fun _ s => Sat.cons_mono (fun _ s => Sat.cons_mono (fun _ s => Sat.cons_mono (fun _ s => s.tail.tail) s) s) s
set_option maxHeartbeats 4000000 in
theorem roomy_ct (t : List Nd) (a : Option Addr) (c : Nat) (L : List Assn) (hT : TreeR L a c t) (ht : Small t) :
    Ct Tryz.prog 14 #[.agg #[.slice a t.length c]] L (ret fun v L' => ∃ na nc fa fc ks R, v = .tuple #[.agg #[.slice na t.length nc], .slice fa t.length fc] ∧ ks.length = t.length ∧ KidsR R (marks 20) t ks ∧
      L' = ownA 36 4 na nc (List.zipWith ndRow t ks ++ [markRow 70, markRow 71]) :: ownA 34 1 fa fc (List.zipWith fullRow t ks) :: R :: L) := by
  have hlen := ht.len
  refine Ct.bodyC Tryz.func14 rfl Tryz.ntmps14 Tryz.results14 rfl ?_
  refine pur ?_
  refine WpO.box (vs := [.slice a t.length c]) rfl rfl rfl (fun _ => Keeps.none) fun b1 => ?_
  refine pur ?_
  refine WpO.alloc rfl rfl (fun _ => Keeps.none) fun b2 => ?_
  refine pur ?_
  rw [wrap_id (by omega) (by omega)]
  refine WpO.make 0 (t.length + 2) rfl rfl rfl rfl (by omega) (Nat.zero_le _) (by omega) rfl rfl rfl rfl (fun _ => Keeps.none) fun b3 => ?_
  refine pur ?_
  refine Wp.parts (L' := ownA 36 4 (some ⟨b3, 0, none⟩) (t.length + 2) [] :: ownA 34 1 none 0 [] :: ownA 3 1 none 0 [] :: ptA b2 24 [.slice none 0 0] :: ptA b1 24 [.slice a t.length c] :: L) (fun k hk => Sat.cons_mono (fun k hk => Sat.ownNil (Sat.ownNil hk)) hk) ?_
  refine Wp.loopI (α := Rm) ⟨⟨0, some ⟨b3, 0, none⟩, t.length + 2, [], ownA 3 1 none 0 []⟩, none, 0⟩
    (fun x => [(1, .v (.pointer (some ⟨b1, 0, none⟩))), (2, .v (.pointer (some ⟨b2, 0, none⟩))), (4, .v (.slice x.fa x.y.i x.fc)), (5, .v (.slice x.y.a x.y.i x.y.c)), (6, .v (.int .i64 x.y.i))])
    (fun x => ownA 36 4 x.y.a x.y.c (rowsTo t x.y) :: ownA 34 1 x.fa x.fc (fullTo t x.y) :: x.y.R :: ptA b2 24 [.slice none 0 0] :: ptA b1 24 [.slice a t.length c] :: L)
    (fun x => t.length - x.y.i) (fun x => CpOk (marks 20) t x.y) ⟨Nat.zero_le _, rfl, fun j nd k _ e => by simp at e⟩ ⟨rfl, rfl, rfl, rfl, rfl, trivial⟩ (LeL.refl _) ?_
  intro z hok
  have hle := hok.le
  have hrl := rowsTo_len hok
  have hfl := fullTo_len hok
  refine pur ?_
  refine Wp.branch rfl (fun h => ?_) (fun h => ?_)
  · have hi : z.y.i < t.length := by have := of_decide_eq_true h; omega
    have e1 := List.getElem?_eq_getElem hi
    obtain ⟨b, o, ka, kc, rfl, hE, hK⟩ := hT.at e1
    have hkl := ht.kids _ (List.getElem_mem hi)
    generalize t[z.y.i] = x at e1 hE hK hkl
    refine pur ?_
    refine S.idx z.y.i rfl rfl rfl rfl hi ?_
    refine S.loadN rfl rfl hE.cons.cons.cons.cons.cons rfl ?_
    refine WpO.alloc rfl rfl (fun _ => Keeps.none) fun b7 => ?_
    refine pur ?_
    refine WpO.call Tryz.call33 rfl rfl (roomy1_ct x.kids ka kc _ hK.cons.cons.cons.cons.cons.cons hkl) fun v L' ⟨a2, k2, e, e'⟩ => ⟨Keeps.none, ?_⟩
    subst e; subst e'
    refine WpO.know (fun k q => own_know 0 rfl q) fun hkn => ?_
    have hcap := hkn.1
    rw [ints_length, List.length_append, marks_len] at hcap
    have ha2 : a2 = none ∨ ∃ b o, a2 = some ⟨b, o, none⟩ := hkn.2.2.imp (·.1) id
    refine pur ?_
    refine WpO.buildSlice rfl rfl rfl rfl rfl rfl rfl (fun _ => Keeps.none) fun b8 => ?_
    refine pur ?_
    refine WpO.appendLit 3 [fullRow x (a2, k2)] rfl rfl rfl rfl hfl.symm rfl rfl rfl rfl rfl rfl rfl (by rw [hfl]; simp; omega) (fun _ _ => Keeps.none) fun a3 k3 => ?_
    rw [show (fullTo t z.y ++ [fullRow x (a2, k2)]).length = z.y.i + 1 from by rw [List.length_append, hfl]; rfl]
    refine pur ?_
    refine S.sliceL 0 x.kids.length rfl rfl Bd.no (Bd.at x.kids.length rfl (by infer_instance) (fun _ => rfl)) ⟨Nat.zero_le _, by omega⟩ ?_
    rw [slA_zero ha2, Nat.sub_zero, Nat.sub_zero]
    refine pur ?_
    refine S.loadN (vs := ndRow x (a2, k2)) rfl rfl (Ent.pt 1 4 rfl rfl) rfl ?_
    refine pur ?_
    refine WpO.buildSlice rfl rfl rfl rfl rfl rfl rfl (fun _ => Keeps.none) fun b9 => ?_
    refine pur ?_
    refine WpO.appendLit 2 [ndRow x (a2, k2)] rfl rfl rfl rfl hrl.symm rfl rfl rfl rfl rfl rfl rfl (by rw [hrl]; simp; omega) (fun _ _ => Keeps.none) fun a4 k4 => ?_
    rw [show (rowsTo t z.y ++ [ndRow x (a2, k2)]).length = z.y.i + 1 from by rw [List.length_append, hrl]; rfl]
    refine pur ?_
    refine Round.mk ⟨⟨z.y.i + 1, a4, k4, z.y.ks ++ [(a2, k2)], bothA (ownA 3 1 a2 k2 (ints (x.kids ++ marks 20))) z.y.R⟩, a3, k3⟩ (by show t.length - (z.y.i + 1) < t.length - z.y.i; omega) (hok.next (k := (a2, k2)) e1 (Sl.own (e := 3) 0 rfl hkn) _ _) ⟨rfl, rfl, rfl, rfl, inc_e (by omega), trivial⟩ ?_
    rw [rowsTo_next hok e1, fullTo_next hok e1]
    exact LeL.round2
  · have hin : z.y.i = t.length := by have := of_decide_eq_false h; omega
    have er : rowsTo t z.y = List.zipWith ndRow t z.y.ks := by unfold rowsTo; rw [List.take_of_length_le (by omega)]
    have ef : fullTo t z.y = List.zipWith fullRow t z.y.ks := by unfold fullTo; rw [List.take_of_length_le (by omega)]
    have hrl' := hrl
    rw [er, hin] at hrl'
    refine pur ?_
    refine S.build rfl rfl rfl ?_
    refine S.build rfl rfl rfl ?_
    refine WpO.buildSlice rfl rfl rfl rfl rfl rfl rfl (fun _ => Keeps.none) fun b8 => ?_
    refine pur ?_
    refine WpO.appendLit 0 [markRow 70, markRow 71] rfl rfl rfl rfl hrl.symm rfl rfl rfl rfl rfl rfl rfl (by rw [hrl]; simp; omega) (fun _ _ => Keeps.none) fun a4 k4 => ?_
    refine WpO.know (fun k q => own_know 0 rfl q) fun hkn => ?_
    have ha4 : a4 = none ∨ ∃ b o, a4 = some ⟨b, o, none⟩ := hkn.2.2.imp (·.1) id
    have hcap := hkn.1
    rw [List.length_append, hrl] at hcap
    refine pur ?_
    refine S.sliceL 0 t.length rfl rfl Bd.no (Bd.at t.length rfl (by infer_instance) (fun _ => rfl)) ⟨Nat.zero_le _, by omega⟩ ?_
    rw [slA_zero ha4, Nat.sub_zero, Nat.sub_zero]
    refine pur ?_
    refine S.build rfl rfl rfl ?_
    refine pur ?_
    refine WpO.store 3 rfl rfl rfl rfl rfl rfl rfl rfl Keeps.none ?_
    refine pur ?_
    refine Wp.ret (RetCL (.cons (.agg rfl (by infer_instance) (Ent.pt 3 1 rfl rfl) rfl) (.cons (.tmp rfl) .nil)) LeL.keep3 ⟨a4, k4, z.fa, z.fc, z.y.ks, z.y.R, by rw [hin]; rfl, by rw [hok.len, hin], hok.kr, by rw [er, ef]⟩)
end Go.Proofs.YtikgokpbhldlnaaGreatDoor
end

section
/- Trees that are kept: loiterref08's Kept; ShowKeeps. -/
namespace Go.Proofs.YtikgokpbhldlnaaGreatDoor
open Go Go.Ab
attribute [local irreducible] Wp WpO Qt OpT Ct Ent

theorem slA_some {b o c l sz : Nat} (h : c ≠ l) : slA (some ⟨b, o, none⟩) c l sz = some ⟨b, o + l * sz, none⟩ := by
  unfold slA; rw [if_neg h]; simp [Addr.add_eq]
/-- What Roomy made, where it lies. -/
structure RoomR (L : List Assn) (na : Option Addr) (nc : Nat) (fa : Option Addr) (fc : Nat) (ks : List (Option Addr × Nat)) (t : List Nd) : Prop where
  len : ks.length = t.length
  nodes : Sl L na nc 4 (List.zipWith ndRow t ks ++ [markRow 70, markRow 71])
  full : Sl L fa fc 1 (List.zipWith fullRow t ks)
  kids : ∀ (j : Nat) (nd : Nd) (k : Option Addr × Nat), t[j]? = some nd → ks[j]? = some k → Sl L k.1 k.2 1 (ints (nd.kids ++ marks 20))
theorem RoomR.wk {L L' : List Assn} {na fa : Option Addr} {nc fc : Nat} {ks : List (Option Addr × Nat)} {t : List Nd} (h : RoomR L na nc fa fc ks t) (hL : LeL L' L) : RoomR L' na nc fa fc ks t :=
  ⟨h.len, h.nodes.wk hL, h.full.wk hL, fun j nd k e1 e2 => (h.kids j nd k e1 e2).wk hL⟩
theorem ints_take {L : List Assn} {a : Option Addr} {c : Nat} {l m : List Int} (h : Sl L a c 1 (ints (l ++ m))) : Sl L a c 1 (ints l) := by
  have := h.take l.length
  rwa [ints_append, List.take_left' (ints_length l)] at this
theorem RoomR.tree {L : List Assn} {na fa : Option Addr} {nc fc : Nat} {ks : List (Option Addr × Nat)} {t : List Nd} (h : RoomR L na nc fa fc ks t) : TreeR L na nc t := by
  refine ⟨ks, h.len, ?_, fun i nd k e1 e2 => ints_take (h.kids i nd k e1 e2)⟩
  have := h.nodes.take t.length
  rwa [List.take_left' (by rw [List.length_zipWith, h.len, Nat.min_self])] at this
set_option maxHeartbeats 4000000 in
theorem kept_ct (t : List Nd) (a na fa : Option Addr) (c nc fc : Nat) (ks : List (Option Addr × Nat)) (L : List Assn) (hT : TreeR L a c t) (ht : Small t) (hR : RoomR L na nc fa fc ks t) :
    Ct Tryz.prog 15 #[.agg #[.slice na t.length nc], .slice fa t.length fc, .agg #[.slice a t.length c]] L (ret fun v L' => v = .bool true ∧ L' = L) := by
  have hlen := ht.len
  have hzl : (List.zipWith ndRow t ks).length = t.length := by rw [List.length_zipWith, hR.len, Nat.min_self]
  have hncap := hR.nodes.cap
  rw [List.length_append, hzl] at hncap
  simp only [List.length_cons, List.length_nil] at hncap
  obtain ⟨rb, ro, hna, _, hM0⟩ := hR.nodes.at (i := t.length) (r := markRow 70) (by rw [List.getElem?_append_right (by omega), hzl, Nat.sub_self]; rfl)
  obtain ⟨rb', ro', hna', _, hM1⟩ := hR.nodes.at (i := t.length + 1) (r := markRow 71) (by rw [List.getElem?_append_right (by omega), hzl, show t.length + 1 - t.length = 1 from by omega]; rfl)
  have hRt := hR.tree
  subst hna
  obtain ⟨rfl, rfl⟩ : rb = rb' ∧ ro = ro' := by simpa using hna'
  clear hna'
  have hM0 : Ent L (CellsAt rb (ro + t.length * 4 + 0 * 4 + 0) [.int .i64 70]) := Ent.sub 1 (j := 0) hM0 rfl
  have hM1 : Ent L (CellsAt rb (ro + t.length * 4 + 1 * 4 + 0) [.int .i64 71]) := by
    rw [show ro + t.length * 4 + 1 * 4 = ro + (t.length + 1) * 4 from by omega]
    exact Ent.sub 1 (j := 0) hM1 rfl
  refine Ct.body Tryz.func15 rfl Tryz.ntmps15 Tryz.results15 rfl ?_
  refine pur ?_
  refine WpO.box (vs := [.slice (some ⟨rb, ro, none⟩) t.length nc]) rfl rfl rfl (fun _ => Keeps.none) fun b3 => ?_
  refine pur ?_
  refine WpO.box (vs := [.slice a t.length c]) rfl rfl rfl (fun _ => Keeps.none) fun b5 => ?_
  refine pur ?_
  refine S.loadN (vs := [.slice (some ⟨rb, ro, none⟩) t.length nc]) rfl rfl (Ent.pt 1 1 rfl rfl) rfl ?_
  refine pur ?_
  refine S.loadN (vs := [.slice a t.length c]) rfl rfl (Ent.pt 0 1 rfl rfl) rfl ?_
  refine WpO.call Tryz.call28 rfl rfl (same_tree_ct t t _ a nc c _ hRt.cons.cons hT.cons.cons ht ht) fun v L' ⟨⟨r, e, hr⟩, e'⟩ => ⟨Keeps.none, ?_⟩
  obtain rfl : r = true := hr.2 rfl
  subst e; subst e'
  refine pur ?_
  refine Wp.loopI (α := Nat) 0 (fun i => [(1, .v (.slice fa t.length fc)), (3, .v (.pointer (some ⟨b3, 0, none⟩))), (5, .v (.pointer (some ⟨b5, 0, none⟩))), (7, .v (.int .i64 i))]) (fun _ => ptA b5 24 [.slice a t.length c] :: ptA b3 24 [.slice (some ⟨rb, ro, none⟩) t.length nc] :: L) (fun i => t.length - i) (fun i => i ≤ t.length) (Nat.zero_le _) ⟨rfl, rfl, rfl, rfl, trivial⟩ (LeL.refl _) ?_
  intro i h1
  refine pur ?_
  refine Wp.branch rfl (fun h => ?_) (fun h => ?_)
  · have hi : i < t.length := by have := of_decide_eq_true h; omega
    have e1 := List.getElem?_eq_getElem hi
    have hik : i < ks.length := by rw [hR.len]; exact hi
    have e2 := List.getElem?_eq_getElem hik
    obtain ⟨b, o, ka, kc, rfl, hE, hK⟩ := hT.at e1
    obtain ⟨fb, fo, rfl, _, hF⟩ := hR.full.at (i := i) (r := fullRow t[i] ks[i]) (by rw [List.getElem?_zipWith, e1, e2])
    have hkl := ht.kids _ (List.getElem_mem hi)
    have hKm := hR.kids i _ _ e1 e2
    generalize t[i] = x at e1 hE hK hkl hF hKm
    generalize ks[i] = k at e2 hF hKm
    have hF : Ent L (CellsAt fb (fo + i * 1) [.slice k.1 (x.kids.length + 20) k.2]) := hF
    refine pur ?_
    refine Wp.draw rfl [0,1,2,3,4,5,6,7,8,9,10,11] 10 10 _ rfl (by decide +kernel) (fun _ h => h) ?_
    refine pur ?_
    refine S.idx i rfl rfl rfl rfl hi ?_
    refine pur ?_
    refine S.idx i rfl rfl rfl rfl hi ?_
    refine pur ?_
    refine WpO.callq Tryz.call34 rfl rfl (kept1_ct x.kids k.1 ka k.2 kc _ hKm.cons.cons hK.cons.cons hkl) Keeps.last ?_
    refine pur ?_
    exact Round.mk (i + 1) (by show t.length - (i + 1) < t.length - i; omega) hi ⟨rfl, rfl, rfl, inc_e (by omega), trivial⟩ (LeL.refl _)
  · refine pur ?_
    rw [wrap_id (by omega) (by omega)]
    refine S.sliceL t.length (t.length + 2) rfl rfl (Bd.at t.length rfl (by infer_instance) (fun _ => rfl)) (Bd.at (t.length + 2) rfl (by infer_instance) (fun _ => by omega)) ⟨by omega, hncap⟩ ?_
    rw [slA_some (by omega)]
    refine pur ?_
    refine S.idx 0 rfl rfl rfl rfl (by omega) ?_
    refine pur ?_
    refine G.idx 1 rfl rfl rfl (by infer_instance) rfl (by infer_instance) (fun _ => ⟨rfl, by omega⟩) ?_
    refine pur ?_
    exact Wp.ret (Ret 2 rfl ⟨rfl, rfl⟩)
theorem LeL.swap32 {N F R B C : Assn} {L : List Assn} : LeL (N :: F :: R :: B :: C :: L) (B :: C :: N :: F :: R :: L) :=
  LeL.perm ((List.perm_append_comm (l₁ := [N, F, R]) (l₂ := [B, C])).append_right L)
theorem LeL.at5 {A B C D E F : Assn} {L : List Assn} : LeL (A :: B :: C :: D :: E :: F :: L) [F] := fun _ s => LeL.one _ (LeL.drop 5 _ _ s)
theorem tree_of_nodes {L : List Assn} {na : Option Addr} {nc : Nat} {ks : List (Option Addr × Nat)} {t : List Nd} {M : List (List Value)} (hlen : ks.length = t.length) (hN : Sl L na nc 4 (List.zipWith ndRow t ks ++ M))
    (hK : ∀ (j : Nat) (nd : Nd) (k : Option Addr × Nat), t[j]? = some nd → ks[j]? = some k → Sl L k.1 k.2 1 (ints nd.kids)) : TreeR L na nc t := by
  refine ⟨ks, hlen, ?_, hK⟩
  have := hN.take t.length
  rwa [List.take_left' (by rw [List.length_zipWith, hlen, Nat.min_self])] at this
def five : Nd := ⟨3, ⟨#[]⟩, 5, []⟩
theorem five_small {x : Nd} {t : List Nd} (h : Small (x :: t)) : Small (five :: t) :=
  ⟨h.len, fun nd hn => by
    rcases List.mem_cons.1 hn with rfl | hn
    · decide
    · exact h.kids nd (List.mem_cons_of_mem _ hn), fun nd hn => by
    rcases List.mem_cons.1 hn with rfl | hn
    · decide
    · exact h.text nd (List.mem_cons_of_mem _ hn), fun nd hn => by
    rcases List.mem_cons.1 hn with rfl | hn
    · decide
    · exact h.num nd (List.mem_cons_of_mem _ hn)⟩
set_option maxHeartbeats 8000000 in
theorem showKeeps_ct (t u : List Nd) (ht : Small t) (hu : Small u) (a a' : Option Addr) (c c' : Nat) (L : List Assn) (hT : TreeR L a c t) (hU : TreeR L a' c' u) (hTb : TabL L) :
    Ct Tryz.prog 4 #[.agg #[.slice a t.length c], .agg #[.slice a' u.length c']] L (ret fun v L' => v = .bool true ∧ LeL L' L) := by
  refine Ct.body Tryz.func4 rfl Tryz.ntmps4 Tryz.results4 rfl ?_
  refine pur ?_
  refine WpO.box (vs := [.slice a t.length c]) rfl rfl rfl (fun _ => Keeps.none) fun b2 => ?_
  refine pur ?_
  refine WpO.box (vs := [.slice a' u.length c']) rfl rfl rfl (fun _ => Keeps.none) fun b3 => ?_
  refine pur ?_
  refine WpO.callq Tryz.call11 rfl rfl (wakes_ct _ hTb.cons.cons) Keeps.none ?_
  refine pur ?_
  refine S.loadN (vs := [.slice a t.length c]) rfl rfl (Ent.pt 1 1 rfl rfl) rfl ?_
  refine WpO.call Tryz.call14 rfl rfl (roomy_ct t a c _ hT.cons.cons ht) fun v L' ⟨na, nc, fa, fc, ks, R, e, hkl, hKR, e'⟩ => ⟨Keeps.none, ?_⟩
  subst e; subst e'
  refine WpO.parts LeL.swap32 ?_
  refine WpO.know (fun k q => own_know 2 rfl q) fun hk1 => ?_
  refine WpO.know (fun k q => own_know 3 rfl q) fun hk2 => ?_
  obtain ⟨nb, no, rfl⟩ : ∃ nb no, na = some ⟨nb, no, none⟩ := by
    rcases hk1.2.2 with ⟨_, _, q⟩ | q
    · simp at q
    · exact q
  refine pur ?_
  refine WpO.alloc rfl rfl (fun _ => Keeps.none) fun b5 => ?_
  refine pur ?_
  have hR : RoomR (ptA b5 24 [.slice (some ⟨nb, no, none⟩) t.length nc] :: ptA b3 24 [.slice a' u.length c'] :: ptA b2 24 [.slice a t.length c] :: ownA 36 4 (some ⟨nb, no, none⟩) nc (List.zipWith ndRow t ks ++ [markRow 70, markRow 71]) :: ownA 34 1 fa fc (List.zipWith fullRow t ks) :: R :: L) (some ⟨nb, no, none⟩) nc fa fc ks t :=
    ⟨hkl, Sl.own 3 rfl hk1, Sl.own 4 rfl hk2, fun j nd k e1 e2 => (hKR j nd k e1 e2).wk LeL.at5⟩
  have hT1 := hT.wk (LeL.drop 6 (ptA b5 24 [.slice (some ⟨nb, no, none⟩) t.length nc] :: ptA b3 24 [.slice a' u.length c'] :: ptA b2 24 [.slice a t.length c] :: ownA 36 4 (some ⟨nb, no, none⟩) nc (List.zipWith ndRow t ks ++ [markRow 70, markRow 71]) :: ownA 34 1 fa fc (List.zipWith fullRow t ks) :: R :: L))
  have hU1 := hU.wk (LeL.drop 6 (ptA b5 24 [.slice (some ⟨nb, no, none⟩) t.length nc] :: ptA b3 24 [.slice a' u.length c'] :: ptA b2 24 [.slice a t.length c] :: ownA 36 4 (some ⟨nb, no, none⟩) nc (List.zipWith ndRow t ks ++ [markRow 70, markRow 71]) :: ownA 34 1 fa fc (List.zipWith fullRow t ks) :: R :: L))
  have hB1 := hTb.wk (LeL.drop 6 (ptA b5 24 [.slice (some ⟨nb, no, none⟩) t.length nc] :: ptA b3 24 [.slice a' u.length c'] :: ptA b2 24 [.slice a t.length c] :: ownA 36 4 (some ⟨nb, no, none⟩) nc (List.zipWith ndRow t ks ++ [markRow 70, markRow 71]) :: ownA 34 1 fa fc (List.zipWith fullRow t ks) :: R :: L))
  refine S.loadN (vs := [.slice a t.length c]) rfl rfl (Ent.pt 2 1 rfl rfl) rfl ?_
  refine WpO.callq Tryz.call13 rfl rfl (rshow_ct t ht a c _ hT1) Keeps.none ?_
  refine pur ?_
  refine S.loadN (vs := [.slice a' u.length c']) rfl rfl (Ent.pt 1 1 rfl rfl) rfl ?_
  refine WpO.callq Tryz.call13 rfl rfl (rshow_ct u hu a' c' _ hU1) Keeps.none ?_
  refine pur ?_
  refine S.loadN (vs := [.slice (some ⟨nb, no, none⟩) t.length nc]) rfl rfl (Ent.pt 0 1 rfl rfl) rfl ?_
  refine WpO.callq Tryz.call12 rfl rfl (sshow_ct t ht _ nc _ hR.tree hB1) Keeps.none ?_
  refine pur ?_
  refine S.loadN (vs := [.slice a' u.length c']) rfl rfl (Ent.pt 1 1 rfl rfl) rfl ?_
  refine WpO.callq Tryz.call12 rfl rfl (sshow_ct u hu a' c' _ hU1 hB1) Keeps.none ?_
  refine pur ?_
  refine S.loadN (vs := [.slice (some ⟨nb, no, none⟩) t.length nc]) rfl rfl (Ent.pt 0 1 rfl rfl) rfl ?_
  refine WpO.callq Tryz.call12 rfl rfl (sshow_ct t ht _ nc _ hR.tree hB1) Keeps.none ?_
  refine pur ?_
  refine G.loadN (vs := [.slice (some ⟨nb, no, none⟩) t.length nc]) rfl rfl rfl (by infer_instance) (Ent.pt 0 1 rfl rfl) rfl ?_
  refine pur ?_
  refine G.loadN (vs := [.slice a t.length c]) rfl rfl rfl (by infer_instance) (Ent.pt 2 1 rfl rfl) rfl ?_
  refine WpO.callqg Tryz.call15 rfl rfl (.cons rfl (by infer_instance) (.cons rfl (by infer_instance) (.cons rfl (by infer_instance) .nil))) (fun _ => kept_ct t a _ fa c nc fc ks _ hT1 ht hR) Keeps.none ?_
  refine pur ?_
  refine Wp.branch rfl (fun h => ?_) (fun h => ?_)
  · simp at h
  clear h
  refine pur ?_
  refine Wp.branch rfl (fun h => ?_) (fun h => ?_)
  · match t, ks, hkl, h, hT, hT1, hR, hKR, ht, hk1, hk2 with
    | x :: t, k :: ks, hkl, h, hT, hT1, hR, hKR, ht, hk1, hk2 =>
    refine pur ?_
    refine S.build rfl rfl rfl ?_
    refine S.idx 0 rfl rfl rfl rfl (by simp) ?_
    refine WpO.storeRow (r := ndRow x k) 3 0 0 rfl rfl rfl rfl rfl rfl rfl (by decide) Keeps.none ?_
    refine pur ?_
    refine WpO.know (fun k q => own_know 3 rfl q) fun hk3 => ?_
    have hs2 : Small (five :: t) := five_small ht
    have hT2 := tree_of_nodes (t := five :: t) (ks := (none, 0) :: ks) (M := [markRow 70, markRow 71]) hkl (Sl.own (L := ptA b5 24 [.slice (some ⟨nb, no, none⟩) (x :: t).length nc] :: ptA b3 24 [.slice a' u.length c'] :: ptA b2 24 [.slice a (x :: t).length c] :: ownA 36 4 (some ⟨nb, no, none⟩) nc (List.zipWith ndRow (five :: t) ((none, 0) :: ks) ++ [markRow 70, markRow 71]) :: ownA 34 1 fa fc (List.zipWith fullRow (x :: t) (k :: ks)) :: R :: L) 3 rfl hk3) (fun j nd k' e1 e2 => by
      match j, e1, e2 with
      | 0, e1, e2 =>
        obtain rfl : five = nd := by simpa using e1
        obtain rfl : (none, 0) = k' := by simpa using e2
        exact Sl.nil
      | j + 1, e1, e2 => exact (ints_take (hKR (j + 1) nd k' (by simpa using e1) (by simpa using e2))).wk LeL.at5)
    have hB1' := hTb.wk (LeL.drop 6 (ptA b5 24 [.slice (some ⟨nb, no, none⟩) (x :: t).length nc] :: ptA b3 24 [.slice a' u.length c'] :: ptA b2 24 [.slice a (x :: t).length c] :: ownA 36 4 (some ⟨nb, no, none⟩) nc (List.zipWith ndRow (five :: t) ((none, 0) :: ks) ++ [markRow 70, markRow 71]) :: ownA 34 1 fa fc (List.zipWith fullRow (x :: t) (k :: ks)) :: R :: L))
    refine S.loadN (vs := [.slice (some ⟨nb, no, none⟩) (five :: t).length nc]) rfl rfl (Ent.pt 0 1 rfl rfl) rfl ?_
    refine WpO.call Tryz.call16 rfl rfl (copy_ct (five :: t) _ nc _ hT2 hs2) fun v L' ⟨ca, cc, e, hC, hL⟩ => ⟨Keeps.none, ?_⟩
    subst e
    refine WpO.callq Tryz.call13 rfl rfl (rshow_ct (five :: t) hs2 ca cc _ hC) Keeps.none ?_
    refine WpO.parts hL ?_
    refine pur ?_
    refine S.loadN (vs := [.slice (some ⟨nb, no, none⟩) (five :: t).length nc]) rfl rfl (Ent.pt 0 1 rfl rfl) rfl ?_
    refine WpO.callq Tryz.call12 rfl rfl (sshow_ct (five :: t) hs2 _ nc _ hT2 hB1') Keeps.none ?_
    refine pur ?_
    refine Wp.ret (Ret 0 rfl ⟨?_, LeL.drop 6 _⟩)
    rw [decide_eq_true rfl, decide_eq_true rfl]; rfl
  · match t, ks, hkl, h, hT, hT1, hB1, hR, hKR, ht, hk1, hk2 with
    | x :: t, k :: ks, hkl, h, hT, hT1, hB1, hR, hKR, ht, hk1, hk2 => simp at h
    | [], [], hkl, h, hT, hT1, hB1, hR, hKR, ht, hk1, hk2 =>
    have hs2 : Small [] := ht
    have hT2 := hR.tree
    have hB1' := hB1
    refine pur ?_
    refine S.loadN (vs := [.slice (some ⟨nb, no, none⟩) ([] : List Nd).length nc]) rfl rfl (Ent.pt 0 1 rfl rfl) rfl ?_
    refine WpO.call Tryz.call16 rfl rfl (copy_ct ([] : List Nd) _ nc _ hT2 hs2) fun v L' ⟨ca, cc, e, hC, hL⟩ => ⟨Keeps.none, ?_⟩
    subst e
    refine WpO.callq Tryz.call13 rfl rfl (rshow_ct ([] : List Nd) hs2 ca cc _ hC) Keeps.none ?_
    refine WpO.parts hL ?_
    refine pur ?_
    refine S.loadN (vs := [.slice (some ⟨nb, no, none⟩) ([] : List Nd).length nc]) rfl rfl (Ent.pt 0 1 rfl rfl) rfl ?_
    refine WpO.callq Tryz.call12 rfl rfl (sshow_ct ([] : List Nd) hs2 _ nc _ hT2 hB1') Keeps.none ?_
    refine pur ?_
    refine Wp.ret (Ret 0 rfl ⟨?_, LeL.drop 6 _⟩)
    rw [decide_eq_true rfl, decide_eq_true rfl]; rfl
end Go.Proofs.YtikgokpbhldlnaaGreatDoor
end
