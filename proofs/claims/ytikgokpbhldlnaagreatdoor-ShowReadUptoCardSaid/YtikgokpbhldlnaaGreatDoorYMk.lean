/- Parts of a proof: Sk Sl Sm Sn So Sp. -/
import Derived.Test.YtikgokpbhldlnaaGreatDoorYMj
import Derived.Test.YtikgokpbhldlnaaGreatDoorYMd
import Derived.Shelf.Strconv.Itoa3
import Derived.Lib.AppendIntMem
set_option linter.unusedVariables false
set_option linter.unusedSimpArgs false
set_option linter.unusedSectionVars false
section
namespace Go.Proofs.YtikgokpbhldlnaaGreatDoor
open Go Go.Ab
attribute [local irreducible] Wp WpO Qt OpT Ct Ent
theorem LeL.pick13 {A B C : Assn} {L : List Assn} : LeL (A :: B :: C :: L) [A, C] := fun _ s => Sat.cons_mono (fun _ s => Sat.take (M := [C]) (L := L) s.tail) s
theorem Kd.cons {t : List Nd} {a : Option Addr} {c bw : Nat} {N : Nat → List UInt8 → List Tok} {fs : List Nat} {ka : Option Addr} {kc : Nat} {L : List Assn} (C : Kd t a c bw N fs ka kc L) {A : Assn} : Kd t a c bw N fs ka kc (A :: L) := ⟨C.hN, C.lt, C.sm, C.tr.cons, C.sl.cons, C.fl⟩
theorem kids_len {nd : Nd} (h : nd.kids = natI (kidsN nd)) : nd.kids.length = (kidsN nd).length := by rw [h]; simp [natI, kidsN]
set_option maxHeartbeats 8000000 in
theorem node_step {t : List Nd} {a : Option Addr} {c bw f i : Nat} (hs : Sound t t.length) (hsm : Small t) (hi : i < t.length) (hN : ∀ j, j < i → NodeOk t a c bw (nodeT t f) j) : NodeOk t a c bw (nodeT t (f + 1)) i := by
  intro sep x ts L hT hsep hb
  have hLy := hs.lay hi
  have hlt := hs.lt i hi
  have hkl := kids_len (hs.kids i hi)
  have hkn := hs.kids i hi
  have hmem : ndOf t i ∈ t := List.mem_of_getElem? (ndOf_some hi)
  have htx := hsm.text _ hmem
  have hkb := hsm.kids _ hmem
  obtain ⟨b, o, ka, kc, rfl, hE, hK⟩ := hT.at (ndOf_some hi)
  have hst : nodeT t (f + 1) i (bs sep) = stepT t (nodeT t f) (ndOf t i) (kidsN (ndOf t i)) (bs sep) := rfl
  rw [hst] at hb ⊢
  generalize nodeT t f = N at hN hb ⊢
  rw [hkn] at hK
  rw [hkl] at hkb
  rw [hkl] at hE
  clear hst hkn hkl
  generalize hnd : ndOf t i = nd at *
  generalize hfs : kidsN nd = fs at *
  have C : Kd t (some ⟨b, o, none⟩) c bw N fs ka kc L := ⟨fun j hj => hN j (hlt j hj), fun j hj => Nat.lt_trans (hlt j hj) hi, hsm, hT, hK, hkb⟩
  clear hT hK hN
  refine Ct.body Tryz.func57 rfl Tryz.ntmps57 Tryz.results57 rfl ?_
  refine pur ?_
  refine S.idx i rfl rfl rfl rfl hi ?_
  refine S.loadN rfl rfl hE.cons.cons rfl ?_
  refine WpO.alloc rfl rfl (fun _ => Keeps.none) fun b0 => ?_
  refine pur ?_
  refine Wp.parts LeL.third ?_

  refine Wp.branch rfl (fun h => ?_) (fun h => ?_)
  · have ho : nd.op = 1 := of_decide_eq_true h
    have hn : stepT t N nd fs (bs sep) = nmT (bs nd.text) := by unfold stepT; rw [if_pos (by omega)]
    rw [hn] at hb ⊢
    refine pur ?_
    refine WpO.call Tryz.call115 rfl rfl (wname_ct bw _ x ts nd.text _ (by omega) (by have := nm_len (bs nd.text); omega)) fun v L' ⟨x1, e⟩ => ⟨Keeps.none, ?_⟩
    subst e
    refine pur ?_
    exact RetNL rfl LeL.drop3 ⟨x1, rfl⟩
  have n1 : ¬ nd.op = 1 := of_decide_eq_false h
  refine pur ?_
  refine Wp.branch rfl (fun h => ?_) (fun h => ?_)
  · have ho : nd.op = 2 := of_decide_eq_true h
    have hn : stepT t N nd fs (bs sep) = nmT (bs nd.text) := by unfold stepT; rw [if_pos (by omega)]
    rw [hn] at hb ⊢
    refine pur ?_
    refine WpO.call Tryz.call115 rfl rfl (wname_ct bw _ x ts nd.text _ (by omega) (by have := nm_len (bs nd.text); omega)) fun v L' ⟨x1, e⟩ => ⟨Keeps.none, ?_⟩
    subst e
    refine pur ?_
    exact RetNL rfl LeL.drop3 ⟨x1, rfl⟩
  have n2 : ¬ nd.op = 2 := of_decide_eq_false h
  refine pur ?_
  refine Wp.branch rfl (fun h => ?_) (fun h => ?_)
  · have ho : nd.op = 25 := of_decide_eq_true h
    have hn : stepT t N nd fs (bs sep) = nmT (bs nd.text) := by unfold stepT; rw [if_pos (by omega)]
    rw [hn] at hb ⊢
    refine pur ?_
    refine WpO.call Tryz.call115 rfl rfl (wname_ct bw _ x ts nd.text _ (by omega) (by have := nm_len (bs nd.text); omega)) fun v L' ⟨x1, e⟩ => ⟨Keeps.none, ?_⟩
    subst e
    refine pur ?_
    exact RetNL rfl LeL.drop3 ⟨x1, rfl⟩
  have n25 : ¬ nd.op = 25 := of_decide_eq_false h
  refine pur ?_
  refine Wp.branch rfl (fun h => ?_) (fun h => ?_)
  · have ho : nd.op = 23 := of_decide_eq_true h
    have hn : stepT t N nd fs (bs sep) = nmT (bs nd.text) := by unfold stepT; rw [if_pos (by omega)]
    rw [hn] at hb ⊢
    refine pur ?_
    refine WpO.call Tryz.call115 rfl rfl (wname_ct bw _ x ts nd.text _ (by omega) (by have := nm_len (bs nd.text); omega)) fun v L' ⟨x1, e⟩ => ⟨Keeps.none, ?_⟩
    subst e
    refine pur ?_
    exact RetNL rfl LeL.drop3 ⟨x1, rfl⟩
  have n23 : ¬ nd.op = 23 := of_decide_eq_false h
  refine pur ?_
  refine Wp.branch rfl (fun h => ?_) (fun h => ?_)
  · have ho : nd.op = 26 := of_decide_eq_true h
    have hn : stepT t N nd fs (bs sep) = mk [[95]] := by unfold stepT; rw [if_neg (by omega), if_pos (by omega)]
    rw [hn] at hb ⊢
    refine pur ?_
    refine WpO.buildSlice rfl rfl rfl rfl rfl rfl rfl (fun _ => Keeps.none) fun bs1 => ?_
    refine WpO.call Tryz.call116 rfl rfl (mark1L_ct bw _ x _ ⟨#[95]⟩ [95] rfl bs1 _ (by decide) (by first | omega | (simp only [List.length_append, mk_len, List.length_cons, List.length_nil] at hb ⊢; omega))) fun v L' ⟨x1, e⟩ => ⟨Keeps.none, ?_⟩
    subst e
    refine pur ?_
    exact RetNL rfl LeL.drop3 ⟨x1, rfl⟩
  have n26 : ¬ nd.op = 26 := of_decide_eq_false h
  refine pur ?_
  refine Wp.branch rfl (fun h => ?_) (fun h => ?_)
  · have ho : nd.op = 3 := of_decide_eq_true h
    have hn : stepT t N nd fs (bs sep) = [⟨3, [], nd.num, 0⟩] := by unfold stepT; rw [if_neg (by omega), if_neg (by omega), if_pos (by omega)]
    rw [hn] at hb ⊢
    refine pur ?_
    refine Wp.draw rfl [0,1,2,3,4,5,6,7,8,9,10,11,12] 10 10 _ rfl (by decide +kernel) LeL.pick13 ?_
    refine pur ?_
    refine S.build rfl rfl rfl ?_
    refine WpO.buildSlice rfl rfl rfl rfl rfl rfl rfl (fun _ => Keeps.by fun _ s => LeL.pick13 _ s.tail) fun bs1 => ?_
    refine WpO.appendLit 1 [tokRow ⟨3, [], nd.num, 0⟩] rfl rfl rfl rfl (List.length_map ..).symm rfl rfl rfl rfl rfl rfl rfl (by simp at hb ⊢; omega) (fun _ _ => Keeps.by LeL.pick13) fun a2 k2 => ?_
    rw [show ts.map tokRow ++ [tokRow ⟨3, [], nd.num, 0⟩] = (ts ++ [(⟨3, [], nd.num, 0⟩ : Tok)]).map tokRow from by rw [List.map_append]; rfl, List.length_map]
    refine pur ?_
    exact RetNL rfl LeL.drop3 ⟨(a2, k2), rfl⟩
  have n3 : ¬ nd.op = 3 := of_decide_eq_false h
  refine pur ?_
  refine Wp.branch rfl (fun h => ?_) (fun h => ?_)
  · have ho : nd.op = 27 := of_decide_eq_true h
    have hn : stepT t N nd fs (bs sep) = [⟨3, [], nd.num, 0⟩] := by unfold stepT; rw [if_neg (by omega), if_neg (by omega), if_pos (by omega)]
    rw [hn] at hb ⊢
    refine pur ?_
    refine Wp.draw rfl [0,1,2,3,4,5,6,7,8,9,10,11,12] 10 10 _ rfl (by decide +kernel) LeL.pick13 ?_
    refine pur ?_
    refine S.build rfl rfl rfl ?_
    refine WpO.buildSlice rfl rfl rfl rfl rfl rfl rfl (fun _ => Keeps.by fun _ s => LeL.pick13 _ s.tail) fun bs1 => ?_
    refine WpO.appendLit 1 [tokRow ⟨3, [], nd.num, 0⟩] rfl rfl rfl rfl (List.length_map ..).symm rfl rfl rfl rfl rfl rfl rfl (by simp at hb ⊢; omega) (fun _ _ => Keeps.by LeL.pick13) fun a2 k2 => ?_
    rw [show ts.map tokRow ++ [tokRow ⟨3, [], nd.num, 0⟩] = (ts ++ [(⟨3, [], nd.num, 0⟩ : Tok)]).map tokRow from by rw [List.map_append]; rfl, List.length_map]
    refine pur ?_
    exact RetNL rfl LeL.drop3 ⟨(a2, k2), rfl⟩
  have n27 : ¬ nd.op = 27 := of_decide_eq_false h
  refine pur ?_
  refine Wp.branch rfl (fun h => ?_) (fun h => ?_)
  · have ho : nd.op = 4 := of_decide_eq_true h
    have hn : stepT t N nd fs (bs sep) = [⟨4, [], nd.num, 0⟩] := by unfold stepT; rw [if_neg (by omega), if_neg (by omega), if_neg (by omega), if_pos (by omega)]
    rw [hn] at hb ⊢
    refine pur ?_
    refine Wp.draw rfl [0,1,2,3,4,5,6,7,8,9,10,11,12] 10 10 _ rfl (by decide +kernel) LeL.pick13 ?_
    refine pur ?_
    refine S.build rfl rfl rfl ?_
    refine WpO.buildSlice rfl rfl rfl rfl rfl rfl rfl (fun _ => Keeps.by fun _ s => LeL.pick13 _ s.tail) fun bs1 => ?_
    refine WpO.appendLit 1 [tokRow ⟨4, [], nd.num, 0⟩] rfl rfl rfl rfl (List.length_map ..).symm rfl rfl rfl rfl rfl rfl rfl (by simp at hb ⊢; omega) (fun _ _ => Keeps.by LeL.pick13) fun a2 k2 => ?_
    rw [show ts.map tokRow ++ [tokRow ⟨4, [], nd.num, 0⟩] = (ts ++ [(⟨4, [], nd.num, 0⟩ : Tok)]).map tokRow from by rw [List.map_append]; rfl, List.length_map]
    refine pur ?_
    exact RetNL rfl LeL.drop3 ⟨(a2, k2), rfl⟩
  have n4 : ¬ nd.op = 4 := of_decide_eq_false h
  refine pur ?_
  refine Wp.branch rfl (fun h => ?_) (fun h => ?_)
  · have ho : nd.op = 28 := of_decide_eq_true h
    have hn : stepT t N nd fs (bs sep) = [⟨4, [], nd.num, 0⟩] := by unfold stepT; rw [if_neg (by omega), if_neg (by omega), if_neg (by omega), if_pos (by omega)]
    rw [hn] at hb ⊢
    refine pur ?_
    refine Wp.draw rfl [0,1,2,3,4,5,6,7,8,9,10,11,12] 10 10 _ rfl (by decide +kernel) LeL.pick13 ?_
    refine pur ?_
    refine S.build rfl rfl rfl ?_
    refine WpO.buildSlice rfl rfl rfl rfl rfl rfl rfl (fun _ => Keeps.by fun _ s => LeL.pick13 _ s.tail) fun bs1 => ?_
    refine WpO.appendLit 1 [tokRow ⟨4, [], nd.num, 0⟩] rfl rfl rfl rfl (List.length_map ..).symm rfl rfl rfl rfl rfl rfl rfl (by simp at hb ⊢; omega) (fun _ _ => Keeps.by LeL.pick13) fun a2 k2 => ?_
    rw [show ts.map tokRow ++ [tokRow ⟨4, [], nd.num, 0⟩] = (ts ++ [(⟨4, [], nd.num, 0⟩ : Tok)]).map tokRow from by rw [List.map_append]; rfl, List.length_map]
    refine pur ?_
    exact RetNL rfl LeL.drop3 ⟨(a2, k2), rfl⟩
  have n28 : ¬ nd.op = 28 := of_decide_eq_false h
  refine pur ?_
  refine Wp.branch rfl (fun h => ?_) (fun h => ?_)
  · have ho : nd.op = 5 := of_decide_eq_true h
    have hn : stepT t N nd fs (bs sep) = [⟨5, bs nd.text, 0, 0⟩] := by unfold stepT; rw [if_neg (by omega), if_neg (by omega), if_neg (by omega), if_neg (by omega), if_pos (by omega)]
    rw [hn] at hb ⊢
    refine pur ?_
    refine Wp.draw rfl [0,1,2,3,4,5,6,7,8,9,10,11,12] 10 10 _ rfl (by decide +kernel) LeL.pick13 ?_
    refine pur ?_
    refine S.build rfl rfl rfl ?_
    refine WpO.buildSlice rfl rfl rfl rfl rfl rfl rfl (fun _ => Keeps.by fun _ s => LeL.pick13 _ s.tail) fun bs1 => ?_
    refine WpO.appendLit 1 [tokRow ⟨5, bs nd.text, 0, 0⟩] rfl rfl rfl rfl (List.length_map ..).symm rfl rfl (by show _ = _; unfold tokRow; simp only [ofL_bs]; rfl) rfl rfl rfl rfl (by simp at hb ⊢; omega) (fun _ _ => Keeps.by LeL.pick13) fun a2 k2 => ?_
    rw [show ts.map tokRow ++ [tokRow ⟨5, bs nd.text, 0, 0⟩] = (ts ++ [(⟨5, bs nd.text, 0, 0⟩ : Tok)]).map tokRow from by rw [List.map_append]; rfl, List.length_map]
    refine pur ?_
    exact RetNL rfl LeL.drop3 ⟨(a2, k2), rfl⟩
  have n5 : ¬ nd.op = 5 := of_decide_eq_false h
  refine pur ?_
  refine Wp.branch rfl (fun h => ?_) (fun h => ?_)
  · have ho : nd.op = 29 := of_decide_eq_true h
    have hn : stepT t N nd fs (bs sep) = [⟨5, bs nd.text, 0, 0⟩] := by unfold stepT; rw [if_neg (by omega), if_neg (by omega), if_neg (by omega), if_neg (by omega), if_pos (by omega)]
    rw [hn] at hb ⊢
    refine pur ?_
    refine Wp.draw rfl [0,1,2,3,4,5,6,7,8,9,10,11,12] 10 10 _ rfl (by decide +kernel) LeL.pick13 ?_
    refine pur ?_
    refine S.build rfl rfl rfl ?_
    refine WpO.buildSlice rfl rfl rfl rfl rfl rfl rfl (fun _ => Keeps.by fun _ s => LeL.pick13 _ s.tail) fun bs1 => ?_
    refine WpO.appendLit 1 [tokRow ⟨5, bs nd.text, 0, 0⟩] rfl rfl rfl rfl (List.length_map ..).symm rfl rfl (by show _ = _; unfold tokRow; simp only [ofL_bs]; rfl) rfl rfl rfl rfl (by simp at hb ⊢; omega) (fun _ _ => Keeps.by LeL.pick13) fun a2 k2 => ?_
    rw [show ts.map tokRow ++ [tokRow ⟨5, bs nd.text, 0, 0⟩] = (ts ++ [(⟨5, bs nd.text, 0, 0⟩ : Tok)]).map tokRow from by rw [List.map_append]; rfl, List.length_map]
    refine pur ?_
    exact RetNL rfl LeL.drop3 ⟨(a2, k2), rfl⟩
  have n29 : ¬ nd.op = 29 := of_decide_eq_false h
  refine pur ?_
  refine Wp.branch rfl (fun h => ?_) (fun h => ?_)
  · have ho : nd.op = 11 := of_decide_eq_true h
    have hn : stepT t N nd fs (bs sep) = mk [[40]] ++ betweenT N [44] fs ++ mk [[41]] := by unfold stepT; rw [if_neg (by omega), if_neg (by omega), if_neg (by omega), if_neg (by omega), if_neg (by omega), if_pos (by omega)]
    rw [hn] at hb ⊢
    refine pur ?_
    refine WpO.buildSlice rfl rfl rfl rfl rfl rfl rfl (fun _ => Keeps.none) fun bs1 => ?_
    refine WpO.call Tryz.call116 rfl rfl (mark1L_ct bw _ x _ ⟨#[40]⟩ [40] rfl bs1 _ (by decide) (by first | omega | (simp only [List.length_append, mk_len, List.length_cons, List.length_nil] at hb ⊢; omega))) fun v L' ⟨x1, e⟩ => ⟨Keeps.none, ?_⟩
    subst e
    refine pur ?_
    refine S.makeFuncM rfl (.cons rfl (by infer_instance) .nil) .nil ?_
    refine pur ?_
    refine WpO.call Tryz.call117 rfl rfl (betweenL_ct _ _ _ ⟨#[44]⟩ [44] rfl (by decide) C.hN x1 _ _ C.tr.cons C.sl.cons C.fl (by first | omega | (simp only [List.length_append, mk_len, List.length_cons, List.length_nil] at hb ⊢; omega))) fun v L' ⟨x2, e⟩ => ⟨Keeps.none, ?_⟩
    subst e
    refine pur ?_
    refine WpO.buildSlice rfl rfl rfl rfl rfl rfl rfl (fun _ => Keeps.none) fun bs3 => ?_
    refine WpO.call Tryz.call116 rfl rfl (mark1L_ct bw _ x2 _ ⟨#[41]⟩ [41] rfl bs3 _ (by decide) (by first | omega | (simp only [List.length_append, mk_len, List.length_cons, List.length_nil] at hb ⊢; omega))) fun v L' ⟨x3, e⟩ => ⟨Keeps.none, ?_⟩
    subst e
    refine pur ?_
    refine RetNL rfl LeL.drop3 ⟨x3, ?_⟩
    simp only [List.append_assoc]
  have n11 : ¬ nd.op = 11 := of_decide_eq_false h
  refine pur ?_
  refine Wp.branch rfl (fun h => ?_) (fun h => ?_)
  · have ho : nd.op = 31 := of_decide_eq_true h
    have hn : stepT t N nd fs (bs sep) = mk [[40]] ++ betweenT N [44] fs ++ mk [[41]] := by unfold stepT; rw [if_neg (by omega), if_neg (by omega), if_neg (by omega), if_neg (by omega), if_neg (by omega), if_pos (by omega)]
    rw [hn] at hb ⊢
    refine pur ?_
    refine WpO.buildSlice rfl rfl rfl rfl rfl rfl rfl (fun _ => Keeps.none) fun bs1 => ?_
    refine WpO.call Tryz.call116 rfl rfl (mark1L_ct bw _ x _ ⟨#[40]⟩ [40] rfl bs1 _ (by decide) (by first | omega | (simp only [List.length_append, mk_len, List.length_cons, List.length_nil] at hb ⊢; omega))) fun v L' ⟨x1, e⟩ => ⟨Keeps.none, ?_⟩
    subst e
    refine pur ?_
    refine S.makeFuncM rfl (.cons rfl (by infer_instance) .nil) .nil ?_
    refine pur ?_
    refine WpO.call Tryz.call117 rfl rfl (betweenL_ct _ _ _ ⟨#[44]⟩ [44] rfl (by decide) C.hN x1 _ _ C.tr.cons C.sl.cons C.fl (by first | omega | (simp only [List.length_append, mk_len, List.length_cons, List.length_nil] at hb ⊢; omega))) fun v L' ⟨x2, e⟩ => ⟨Keeps.none, ?_⟩
    subst e
    refine pur ?_
    refine WpO.buildSlice rfl rfl rfl rfl rfl rfl rfl (fun _ => Keeps.none) fun bs3 => ?_
    refine WpO.call Tryz.call116 rfl rfl (mark1L_ct bw _ x2 _ ⟨#[41]⟩ [41] rfl bs3 _ (by decide) (by first | omega | (simp only [List.length_append, mk_len, List.length_cons, List.length_nil] at hb ⊢; omega))) fun v L' ⟨x3, e⟩ => ⟨Keeps.none, ?_⟩
    subst e
    refine pur ?_
    refine RetNL rfl LeL.drop3 ⟨x3, ?_⟩
    simp only [List.append_assoc]
  have n31 : ¬ nd.op = 31 := of_decide_eq_false h
  refine pur ?_
  refine Wp.branch rfl (fun h => ?_) (fun h => ?_)
  · have ho : nd.op = 12 := of_decide_eq_true h
    have hn : stepT t N nd fs (bs sep) = mk [[91]] ++ betweenT N [44] fs ++ mk [[93]] := by unfold stepT; rw [if_neg (by omega), if_neg (by omega), if_neg (by omega), if_neg (by omega), if_neg (by omega), if_neg (by omega), if_pos (by omega)]
    rw [hn] at hb ⊢
    refine pur ?_
    refine WpO.buildSlice rfl rfl rfl rfl rfl rfl rfl (fun _ => Keeps.none) fun bs1 => ?_
    refine WpO.call Tryz.call116 rfl rfl (mark1L_ct bw _ x _ ⟨#[91]⟩ [91] rfl bs1 _ (by decide) (by first | omega | (simp only [List.length_append, mk_len, List.length_cons, List.length_nil] at hb ⊢; omega))) fun v L' ⟨x1, e⟩ => ⟨Keeps.none, ?_⟩
    subst e
    refine pur ?_
    refine S.makeFuncM rfl (.cons rfl (by infer_instance) .nil) .nil ?_
    refine pur ?_
    refine WpO.call Tryz.call117 rfl rfl (betweenL_ct _ _ _ ⟨#[44]⟩ [44] rfl (by decide) C.hN x1 _ _ C.tr.cons C.sl.cons C.fl (by first | omega | (simp only [List.length_append, mk_len, List.length_cons, List.length_nil] at hb ⊢; omega))) fun v L' ⟨x2, e⟩ => ⟨Keeps.none, ?_⟩
    subst e
    refine pur ?_
    refine WpO.buildSlice rfl rfl rfl rfl rfl rfl rfl (fun _ => Keeps.none) fun bs3 => ?_
    refine WpO.call Tryz.call116 rfl rfl (mark1L_ct bw _ x2 _ ⟨#[93]⟩ [93] rfl bs3 _ (by decide) (by first | omega | (simp only [List.length_append, mk_len, List.length_cons, List.length_nil] at hb ⊢; omega))) fun v L' ⟨x3, e⟩ => ⟨Keeps.none, ?_⟩
    subst e
    refine pur ?_
    refine RetNL rfl LeL.drop3 ⟨x3, ?_⟩
    simp only [List.append_assoc]
  have n12 : ¬ nd.op = 12 := of_decide_eq_false h
  refine pur ?_
  refine Wp.branch rfl (fun h => ?_) (fun h => ?_)
  · have ho : nd.op = 32 := of_decide_eq_true h
    have hn : stepT t N nd fs (bs sep) = mk [[91]] ++ betweenT N [44] fs ++ mk [[93]] := by unfold stepT; rw [if_neg (by omega), if_neg (by omega), if_neg (by omega), if_neg (by omega), if_neg (by omega), if_neg (by omega), if_pos (by omega)]
    rw [hn] at hb ⊢
    refine pur ?_
    refine WpO.buildSlice rfl rfl rfl rfl rfl rfl rfl (fun _ => Keeps.none) fun bs1 => ?_
    refine WpO.call Tryz.call116 rfl rfl (mark1L_ct bw _ x _ ⟨#[91]⟩ [91] rfl bs1 _ (by decide) (by first | omega | (simp only [List.length_append, mk_len, List.length_cons, List.length_nil] at hb ⊢; omega))) fun v L' ⟨x1, e⟩ => ⟨Keeps.none, ?_⟩
    subst e
    refine pur ?_
    refine S.makeFuncM rfl (.cons rfl (by infer_instance) .nil) .nil ?_
    refine pur ?_
    refine WpO.call Tryz.call117 rfl rfl (betweenL_ct _ _ _ ⟨#[44]⟩ [44] rfl (by decide) C.hN x1 _ _ C.tr.cons C.sl.cons C.fl (by first | omega | (simp only [List.length_append, mk_len, List.length_cons, List.length_nil] at hb ⊢; omega))) fun v L' ⟨x2, e⟩ => ⟨Keeps.none, ?_⟩
    subst e
    refine pur ?_
    refine WpO.buildSlice rfl rfl rfl rfl rfl rfl rfl (fun _ => Keeps.none) fun bs3 => ?_
    refine WpO.call Tryz.call116 rfl rfl (mark1L_ct bw _ x2 _ ⟨#[93]⟩ [93] rfl bs3 _ (by decide) (by first | omega | (simp only [List.length_append, mk_len, List.length_cons, List.length_nil] at hb ⊢; omega))) fun v L' ⟨x3, e⟩ => ⟨Keeps.none, ?_⟩
    subst e
    refine pur ?_
    refine RetNL rfl LeL.drop3 ⟨x3, ?_⟩
    simp only [List.append_assoc]
  have n32 : ¬ nd.op = 32 := of_decide_eq_false h
  refine pur ?_
  refine Wp.branch rfl (fun h => ?_) (fun h => ?_)
  · have ho : nd.op = 30 := of_decide_eq_true h
    have hn : stepT t N nd fs (bs sep) = namedT t N nd.op (bs nd.text) fs := by unfold stepT; rw [if_neg (by omega), if_neg (by omega), if_neg (by omega), if_neg (by omega), if_neg (by omega), if_neg (by omega), if_neg (by omega), if_pos (by omega)]
    rw [hn] at hb ⊢
    refine pur ?_
    refine S.loadN (vs := [.int .i64 nd.op, .string nd.text, .int .i64 nd.num, .slice ka fs.length kc]) rfl rfl (Ent.pt 2 4 rfl rfl) rfl ?_
    refine pur ?_
    refine WpO.call Tryz.call118 rfl rfl (wnamed_ct nd.op nd.num nd.text hLy htx (by omega) C.cons x ts hb) fun v L' ⟨x1, e⟩ => ⟨Keeps.none, ?_⟩
    subst e
    refine pur ?_
    exact RetNL rfl LeL.drop3 ⟨x1, rfl⟩
  have n30 : ¬ nd.op = 30 := of_decide_eq_false h
  refine pur ?_
  refine Wp.branch rfl (fun h => ?_) (fun h => ?_)
  · have ho : nd.op = 24 := of_decide_eq_true h
    have hn : stepT t N nd fs (bs sep) = namedT t N nd.op (bs nd.text) fs := by unfold stepT; rw [if_neg (by omega), if_neg (by omega), if_neg (by omega), if_neg (by omega), if_neg (by omega), if_neg (by omega), if_neg (by omega), if_pos (by omega)]
    rw [hn] at hb ⊢
    refine pur ?_
    refine S.loadN (vs := [.int .i64 nd.op, .string nd.text, .int .i64 nd.num, .slice ka fs.length kc]) rfl rfl (Ent.pt 2 4 rfl rfl) rfl ?_
    refine pur ?_
    refine WpO.call Tryz.call118 rfl rfl (wnamed_ct nd.op nd.num nd.text hLy htx (by omega) C.cons x ts hb) fun v L' ⟨x1, e⟩ => ⟨Keeps.none, ?_⟩
    subst e
    refine pur ?_
    exact RetNL rfl LeL.drop3 ⟨x1, rfl⟩
  have n24 : ¬ nd.op = 24 := of_decide_eq_false h
  refine pur ?_
  refine Wp.branch rfl (fun h => ?_) (fun h => ?_)
  · have ho : nd.op = 22 := of_decide_eq_true h
    have hn : stepT t N nd fs (bs sep) = namedT t N nd.op (bs nd.text) fs := by unfold stepT; rw [if_neg (by omega), if_neg (by omega), if_neg (by omega), if_neg (by omega), if_neg (by omega), if_neg (by omega), if_neg (by omega), if_pos (by omega)]
    rw [hn] at hb ⊢
    refine pur ?_
    refine S.loadN (vs := [.int .i64 nd.op, .string nd.text, .int .i64 nd.num, .slice ka fs.length kc]) rfl rfl (Ent.pt 2 4 rfl rfl) rfl ?_
    refine pur ?_
    refine WpO.call Tryz.call118 rfl rfl (wnamed_ct nd.op nd.num nd.text hLy htx (by omega) C.cons x ts hb) fun v L' ⟨x1, e⟩ => ⟨Keeps.none, ?_⟩
    subst e
    refine pur ?_
    exact RetNL rfl LeL.drop3 ⟨x1, rfl⟩
  have n22 : ¬ nd.op = 22 := of_decide_eq_false h
  refine pur ?_
  refine Wp.branch rfl (fun h => ?_) (fun h => ?_)
  · have ho : nd.op = 21 := of_decide_eq_true h
    have hn : stepT t N nd fs (bs sep) = namedT t N nd.op (bs nd.text) fs := by unfold stepT; rw [if_neg (by omega), if_neg (by omega), if_neg (by omega), if_neg (by omega), if_neg (by omega), if_neg (by omega), if_neg (by omega), if_pos (by omega)]
    rw [hn] at hb ⊢
    refine pur ?_
    refine S.loadN (vs := [.int .i64 nd.op, .string nd.text, .int .i64 nd.num, .slice ka fs.length kc]) rfl rfl (Ent.pt 2 4 rfl rfl) rfl ?_
    refine pur ?_
    refine WpO.call Tryz.call118 rfl rfl (wnamed_ct nd.op nd.num nd.text hLy htx (by omega) C.cons x ts hb) fun v L' ⟨x1, e⟩ => ⟨Keeps.none, ?_⟩
    subst e
    refine pur ?_
    exact RetNL rfl LeL.drop3 ⟨x1, rfl⟩
  have n21 : ¬ nd.op = 21 := of_decide_eq_false h
  refine pur ?_
  refine Wp.branch rfl (fun h => ?_) (fun h => ?_)
  · have ho : nd.op = 6 := of_decide_eq_true h
    have hn : stepT t N nd fs (bs sep) = exprT t N nd.op (bs nd.text) fs := by unfold stepT; rw [if_neg (by omega), if_neg (by omega), if_neg (by omega), if_neg (by omega), if_neg (by omega), if_neg (by omega), if_neg (by omega), if_neg (by omega), if_pos (by omega)]
    rw [hn] at hb ⊢
    refine pur ?_
    refine S.loadN (vs := [.int .i64 nd.op, .string nd.text, .int .i64 nd.num, .slice ka fs.length kc]) rfl rfl (Ent.pt 2 4 rfl rfl) rfl ?_
    refine pur ?_
    refine WpO.call Tryz.call119 rfl rfl (wexpr_ct nd.op nd.num nd.text hLy htx C.cons x ts hb) fun v L' ⟨x1, e⟩ => ⟨Keeps.none, ?_⟩
    subst e
    refine pur ?_
    exact RetNL rfl LeL.drop3 ⟨x1, rfl⟩
  have n6 : ¬ nd.op = 6 := of_decide_eq_false h
  refine pur ?_
  refine Wp.branch rfl (fun h => ?_) (fun h => ?_)
  · have ho : nd.op = 7 := of_decide_eq_true h
    have hn : stepT t N nd fs (bs sep) = exprT t N nd.op (bs nd.text) fs := by unfold stepT; rw [if_neg (by omega), if_neg (by omega), if_neg (by omega), if_neg (by omega), if_neg (by omega), if_neg (by omega), if_neg (by omega), if_neg (by omega), if_pos (by omega)]
    rw [hn] at hb ⊢
    refine pur ?_
    refine S.loadN (vs := [.int .i64 nd.op, .string nd.text, .int .i64 nd.num, .slice ka fs.length kc]) rfl rfl (Ent.pt 2 4 rfl rfl) rfl ?_
    refine pur ?_
    refine WpO.call Tryz.call119 rfl rfl (wexpr_ct nd.op nd.num nd.text hLy htx C.cons x ts hb) fun v L' ⟨x1, e⟩ => ⟨Keeps.none, ?_⟩
    subst e
    refine pur ?_
    exact RetNL rfl LeL.drop3 ⟨x1, rfl⟩
  have n7 : ¬ nd.op = 7 := of_decide_eq_false h
  refine pur ?_
  refine Wp.branch rfl (fun h => ?_) (fun h => ?_)
  · have ho : nd.op = 8 := of_decide_eq_true h
    have hn : stepT t N nd fs (bs sep) = exprT t N nd.op (bs nd.text) fs := by unfold stepT; rw [if_neg (by omega), if_neg (by omega), if_neg (by omega), if_neg (by omega), if_neg (by omega), if_neg (by omega), if_neg (by omega), if_neg (by omega), if_pos (by omega)]
    rw [hn] at hb ⊢
    refine pur ?_
    refine S.loadN (vs := [.int .i64 nd.op, .string nd.text, .int .i64 nd.num, .slice ka fs.length kc]) rfl rfl (Ent.pt 2 4 rfl rfl) rfl ?_
    refine pur ?_
    refine WpO.call Tryz.call119 rfl rfl (wexpr_ct nd.op nd.num nd.text hLy htx C.cons x ts hb) fun v L' ⟨x1, e⟩ => ⟨Keeps.none, ?_⟩
    subst e
    refine pur ?_
    exact RetNL rfl LeL.drop3 ⟨x1, rfl⟩
  have n8 : ¬ nd.op = 8 := of_decide_eq_false h
  refine pur ?_
  refine Wp.branch rfl (fun h => ?_) (fun h => ?_)
  · have ho : nd.op = 9 := of_decide_eq_true h
    have hn : stepT t N nd fs (bs sep) = exprT t N nd.op (bs nd.text) fs := by unfold stepT; rw [if_neg (by omega), if_neg (by omega), if_neg (by omega), if_neg (by omega), if_neg (by omega), if_neg (by omega), if_neg (by omega), if_neg (by omega), if_pos (by omega)]
    rw [hn] at hb ⊢
    refine pur ?_
    refine S.loadN (vs := [.int .i64 nd.op, .string nd.text, .int .i64 nd.num, .slice ka fs.length kc]) rfl rfl (Ent.pt 2 4 rfl rfl) rfl ?_
    refine pur ?_
    refine WpO.call Tryz.call119 rfl rfl (wexpr_ct nd.op nd.num nd.text hLy htx C.cons x ts hb) fun v L' ⟨x1, e⟩ => ⟨Keeps.none, ?_⟩
    subst e
    refine pur ?_
    exact RetNL rfl LeL.drop3 ⟨x1, rfl⟩
  have n9 : ¬ nd.op = 9 := of_decide_eq_false h
  refine pur ?_
  refine Wp.branch rfl (fun h => ?_) (fun h => ?_)
  · have ho : nd.op = 10 := of_decide_eq_true h
    have hn : stepT t N nd fs (bs sep) = exprT t N nd.op (bs nd.text) fs := by unfold stepT; rw [if_neg (by omega), if_neg (by omega), if_neg (by omega), if_neg (by omega), if_neg (by omega), if_neg (by omega), if_neg (by omega), if_neg (by omega), if_pos (by omega)]
    rw [hn] at hb ⊢
    refine pur ?_
    refine S.loadN (vs := [.int .i64 nd.op, .string nd.text, .int .i64 nd.num, .slice ka fs.length kc]) rfl rfl (Ent.pt 2 4 rfl rfl) rfl ?_
    refine pur ?_
    refine WpO.call Tryz.call119 rfl rfl (wexpr_ct nd.op nd.num nd.text hLy htx C.cons x ts hb) fun v L' ⟨x1, e⟩ => ⟨Keeps.none, ?_⟩
    subst e
    refine pur ?_
    exact RetNL rfl LeL.drop3 ⟨x1, rfl⟩
  have n10 : ¬ nd.op = 10 := of_decide_eq_false h
  refine pur ?_
  refine Wp.branch rfl (fun h => ?_) (fun h => ?_)
  · have ho : nd.op = 13 := of_decide_eq_true h
    have hn : stepT t N nd fs (bs sep) = exprT t N nd.op (bs nd.text) fs := by unfold stepT; rw [if_neg (by omega), if_neg (by omega), if_neg (by omega), if_neg (by omega), if_neg (by omega), if_neg (by omega), if_neg (by omega), if_neg (by omega), if_pos (by omega)]
    rw [hn] at hb ⊢
    refine pur ?_
    refine S.loadN (vs := [.int .i64 nd.op, .string nd.text, .int .i64 nd.num, .slice ka fs.length kc]) rfl rfl (Ent.pt 2 4 rfl rfl) rfl ?_
    refine pur ?_
    refine WpO.call Tryz.call119 rfl rfl (wexpr_ct nd.op nd.num nd.text hLy htx C.cons x ts hb) fun v L' ⟨x1, e⟩ => ⟨Keeps.none, ?_⟩
    subst e
    refine pur ?_
    exact RetNL rfl LeL.drop3 ⟨x1, rfl⟩
  have n13 : ¬ nd.op = 13 := of_decide_eq_false h
  refine pur ?_
  have hn : stepT t N nd fs (bs sep) = partT t N nd.op (bs nd.text) fs (bs sep) := by unfold stepT; rw [if_neg (by omega), if_neg (by omega), if_neg (by omega), if_neg (by omega), if_neg (by omega), if_neg (by omega), if_neg (by omega), if_neg (by omega), if_neg (by omega)]
  rw [hn] at hb ⊢
  refine S.loadN (vs := [.int .i64 nd.op, .string nd.text, .int .i64 nd.num, .slice ka fs.length kc]) rfl rfl (Ent.pt 2 4 rfl rfl) rfl ?_
  refine pur ?_
  refine WpO.call Tryz.call120 rfl rfl (wpart_ct nd.op nd.num nd.text sep hLy htx hsep C.cons x ts hb) fun v L' ⟨x1, e⟩ => ⟨Keeps.none, ?_⟩
  subst e
  refine pur ?_
  exact RetNL rfl LeL.drop3 ⟨x1, rfl⟩
theorem node_all {t : List Nd} {a : Option Addr} {c bw : Nat} (hs : Sound t t.length) (hsm : Small t) : ∀ (f i : Nat), i < f → i < t.length → NodeOk t a c bw (nodeT t f) i
  | 0, _, h, _ => absurd h (by omega)
  | f + 1, i, h, hi => node_step hs hsm hi fun j hj => node_all hs hsm f j (by omega) (by omega)
end Go.Proofs.YtikgokpbhldlnaaGreatDoor
end
section
/- The shelf's contract of strconv.Itoa, laid at this program (the table was read off by the kit's own command, at home). -/
namespace Go.Proofs.YtikgokpbhldlnaaGreatDoor
open Go Go.Shelf Go.Proofs Go.RowKit Go.Ab
def lays171_ren : Ren := {
  f := fun x => match x with
    | 171 => 111
    | 243 => 170
    | 246 => 205
    | 283 => 223
    | 284 => 224
    | 285 => 225
    | 286 => 226
    | 129 => 233
    | 317 => 232
    | 318 => 234
    | 319 => 235
    | 320 => 236
    | 337 => 241
    | 338 => 242
    | n => n
  t := fun x => match x with
    | 3 => 3
    | 9 => 9
    | 2 => 2
    | 4 => 4
    | 171 => 191
    | 0 => 0
    | 53 => 166
    | 37 => 64
    | 5 => 5
    | 173 => 194
    | 212 => 200
    | 51 => 163
    | 20 => 20
    | 213 => 201
    | 46 => 145
    | 232 => 204
    | 233 => 205
    | n => n
  g := fun x => match x with
    | 17 => 3
    | 18 => 4
    | 19 => 5
    | n => n }
theorem lays171 : LaysM.n171 Tryz.prog lays171_ren where
  mixed := by kernel_rfl
  f129 := Tryz.func233.trans (by kernel_rfl)
  f171 := Tryz.func111.trans (by kernel_rfl)
  f243 := Tryz.func170.trans (by kernel_rfl)
  f246 := Tryz.func205.trans (by kernel_rfl)
  f283 := Tryz.func223.trans (by kernel_rfl)
  f284 := Tryz.func224.trans (by kernel_rfl)
  f285 := Tryz.func225.trans (by kernel_rfl)
  f286 := Tryz.func226.trans (by kernel_rfl)
  f317 := Tryz.func232.trans (by kernel_rfl)
  f318 := Tryz.func234.trans (by kernel_rfl)
  f319 := Tryz.func235.trans (by kernel_rfl)
  f320 := Tryz.func236.trans (by kernel_rfl)
  f337 := Tryz.func241.trans (by kernel_rfl)
  f338 := Tryz.func242.trans (by kernel_rfl)
  t0 := Tryz.underlying0
  a0 := Tryz.isAgg0
  z0 := Tryz.sizeOf0
  v0 := Tryz.zeroValue0
  t2 := Tryz.underlying2
  a2 := Tryz.isAgg2
  z2 := Tryz.sizeOf2
  v2 := Tryz.zeroValue2
  t3 := Tryz.underlying3
  a3 := Tryz.isAgg3
  z3 := Tryz.sizeOf3
  v3 := Tryz.zeroValue3
  t4 := Tryz.underlying4
  a4 := Tryz.isAgg4
  z4 := Tryz.sizeOf4
  v4 := Tryz.zeroValue4
  t5 := Tryz.underlying5
  a5 := Tryz.isAgg5
  z5 := Tryz.sizeOf5
  v5 := Tryz.zeroValue5
  t9 := Tryz.underlying9
  a9 := Tryz.isAgg9
  z9 := Tryz.sizeOf9
  v9 := Tryz.zeroValue9
  t20 := Tryz.underlying20
  a20 := Tryz.isAgg20
  z20 := Tryz.sizeOf20
  v20 := Tryz.zeroValue20
  t37 := Tryz.underlying64
  a37 := Tryz.isAgg64
  z37 := Tryz.sizeOf64
  v37 := Tryz.zeroValue64
  t46 := Tryz.underlying145
  a46 := Tryz.isAgg145
  z46 := Tryz.sizeOf145
  v46 := Tryz.zeroValue145
  t51 := Tryz.underlying163
  a51 := Tryz.isAgg163
  z51 := Tryz.sizeOf163
  v51 := Tryz.zeroValue163
  t53 := Tryz.underlying166
  a53 := Tryz.isAgg166
  z53 := Tryz.sizeOf166
  v53 := Tryz.zeroValue166
  t171 := Tryz.underlying191
  a171 := Tryz.isAgg191
  z171 := Tryz.sizeOf191
  v171 := Tryz.zeroValue191
  t173 := Tryz.underlying194
  a173 := Tryz.isAgg194
  z173 := Tryz.sizeOf194
  v173 := Tryz.zeroValue194
  t212 := Tryz.underlying200
  a212 := Tryz.isAgg200
  z212 := Tryz.sizeOf200
  v212 := Tryz.zeroValue200
  t213 := Tryz.underlying201
  a213 := Tryz.isAgg201
  z213 := Tryz.sizeOf201
  t232 := Tryz.underlying204
  a232 := Tryz.isAgg204
  z232 := Tryz.sizeOf204
  v232 := Tryz.zeroValue204
  t233 := Tryz.underlying205
  a233 := Tryz.isAgg205
  z233 := Tryz.sizeOf205
  v233 := Tryz.zeroValue205
  g17 := by kernel_rfl
  g18 := by kernel_rfl
  g19 := by kernel_rfl
  i0 := by kernel_rfl
  i2 := by kernel_rfl
  i3 := by kernel_rfl
  i4 := by kernel_rfl
  i5 := by kernel_rfl
  i9 := by kernel_rfl
  i20 := by kernel_rfl
  i37 := by kernel_rfl
  i46 := by kernel_rfl
  i51 := by kernel_rfl
  i53 := by kernel_rfl
  i171 := by kernel_rfl
  i173 := by kernel_rfl
  i212 := by kernel_rfl
  i232 := by kernel_rfl
  i233 := by kernel_rfl
  m17 := by kernel_rfl
  m18 := by kernel_rfl
  m19 := by kernel_rfl
/-- The memory has the table of powers of ten. -/
def TabL (L : List Assn) : Prop := ∀ w, Sat (hp w) L → Lib.TabIs Tryz.prog w "internal/strconv.uint64pow10" .u64 Lib.pow10Tab
theorem TabL.wk {L L' : List Assn} (h : TabL L) (hL : LeL L' L) : TabL L' := fun w hw => h w (hL _ hw)
theorem TabL.cons {L : List Assn} {A : Assn} (h : TabL L) : TabL (A :: L) := h.wk fun _ s => s.tail
theorem itoa_ct (n : Int) (h0 : 0 ≤ n) (h1 : n ≤ 9223372036854775807) (L : List Assn) (hT : TabL L) : Ct Tryz.prog 111 #[.int .i64 n] L (ret fun v L' => v = .string (ofL (Lib.decDigits n.toNat)) ∧ L' = L) := fun w hw =>
  (Any.strconv_Itoa lays171 n (by omega) h1 w (hT w hw)).mono fun e w' ⟨e1, k, os, e2⟩ => by
    subst e1; subst e2
    refine ⟨nofun, L, ⟨?_, rfl⟩, Sat.mono (k := hp w) ⟨?_, rfl⟩ hw⟩
    · unfold Lib.itoa; rw [if_neg (by omega)]; rfl
    · intro b o e
      have e : hp w b = some o := e
      show (Go.Sort.grow (w.drewN k) os).heap[b]? = some o
      rw [Lib.heap_grow_old w k os b (lt_of_hp e)]; exact e
end Go.Proofs.YtikgokpbhldlnaaGreatDoor
end
section
namespace Go.Proofs.YtikgokpbhldlnaaGreatDoor
open Go Go.Shelf Go.Proofs Go.RowKit Go.Ab
/-! ## strings.Builder -/
theorem x72 : Builder.X72 Tryz.prog lays105_ren := extra105.toX72
theorem l240 : Lays.n240 Tryz.prog lays105_ren := { lays105 with }
theorem copyCheck_ct (b : Nat) (p : Option Addr) (hp0 : p = none ∨ p = some ⟨b, 0, none⟩) (v : Value) (L : List Assn) :
    Ct Tryz.prog 114 #[.pointer (some ⟨b, 0, none⟩)] (ptA b 87 [.pointer p, v] :: L) (ret fun _ L' => L' = ptA b 87 [.pointer (some ⟨b, 0, none⟩), v] :: L) := fun w hw => by
  obtain ⟨h, hle, ha, _⟩ := id hw
  have hb : w.heap[b]? = some (.cells #[.pointer p, v] 87 (0, 0)) := hle _ _ ha
  have hbs := lt_of_hp (w := w) (hle _ _ ha)
  have hc : w.cell? ⟨b, 0, none⟩ = some (.pointer p) := by simp [World.cell?, hb]
  rcases hp0 with rfl | rfl
  · refine (Any.Builder_copyCheck_fresh l240 x72 b w hc (by simp [World.shape?, hb]; rfl) (by simp [World.frozen?, hb])).mono fun e w' ⟨e1, e2⟩ => ?_
    subst e1; subst e2
    refine ⟨nofun, _, rfl, ?_⟩
    have hx : ∀ x, x ≠ b → hp (w.setCell ⟨b, 0, none⟩ (.pointer (some ⟨b, 0, none⟩))) x = hp w x := fun x hx => by
      show (w.setCell ⟨b, 0, none⟩ (.pointer (some ⟨b, 0, none⟩))).heap[x]? = w.heap[x]?
      simp only [World.setCell, Array.getElem?_modify]
      rw [if_neg (Ne.symm hx)]
    have hbb : hp (w.setCell ⟨b, 0, none⟩ (.pointer (some ⟨b, 0, none⟩))) b = some (.cells #[.pointer (some ⟨b, 0, none⟩), v] 87 (0, 0)) := by
      show (w.setCell ⟨b, 0, none⟩ (.pointer (some ⟨b, 0, none⟩))).heap[b]? = _
      simp [World.setCell, Array.getElem?_modify, hb]
    refine Sat.turn (b := b) hw (fun h' ha' => ⟨_, ha'⟩) hx (fun h' _ _ => ?_) (by rw [hbb]; rfl)
    show (if b = b then hp _ b else h' b) = _
    rw [if_pos rfl, hbb]
  · refine (Any.Builder_copyCheck_used l240 x72 b w hc).mono fun e w' ⟨e1, e2⟩ => ?_
    subst e1; subst e2
    exact ⟨nofun, _, rfl, hw⟩
attribute [local irreducible] Wp WpO Qt OpT Ct Ent
/-- A builder at b that holds l. -/
@[reducible] def bm (b : Nat) (p : Option Addr) (x : Option Addr × Nat) (l : List UInt8) (L : List Assn) : List Assn :=
  ptA b 87 [.pointer p, .slice x.1 l.length x.2] :: ownA 5 1 x.1 x.2 (u8s l) :: L
theorem u8s_app (l r : List UInt8) : u8s l ++ u8s r = u8s (l ++ r) := by simp [u8s]
set_option maxHeartbeats 1000000 in
theorem writeByte_ct (b : Nat) (p : Option Addr) (hp0 : p = none ∨ p = some ⟨b, 0, none⟩) (x : Option Addr × Nat) (l : List UInt8) (ch : UInt8) (L : List Assn) (hl : l.length ≤ 1099511627775) :
    Ct Tryz.prog 54 #[.pointer (some ⟨b, 0, none⟩), .int .u8 ch.toNat] (bm b p x l L) (ret fun v L' => v = .nilIface ∧ ∃ x', L' = bm b (some ⟨b, 0, none⟩) x' (l ++ [ch]) L) := by
  refine Ct.body Tryz.func54 rfl Tryz.ntmps54 Tryz.results54 rfl ?_
  refine pur ?_
  refine WpO.call Tryz.call114 rfl rfl (copyCheck_ct b p hp0 _ _) fun v L' e => ⟨Keeps.none, ?_⟩
  subst e
  refine pur ?_
  refine WpO.buildSlice rfl rfl rfl rfl rfl rfl rfl (fun _ => Keeps.none) fun bs1 => ?_
  refine WpO.appendLit 1 [[.int .u8 (ch.toNat : Int)]] rfl rfl rfl rfl (u8s_length l).symm rfl rfl rfl rfl rfl rfl rfl (by rw [u8s_length]; simp; omega) (fun _ _ => Keeps.none) fun a2 k2 => ?_
  rw [show u8s l ++ [[Value.int .u8 (ch.toNat : Int)]] = u8s (l ++ [ch]) from u8s_app l [ch], u8s_length]
  refine pur ?_
  exact Wp.ret (Ret 0 rfl ⟨rfl, (a2, k2), rfl⟩)
set_option maxHeartbeats 1000000 in
theorem writeString_ct (b : Nat) (p : Option Addr) (hp0 : p = none ∨ p = some ⟨b, 0, none⟩) (x : Option Addr × Nat) (l : List UInt8) (s : ByteArray) (L : List Assn) (hl : l.length + (bs s).length ≤ 1099511627776) :
    Ct Tryz.prog 55 #[.pointer (some ⟨b, 0, none⟩), .string s] (bm b p x l L) (ret fun v L' => v = .tuple #[.int .i64 (bs s).length, .nilIface] ∧ ∃ x', L' = bm b (some ⟨b, 0, none⟩) x' (l ++ bs s) L) := by
  refine Ct.body Tryz.func55 rfl Tryz.ntmps55 Tryz.results55 rfl ?_
  refine pur ?_
  refine WpO.call Tryz.call114 rfl rfl (copyCheck_ct b p hp0 _ _) fun v L' e => ⟨Keeps.none, ?_⟩
  subst e
  refine pur ?_
  refine WpO.appendS 1 rfl rfl rfl rfl (u8s_length l).symm rfl rfl (by rw [u8s_length]; omega) (fun _ _ => Keeps.none) fun a2 k2 => ?_
  rw [u8s_app, u8s_length]
  refine pur ?_
  exact Wp.ret (Ret 0 rfl ⟨rfl, (a2, k2), rfl⟩)
theorem uc : Tryz.prog.cellsOf 5 = 1 := by kernel_rfl
set_option maxHeartbeats 1000000 in
theorem bstring_ct (b : Nat) (p : Option Addr) (x : Option Addr × Nat) (l : List UInt8) (L : List Assn) (hx : x.1 = none ∨ x.2 ≠ 0) (hl : l.length ≤ 1099511627776) :
    Ct Tryz.prog 56 #[.pointer (some ⟨b, 0, none⟩)] (bm b p x l L) (ret fun v L' => v = .string (ofL l) ∧ L' = L) := by
  refine Ct.body Tryz.func56 rfl Tryz.ntmps56 Tryz.results56 rfl ?_
  refine pur ?_
  refine Wp.draw rfl [0,1,2,3,5,6,7,8,9,4,10,11] 11 11 [ptA b 87 [.pointer p, .slice x.1 l.length x.2]] rfl (by decide +kernel) (fun _ s => Sat.take (M := [_]) s) ?_
  refine pur ?_
  refine WpO.sliceData rfl rfl hx (Keeps.by fun _ s => Sat.take (M := [_]) s) ?_
  refine pur ?_
  refine WpO.unsafeStr l 1 rfl rfl rfl rfl Tryz.underlying135 uc (by omega) (Keeps.by fun _ s => Sat.take (M := [_]) s) ?_
  refine pur ?_
  exact Wp.ret (Ret 1 rfl ⟨rfl, rfl⟩)
end Go.Proofs.YtikgokpbhldlnaaGreatDoor
end
section
namespace Go.Proofs.YtikgokpbhldlnaaGreatDoor
open Go Go.Ab
attribute [local irreducible] Wp WpO Qt OpT Ct Ent
theorem isMark_ct (s : ByteArray) (L : List Assn) (hm : bs s ∈ isMarkL) : Ct Tryz.prog 100 #[.string s] L (ret fun v L' => v = .bool true ∧ L' = L) := by
  refine Ct.body Tryz.func100 rfl Tryz.ntmps100 Tryz.results100 rfl ?_
  iterate 13
    refine pur ?_
    refine Wp.branch rfl (fun h => ?_) (fun h => ?_)
    · refine pur ?_
      exact Wp.ret (Ret 0 rfl ⟨rfl, rfl⟩)
  exfalso
  simp only [decide_eq_false_iff_not] at *
  simp only [isMarkL, List.mem_cons, List.not_mem_nil, or_false] at hm
  rcases hm with q | q | q | q | q | q | q | q | q | q | q | q | q <;> contradiction
theorem isOp_ct (s : ByteArray) (L : List Assn) (hm : bs s ∈ opTexts) : Ct Tryz.prog 101 #[.string s] L (ret fun v L' => v = .bool true ∧ L' = L) := by
  refine Ct.body Tryz.func101 rfl Tryz.ntmps101 Tryz.results101 rfl ?_
  iterate 14
    refine pur ?_
    refine Wp.branch rfl (fun h => ?_) (fun h => ?_)
    · refine pur ?_
      exact Wp.ret (Ret 0 rfl ⟨rfl, rfl⟩)
  exfalso
  simp only [decide_eq_false_iff_not] at *
  simp only [opTexts, opList, List.map_cons, List.map_nil, List.mem_cons, List.not_mem_nil, or_false] at hm
  rcases hm with q | q | q | q | q | q | q | q | q | q | q | q | q | q <;> contradiction
/-- slices.Index, of integers. -/
theorem index_ct (xs : List Int) (a : Option Addr) (c : Nat) (v : Int) (L : List Assn) (hS : Sl L a c 1 (ints xs)) (hx : xs.length < 1073741824) :
    Ct Tryz.prog 171 #[.slice a xs.length c, .int .i64 v] L (ret fun r L' => (∃ k : Int, r = .int .i64 k ∧ decide (0 ≤ k) = decide (v ∈ xs)) ∧ L' = L) := by
  refine Ct.body Tryz.func171 rfl Tryz.ntmps171 Tryz.results171 rfl ?_
  refine pur ?_
  refine Wp.loopI (α := Nat) 0 (fun i => [(0, .v (.slice a xs.length c)), (1, .v (.int .i64 v)), (7, .v (.int .i64 xs.length)), (8, .v (.int .i64 i))]) (fun _ => L) (fun i => xs.length - i) (fun i => i ≤ xs.length ∧ v ∉ xs.take i) ⟨Nat.zero_le _, by simp⟩ ⟨rfl, rfl, rfl, rfl, trivial⟩ (LeL.refl _) ?_
  rintro i ⟨hi, hn⟩
  refine pur ?_
  refine Wp.branch rfl (fun h => ?_) (fun h => ?_)
  · have hix := lt_len h
    have hg := List.getElem?_eq_getElem hix
    generalize xs[i] = z at hg
    obtain ⟨b, o, rfl, hE⟩ := ints_at hS hg
    refine pur ?_
    refine S.idx i rfl rfl rfl rfl hix ?_
    refine pur ?_
    refine Wp.branch rfl (fun h2 => ?_) (fun h2 => ?_)
    · have he : v = z := of_decide_eq_true h2
      refine pur ?_
      refine Wp.ret (Ret 0 rfl ⟨⟨(i : Int), rfl, ?_⟩, rfl⟩)
      rw [decide_eq_true (by omega), decide_eq_true (by rw [he]; exact List.mem_of_getElem? hg)]
    · have he : ¬ v = z := of_decide_eq_false h2
      refine pur ?_
      refine Round.mk (i + 1) (by omega) ⟨hix, ?_⟩ ⟨rfl, rfl, rfl, inc_e (by omega), trivial⟩ (LeL.refl _)
      rw [List.take_add_one, hg]
      simp [hn, he]
  · have hin : xs.length ≤ i := by have := of_decide_eq_false h; omega
    rw [List.take_of_length_le hin] at hn
    refine pur ?_
    refine Wp.ret (Ret 0 rfl ⟨⟨-1, rfl, ?_⟩, rfl⟩)
    rw [decide_eq_false (by omega), decide_eq_false hn]
theorem contains_ct (xs : List Int) (a : Option Addr) (c : Nat) (v : Int) (L : List Assn) (hS : Sl L a c 1 (ints xs)) (hx : xs.length < 1073741824) :
    Ct Tryz.prog 113 #[.slice a xs.length c, .int .i64 v] L (ret fun r L' => r = .bool (decide (v ∈ xs)) ∧ L' = L) := by
  refine Ct.body Tryz.func113 rfl Tryz.ntmps113 Tryz.results113 rfl ?_
  refine pur ?_
  refine WpO.call Tryz.call171 rfl rfl (index_ct xs a c v L hS hx) fun r L' ⟨⟨k, e, hk⟩, e2⟩ => ⟨Keeps.none, ?_⟩
  subst e; subst e2
  refine pur ?_
  exact Wp.ret (Ret 0 rfl ⟨by rw [← hk], rfl⟩)
theorem u8n {c : Nat} (h : c ≤ 255) : IntKind.u8.wrap (c : Int) = ((UInt8.ofNat c).toNat : Int) := by
  rw [u8_id (by omega) (by omega), UInt8.toNat_ofNat_of_lt' (by show c < 256; omega)]
theorem digs_get {i : Nat} (h : i < 16) : digs[i]? = some (digs.getD i 0) := by
  have : i < digs.length := h
  rw [List.getD_eq_getElem?_getD, List.getElem?_eq_getElem this]; rfl
set_option maxHeartbeats 1000000 in
theorem escape_ct (c : Nat) (hc : c ≤ 255) (L : List Assn) : Ct Tryz.prog 112 #[.int .i64 c] L (ret fun v L' => v = .tuple #[.string (ofL (escT c)), .int .i64 0] ∧ L' = L) := by
  refine Ct.body Tryz.func112 rfl Tryz.ntmps112 Tryz.results112 rfl ?_
  refine pur ?_
  refine Wp.branch rfl (fun h => ?_) (fun h => ?_)
  · simp only [Bool.or_eq_true, decide_eq_true_eq] at h; omega
  refine pur ?_
  refine Wp.branch rfl (fun h1 => ?_) (fun h1 => ?_)
  · have h1' : c = 10 := by have := of_decide_eq_true h1; omega
    refine pur ?_
    refine Wp.ret (Ret 0 rfl ⟨?_, rfl⟩)
    subst h1'; rfl
  have n1 : ¬ c = 10 := by have := of_decide_eq_false h1; omega
  refine pur ?_
  refine Wp.branch rfl (fun h1 => ?_) (fun h1 => ?_)
  · have h1' : c = 9 := by have := of_decide_eq_true h1; omega
    refine pur ?_
    refine Wp.ret (Ret 0 rfl ⟨?_, rfl⟩)
    subst h1'; rfl
  have n2 : ¬ c = 9 := by have := of_decide_eq_false h1; omega
  refine pur ?_
  refine Wp.branch rfl (fun h1 => ?_) (fun h1 => ?_)
  · have h1' : c = 92 ∨ c = 39 ∨ c = 34 := by simp only [Bool.or_eq_true, decide_eq_true_eq] at h1; omega
    refine pur ?_
    rw [u8n hc]
    refine WpO.buildSlice rfl rfl rfl rfl rfl rfl rfl (fun _ => Keeps.none) fun b => ?_
    refine pur ?_
    refine S.bytesStr [92, UInt8.ofNat c] rfl rfl (Sl.ofPt 0 rfl rfl (by intro r hr; simp [u8s] at hr; rcases hr with rfl | rfl <;> rfl) (Nat.le_refl _)) rfl ?_
    refine pur ?_
    refine Wp.ret (Ret 1 rfl ⟨?_, rfl⟩)
    unfold escT; rw [if_neg n1, if_neg n2, if_pos h1']; rfl
  have n3 : ¬ (c = 92 ∨ c = 39 ∨ c = 34) := by simp only [Bool.or_eq_false_iff, decide_eq_false_iff_not] at h1; omega
  refine pur ?_
  refine Wp.branch rfl (fun h1 => ?_) (fun h1 => ?_)
  · have h1' : 32 ≤ c ∧ c ≤ 126 := by simp only [Bool.and_eq_true, decide_eq_true_eq] at h1; omega
    refine pur ?_
    rw [u8n hc]
    refine WpO.buildSlice rfl rfl rfl rfl rfl rfl rfl (fun _ => Keeps.none) fun b => ?_
    refine pur ?_
    refine S.bytesStr [UInt8.ofNat c] rfl rfl (Sl.ofPt 0 rfl rfl (by intro r hr; simp [u8s] at hr; subst hr; rfl) (Nat.le_refl _)) rfl ?_
    refine pur ?_
    refine Wp.ret (Ret 1 rfl ⟨?_, rfl⟩)
    unfold escT; rw [if_neg n1, if_neg n2, if_neg n3, if_pos h1']; rfl
  have n4 : ¬ (32 ≤ c ∧ c ≤ 126) := by simp only [Bool.and_eq_false_iff, decide_eq_false_iff_not] at h1; omega
  refine pur ?_
  refine Wp.draw rfl [0,1,2,3,4,5,6,7,8,9] 6 6 _ rfl (by decide +kernel) (fun _ h => h) ?_
  refine pur ?_
  refine S.quo rfl rfl rfl (by decide) ?_
  refine S.index (digs.getD (c / 16) 0) (c / 16) rfl rfl rfl (by rw [Int.tdiv_eq_ediv_of_nonneg (by omega), wrap_id (by omega) (by omega)]; omega) (digs_get (by omega)) ?_
  refine pur ?_
  refine S.rem rfl rfl rfl (by decide) ?_
  refine S.index (digs.getD (c % 16) 0) (c % 16) rfl rfl rfl (by rw [Int.tmod_eq_emod_of_nonneg (by omega)]; omega) (digs_get (by omega)) ?_
  refine pur ?_
  refine WpO.buildSlice rfl rfl rfl rfl rfl rfl rfl (fun _ => Keeps.last) fun b => ?_
  refine S.bytesStr [92, 120, digs.getD (c / 16) 0, digs.getD (c % 16) 0] rfl rfl (Sl.ofPt 0 rfl rfl (by intro r hr; simp [u8s] at hr; rcases hr with rfl | rfl | rfl | rfl <;> rfl) (Nat.le_refl _)) rfl ?_
  refine pur ?_
  refine Wp.ret (Ret 1 rfl ⟨?_, rfl⟩)
  unfold escT; rw [if_neg n1, if_neg n2, if_neg n3, if_neg n4]; rfl
end Go.Proofs.YtikgokpbhldlnaaGreatDoor
end
section
namespace Go.Proofs.YtikgokpbhldlnaaGreatDoor
open Go Go.Ab
attribute [local irreducible] Wp WpO Qt OpT Ct Ent
/-! ## scan.text and scan.Text, of tokens that may stand in a list -/
theorem ofL_app (l r : List UInt8) : ofL l ++ ofL r = ofL (l ++ r) := by
  rw [← ofL_bs (ofL l ++ ofL r), bs_append]; rfl
theorem quote_snoc (l : List UInt8) (i : Nat) (c : UInt8) (h : l[i]? = some c) : quoteT (l.take (i + 1)) = quoteT (l.take i) ++ escT c.toNat := by
  unfold quoteT; rw [List.take_add_one, h]; simp
theorem name_tok {k : Int} (h : k = 1 ∨ k = 2 ∨ k = 6) (s : List UInt8) (p : Int) : tokText ⟨k, s, 0, p⟩ = s := by
  unfold tokText; rw [if_neg (by show ¬ k = 3; omega), if_neg (by show ¬ k = 4; omega), if_neg (by show ¬ k = 5; omega)]
set_option maxHeartbeats 4000000 in
theorem text_ct (k : Tok) (hk : TokOk k) (L : List Assn) (hT : TabL L) : Ct Tryz.prog 53 #[.agg #[.int .i64 k.kind, .string (ofL k.text), .int .i64 k.num, .int .i64 k.pos]] L (ret fun v L' => v = .tuple #[.string (ofL (tokText k)), .bool true] ∧ L' = L) := by
  refine Ct.body Tryz.func53 rfl Tryz.ntmps53 Tryz.results53 rfl ?_
  refine pur ?_
  refine WpO.box (vs := [.int .i64 k.kind, .string (ofL k.text), .int .i64 k.num, .int .i64 k.pos]) rfl rfl rfl (fun _ => Keeps.none) fun b1 => ?_
  cases hk with
  | int n p h h2 =>
    refine pur ?_
    refine Wp.draw rfl [0,1,3,4,5,2,6,7,8,9,10,11,12] 13 13 _ rfl (by decide +kernel) (fun _ h => h) ?_
    refine pur ?_
    refine WpO.callq Tryz.call111 rfl rfl (itoa_ct n h h2 _ hT.cons) (Keeps.by fun _ h => h) ?_
    refine pur ?_
    refine Wp.ret (Ret 1 rfl ⟨?_, rfl⟩)
    show Value.tuple #[.string (ofL (Lib.decDigits n.toNat)), .bool (decide (0 ≤ n) && _)] = _
    rw [decide_eq_true h]; rfl
  | chr n p h h2 =>
    obtain ⟨c, rfl⟩ := Int.eq_ofNat_of_zero_le h
    have h4 := escT_len c
    refine pur ?_
    refine WpO.callq Tryz.call112 rfl rfl (escape_ct c (by omega) _) Keeps.none ?_
    refine pur ?_
    refine Wp.draw rfl [0,1,2,3,4,5,6,7,8,9,10,11] 12 12 _ rfl (by decide +kernel) (fun _ h => h) ?_
    refine pur ?_
    refine S.sadd rfl rfl rfl (by rw [bs_ofL]; show 1 + _ < _; omega) ?_
    refine S.sadd rfl rfl rfl (by rw [bs_append, bs_ofL, List.length_append]; show 1 + _ + 1 < _; omega) ?_
    refine pur ?_
    refine Wp.ret (Ret 1 rfl ⟨?_, rfl⟩)
    show Value.tuple #[.string (ofL [39] ++ ofL (escT c) ++ ofL [39]), _] = _
    rw [ofL_app, ofL_app]; rfl
  | str s p h =>
    refine pur ?_
    refine WpO.alloc rfl rfl (fun _ => Keeps.none) fun b6 => ?_
    refine WpO.parts (L' := bm b6 none (none, 0) [] (ptA b1 48 [.int .i64 5, .string (ofL s), .int .i64 0, .int .i64 p] :: L)) (fun _ q => (Sat.ownNil q).swap) ?_
    refine pur ?_
    refine WpO.call Tryz.call54 rfl rfl (writeByte_ct b6 none (.inl rfl) (none, 0) [] 34 _ (by decide)) fun v L' ⟨e, x1, e2⟩ => ⟨Keeps.none, ?_⟩
    subst e; subst e2
    refine pur ?_
    refine WpO.strBytes rfl rfl fun bb bc hbc => ?_
    rw [bs_ofL] at hbc ⊢
    refine WpO.parts LeL.third ?_
    have hS : ∀ M, Sl (CellsAt bb 0 (u8s s).flatten :: M) (some ⟨bb, 0, none⟩) bc 1 (u8s s) := fun M => Sl.ofCells (Ent.of_head (CellsAt.mono _ _ _) fun _ h => h) hbc
    refine pur ?_
    refine Wp.loopI (α := Nat × Option Addr × Nat) (0, x1) (fun y => [(6, .v (.pointer (some ⟨b6, 0, none⟩))), (68, .v (.slice (some ⟨bb, 0, none⟩) s.length bc)), (69, .v (.int .i64 s.length)), (70, .v (.int .i64 y.1))])
      (fun y => bm b6 (some ⟨b6, 0, none⟩) y.2 ([34] ++ quoteT (s.take y.1)) (CellsAt bb 0 (u8s s).flatten :: ptA b1 48 [.int .i64 5, .string (ofL s), .int .i64 0, .int .i64 p] :: L)) (fun y => s.length - y.1) (fun y => y.1 ≤ s.length) (Nat.zero_le _) ⟨rfl, rfl, rfl, rfl, trivial⟩ (LeL.refl _) ?_
    rintro ⟨i, xx⟩ hi
    simp only [] at hi
    show Wp _ _ _ _ [_, _, _, (70, .v (.int .i64 i))] _ (bm b6 (some ⟨b6, 0, none⟩) xx ([34] ++ quoteT (s.take i)) _)
    have hql := quoteT_len (s.take i)
    rw [List.length_take] at hql
    refine pur ?_
    refine Wp.branch rfl (fun h => ?_) (fun h => ?_)
    · have hix := lt_len h
      have hg := List.getElem?_eq_getElem hix
      generalize s[i] = c at hg
      obtain ⟨bq, oq, eq, _, hE⟩ := (hS (ptA b1 48 [.int .i64 5, .string (ofL s), .int .i64 0, .int .i64 p] :: L)).at (i := i) (r := [.int .u8 (c.toNat : Int)]) (by simp [u8s, hg])
      simp only [Option.some.injEq, Addr.mk.injEq, and_true] at eq
      obtain ⟨rfl, rfl⟩ := eq
      have hc8 : c.toNat ≤ 255 := by have := c.toNat_lt; omega
      have h4 := escT_len c.toNat
      refine pur ?_
      refine S.idx i rfl rfl rfl rfl hix ?_
      refine pur ?_
      rw [wrap_id (by omega) (by omega)]
      refine WpO.callq Tryz.call112 rfl rfl (escape_ct c.toNat hc8 _) Keeps.none ?_
      refine pur ?_
      refine WpO.call Tryz.call55 rfl rfl (writeString_ct b6 _ (.inr rfl) xx _ (ofL (escT c.toNat)) _ (by rw [bs_ofL, List.length_append]; show 1 + _ + _ ≤ _; omega)) fun v L' ⟨e, x2, e2⟩ => ⟨Keeps.none, ?_⟩
      subst e; subst e2
      refine pur ?_
      refine Round.mk (i + 1, x2) (by simp only []; omega) hix ⟨rfl, rfl, rfl, inc_e (by omega), trivial⟩ ?_
      rw [bs_ofL]
      show LeL _ (bm _ _ x2 ([34] ++ quoteT (s.take (i + 1))) _)
      rw [quote_snoc s i c hg, ← List.append_assoc]; exact LeL.refl _
    · have hin : s.length ≤ i := by have := of_decide_eq_false h; omega
      rw [List.take_of_length_le hin] at hql ⊢
      refine pur ?_
      refine WpO.call Tryz.call54 rfl rfl (writeByte_ct b6 _ (.inr rfl) xx _ 34 _ (by rw [List.length_append]; show 1 + _ ≤ _; omega)) fun v L' ⟨e, x2, e2⟩ => ⟨Keeps.none, ?_⟩
      subst e; subst e2
      refine pur ?_
      refine WpO.know (fun k q => own_know 1 rfl q) fun hkn => ?_
      refine WpO.call Tryz.call56 rfl rfl (bstring_ct b6 _ x2 _ _ (.inr (by have := hkn.1; rw [u8s_length] at this; simp at this; omega)) (by simp; omega)) fun v L' ⟨e, e2⟩ => ⟨Keeps.none, ?_⟩
      subst e; subst e2
      refine pur ?_
      exact Wp.ret (Ret 2 rfl ⟨rfl, rfl⟩)
  | mark s p h =>
    refine pur ?_
    refine Wp.draw rfl [0,1,2,3,4,5,6] 7 7 _ rfl (by decide +kernel) (fun _ h => h) ?_
    refine pur ?_
    refine WpO.callq Tryz.call100 rfl rfl (isMark_ct (ofL s) _ h) (Keeps.by fun _ h => h) ?_
    refine pur ?_
    exact Wp.ret (Ret 1 rfl ⟨rfl, rfl⟩)
  | op s p h =>
    refine pur ?_
    refine Wp.draw rfl [0,1,2,3,4,5,6] 7 7 _ rfl (by decide +kernel) (fun _ h => h) ?_
    refine pur ?_
    refine WpO.callq Tryz.call101 rfl rfl (isOp_ct (ofL s) _ h) (Keeps.by fun _ h => h) ?_
    refine pur ?_
    exact Wp.ret (Ret 1 rfl ⟨rfl, rfl⟩)
  | name s kk p h h2 =>
    have hsl := nameF_len (s := s) (by omega)
    refine pur ?_
    refine Wp.branch rfl (fun q => absurd (of_decide_eq_true q) (by show ¬ kk = 3; omega)) (fun _ => ?_)
    refine pur ?_
    refine Wp.branch rfl (fun q => absurd (of_decide_eq_true q) (by show ¬ kk = 4; omega)) (fun _ => ?_)
    refine pur ?_
    refine Wp.branch rfl (fun q => absurd (of_decide_eq_true q) (by show ¬ kk = 7; omega)) (fun _ => ?_)
    refine pur ?_
    refine Wp.branch rfl (fun q => absurd (of_decide_eq_true q) (by show ¬ kk = 8; omega)) (fun _ => ?_)
    refine pur ?_
    refine Wp.branch rfl (fun q => absurd (of_decide_eq_true q) (by show ¬ kk = 5; omega)) (fun _ => ?_)
    refine pur ?_
    refine Wp.draw rfl [0,1,3,4,2,5,6,7,8,10,11,9,12,13,14,15] 16 16 _ rfl (by decide +kernel) (fun _ h => h) ?_
    refine pur ?_
    refine WpO.buildSlice rfl rfl rfl rfl rfl rfl rfl (fun _ => Keeps.by fun _ q => q.tail) fun bs1 => ?_
    refine WpO.callq Tryz.call113 rfl rfl (contains_ct [1, 2, 6] (some ⟨bs1, 0, none⟩) 3 kk _ (Sl.ofPt 0 rfl rfl (by intro r hr; simp [ints] at hr; rcases hr with rfl | rfl | rfl <;> rfl) (Nat.le_refl _)) (by decide)) (Keeps.by fun _ q => q.tail) ?_
    rw [decide_eq_true (show kk ∈ [(1 : Int), 2, 6] by simp; omega)]
    refine pur ?_
    refine WpO.callqg Tryz.call82 rfl rfl (.cons rfl (by infer_instance) .nil) (fun _ => name_ct (ofL s) _ (by rw [bs_ofL]; omega)) (Keeps.by fun _ q => q.tail) ?_
    rw [bs_ofL, h2]
    refine pur ?_
    refine Wp.ret (Ret 2 rfl ⟨?_, rfl⟩)
    rw [name_tok h]
    show Value.tuple #[.string (ofL s), .bool (decide (kk = kk))] = _
    rw [decide_eq_true rfl]
end Go.Proofs.YtikgokpbhldlnaaGreatDoor
end
section
namespace Go.Proofs.YtikgokpbhldlnaaGreatDoor
open Go Go.Ab
attribute [local irreducible] Wp WpO Qt OpT Ct Ent
theorem mapIdx_len2 {M : Nat} : ∀ (l : List (List UInt8)) (F : Nat → List UInt8 → List UInt8), (∀ i, ∀ s ∈ l, (F i s).length ≤ M) → ((l.mapIdx F).flatten).length ≤ l.length * M
  | [], _, _ => by simp
  | s :: l, F, h => by
    have h1 := mapIdx_len2 l (fun i => F (i + 1)) (fun i k hk => h (i + 1) k (by simp [hk]))
    have h2 := h 0 s (by simp)
    rw [List.mapIdx_cons]
    simp only [List.flatten_cons, List.length_append, List.length_cons, Nat.add_mul]; omega
theorem joinT_len {M : Nat} (l : List (List UInt8)) (h : ∀ s ∈ l, s.length ≤ M) : (joinT l).length ≤ l.length * (M + 1) := mapIdx_len2 l _ fun i s hs => by
  have := h s hs
  rw [List.length_append]
  split <;> simp <;> omega
theorem toks_len {l : List Tok} (h : AllOk l) : (joinT (l.map tokText)).length ≤ l.length * 4194401 := by
  have := joinT_len (M := 4194400) (l.map tokText) fun s hs => by
    obtain ⟨k, hk, rfl⟩ := List.mem_map.1 hs
    exact tok_len (h k hk)
  rwa [List.length_map] at this
theorem toks_snoc (l : List Tok) (i : Nat) (k : Tok) (h : l[i]? = some k) : joinT ((l.take (i + 1)).map tokText) = joinT ((l.take i).map tokText) ++ (if i = 0 then [] else [32]) ++ tokText k := by
  have hi := (List.getElem?_eq_some_iff.1 h).1
  rw [List.take_add_one, h, Option.toList_some, List.map_append, List.map_cons, List.map_nil, joinT_snoc]
  congr 2
  by_cases h0 : i = 0
  · subst h0; rfl
  · rw [if_neg h0, if_neg]
    intro q
    have := congrArg List.length q
    rw [List.length_map, List.length_take, Nat.min_eq_left (Nat.le_of_lt hi)] at this
    exact h0 this
set_option maxHeartbeats 2000000 in
theorem stext_ct (l : List Tok) (hok : AllOk l) (a : Option Addr) (c : Nat) (L : List Assn) (hS : Sl L a c 4 (l.map tokRow)) (hl : l.length ≤ 100000) (hT : TabL L) :
    Ct Tryz.prog 31 #[.slice a l.length c] L (ret fun v L' => v = .tuple #[.string (ofL (joinT (l.map tokText))), .int .i64 0] ∧ L' = L) := by
  refine Ct.body Tryz.func31 rfl Tryz.ntmps31 Tryz.results31 rfl ?_
  refine pur ?_
  refine WpO.alloc rfl rfl (fun _ => Keeps.none) fun b4 => ?_
  refine WpO.parts (L' := bm b4 none (none, 0) [] L) (fun _ q => (Sat.ownNil q).swap) ?_
  refine pur ?_
  refine Wp.loopI (α := Nat × Option Addr × Option Addr × Nat) (0, none, none, 0) (fun y => [(4, .v (.pointer (some ⟨b4, 0, none⟩))), (9, .v (.slice a l.length c)), (10, .v (.int .i64 l.length)), (11, .v (.int .i64 y.1))])
    (fun y => bm b4 y.2.1 y.2.2 (joinT ((l.take y.1).map tokText)) L) (fun y => l.length - y.1) (fun y => y.1 ≤ l.length ∧ (y.2.1 = none ∨ y.2.1 = some ⟨b4, 0, none⟩) ∧ (y.1 = 0 → y.2.2.1 = none)) ⟨Nat.zero_le _, .inl rfl, fun _ => rfl⟩ ⟨rfl, rfl, rfl, rfl, trivial⟩ (LeL.refl _) ?_
  rintro ⟨i, p, x⟩ ⟨hi, hp, hx⟩
  simp only [] at hi hp hx
  show Wp _ _ _ _ [_, _, _, (11, .v (.int .i64 i))] _ (bm b4 p x (joinT ((l.take i).map tokText)) L)
  have hjl := toks_len (l := l.take i) (fun k hk => hok k (List.mem_of_mem_take hk))
  rw [List.length_take] at hjl
  have hjl' : (joinT ((l.take i).map tokText)).length ≤ 100000 * 4194401 := Nat.le_trans hjl (Nat.mul_le_mul_right _ (by omega))
  refine pur ?_
  refine Wp.branch rfl (fun h => ?_) (fun h => ?_)
  · have hix := lt_len h
    have hg := List.getElem?_eq_getElem hix
    have hk := hok _ (List.getElem_mem hix)
    generalize l[i] = k at hg hk
    have htl := tok_len hk
    obtain ⟨b, o, rfl, _, hE⟩ := hS.at (i := i) (r := tokRow k) (by simp [hg])
    refine pur ?_
    refine S.idx i rfl rfl rfl rfl hix ?_
    refine S.loadN rfl rfl hE.cons.cons rfl ?_
    refine WpO.alloc rfl rfl (fun _ => Keeps.none) fun b6 => ?_
    refine pur ?_
    refine WpO.parts LeL.third ?_
    refine S.loadN (vs := tokRow k) rfl rfl (Ent.pt 2 4 rfl rfl) rfl ?_
    refine WpO.callq Tryz.call53 rfl rfl (text_ct k hk _ hT.cons.cons.cons) Keeps.none ?_
    refine pur ?_
    have hsn := toks_snoc l i k hg
    refine Wp.branch rfl (fun h2 => ?_) (fun h2 => ?_)
    · have h0 : ¬ i = 0 := by have := of_decide_eq_true h2; omega
      rw [if_neg h0] at hsn
      refine pur ?_
      refine WpO.call Tryz.call54 rfl rfl (writeByte_ct b4 p hp x _ 32 _ (by omega)) fun v L' ⟨e, x1, e2⟩ => ⟨Keeps.none, ?_⟩
      subst e; subst e2
      refine pur ?_
      refine WpO.call Tryz.call55 rfl rfl (writeString_ct b4 _ (.inr rfl) x1 _ (ofL (tokText k)) _ (by rw [bs_ofL, List.length_append, List.length_cons, List.length_nil]; omega)) fun v L' ⟨e, x2, e2⟩ => ⟨Keeps.none, ?_⟩
      subst e; subst e2
      rw [bs_ofL, ← hsn]
      refine pur ?_
      exact Round.mk (i + 1, some ⟨b4, 0, none⟩, x2) (by simp only []; omega) ⟨hix, .inr rfl, fun q => absurd q (by simp)⟩ ⟨rfl, rfl, rfl, inc_e (by omega), trivial⟩ LeL.drop3
    · have h0 : i = 0 := by have := of_decide_eq_false h2; omega
      rw [if_pos h0, List.append_nil] at hsn
      refine pur ?_
      refine WpO.call Tryz.call55 rfl rfl (writeString_ct b4 p hp x _ (ofL (tokText k)) _ (by rw [bs_ofL]; omega)) fun v L' ⟨e, x2, e2⟩ => ⟨Keeps.none, ?_⟩
      subst e; subst e2
      rw [bs_ofL, ← hsn]
      refine pur ?_
      exact Round.mk (i + 1, some ⟨b4, 0, none⟩, x2) (by simp only []; omega) ⟨hix, .inr rfl, fun q => absurd q (by simp)⟩ ⟨rfl, rfl, rfl, inc_e (by omega), trivial⟩ LeL.drop3
  · have hin : l.length ≤ i := by have := of_decide_eq_false h; omega
    rw [List.take_of_length_le hin] at hjl' ⊢
    refine pur ?_
    refine WpO.know (fun k q => own_know 1 rfl q) fun hkn => ?_
    refine WpO.call Tryz.call56 rfl rfl (bstring_ct b4 p x _ L ?_ (by omega)) fun v L' ⟨e, e2⟩ => ⟨Keeps.none, ?_⟩
    · by_cases h0 : i = 0
      · exact .inl (hx h0)
      · right
        have h1 := hkn.1
        rw [u8s_length] at h1
        have h2 : joinT (l.map tokText) ≠ [] := by
          have hl0 : 0 < l.length := by omega
          obtain ⟨l', z, rfl⟩ : ∃ l' z, l = l' ++ [z] := by
            rcases List.eq_nil_or_concat l with rfl | ⟨l', z, rfl⟩
            · simp at hl0
            · exact ⟨l', z, List.concat_eq_append ..⟩
          rw [List.map_append, List.map_cons, List.map_nil, joinT_snoc]
          have := tok_ne (hok z (by simp))
          simp [this]
        have := List.length_pos_iff.2 h2
        omega
    subst e; subst e2
    refine pur ?_
    exact Wp.ret (Ret 0 rfl ⟨rfl, rfl⟩)
/-! ## show.At, Show, Type -/
def showF (t : List Nd) (n : Int) : List UInt8 × Int :=
  if ¬ checkF goodR t = 0 then ([], 7) else if n < 0 ∨ (t.length : Int) ≤ n then ([], 2) else
  if 8000 < (joinT ((nodeT t t.length n.toNat [61]).map tokText)).length then ([], 11) else (joinT ((nodeT t t.length n.toNat [61]).map tokText), 0)
theorem checkF_vals (good : List Int → Nd → Bool) (t : List Nd) : checkF good t = 0 ∨ checkF good t = 7 := by
  unfold checkF
  split
  · split
    · split
      · exact .inl rfl
      · exact .inr rfl
    · exact .inr rfl
  · exact .inr rfl
set_option maxHeartbeats 2000000 in
theorem sat_ct (t : List Nd) (hsm : Small t) (a : Option Addr) (c : Nat) (n : Int) (L : List Assn) (hT : TreeR L a c t) (hTb : TabL L) :
    Ct Tryz.prog 17 #[.agg #[.slice a t.length c], .int .i64 n] L (ret fun v L' => v = .tuple #[.string (ofL (showF t n).1), .int .i64 (showF t n).2] ∧ L' = L) := by
  have hlen := hsm.len
  refine Ct.body Tryz.func17 rfl Tryz.ntmps17 Tryz.results17 rfl ?_
  refine pur ?_
  refine WpO.box (vs := [.slice a t.length c]) rfl rfl rfl (fun _ => Keeps.none) fun b2 => ?_
  refine pur ?_
  refine S.loadN (vs := [.slice a t.length c]) rfl rfl (Ent.pt 0 1 rfl rfl) rfl ?_
  refine WpO.callq Tryz.call23 rfl rfl (check_ct t a c _ hT.cons hsm) Keeps.none ?_
  rw [checkF_eq]
  refine pur ?_
  refine Wp.branch rfl (fun h => ?_) (fun h => ?_)
  · have hc : ¬ checkF goodR t = 0 := by simpa using h
    refine pur ?_
    refine Wp.ret (Ret 1 rfl ⟨?_, rfl⟩)
    unfold showF; rw [if_pos hc]
    rcases checkF_vals goodR t with q | q
    · exact absurd q hc
    · rw [q]; rfl
  have hc : checkF goodR t = 0 := by simpa using h
  obtain ⟨h1, h2, hs, hlb⟩ := check_sound hc
  refine pur ?_
  refine Wp.branch rfl (fun h => ?_) (fun h => ?_)
  · have hn : n < 0 ∨ (t.length : Int) ≤ n := by simpa only [Bool.or_eq_true, decide_eq_true_eq] using h
    refine pur ?_
    refine Wp.ret (Ret 1 rfl ⟨?_, rfl⟩)
    unfold showF; rw [if_neg (fun q => q hc), if_pos hn]; rfl
  have hn : ¬ (n < 0 ∨ (t.length : Int) ≤ n) := by
    simp only [Bool.or_eq_false_iff, decide_eq_false_iff_not] at h
    exact fun q => q.elim h.1 h.2
  obtain ⟨k, rfl⟩ := Int.eq_ofNat_of_zero_le (show 0 ≤ n by omega)
  have hk : k < t.length := by omega
  have hok := node_ok hs hsm t.length k [61] hk (.inl rfl)
  have hnl := hlb k hk t.length [61]
  refine pur ?_
  refine S.loadN (vs := [.slice a t.length c]) rfl rfl (Ent.pt 0 1 rfl rfl) rfl ?_
  refine S.build rfl rfl rfl ?_
  refine WpO.box (vs := [.slice a t.length c, .slice none 0 0]) rfl rfl rfl (fun _ => Keeps.none) fun bw => ?_
  refine pur ?_
  refine WpO.parts (L' := wm bw (.slice a t.length c) (none, 0) [] (ptA b2 24 [.slice a t.length c] :: L)) (fun _ q => (Sat.ownNil q).swap) ?_
  refine pur ?_
  refine WpO.call Tryz.call35 rfl rfl (plainly_ct (node_all hs hsm t.length k hk hk) (none, 0) [] _ hT.cons (by show 0 + _ ≤ _; omega)) fun v L' ⟨x1, e⟩ => ⟨Keeps.none, ?_⟩
  subst e
  rw [List.nil_append]
  have hsh : showF t (k : Int) = if 8000 < (joinT ((nodeT t t.length k [61]).map tokText)).length then ([], 11) else (joinT ((nodeT t t.length k [61]).map tokText), 0) := by
    unfold showF; rw [if_neg (fun q => q hc), if_neg hn]; rfl
  rw [hsh]
  generalize nodeT t t.length k [61] = l at hok hnl ⊢
  refine pur ?_
  refine WpO.know (fun k q => own_know 1 rfl q) fun hkn => ?_
  have hsl : Sl (wm bw (.slice a t.length c) x1 l (ptA b2 24 [.slice a t.length c] :: L)) x1.1 x1.2 4 (l.map tokRow) := Sl.own 1 rfl hkn
  refine WpO.callq Tryz.call31 rfl rfl (stext_ct l hok x1.1 x1.2 _ hsl (by omega) hTb.cons.cons.cons) Keeps.none ?_
  have hjl := toks_len hok
  have hjl' : (joinT (l.map tokText)).length ≤ 48000 * 4194401 := Nat.le_trans hjl (Nat.mul_le_mul_right _ hnl)
  refine pur ?_
  refine Wp.branch rfl (fun h => ?_) (fun h => ?_)
  · have h8 : 8000 < (joinT (l.map tokText)).length := by
      have := of_decide_eq_true h
      rw [bs_ofL] at this; omega
    refine pur ?_
    refine Wp.ret (Ret 3 rfl ⟨?_, rfl⟩)
    rw [if_pos h8]; rfl
  · have h8 : ¬ 8000 < (joinT (l.map tokText)).length := by
      have := of_decide_eq_false h
      rw [bs_ofL] at this; omega
    refine pur ?_
    refine Wp.ret (Ret 3 rfl ⟨?_, rfl⟩)
    rw [if_neg h8]; rfl
theorem sshow_ct (t : List Nd) (hsm : Small t) (a : Option Addr) (c : Nat) (L : List Assn) (hT : TreeR L a c t) (hTb : TabL L) :
    Ct Tryz.prog 12 #[.agg #[.slice a t.length c]] L (ret fun v L' => v = .tuple #[.string (ofL (showF t ((t.length : Int) - 1)).1), .int .i64 (showF t ((t.length : Int) - 1)).2] ∧ L' = L) := by
  have hlen := hsm.len
  refine Ct.body Tryz.func12 rfl Tryz.ntmps12 Tryz.results12 rfl ?_
  refine pur ?_
  refine WpO.box (vs := [.slice a t.length c]) rfl rfl rfl (fun _ => Keeps.none) fun b1 => ?_
  refine pur ?_
  refine S.loadN (vs := [.slice a t.length c]) rfl rfl (Ent.pt 0 1 rfl rfl) rfl ?_
  refine pur ?_
  rw [wrap_id (by omega) (by omega)]
  refine WpO.callq Tryz.call17 rfl rfl (sat_ct t hsm a c _ _ hT.cons hTb.cons) Keeps.none ?_
  refine pur ?_
  exact Wp.ret (Ret 1 rfl ⟨rfl, rfl⟩)
end Go.Proofs.YtikgokpbhldlnaaGreatDoor
end
