/- Parts of a proof: Fm Fn. -/
import Derived.Test.YtikgokpbhldlnaaGreatDoorRd
set_option linter.unusedVariables false
set_option linter.unusedSimpArgs false
set_option linter.unusedSectionVars false
section
/- ShowBack: what its law calls: wakes, Same. -/
namespace Go.Proofs.YtikgokpbhldlnaaGreatDoor
open Go Go.Ab
attribute [local irreducible] Wp WpO Qt OpT Ct Ent

theorem tok_mk (s : List UInt8) : tokText (mkT s) = s := by
  have : markK s = 7 ∨ markK s = 8 ∨ markK s = 1 ∨ markK s = 2 ∨ markK s = 6 := by
    unfold markK
    split
    · exact .inl rfl
    · split
      · exact .inr (.inl rfl)
      · rename_i h
        rcases nameF_vals s with q | q | q | q | ⟨q, _⟩ <;> simp [q] at h ⊢
  unfold tokText mkT
  rw [if_neg (by show ¬ markK s = 3; omega), if_neg (by show ¬ markK s = 4; omega), if_neg (by show ¬ markK s = 5; omega)]
def oneT : List Nd := [⟨3, ⟨#[]⟩, 1, []⟩, ⟨17, ⟨#[]⟩, 0, [0]⟩, ⟨18, ⟨#[]⟩, 0, []⟩, ⟨15, ⟨#[]⟩, 0, [1, 2]⟩, ⟨19, ⟨#[102]⟩, 0, [3]⟩, ⟨20, ⟨#[]⟩, 0, [4]⟩]
set_option maxHeartbeats 40000000 in
theorem one_ct (L : List Assn) : Ct Tryz.prog 32 #[] L (ret fun v L' => ∃ a c, v = .agg #[.slice a 6 c] ∧ TreeR L' a c oneT ∧ LeL L' L) := by
  refine Ct.bodyC Tryz.func32 rfl Tryz.ntmps32 Tryz.results32 rfl ?_
  refine pur ?_
  refine WpO.alloc rfl rfl (fun _ => Keeps.none) fun b0 => ?_
  refine pur ?_
  refine S.build rfl rfl rfl ?_
  refine WpO.buildSlice rfl rfl rfl rfl rfl rfl rfl (fun _ => Keeps.none) fun b2 => ?_
  refine S.build rfl rfl rfl ?_
  refine S.build rfl rfl rfl ?_
  refine WpO.buildSlice rfl rfl rfl rfl rfl rfl rfl (fun _ => Keeps.none) fun b5 => ?_
  refine S.build rfl rfl rfl ?_
  refine WpO.buildSlice rfl rfl rfl rfl rfl rfl rfl (fun _ => Keeps.none) fun b7 => ?_
  refine S.build rfl rfl rfl ?_
  refine WpO.buildSlice rfl rfl rfl rfl rfl rfl rfl (fun _ => Keeps.none) fun b9 => ?_
  refine S.build rfl rfl rfl ?_
  refine WpO.buildSlice rfl rfl rfl rfl rfl rfl rfl (fun _ => Keeps.none) fun b11 => ?_
  refine S.build rfl rfl rfl ?_
  refine WpO.store 5 rfl rfl rfl rfl rfl rfl rfl rfl Keeps.none ?_
  refine pur ?_
  refine Wp.ret (RetC 0 (.cons (.agg rfl (by infer_instance) (Ent.pt 5 1 rfl rfl) rfl) .nil) ⟨some ⟨b11, 0, none⟩, 6, rfl, ⟨[(none, 0), (some ⟨b2, 0, none⟩, 1), (none, 0), (some ⟨b5, 0, none⟩, 2), (some ⟨b7, 0, none⟩, 1), (some ⟨b9, 0, none⟩, 1)], rfl, ?_, ?_⟩, ?_⟩)
  · exact Sl.ofPt 0 rfl rfl (by intro r hr; simp [oneT] at hr; rcases hr with rfl | rfl | rfl | rfl | rfl | rfl <;> rfl) (Nat.le_refl _)
  · intro i nd k e1 e2
    match i, e1, e2 with
    | 0, e1, e2 => simp [oneT] at e1 e2; subst e1; subst e2; exact Sl.nil
    | 1, e1, e2 => simp [oneT] at e1 e2; subst e1; subst e2; exact Sl.ofPt 4 rfl rfl (by intro r hr; simp [ints] at hr; subst hr; rfl) (Nat.le_refl _)
    | 2, e1, e2 => simp [oneT] at e1 e2; subst e1; subst e2; exact Sl.nil
    | 3, e1, e2 => simp [oneT] at e1 e2; subst e1; subst e2; exact Sl.ofPt 3 rfl rfl (by intro r hr; simp [ints] at hr; rcases hr with rfl | rfl <;> rfl) (Nat.le_refl _)
    | 4, e1, e2 => simp [oneT] at e1 e2; subst e1; subst e2; exact Sl.ofPt 2 rfl rfl (by intro r hr; simp [ints] at hr; subst hr; rfl) (Nat.le_refl _)
    | 5, e1, e2 => simp [oneT] at e1 e2; subst e1; subst e2; exact Sl.ofPt 1 rfl rfl (by intro r hr; simp [ints] at hr; subst hr; rfl) (Nat.le_refl _)
    | i + 6, e1, _ => simp [oneT] at e1
  · exact LeL.drop 6 _
theorem one_small : Small oneT := by
  constructor
  · decide
  · intro nd h; simp [oneT] at h; rcases h with rfl | rfl | rfl | rfl | rfl | rfl <;> decide
  · intro nd h; simp [oneT] at h; rcases h with rfl | rfl | rfl | rfl | rfl | rfl <;> decide
  · intro nd h; simp [oneT] at h; rcases h with rfl | rfl | rfl | rfl | rfl | rfl <;> decide
theorem one_node : nodeT oneT 6 5 [61] = [mkT [102], mkT [61], ⟨3, [], 1, 0⟩] := rfl
theorem one_check : checkF goodR oneT = 0 := by decide +kernel
theorem one_show : showF oneT 5 = ([102, 32, 61, 32, 49], 0) := by
  have h1 : (nodeT oneT oneT.length (5 : Int).toNat [61]).map tokText = [[102], [61], [49]] := by
    show (nodeT oneT 6 5 [61]).map tokText = _
    rw [one_node, List.map_cons, List.map_cons, List.map_cons, tok_mk, tok_mk]
    show [102] :: [61] :: [Lib.decDigits 1] = _
    rw [Lib.decDigits_one (by decide)]; rfl
  unfold showF
  rw [if_neg (fun q => q one_check), if_neg (by decide), h1]
  rfl
theorem wakes_ct (L : List Assn) (hTb : TabL L) : Ct Tryz.prog 11 #[] L (ret fun v L' => v = .bool true ∧ L' = L) := by
  refine Ct.body Tryz.func11 rfl Tryz.ntmps11 Tryz.results11 rfl ?_
  refine pur ?_
  refine WpO.call Tryz.call32 rfl rfl (one_ct L) fun v L' ⟨a, c, e, hT, hL⟩ => ⟨Keeps.none, ?_⟩
  subst e
  refine WpO.callq Tryz.call12 rfl rfl (sshow_ct oneT one_small a c L' hT (hTb.wk hL)) Keeps.none ?_
  rw [show ((oneT.length : Int) - 1) = 5 from rfl, one_show]
  refine WpO.parts hL ?_
  refine pur ?_
  exact Wp.ret (Ret 0 rfl ⟨rfl, rfl⟩)
theorem sameInts_ct (l l' : List Int) (a a' : Option Addr) (c c' : Nat) (L : List Assn) (hl : Sl L a c 1 (ints l)) (hl' : Sl L a' c' 1 (ints l')) (hn : l.length ≤ 1099511627776) (hn' : l'.length ≤ 1099511627776) :
    Ct Tryz.prog 52 #[.slice a l.length c, .slice a' l'.length c'] L (ret fun v L' => v = .bool (decide (l = l')) ∧ L' = L) := by
  refine Ct.body Tryz.func52 rfl Tryz.ntmps52 Tryz.results52 rfl ?_
  refine pur ?_
  refine Wp.branch rfl (fun h => ?_) (fun h => ?_)
  · have hne : l.length ≠ l'.length := fun e => by simp [e] at h
    refine pur ?_
    refine Wp.ret (Ret 0 rfl ⟨?_, rfl⟩)
    rw [decide_eq_false (fun e => hne (by rw [e]))]
  have he : l.length = l'.length := by simp at h; omega
  refine pur ?_
  refine Wp.loopI (α := Nat) 0 (fun i => [(0, .v (.slice a l.length c)), (1, .v (.slice a' l'.length c')), (5, .v (.int .i64 i))]) (fun _ => L) (fun i => l.length - i) (fun i => i ≤ l.length ∧ l.take i = l'.take i) ⟨Nat.zero_le _, rfl⟩ ⟨rfl, rfl, rfl, trivial⟩ (LeL.refl _) ?_
  rintro i ⟨h1, h2⟩
  refine pur ?_
  refine Wp.branch rfl (fun h => ?_) (fun h => ?_)
  · have hi : i < l.length := by have := of_decide_eq_true h; omega
    have hi' : i < l'.length := by omega
    obtain ⟨b, o, rfl, hE⟩ := ints_at hl (List.getElem?_eq_getElem hi)
    obtain ⟨b', o', rfl, hE'⟩ := ints_at hl' (List.getElem?_eq_getElem hi')
    refine pur ?_
    refine Wp.draw rfl [0,1,2,3,4,5,6,7,8] 9 9 _ rfl (by decide +kernel) (fun _ h => h) ?_
    refine pur ?_
    refine S.idx i rfl rfl rfl rfl hi ?_
    refine pur ?_
    refine S.idx i rfl rfl rfl rfl hi' ?_
    refine pur ?_
    refine Wp.branch rfl (fun h => ?_) (fun h => ?_)
    · have hx : l[i] ≠ l'[i] := by simpa using h
      refine pur ?_
      refine Wp.ret (Ret 0 rfl ⟨?_, rfl⟩)
      rw [decide_eq_false (fun e => hx (by subst e; rfl))]
    · have hx : l[i] = l'[i] := by simpa using h
      refine pur ?_
      refine Round.mk (i + 1) (by show l.length - (i + 1) < l.length - i; omega) ⟨hi, ?_⟩ ⟨rfl, rfl, inc_e (by omega), trivial⟩ (LeL.refl _)
      rw [List.take_add_one, List.take_add_one, h2, List.getElem?_eq_getElem hi, List.getElem?_eq_getElem hi', hx]
  · have hin : l.length ≤ i := by have := of_decide_eq_false h; omega
    refine pur ?_
    refine Wp.ret (Ret 0 rfl ⟨?_, rfl⟩)
    rw [List.take_of_length_le hin, List.take_of_length_le (by omega)] at h2
    rw [decide_eq_true h2]
/-- The twenty marks. -/
theorem nd_eq {x y : Nd} : x = y ↔ x.op = y.op ∧ x.text = y.text ∧ x.num = y.num ∧ x.kids = y.kids := by
  cases x; cases y; simp
set_option maxHeartbeats 4000000 in
theorem same_tree_ct (t u : List Nd) (a a' : Option Addr) (c c' : Nat) (L : List Assn) (hT : TreeR L a c t) (hU : TreeR L a' c' u) (ht : Small t) (hu : Small u) :
    Ct Tryz.prog 28 #[.agg #[.slice a t.length c], .agg #[.slice a' u.length c']] L (ret fun v L' => (∃ r, v = .bool r ∧ (r = true ↔ t = u)) ∧ L' = L) := by
  have hlen := ht.len
  have hlen' := hu.len
  refine Ct.body Tryz.func28 rfl Tryz.ntmps28 Tryz.results28 rfl ?_
  refine pur ?_
  refine WpO.box (vs := [.slice a t.length c]) rfl rfl rfl (fun _ => Keeps.none) fun b2 => ?_
  refine pur ?_
  refine WpO.box (vs := [.slice a' u.length c']) rfl rfl rfl (fun _ => Keeps.none) fun b3 => ?_
  refine pur ?_
  refine Wp.branch rfl (fun h => ?_) (fun h => ?_)
  · have hne : t.length ≠ u.length := fun e => by simp [e] at h
    refine pur ?_
    refine Wp.ret (Ret 2 rfl ⟨⟨false, rfl, ?_⟩, rfl⟩)
    exact ⟨nofun, fun e => absurd (by rw [e]) hne⟩
  have he : t.length = u.length := by simp at h; omega
  refine pur ?_
  refine Wp.loopI (α := Nat) 0 (fun i => [(2, .v (.pointer (some ⟨b2, 0, none⟩))), (3, .v (.pointer (some ⟨b3, 0, none⟩))), (5, .v (.int .i64 i))]) (fun _ => ptA b3 24 [.slice a' u.length c'] :: ptA b2 24 [.slice a t.length c] :: L) (fun i => t.length - i) (fun i => i ≤ t.length ∧ t.take i = u.take i) ⟨Nat.zero_le _, rfl⟩ ⟨rfl, rfl, rfl, trivial⟩ (LeL.refl _) ?_
  rintro i ⟨h1, h2⟩
  refine pur ?_
  refine Wp.branch rfl (fun h => ?_) (fun h => ?_)
  · have hi : i < t.length := by have := of_decide_eq_true h; omega
    have hi' : i < u.length := by omega
    have e1 := List.getElem?_eq_getElem hi
    have e2 := List.getElem?_eq_getElem hi'
    obtain ⟨b, o, ka, kc, rfl, hE, hK⟩ := hT.at e1
    obtain ⟨b', o', ka', kc', rfl, hE', hK'⟩ := hU.at e2
    have hkl := ht.kids _ (List.getElem_mem hi)
    have hkl' := hu.kids _ (List.getElem_mem hi')
    generalize t[i] = x at e1 hE hK hkl
    generalize u[i] = y at e2 hE' hK' hkl'
    refine pur ?_
    refine S.idx i rfl rfl rfl rfl hi ?_
    refine S.loadN rfl rfl hE.cons.cons rfl ?_
    refine WpO.alloc rfl rfl (fun _ => Keeps.none) fun b6 => ?_
    refine pur ?_
    refine S.idx i rfl rfl rfl rfl hi' ?_
    refine S.loadN rfl rfl hE'.cons.cons.cons rfl ?_
    refine WpO.alloc rfl rfl (fun _ => Keeps.none) fun b7 => ?_
    refine pur ?_
    refine WpO.callqg Tryz.call52 rfl rfl (.cons rfl (by infer_instance) (.cons rfl (by infer_instance) .nil)) (fun _ => sameInts_ct x.kids y.kids ka ka' kc kc' _ hK.cons.cons.cons.cons hK'.cons.cons.cons.cons (by omega) (by omega)) Keeps.none ?_
    refine pur ?_
    refine Wp.branch rfl (fun h => ?_) (fun h => ?_)
    · have hx : x ≠ y := fun e => by subst e; simp at h
      refine pur ?_
      refine Wp.ret (Ret 4 rfl ⟨⟨false, rfl, ?_⟩, rfl⟩)
      refine ⟨nofun, fun e => absurd ?_ hx⟩
      subst e
      exact Option.some.inj (e1.symm.trans e2)
    · have hx : x = y := by
        have q : x.op = y.op ∧ x.text.data = y.text.data ∧ x.num = y.num ∧ x.kids = y.kids := by simpa [and_assoc] using h
        exact nd_eq.2 ⟨q.1, ByteArray.ext q.2.1, q.2.2.1, q.2.2.2⟩
      refine pur ?_
      refine Round.mk (i + 1) (by show t.length - (i + 1) < t.length - i; omega) ⟨hi, ?_⟩ ⟨rfl, rfl, inc_e (by omega), trivial⟩ (LeL.drop 2 _)
      rw [List.take_add_one, List.take_add_one, h2, e1, e2, hx]
  · have hin : t.length ≤ i := by have := of_decide_eq_false h; omega
    refine pur ?_
    refine Wp.ret (Ret 2 rfl ⟨⟨true, rfl, ?_⟩, rfl⟩)
    rw [List.take_of_length_le hin, List.take_of_length_le (by omega)] at h2
    exact ⟨fun _ => h2, fun _ => rfl⟩

end Go.Proofs.YtikgokpbhldlnaaGreatDoor
end

section
/- ShowBack: the walk. -/
namespace Go.Proofs.YtikgokpbhldlnaaGreatDoor
open Go Go.Ab
attribute [local irreducible] Wp WpO Qt OpT Ct Ent

theorem same_yes {t : List Nd} {a a' : Option Addr} {c c' : Nat} {L : List Assn} (hT : TreeR L a c t) (hU : TreeR L a' c' t) (ht : Small t) :
    Ct Tryz.prog 28 #[.agg #[.slice a t.length c], .agg #[.slice a' t.length c']] L (ret fun v L' => v = .bool true ∧ L' = L) :=
  (same_tree_ct t t a a' c c' L hT hU ht ht).mono fun e L' h => by
    cases e with
    | returned v =>
      obtain ⟨⟨r, h1, h2⟩, h3⟩ := h
      exact ⟨by rw [h1, h2.2 rfl], h3⟩
    | _ => exact h.elim
/-- The text of a sound tree. -/
def textT (t : List Nd) : List UInt8 := joinT ((nodeT t t.length (t.length - 1) [61]).map tokText)
theorem show_no {t : List Nd} {n : Int} (h : ¬ checkF goodR t = 0) : showF t n = ([], 7) := by
  unfold showF; rw [if_pos h]
theorem show_yes {t : List Nd} (h : checkF goodR t = 0) : showF t ((t.length : Int) - 1) = if 8000 < (textT t).length then ([], 11) else (textT t, 0) := by
  have := (check_sound h).1
  unfold showF
  rw [if_neg (fun q => q h), if_neg (by omega), show ((t.length : Int) - 1).toNat = t.length - 1 by omega]; rfl
theorem back_parse {t : List Nd} (hc : checkF goodR t = 0) (hsm : Small t) (h8 : (textT t).length ≤ 8000) : parseF (bs (ofL (textT t))) = (t, 0, 0) := by
  rw [bs_ofL]; exact back hc hsm h8
set_option maxHeartbeats 4000000 in
theorem showBack_ct (t : List Nd) (hsm : Small t) (a : Option Addr) (c : Nat) (L : List Assn) (hT : TreeR L a c t) (hTb : TabL L) (hE : ErrL L) :
    Ct Tryz.prog 9 #[.agg #[.slice a t.length c]] L (ret fun v L' => v = .bool true ∧ L' = L) := by
  refine Ct.body Tryz.func9 rfl Tryz.ntmps9 Tryz.results9 rfl ?_
  refine pur ?_
  refine WpO.box (vs := [.slice a t.length c]) rfl rfl rfl (fun _ => Keeps.none) fun b1 => ?_
  refine pur ?_
  refine WpO.callq Tryz.call11 rfl rfl (wakes_ct _ hTb.cons) Keeps.none ?_
  refine pur ?_
  refine S.loadN (vs := [.slice a t.length c]) rfl rfl (Ent.pt 0 1 rfl rfl) rfl ?_
  refine WpO.callq Tryz.call12 rfl rfl (sshow_ct t hsm a c _ hT.cons hTb.cons) Keeps.none ?_
  refine pur ?_
  refine S.loadN (vs := [.slice a t.length c]) rfl rfl (Ent.pt 0 1 rfl rfl) rfl ?_
  refine WpO.callq Tryz.call23 rfl rfl (check_ct t a c _ hT.cons hsm) Keeps.none ?_
  rw [checkF_eq]
  by_cases hc : checkF goodR t = 0
  · rw [hc, show_yes hc]
    by_cases h8 : 8000 < (textT t).length
    · rw [if_pos h8]
      refine pur ?_
      refine Wp.ret (Ret 1 rfl ⟨rfl, rfl⟩)
    · rw [if_neg h8]
      refine pur ?_
      refine WpO.call Tryz.call22 rfl rfl (parse_ct (ofL (textT t)) _ hE.cons (by rw [bs_ofL]; omega)) fun v L' ⟨q, e1, e2⟩ => ⟨Keeps.none, ?_⟩
      subst e1; subst e2
      rw [back_parse hc hsm (by omega)]
      refine WpO.openP 0 rfl fun M ⟨ks, hks, hM⟩ => ?_
      subst hM
      show WpO _ _ _ _ _ _ _ _ (ownA 36 4 q.1 q.2 (ndRows t ks) :: kidsP t ks :: ptA b1 24 [.slice a t.length c] :: L)
      refine WpO.know (fun k hs => tree_know (q := q) (t := t) (ks := ks) 0 1 rfl rfl hks hs) fun hU => ?_
      refine pur ?_
      refine WpO.alloc rfl rfl (fun _ => Keeps.none) fun b3 => ?_
      refine WpO.store 0 rfl rfl rfl rfl rfl rfl rfl rfl Keeps.none ?_
      refine pur ?_
      refine G.loadN (vs := [.slice q.1 t.length q.2]) rfl rfl rfl (by infer_instance) (Ent.pt 0 1 rfl rfl) rfl ?_
      refine G.loadN (vs := [.slice a t.length c]) rfl rfl rfl (by infer_instance) (Ent.pt 3 1 rfl rfl) rfl ?_
      refine WpO.callqg Tryz.call28 rfl rfl (.cons rfl (by infer_instance) (.cons rfl (by infer_instance) .nil)) (fun _ => same_yes hU.cons hT.cons.cons.cons.cons hsm) Keeps.none ?_
      refine pur ?_
      refine Wp.ret (Ret 4 rfl ⟨?_, rfl⟩)
      have hl : (((ofL (textT t)).size : Int) ≤ 8000) := by
        have := congrArg List.length (bs_ofL (textT t))
        rw [show (bs (ofL (textT t))).length = (ofL (textT t)).size from Array.length_toList ..] at this
        omega
      simp [hl]
  · rw [show_no hc]
    obtain h7 := (checkF_vals goodR t).resolve_left hc
    rw [h7]
    refine pur ?_
    refine Wp.ret (Ret 1 rfl ⟨rfl, rfl⟩)
end Go.Proofs.YtikgokpbhldlnaaGreatDoor
end
