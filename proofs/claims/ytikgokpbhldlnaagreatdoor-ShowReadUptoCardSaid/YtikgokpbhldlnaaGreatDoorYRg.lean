/- Parts of a proof: Fo. -/
import Derived.Test.YtikgokpbhldlnaaGreatDoorYRe
import Derived.Test.YtikgokpbhldlnaaGreatDoorYQj
set_option linter.unusedVariables false
set_option linter.unusedSimpArgs false
set_option linter.unusedSectionVars false
section
/- ShowRead: the walk. -/
namespace Go.Proofs.YtikgokpbhldlnaaGreatDoor
open Go Go.Ab
attribute [local irreducible] Wp WpO Qt OpT Ct Ent
theorem placed_ok {k : Tok} {q : Nat} (h : TokOk k) : TokOk (placed k q) ∧ tokText (placed k q) = tokText k := by
  refine ⟨?_, rfl⟩
  cases h with
  | int n p h h2 => exact .int n q h h2
  | chr n p h h2 => exact .chr n q h h2
  | str s p h => exact .str s q h
  | mark s p h => exact .mark s q h
  | op s p h => exact .op s q h
  | name s k p h h2 => exact .name s k q h h2
theorem place_ok : ∀ (ks : List Tok) (a : Nat), AllOk ks → AllOk (place ks a) ∧ (place ks a).map tokText = ks.map tokText
  | [], _, _ => ⟨nofun, rfl⟩
  | k :: r, a, h => by
    obtain ⟨h1, h2⟩ := place_ok r (a + (tokText k).length + 1) fun x hx => h x (List.mem_cons_of_mem _ hx)
    obtain ⟨h3, h4⟩ := placed_ok (q := a) (h k (by simp))
    rw [place]
    refine ⟨fun x hx => ?_, by rw [List.map_cons, List.map_cons, h2, h4]⟩
    rcases List.mem_cons.1 hx with rfl | hx
    · exact h3
    · exact h1 x hx
/-- What is scanned of the text of a sound tree. -/
theorem back_scan {t : List Nd} (hc : checkF goodR t = 0) (hsm : Small t) (h8 : (textT t).length ≤ 8000) : ∃ l, tokensF (bs (ofL (textT t))) = (l, 0, 0) ∧ AllOk l ∧ l.length ≤ 48000 ∧ joinT (l.map tokText) = textT t := by
  obtain ⟨l1, l2, hs, hlen⟩ := check_sound hc
  have hok : AllOk (nodeT t t.length (t.length - 1) [61]) := node_ok hs hsm _ _ _ (by omega) (.inl rfl)
  obtain ⟨p1, p2⟩ := place_ok _ 0 hok
  refine ⟨_, ?_, p1, ?_, ?_⟩
  · rw [bs_ofL]; exact scan_text hok h8
  · rw [place_len]; exact hlen _ (by omega) _ _
  · rw [p2]; rfl
set_option maxHeartbeats 4000000 in
theorem showRead_ct (s : ByteArray) (L : List Assn) (hTb : TabL L) (hE : ErrL L) (hl : (bs s).length ≤ 1048576) :
    Ct Tryz.prog 10 #[.string s] L (ret fun v L' => v = .bool true ∧ L' = L) := by
  have hA := (parse_all (bs s)).ok
  refine Ct.body Tryz.func10 rfl Tryz.ntmps10 Tryz.results10 rfl ?_
  refine pur ?_
  refine WpO.callq Tryz.call11 rfl rfl (wakes_ct _ hTb) Keeps.none ?_
  refine pur ?_
  refine WpO.call Tryz.call22 rfl rfl (parse_ct s L hE (by omega)) fun v L' ⟨q, e1, e2⟩ => ⟨Keeps.none, ?_⟩
  subst e1; subst e2
  generalize parseF (bs s) = R at hA
  obtain ⟨t, pat, e⟩ := R
  simp only [] at hA
  refine WpO.openP 0 rfl fun M ⟨ks, hks, hM⟩ => ?_
  subst hM
  show WpO _ _ _ _ _ _ _ _ (ownA 36 4 q.1 q.2 (ndRows t ks) :: kidsP t ks :: L)
  refine WpO.know (fun k hs => tree_know (q := q) (t := t) (ks := ks) 0 1 rfl rfl hks hs) fun hT => ?_
  refine pur ?_
  refine WpO.alloc rfl rfl (fun _ => Keeps.none) fun b3 => ?_
  refine pur ?_
  by_cases he : e = 0
  case neg =>
    refine Wp.branch rfl (fun h => ?_) (fun h => ?_)
    · refine pur ?_
      exact Wp.ret (Ret 3 rfl ⟨rfl, rfl⟩)
    · exfalso; simp [he] at h
  subst he
  obtain ⟨k1, hsm, k3, k4⟩ := hA rfl
  have hc : checkF goodR t = 0 := by rw [← checkF_eq]; exact k1
  refine Wp.branch rfl (fun h => absurd h (by simp)) (fun _ => ?_)
  refine pur ?_
  refine S.loadN (vs := [.slice q.1 t.length q.2]) rfl rfl (Ent.pt 0 1 rfl rfl) rfl ?_
  refine WpO.callq Tryz.call12 rfl rfl (sshow_ct t hsm q.1 q.2 _ hT.cons hTb.cons.cons.cons) Keeps.none ?_
  rw [show_yes hc]
  by_cases h8 : 8000 < (textT t).length
  · rw [if_pos h8]
    refine pur ?_
    exact Wp.ret (Ret 3 rfl ⟨rfl, rfl⟩)
  rw [if_neg h8]
  obtain ⟨l, hscan, hlok, hll, hlt⟩ := back_scan hc hsm (by omega)
  refine pur ?_
  refine WpO.call Tryz.call22 rfl rfl (parse_ct (ofL (textT t)) _ hE.cons.cons.cons (by rw [bs_ofL]; omega)) fun v L' ⟨q2, e1, e2⟩ => ⟨Keeps.none, ?_⟩
  subst e1; subst e2
  rw [back_parse hc hsm (by omega)]
  refine WpO.openP 0 rfl fun M ⟨ks2, hks2, hM⟩ => ?_
  subst hM
  show WpO _ _ _ _ _ _ _ _ (ownA 36 4 q2.1 q2.2 (ndRows t ks2) :: kidsP t ks2 :: ptA b3 24 [.slice q.1 t.length q.2] :: ownA 36 4 q.1 q.2 (ndRows t ks) :: kidsP t ks :: L)
  refine WpO.know (fun k hs => tree_know (q := q2) (t := t) (ks := ks2) 0 1 rfl rfl hks2 hs) fun hU => ?_
  refine pur ?_
  refine WpO.alloc rfl rfl (fun _ => Keeps.none) fun b8 => ?_
  refine pur ?_
  refine S.loadN (vs := [.slice q2.1 t.length q2.2]) rfl rfl (Ent.pt 0 1 rfl rfl) rfl ?_
  refine WpO.callq Tryz.call12 rfl rfl (sshow_ct t hsm q2.1 q2.2 _ hU.cons hTb.cons.cons.cons.cons.cons.cons) Keeps.none ?_
  rw [show_yes hc, if_neg h8]
  refine pur ?_
  refine WpO.call Tryz.call24 rfl rfl (stokens_ct (ofL (textT t)) _ hE.cons.cons.cons.cons.cons.cons (by rw [bs_ofL]; omega)) fun v L' ⟨ta, tc, e1, e2⟩ => ⟨Keeps.none, ?_⟩
  subst e1; subst e2
  rw [hscan]
  refine WpO.know (fun k hs => own_know 0 rfl hs) fun hk => ?_
  refine pur ?_
  refine WpO.callq Tryz.call31 rfl rfl (stext_ct l hlok ta tc _ (Sl.own 0 rfl hk) (by omega) hTb.cons.cons.cons.cons.cons.cons.cons) Keeps.none ?_
  rw [hlt]
  refine pur ?_
  refine G.loadN (vs := [.slice q2.1 t.length q2.2]) rfl rfl rfl (by infer_instance) (Ent.pt 1 1 rfl rfl) rfl ?_
  refine G.loadN (vs := [.slice q.1 t.length q.2]) rfl rfl rfl (by infer_instance) (Ent.pt 4 1 rfl rfl) rfl ?_
  refine WpO.callqg Tryz.call28 rfl rfl (.cons rfl (by infer_instance) (.cons rfl (by infer_instance) .nil)) (fun _ => same_yes hU.cons.cons hT.cons.cons.cons.cons.cons hsm) Keeps.none ?_
  refine pur ?_
  refine Wp.ret (Ret 7 rfl ⟨?_, rfl⟩)
  simp
end Go.Proofs.YtikgokpbhldlnaaGreatDoor
end
