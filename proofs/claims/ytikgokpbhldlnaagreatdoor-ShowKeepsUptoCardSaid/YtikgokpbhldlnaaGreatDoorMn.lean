/- Parts of a proof: Sw. -/
import Derived.Test.YtikgokpbhldlnaaGreatDoorMm
set_option linter.unusedVariables false
set_option linter.unusedSimpArgs false
set_option linter.unusedSectionVars false
section
namespace Go.Proofs.YtikgokpbhldlnaaGreatDoor
open Go Go.Ab
attribute [local irreducible] Wp WpO Qt OpT Ct Ent

/-! ## loiterref09.At, Show -/
set_option maxHeartbeats 2000000 in
theorem rat_ct (t : List Nd) (hsm : Small t) (a : Option Addr) (c : Nat) (n : Int) (L : List Assn) (hT : TreeR L a c t) :
    Ct Tryz.prog 18 #[.agg #[.slice a t.length c], .int .i64 n] L (ret fun v L' => v = .tuple #[.string (ofL (showF t n).1), .int .i64 (showF t n).2] ∧ L' = L) := by
  have hlen := hsm.len
  refine Ct.body Tryz.func18 rfl Tryz.ntmps18 Tryz.results18 rfl ?_
  refine pur ?_
  refine WpO.box (vs := [.slice a t.length c]) rfl rfl rfl (fun _ => Keeps.none) fun b2 => ?_
  refine pur ?_
  refine S.loadN (vs := [.slice a t.length c]) rfl rfl (Ent.pt 0 1 rfl rfl) rfl ?_
  refine WpO.callq Tryz.call36 rfl rfl (rcheck_ct t a c _ hT.cons hsm) Keeps.none ?_
  refine pur ?_
  refine Wp.branch rfl (fun h => ?_) (fun h => ?_)
  · have hc : ¬ checkF goodR t = 0 := by simpa using h
    refine pur ?_
    refine Wp.ret (Ret 1 rfl ⟨?_, rfl⟩)
    unfold showF; rw [if_pos hc]; rfl
  have hc : checkF goodR t = 0 := by simpa using h
  obtain ⟨h1, h2, hs, hlb⟩ := check_sound hc
  refine pur ?_
  refine Wp.branch rfl (fun h => ?_) (fun h => ?_)
  · have hn : n < 0 ∨ (t.length : Int) ≤ n := by simpa only [Bool.or_eq_true, decide_eq_true_eq] using h
    refine pur ?_
    refine Wp.ret (Ret 1 rfl ⟨?_, rfl⟩)
    unfold showF; rw [if_neg (fun q => q hc), if_pos hn]; rfl
  have hn : ¬ (n < 0 ∨ (t.length : Int) ≤ n) := by
    simp only [Bool.or_eq_false_iff, decide_eq_false_iff_not] at h
    exact fun q => q.elim h.1 h.2
  obtain ⟨k, rfl⟩ := Int.eq_ofNat_of_zero_le (show 0 ≤ n by omega)
  have hk : k < t.length := by omega
  have hok := node_ok hs hsm t.length k [61] hk (.inl rfl)
  refine pur ?_
  refine S.loadN (vs := [.slice a t.length c]) rfl rfl (Ent.pt 0 1 rfl rfl) rfl ?_
  refine S.build rfl rfl rfl ?_
  refine WpO.box (vs := [.slice a t.length c, .slice none 0 0, .bool false]) rfl rfl rfl (fun _ => Keeps.none) fun bw => ?_
  refine pur ?_
  refine WpO.parts (L' := rm bw (.slice a t.length c) (none, 0) ([], false) (ptA b2 24 [.slice a t.length c] :: L)) (fun _ q => (Sat.ownNil q).swap) ?_
  refine pur ?_
  refine WpO.call Tryz.call37 rfl rfl (rnodeL_ct (rnode_all hs hsm t.length k hk hk) ⟨#[61]⟩ (nodeT t t.length k [61]) rfl (none, 0) ([], false) _ hT.cons (by decide) (by decide)) fun v L' ⟨x1, e⟩ => ⟨Keeps.none, ?_⟩
  subst e
  have hsh : showF t (k : Int) = if 8000 < (joinT (tx (nodeT t t.length k [61]))).length then ([], 11) else (joinT (tx (nodeT t t.length k [61])), 0) := by
    unfold showF; rw [if_neg (fun q => q hc), if_neg hn]; rfl
  rw [hsh]
  generalize nodeT t t.length k [61] = l at hok ⊢
  have hne : ∀ s ∈ tx l, s ≠ [] := fun s hs => by
    unfold tx at hs
    obtain ⟨q, hq, rfl⟩ := List.mem_map.1 hs
    exact tok_ne (hok q hq)
  obtain ⟨hd1, hd2⟩ := puts_done hne
  have hpl := puts_len (tx l) ([], false) (by decide)
  generalize puts ([], false) (tx l) = p at hd1 hd2 hpl ⊢
  refine pur ?_
  have hd1' : (p.2 || decide ((8000 : Int) < (p.1.length : Int))) = decide (8000 < (joinT (tx l)).length) := by
    rw [← hd1]; congr 1
    exact decide_eq_decide.2 (by omega)
  refine Wp.branch rfl (fun h => ?_) (fun h => ?_)
  · have h8 : 8000 < (joinT (tx l)).length := of_decide_eq_true (hd1'.symm.trans h)
    refine pur ?_
    refine Wp.ret (Ret 3 rfl ⟨?_, rfl⟩)
    rw [if_pos h8]; rfl
  · have h8 : ¬ 8000 < (joinT (tx l)).length := of_decide_eq_false (hd1'.symm.trans h)
    refine pur ?_
    refine WpO.know (fun k q => own_know 1 rfl q) fun hkn => ?_
    refine S.bytesStr p.1 rfl rfl (Sl.own 1 rfl hkn) rfl ?_
    refine pur ?_
    refine Wp.ret (Ret 3 rfl ⟨?_, rfl⟩)
    rw [if_neg h8, ← hd2 h8]; rfl
theorem rshow_ct (t : List Nd) (hsm : Small t) (a : Option Addr) (c : Nat) (L : List Assn) (hT : TreeR L a c t) :
    Ct Tryz.prog 13 #[.agg #[.slice a t.length c]] L (ret fun v L' => v = .tuple #[.string (ofL (showF t ((t.length : Int) - 1)).1), .int .i64 (showF t ((t.length : Int) - 1)).2] ∧ L' = L) := by
  have hlen := hsm.len
  refine Ct.body Tryz.func13 rfl Tryz.ntmps13 Tryz.results13 rfl ?_
  refine pur ?_
  refine WpO.box (vs := [.slice a t.length c]) rfl rfl rfl (fun _ => Keeps.none) fun b1 => ?_
  refine pur ?_
  refine S.loadN (vs := [.slice a t.length c]) rfl rfl (Ent.pt 0 1 rfl rfl) rfl ?_
  refine pur ?_
  rw [wrap_id (by omega) (by omega)]
  refine WpO.callq Tryz.call18 rfl rfl (rat_ct t hsm a c _ _ hT.cons) Keeps.none ?_
  refine pur ?_
  exact Wp.ret (Ret 1 rfl ⟨rfl, rfl⟩)

/-! ## The fixed call -/
def oneT : List Nd := [⟨3, ⟨#[]⟩, 1, []⟩, ⟨17, ⟨#[]⟩, 0, [0]⟩, ⟨18, ⟨#[]⟩, 0, []⟩, ⟨15, ⟨#[]⟩, 0, [1, 2]⟩, ⟨19, ⟨#[102]⟩, 0, [3]⟩, ⟨20, ⟨#[]⟩, 0, [4]⟩]
set_option maxHeartbeats 40000000 in
theorem one_ct (L : List Assn) : Ct Tryz.prog 32 #[] L (ret fun v L' => ∃ a c, v = .agg #[.slice a 6 c] ∧ TreeR L' a c oneT ∧ LeL L' L) := by
  refine Ct.bodyC Tryz.func32 rfl Tryz.ntmps32 Tryz.results32 rfl ?_
  refine pur ?_
  refine WpO.alloc rfl rfl (fun _ => Keeps.none) fun b0 => ?_
  refine pur ?_
  refine S.build rfl rfl rfl ?_
  refine WpO.buildSlice rfl rfl rfl rfl rfl rfl rfl (fun _ => Keeps.none) fun b2 => ?_
  refine S.build rfl rfl rfl ?_
  refine S.build rfl rfl rfl ?_
  refine WpO.buildSlice rfl rfl rfl rfl rfl rfl rfl (fun _ => Keeps.none) fun b5 => ?_
  refine S.build rfl rfl rfl ?_
  refine WpO.buildSlice rfl rfl rfl rfl rfl rfl rfl (fun _ => Keeps.none) fun b7 => ?_
  refine S.build rfl rfl rfl ?_
  refine WpO.buildSlice rfl rfl rfl rfl rfl rfl rfl (fun _ => Keeps.none) fun b9 => ?_
  refine S.build rfl rfl rfl ?_
  refine WpO.buildSlice rfl rfl rfl rfl rfl rfl rfl (fun _ => Keeps.none) fun b11 => ?_
  refine S.build rfl rfl rfl ?_
  refine WpO.store 5 rfl rfl rfl rfl rfl rfl rfl rfl Keeps.none ?_
  refine pur ?_
  refine Wp.ret (RetC 0 (.cons (.agg rfl (by infer_instance) (Ent.pt 5 1 rfl rfl) rfl) .nil) ⟨some ⟨b11, 0, none⟩, 6, rfl, ⟨[(none, 0), (some ⟨b2, 0, none⟩, 1), (none, 0), (some ⟨b5, 0, none⟩, 2), (some ⟨b7, 0, none⟩, 1), (some ⟨b9, 0, none⟩, 1)], rfl, ?_, ?_⟩, ?_⟩)
  · exact Sl.ofPt 0 rfl rfl (by intro r hr; simp [oneT] at hr; rcases hr with rfl | rfl | rfl | rfl | rfl | rfl <;> rfl) (Nat.le_refl _)
  · intro i nd k e1 e2
    match i, e1, e2 with
    | 0, e1, e2 => simp [oneT] at e1 e2; subst e1; subst e2; exact Sl.nil
    | 1, e1, e2 => simp [oneT] at e1 e2; subst e1; subst e2; exact Sl.ofPt 4 rfl rfl (by intro r hr; simp [ints] at hr; subst hr; rfl) (Nat.le_refl _)
    | 2, e1, e2 => simp [oneT] at e1 e2; subst e1; subst e2; exact Sl.nil
    | 3, e1, e2 => simp [oneT] at e1 e2; subst e1; subst e2; exact Sl.ofPt 3 rfl rfl (by intro r hr; simp [ints] at hr; rcases hr with rfl | rfl <;> rfl) (Nat.le_refl _)
    | 4, e1, e2 => simp [oneT] at e1 e2; subst e1; subst e2; exact Sl.ofPt 2 rfl rfl (by intro r hr; simp [ints] at hr; subst hr; rfl) (Nat.le_refl _)
    | 5, e1, e2 => simp [oneT] at e1 e2; subst e1; subst e2; exact Sl.ofPt 1 rfl rfl (by intro r hr; simp [ints] at hr; subst hr; rfl) (Nat.le_refl _)
    | i + 6, e1, _ => simp [oneT] at e1
  · exact LeL.drop 6 _
theorem one_small : Small oneT := by
  constructor
  · decide
  · intro nd h; simp [oneT] at h; rcases h with rfl | rfl | rfl | rfl | rfl | rfl <;> decide
  · intro nd h; simp [oneT] at h; rcases h with rfl | rfl | rfl | rfl | rfl | rfl <;> decide
  · intro nd h; simp [oneT] at h; rcases h with rfl | rfl | rfl | rfl | rfl | rfl <;> decide
theorem one_node : nodeT oneT 6 5 [61] = [mkT [102], mkT [61], ⟨3, [], 1, 0⟩] := rfl
theorem one_check : checkF goodR oneT = 0 := by decide +kernel
theorem one_show : showF oneT 5 = ([102, 32, 61, 32, 49], 0) := by
  have h1 : (nodeT oneT oneT.length (5 : Int).toNat [61]).map tokText = [[102], [61], [49]] := by
    show (nodeT oneT 6 5 [61]).map tokText = _
    rw [one_node, List.map_cons, List.map_cons, List.map_cons, tok_mk, tok_mk]
    show [102] :: [61] :: [Lib.decDigits 1] = _
    rw [Lib.decDigits_one (by decide)]; rfl
  unfold showF
  rw [if_neg (fun q => q one_check), if_neg (by decide), h1]
  rfl
theorem wakes_ct (L : List Assn) (hTb : TabL L) : Ct Tryz.prog 11 #[] L (ret fun v L' => v = .bool true ∧ L' = L) := by
  refine Ct.body Tryz.func11 rfl Tryz.ntmps11 Tryz.results11 rfl ?_
  refine pur ?_
  refine WpO.call Tryz.call32 rfl rfl (one_ct L) fun v L' ⟨a, c, e, hT, hL⟩ => ⟨Keeps.none, ?_⟩
  subst e
  refine WpO.callq Tryz.call12 rfl rfl (sshow_ct oneT one_small a c L' hT (hTb.wk hL)) Keeps.none ?_
  rw [show ((oneT.length : Int) - 1) = 5 from rfl, one_show]
  refine WpO.parts hL ?_
  refine pur ?_
  exact Wp.ret (Ret 0 rfl ⟨rfl, rfl⟩)
theorem showTexts_ct (t : List Nd) (hsm : Small t) (a : Option Addr) (c : Nat) (L : List Assn) (hT : TreeR L a c t) (hTb : TabL L) :
    Ct Tryz.prog 3 #[.agg #[.slice a t.length c]] L (ret fun v L' => v = .bool true ∧ L' = L) := by
  refine Ct.body Tryz.func3 rfl Tryz.ntmps3 Tryz.results3 rfl ?_
  refine pur ?_
  refine WpO.box (vs := [.slice a t.length c]) rfl rfl rfl (fun _ => Keeps.none) fun b1 => ?_
  refine pur ?_
  refine WpO.callq Tryz.call11 rfl rfl (wakes_ct _ hTb.cons) Keeps.none ?_
  refine pur ?_
  refine S.loadN (vs := [.slice a t.length c]) rfl rfl (Ent.pt 0 1 rfl rfl) rfl ?_
  refine WpO.callq Tryz.call12 rfl rfl (sshow_ct t hsm a c _ hT.cons hTb.cons) Keeps.none ?_
  refine pur ?_
  refine S.loadN (vs := [.slice a t.length c]) rfl rfl (Ent.pt 0 1 rfl rfl) rfl ?_
  refine WpO.callq Tryz.call13 rfl rfl (rshow_ct t hsm a c _ hT.cons) Keeps.none ?_
  refine pur ?_
  refine Wp.ret (Ret 1 rfl ⟨?_, rfl⟩)
  rw [decide_eq_true rfl, decide_eq_true rfl]; rfl
end Go.Proofs.YtikgokpbhldlnaaGreatDoor
end
