/- Parts of a proof: Sx. -/
import Derived.Test.YtikgokpbhldlnaaGreatDoorMn
set_option linter.unusedVariables false
set_option linter.unusedSimpArgs false
set_option linter.unusedSectionVars false
section
/- show.Type and loiterref09.Type answer the same; ShowParts. -/
namespace Go.Proofs.YtikgokpbhldlnaaGreatDoor
open Go Go.Ab
attribute [local irreducible] Wp WpO Qt OpT Ct Ent

def typeF (t : List Nd) (n : Int) : List UInt8 × Int :=
  if ((showF t n).2 = 0 ∨ (showF t n).2 = 11) ∧ ¬ (ndOf t n.toNat).op = 23 ∧ ¬ (ndOf t n.toNat).op = 24 then ([], 6) else showF t n
theorem showF_in {t : List Nd} {n : Int} (h : (showF t n).2 = 0 ∨ (showF t n).2 = 11) : 0 ≤ n ∧ n < t.length := by
  unfold showF at h
  split at h
  · simp at h
  split at h
  · simp at h
  · omega
theorem type_at {L : List Assn} {a : Option Addr} {c : Nat} {t : List Nd} {n : Int} (hT : TreeR L a c t) :
    ∃ b o, 0 ≤ n ∧ n < t.length → a = some ⟨b, o, none⟩ ∧ n = (n.toNat : Int) ∧ n.toNat < t.length ∧ ∃ ka kc, Ent L (CellsAt b (o + n.toNat * 4) [.int .i64 (ndOf t n.toNat).op, .string (ndOf t n.toNat).text, .int .i64 (ndOf t n.toNat).num, .slice ka (ndOf t n.toNat).kids.length kc]) := by
  by_cases h : 0 ≤ n ∧ n < t.length
  · obtain ⟨b, o, ka, kc, e, hE, _⟩ := hT.at (ndOf_some (t := t) (j := n.toNat) (by omega))
    exact ⟨b, o, fun _ => ⟨e, by omega, by omega, ka, kc, hE⟩⟩
  · exact ⟨0, 0, fun q => absurd q h⟩
theorem stype_ct (t : List Nd) (hsm : Small t) (a : Option Addr) (c : Nat) (n : Int) (L : List Assn) (hT : TreeR L a c t) (hTb : TabL L) :
    Ct Tryz.prog 19 #[.agg #[.slice a t.length c], .int .i64 n] L (ret fun v L' => v = .tuple #[.string (ofL (typeF t n).1), .int .i64 (typeF t n).2] ∧ L' = L) := by
  obtain ⟨b, o, hbo⟩ := type_at (n := n) hT
  refine Ct.body Tryz.func19 rfl Tryz.ntmps19 Tryz.results19 rfl ?_
  refine pur ?_
  refine WpO.box (vs := [.slice a t.length c]) rfl rfl rfl (fun _ => Keeps.none) fun b2 => ?_
  refine pur ?_
  refine S.loadN (vs := [.slice a t.length c]) rfl rfl (Ent.pt 0 1 rfl rfl) rfl ?_
  refine pur ?_
  refine WpO.callq Tryz.call17 rfl rfl (sat_ct t hsm a c n _ hT.cons hTb.cons) Keeps.none ?_
  unfold typeF
  have hin := showF_in (t := t) (n := n)
  generalize showF t n = p at hin ⊢
  obtain ⟨s, e⟩ := p
  have hg : ∀ {x : Bool}, (x && (decide (e = 0) || decide (e = 11))) = true → 0 ≤ n ∧ n < t.length := fun {x} h => hin (by simp only [Bool.and_eq_true, Bool.or_eq_true, decide_eq_true_eq] at h; exact h.2)
  refine pur ?_
  refine G.idxO (b := b) (o := o) n.toNat rfl rfl rfl (by infer_instance) rfl (by infer_instance) (fun h => ?_) ?_
  · have := hbo (hin (by simpa only [Bool.or_eq_true, decide_eq_true_eq] using h))
    exact ⟨this.1, this.2.1, this.2.2.1⟩
  refine pur ?_
  refine G.loadIf (v := .int .i64 (ndOf t n.toNat).op) rfl rfl rfl (by infer_instance) (by infer_instance) (fun h => ?_) ?_
  · obtain ⟨_, _, _, ka, kc, hE⟩ := hbo (hin (by simpa only [Bool.or_eq_true, decide_eq_true_eq] using h))
    exact (Ent.sub 1 (j := 0) hE rfl).cons
  refine pur ?_
  refine G.idxO (b := b) (o := o) n.toNat rfl rfl rfl (by infer_instance) rfl (by infer_instance) (fun h => ?_) ?_
  · have := hbo (hin (by simp only [Bool.and_eq_true, Bool.or_eq_true, decide_eq_true_eq] at h; exact h.1))
    exact ⟨this.1, this.2.1, this.2.2.1⟩
  refine pur ?_
  refine G.loadIf (v := .int .i64 (ndOf t n.toNat).op) rfl rfl rfl (by infer_instance) (by infer_instance) (fun h => ?_) ?_
  · obtain ⟨_, _, _, ka, kc, hE⟩ := hbo (hin (by simp only [Bool.and_eq_true, Bool.or_eq_true, decide_eq_true_eq] at h; exact h.1))
    exact (Ent.sub 1 (j := 0) hE rfl).cons
  refine pur ?_
  refine Wp.branch rfl (fun h => ?_) (fun h => ?_)
  · refine pur ?_
    refine Wp.ret (Ret 1 rfl ⟨?_, rfl⟩)
    rw [if_pos (by simpa [and_assoc] using h)]; rfl
  · refine pur ?_
    refine Wp.ret (Ret 1 rfl ⟨?_, rfl⟩)
    rw [if_neg (by simpa [and_assoc] using h)]; rfl
theorem rtype_ct (t : List Nd) (hsm : Small t) (a : Option Addr) (c : Nat) (n : Int) (L : List Assn) (hT : TreeR L a c t) :
    Ct Tryz.prog 20 #[.agg #[.slice a t.length c], .int .i64 n] L (ret fun v L' => v = .tuple #[.string (ofL (typeF t n).1), .int .i64 (typeF t n).2] ∧ L' = L) := by
  obtain ⟨b, o, hbo⟩ := type_at (n := n) hT
  refine Ct.body Tryz.func20 rfl Tryz.ntmps20 Tryz.results20 rfl ?_
  refine pur ?_
  refine WpO.box (vs := [.slice a t.length c]) rfl rfl rfl (fun _ => Keeps.none) fun b2 => ?_
  refine pur ?_
  refine S.loadN (vs := [.slice a t.length c]) rfl rfl (Ent.pt 0 1 rfl rfl) rfl ?_
  refine pur ?_
  refine WpO.callq Tryz.call18 rfl rfl (rat_ct t hsm a c n _ hT.cons) Keeps.none ?_
  unfold typeF
  have hin := showF_in (t := t) (n := n)
  generalize showF t n = p at hin ⊢
  obtain ⟨s, e⟩ := p
  refine pur ?_
  refine Wp.branch rfl (fun h => ?_) (fun h => ?_)
  · have h1 : e = 0 ∨ e = 11 := by simpa only [Bool.or_eq_true, decide_eq_true_eq] using h
    obtain ⟨rfl, hn, hlt, ka, kc, hE⟩ := hbo (hin h1)
    refine pur ?_
    refine S.idx n.toNat rfl rfl rfl hn hlt ?_
    refine pur ?_
    refine G.idx n.toNat rfl rfl rfl (by infer_instance) rfl (by infer_instance) (fun _ => ⟨hn, hlt⟩) ?_
    refine pur ?_
    refine Wp.branch rfl (fun h => ?_) (fun h => ?_)
    · refine pur ?_
      refine Wp.ret (Ret 1 rfl ⟨?_, rfl⟩)
      rw [if_pos ⟨h1, by simpa using h⟩]; rfl
    · refine pur ?_
      refine Wp.ret (Ret 1 rfl ⟨?_, rfl⟩)
      rw [if_neg (fun q => by have := q.2; simp [this] at h)]; rfl
  · refine pur ?_
    refine Wp.ret (Ret 1 rfl ⟨?_, rfl⟩)
    rw [if_neg (fun q => by simp only [Bool.or_eq_false_iff, decide_eq_false_iff_not] at h; exact q.1.elim h.1 h.2)]; rfl
theorem showParts_ct (t : List Nd) (hsm : Small t) (a : Option Addr) (c : Nat) (n : Int) (L : List Assn) (hT : TreeR L a c t) (hTb : TabL L) :
    Ct Tryz.prog 5 #[.agg #[.slice a t.length c], .int .i64 n] L (ret fun v L' => v = .bool true ∧ L' = L) := by
  refine Ct.body Tryz.func5 rfl Tryz.ntmps5 Tryz.results5 rfl ?_
  refine pur ?_
  refine WpO.box (vs := [.slice a t.length c]) rfl rfl rfl (fun _ => Keeps.none) fun b1 => ?_
  refine pur ?_
  refine WpO.callq Tryz.call11 rfl rfl (wakes_ct _ hTb.cons) Keeps.none ?_
  refine pur ?_
  refine S.loadN (vs := [.slice a t.length c]) rfl rfl (Ent.pt 0 1 rfl rfl) rfl ?_
  refine pur ?_
  refine WpO.callq Tryz.call17 rfl rfl (sat_ct t hsm a c n _ hT.cons hTb.cons) Keeps.none ?_
  refine pur ?_
  refine S.loadN (vs := [.slice a t.length c]) rfl rfl (Ent.pt 0 1 rfl rfl) rfl ?_
  refine pur ?_
  refine WpO.callq Tryz.call18 rfl rfl (rat_ct t hsm a c n _ hT.cons) Keeps.none ?_
  refine pur ?_
  refine S.loadN (vs := [.slice a t.length c]) rfl rfl (Ent.pt 0 1 rfl rfl) rfl ?_
  refine pur ?_
  refine WpO.callq Tryz.call19 rfl rfl (stype_ct t hsm a c n _ hT.cons hTb.cons) Keeps.none ?_
  refine pur ?_
  refine S.loadN (vs := [.slice a t.length c]) rfl rfl (Ent.pt 0 1 rfl rfl) rfl ?_
  refine pur ?_
  refine WpO.callq Tryz.call20 rfl rfl (rtype_ct t hsm a c n _ hT.cons) Keeps.none ?_
  refine pur ?_
  refine Wp.ret (Ret 1 rfl ⟨?_, rfl⟩)
  rw [decide_eq_true rfl, decide_eq_true rfl, decide_eq_true rfl, decide_eq_true rfl]; rfl
end Go.Proofs.YtikgokpbhldlnaaGreatDoor
end
