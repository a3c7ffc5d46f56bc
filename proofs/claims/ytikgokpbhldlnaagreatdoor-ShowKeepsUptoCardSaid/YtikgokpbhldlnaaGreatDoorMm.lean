/- Parts of a proof: Su Sv. -/
import Derived.Test.YtikgokpbhldlnaaGreatDoorMl
set_option linter.unusedVariables false
set_option linter.unusedSimpArgs false
set_option linter.unusedSectionVars false
section
namespace Go.Proofs.YtikgokpbhldlnaaGreatDoor
open Go Go.Ab
attribute [local irreducible] Wp WpO Qt OpT Ct Ent

section
variable {t : List Nd} {a : Option Addr} {c bw : Nat} {N : Nat → List UInt8 → List Tok} {fs : List Nat} {ka : Option Addr} {kc : Nat} {L : List Assn}
theorem opAt_nd {j : Nat} (h : j < t.length) : opAt t j = (ndOf t j).op := by unfold opAt; rw [ndOf_some h]; rfl
theorem kid_ops {p : Int → Prop} (lt : ∀ j ∈ fs, j < t.length) (h : ∀ o ∈ fs.map (opAt t), p o) : ∀ j ∈ fs, p (ndOf t j).op := fun j hj => by
  rw [← opAt_nd (lt j hj)]; exact h _ (List.mem_map.2 ⟨j, hj, rfl⟩)
set_option maxHeartbeats 4000000 in
theorem rtycon_ct (num : Int) (s : ByteArray) (hp : partsF 24 (fs.map (opAt t)) (bs s) = true) (hf : fieldsF 24 num (bs s) = true) (hs : (bs s).length ≤ 1048576) (C : RKd t a c bw N fs ka kc L) (x : Option Addr × Nat) (st : PSt) (hb : st.1.length ≤ 8001) :
    Ct Tryz.prog 129 #[.pointer (some ⟨bw, 0, none⟩), .agg #[.int .i64 24, .string s, .int .i64 num, .slice ka fs.length kc]] (rm bw (.slice a t.length c) x st L) (ret fun _ L' => ∃ x', L' = rm bw (.slice a t.length c) x' (puts st (tx (namedT t N 24 (bs s) fs))) L) := by
  have hL := lay_of hp hf
  rw [List.length_map] at hL
  have hk24 := kid_ops C.lt ((rk_of hp).p24 (.inl rfl))
  obtain ⟨_, h24⟩ := parts24 hp
  rw [List.length_map] at h24
  have hsp : ∀ j ∈ fs, ∀ r, N j r = N j [61] := fun j hj r => C.sp j hj (by have := hk24 j hj; omega) _ _
  refine Ct.body Tryz.func129 rfl Tryz.ntmps129 Tryz.results129 rfl ?_
  refine pur ?_
  refine WpO.box (vs := [.int .i64 24, .string s, .int .i64 num, .slice ka fs.length kc]) rfl rfl rfl (fun _ => Keeps.none) fun b0 => ?_
  refine WpO.parts LeL.third ?_
  refine pur ?_
  refine Wp.branch rfl (fun h => ?_) (fun h => ?_)
  · have hs2 : bs s = [45, 62] := of_decide_eq_true h
    obtain ⟨ja, jb, r, rfl⟩ := two_of ((hL.con (by omega)).2.1 (.inr hs2))
    have hn : tx (namedT t N 24 (bs s) (ja :: jb :: r)) = tx (closedT N ja (sameF t ja 24 [45, 62])) ++ ([[45, 62]] ++ tx (N jb [61])) := by
      unfold namedT
      rw [if_neg (by decide), if_pos (.inr hs2), hs2]
      simp only [tx_app, tx_mk, List.append_assoc, List.cons_append, List.nil_append, List.getD_cons_zero, List.getD_cons_succ]
    rw [hn, puts_app, puts_app]
    obtain ⟨b2, o2, rfl, hE0⟩ := C.kid (k := 0) (j := ja) rfl
    have hE1 := C.kid2 (k := 1) (j := jb) rfl
    have hja := C.lt ja (by simp)
    obtain ⟨bt, ot, ka2, kc2, rfl, hE, _⟩ := C.tr.at (ndOf_some hja)
    refine pur ?_
    refine Wp.draw rfl [0,1,2,3,4,5,6,7,8,9,10,11,12] 12 12 _ rfl (by decide +kernel) (fun _ h => h) ?_
    refine pur ?_
    refine S.idx 0 rfl rfl rfl rfl (by simp) ?_
    refine pur ?_
    refine S.idx ja rfl rfl rfl rfl hja ?_
    refine S.loadN rfl rfl hE.cons.cons.cons rfl ?_
    refine WpO.alloc rfl rfl (fun _ => Keeps.by fun _ s => s.tail) fun b4 => ?_
    refine pur ?_
    refine Wp.parts LeL.third ?_
    refine Wp.draw rfl [0,1,2,3,4,5,6,7,8,9,10,11,12,13] 14 14 (ptA b4 36 [.int .i64 (ndOf t ja).op, .string (ndOf t ja).text, .int .i64 (ndOf t ja).num, .slice ka2 (ndOf t ja).kids.length kc2] :: (ptA b0 36 [.int .i64 24, .string s, .int .i64 num, .slice (some ⟨b2, o2, none⟩) (ja :: jb :: r).length kc] :: L)) rfl (by decide +kernel) (fun _ h => h.tail.tail) ?_
    refine pur ?_
    refine S.idx 0 rfl rfl rfl rfl (by simp) ?_
    refine pur ?_
    refine WpO.call Tryz.call63 rfl rfl (rinW_ct (C.hN ja (by simp)) _ (sameF t ja 24 [45, 62]) rfl ⟨#[]⟩ (hsp ja (by simp) _) x _ _ C.tr.cons.cons (by decide) hb) fun v L' ⟨x1, e⟩ => ⟨by subst e; exact Keeps.by fun _ h => h.tail.tail, ?_⟩
    subst e
    refine pur ?_
    refine WpO.parts (L' := rm bw (.slice (some ⟨bt, ot, none⟩) t.length c) x1 (puts st (tx (closedT N ja (sameF t ja 24 [45, 62])))) (ptA b0 36 [.int .i64 24, .string s, .int .i64 num, .slice (some ⟨b2, o2, none⟩) (ja :: jb :: r).length kc] :: L)) LeL.drop3 ?_
    refine WpO.call Tryz.call61 rfl rfl (putL_ct bw _ x1 _ ⟨#[45, 62]⟩ [45, 62] rfl _ (by decide) (puts_len _ _ hb)) fun v L' ⟨x2, e⟩ => ⟨Keeps.none, ?_⟩
    subst e
    refine pur ?_
    refine S.idx 1 rfl rfl rfl rfl (by simp) ?_
    refine pur ?_
    refine WpO.call Tryz.call37 rfl rfl (rnodeL_ct (C.hN jb (by simp)) ⟨#[]⟩ (N jb [61]) (hsp jb (by simp) _) x2 _ _ C.tr.cons (by decide) (puts_len _ _ (puts_len _ _ hb))) fun v L' ⟨x3, e⟩ => ⟨Keeps.none, ?_⟩
    subst e
    refine pur ?_
    exact RetNL rfl LeL.drop3 ⟨x3, rfl⟩
  have hs2 : ¬ bs s = [45, 62] := of_decide_eq_false h
  have hs1 : ¬ (bs s = [58] ∨ bs s = [45, 62]) := by
    rintro (q | q)
    · rcases h24 with (((h | ⟨h, _⟩) | ⟨h, _⟩) | ⟨h, _⟩) | ⟨_, h⟩
      · rw [q] at h; exact absurd h (by decide)
      · rw [q] at h; exact absurd h (by decide)
      · rw [q] at h; exact absurd h (by decide)
      · exact hs2 h
      · rw [q] at h; simp at h
    · exact hs2 q
  refine pur ?_
  refine Wp.branch rfl (fun h => ?_) (fun h => ?_)
  · have hs3 : bs s = [91, 93] := of_decide_eq_true h
    obtain ⟨ja, r, rfl⟩ := one_of ((hL.con (by omega)).2.2 hs3)
    have hn : tx (namedT t N 24 (bs s) (ja :: r)) = [[91]] ++ (tx (N ja [61]) ++ [[93]]) := by
      unfold namedT
      rw [if_neg (by decide), if_neg hs1, if_pos hs3]
      simp only [tx_app, tx_mk, List.append_assoc, List.cons_append, List.nil_append, List.getD_cons_zero, List.getD_cons_succ]
    rw [hn, puts_app, puts_app]
    obtain ⟨b2, o2, rfl, hE0⟩ := C.kid (k := 0) (j := ja) rfl
    refine pur ?_
    refine WpO.call Tryz.call61 rfl rfl (putL_ct bw _ x _ ⟨#[91]⟩ [91] rfl _ (by decide) hb) fun v L' ⟨x1, e⟩ => ⟨Keeps.none, ?_⟩
    subst e
    refine pur ?_
    refine S.idx 0 rfl rfl rfl rfl (by simp) ?_
    refine pur ?_
    refine WpO.call Tryz.call37 rfl rfl (rnodeL_ct (C.hN ja (by simp)) ⟨#[]⟩ (N ja [61]) (hsp ja (by simp) _) x1 _ _ C.tr.cons (by decide) (puts_len _ _ hb)) fun v L' ⟨x2, e⟩ => ⟨Keeps.none, ?_⟩
    subst e
    refine pur ?_
    refine WpO.call Tryz.call61 rfl rfl (putL_ct bw _ x2 _ ⟨#[93]⟩ [93] rfl _ (by decide) (puts_len _ _ (puts_len _ _ hb))) fun v L' ⟨x3, e⟩ => ⟨Keeps.none, ?_⟩
    subst e
    refine pur ?_
    exact RetNL rfl LeL.drop3 ⟨x3, rfl⟩
  have hs3 : ¬ bs s = [91, 93] := of_decide_eq_false h
  refine pur ?_
  refine WpO.callq Tryz.call125 rfl rfl (rname_ct s _ (by omega)) Keeps.none ?_
  refine pur ?_
  refine Wp.branch rfl (fun h => ?_) (fun h => ?_)
  · have hs4 : nameF (bs s) = 2 := of_decide_eq_true h
    have hh := (nameF_two (s := bs s) (by omega)).2.2.2.2
    have hn : tx (namedT t N 24 (bs s) fs) = [bs s] ++ tx (argsT t N fs) := by
      unfold namedT
      rw [if_neg (by decide), if_neg hs1, if_neg hs3, if_neg hh]
      simp only [tx_app, tx_mk, List.append_assoc, List.cons_append, List.nil_append, List.getD_cons_zero, List.getD_cons_succ]
    rw [hn, puts_app]
    refine pur ?_
    refine WpO.call Tryz.call61 rfl rfl (putL_ct bw _ x _ s (bs s) rfl _ (by omega) hb) fun v L' ⟨x1, e⟩ => ⟨Keeps.none, ?_⟩
    subst e
    refine pur ?_
    refine WpO.call Tryz.call128 rfl rfl (ratypes_ct C.cons hk24 x1 _ (puts_len _ _ hb)) fun v L' ⟨x2, e⟩ => ⟨Keeps.none, ?_⟩
    subst e
    refine pur ?_
    exact RetNL rfl LeL.drop3 ⟨x2, rfl⟩
  · have hs4 : ¬ nameF (bs s) = 2 := of_decide_eq_false h
    have hh : (bs s).headD 0 = 40 := by
      rcases h24 with (((h | ⟨h, _⟩) | ⟨h, _⟩) | ⟨h, _⟩) | ⟨_, h⟩
      · exact absurd h hs4
      · rw [h]; rfl
      · exact absurd h hs3
      · exact absurd h hs2
      · rw [h]; rfl
    have hn : tx (namedT t N 24 (bs s) fs) = [[40]] ++ (tx (betweenT N [44] fs) ++ [[41]]) := by
      unfold namedT
      rw [if_neg (by decide), if_neg hs1, if_neg hs3, if_pos hh]
      simp only [tx_app, tx_mk, List.append_assoc, List.cons_append, List.nil_append, List.getD_cons_zero, List.getD_cons_succ]
    rw [hn, puts_app, puts_app]
    refine pur ?_
    refine WpO.call Tryz.call61 rfl rfl (putL_ct bw _ x _ ⟨#[40]⟩ [40] rfl _ (by decide) hb) fun v L' ⟨x1, e⟩ => ⟨Keeps.none, ?_⟩
    subst e
    refine pur ?_
    refine WpO.call Tryz.call67 rfl rfl (rlist_ct C.cons ⟨#[44]⟩ ⟨#[]⟩ [44] rfl (by decide) (by decide) (fun j hj => hsp j hj _) x1 _ (puts_len _ _ hb)) fun v L' ⟨x2, e⟩ => ⟨Keeps.none, ?_⟩
    subst e
    refine pur ?_
    refine WpO.call Tryz.call61 rfl rfl (putL_ct bw _ x2 _ ⟨#[41]⟩ [41] rfl _ (by decide) (puts_len _ _ (puts_len _ _ hb))) fun v L' ⟨x3, e⟩ => ⟨Keeps.none, ?_⟩
    subst e
    refine pur ?_
    exact RetNL rfl LeL.drop3 ⟨x3, rfl⟩
/-- What rest lays. -/
def restT (t : List Nd) (N : Nat → List UInt8 → List Tok) (op : Int) (s : List UInt8) (fs : List Nat) (sep : List UInt8) : List Tok :=
  if op = 30 ∨ op = 24 ∨ op = 22 ∨ op = 21 then namedT t N op s fs else partT t N op s fs sep
set_option maxHeartbeats 8000000 in
theorem rrest_ct (op num : Int) (s sep : ByteArray) (hp : partsF op (fs.map (opAt t)) (bs s) = true) (hf : fieldsF op num (bs s) = true) (hs : (bs s).length ≤ 1048576) (hsep : (bs sep).length < 1073741824) (C : RKd t a c bw N fs ka kc L) (x : Option Addr × Nat) (st : PSt) (hb : st.1.length ≤ 8001) :
    Ct Tryz.prog 68 #[.pointer (some ⟨bw, 0, none⟩), .agg #[.int .i64 op, .string s, .int .i64 num, .slice ka fs.length kc], .string sep] (rm bw (.slice a t.length c) x st L) (ret fun _ L' => ∃ x', L' = rm bw (.slice a t.length c) x' (puts st (tx (restT t N op (bs s) fs (bs sep)))) L) := by
  have hL := lay_of hp hf
  rw [List.length_map] at hL
  have hcap := C.cap
  have hfl := C.fl
  have hK := rk_of hp
  refine Ct.body Tryz.func68 rfl Tryz.ntmps68 Tryz.results68 rfl ?_
  refine pur ?_
  refine WpO.box (vs := [.int .i64 op, .string s, .int .i64 num, .slice ka fs.length kc]) rfl rfl rfl (fun _ => Keeps.none) fun b0 => ?_
  refine WpO.parts LeL.third ?_
  refine pur ?_
  refine Wp.branch rfl (fun h => ?_) (fun h => ?_)
  · have ho : op = 14 := of_decide_eq_true h
    subst ho
    obtain ⟨ja, jb, r, rfl⟩ := two_of (hL.two (by omega))
    have hn : tx (restT t N 14 (bs s) (ja :: jb :: r) (bs sep)) = tx (N ja [61]) ++ tx (N jb [45, 62]) := by
      unfold restT
      rw [if_neg (by decide)]
      unfold partT
      rw [if_pos rfl]
      simp only [tx_app, tx_mk, List.append_assoc, List.cons_append, List.nil_append, List.getD_cons_zero, List.getD_cons_succ]
    rw [hn, puts_app]
    have h14 := hK.p14 rfl
    rw [show ((ja :: jb :: r).map (opAt t)).getD 0 0 = opAt t ja from rfl, opAt_nd (C.lt ja (by simp))] at h14
    obtain ⟨b2, o2, rfl, hE0⟩ := C.kid (k := 0) (j := ja) rfl
    have hE1 := C.kid2 (k := 1) (j := jb) rfl
    refine pur ?_
    refine S.idx 0 rfl rfl rfl rfl (by simp) ?_
    refine pur ?_
    refine WpO.call Tryz.call37 rfl rfl (rnodeL_ct (C.hN ja (by simp)) ⟨#[]⟩ (N ja [61]) (C.sp ja (by simp) (by omega) _ _) x _ _ C.tr.cons (by decide) hb) fun v L' ⟨x1, e⟩ => ⟨Keeps.none, ?_⟩
    subst e
    refine pur ?_
    refine S.idx 1 rfl rfl rfl rfl (by simp) ?_
    refine pur ?_
    refine WpO.call Tryz.call37 rfl rfl (rnodeL_ct (C.hN jb (by simp)) ⟨#[45, 62]⟩ (N jb [45, 62]) (rfl) x1 _ _ C.tr.cons (by decide) (puts_len _ _ hb)) fun v L' ⟨x2, e⟩ => ⟨Keeps.none, ?_⟩
    subst e
    refine pur ?_
    exact RetNL rfl LeL.drop3 ⟨x2, rfl⟩
  have n14 : ¬ op = 14 := of_decide_eq_false h
  refine pur ?_
  refine Wp.branch rfl (fun h => ?_) (fun h => ?_)
  · have ho : op = 15 := of_decide_eq_true h
    subst ho
    obtain ⟨l, z, rfl⟩ := last_of (hL.one (by omega))
    have hn : tx (restT t N 15 (bs s) (l ++ [z]) (bs sep)) = tx (l.map fun j => N j (bs sep)).flatten ++ tx (if 0 < (ndOf t z).kids.length then mk [[119, 104, 101, 114, 101]] ++ N z [61] else []) := by
      unfold restT
      rw [if_neg (by decide)]
      unfold partT
      rw [if_neg (by decide), if_neg (by decide), if_pos rfl]
      rw [(lastD l z).1, (lastD l z).2]
      simp only [tx_app, tx_mk, List.append_assoc, List.cons_append, List.nil_append, List.getD_cons_zero, List.getD_cons_succ]
    rw [hn, puts_app]
    obtain ⟨b2, o2, rfl, hE0⟩ := C.kid (k := l.length) (j := z) (by simp)
    have hz := C.lt z (by simp)
    obtain ⟨bt, ot, ka2, kc2, rfl, hE, _⟩ := C.tr.at (ndOf_some hz)
    have hll : (l ++ [z]).length = l.length + 1 := by simp
    refine pur ?_
    refine Wp.loopI (α := Nat × Option Addr × Nat) (0, x) (fun y => [(0, .v (.pointer (some ⟨bw, 0, none⟩))), (2, .v (.string sep)), (4, .v (.pointer (some ⟨b0, 0, none⟩))), (6, .v (.int .i64 (l ++ [z]).length)), (7, .v (.int .i64 y.1))])
      (fun y => rm bw (.slice (some ⟨bt, ot, none⟩) t.length c) y.2 (puts st (tx ((l.take y.1).map fun j => N j (bs sep)).flatten)) (ptA b0 36 [.int .i64 15, .string s, .int .i64 num, .slice (some ⟨b2, o2, none⟩) (l ++ [z]).length kc] :: L)) (fun y => l.length - y.1) (fun y => y.1 ≤ l.length) (Nat.zero_le _) ⟨rfl, rfl, rfl, rfl, rfl, trivial⟩ (LeL.refl _) ?_
    rintro ⟨i, xx⟩ hi
    simp only [] at hi
    show Wp _ _ _ _ [_, _, _, _, (7, .v (.int .i64 i))] _ (rm bw (.slice (some ⟨bt, ot, none⟩) t.length c) xx (puts st (tx ((l.take i).map fun j => N j (bs sep)).flatten)) _)
    refine pur ?_
    rw [lastI hfl]
    refine Wp.branch rfl (fun h => ?_) (fun h => ?_)
    · have hix := lt_len h
      have hg := List.getElem?_eq_getElem hix
      have hmem := List.getElem_mem hix
      have hE2 := C.kid2 (k := i) (j := l[i]) (by rw [List.getElem?_append_left hix]; exact hg)
      generalize l[i] = j at hg hmem hE2
      have hsn := flat_snoc (fun j => N j (bs sep)) l i j hg
      refine pur ?_
      refine S.idx i rfl rfl rfl rfl (by omega) ?_
      refine pur ?_
      refine WpO.call Tryz.call37 rfl rfl (C.hN j (by simp [hmem]) sep xx _ _ C.tr.cons hsep (puts_len _ _ hb)) fun v L' ⟨x1, e⟩ => ⟨Keeps.none, ?_⟩
      subst e
      have e2 : puts (puts st (tx ((l.take i).map fun j => N j (bs sep)).flatten)) (tx (N j (bs sep))) = puts st (tx ((l.take (i + 1)).map fun j => N j (bs sep)).flatten) := by rw [hsn, tx_app, puts_app]
      rw [e2]
      refine pur ?_
      exact Round.mk (i + 1, x1) (by simp only []; omega) hix ⟨rfl, rfl, rfl, rfl, inc_e (by omega), trivial⟩ (LeL.refl _)
    · have hin : l.length ≤ i := by have := of_decide_eq_false h; omega
      rw [List.take_of_length_le hin]
      refine pur ?_
      refine Wp.draw rfl [0,1,2,3,4,5,6,7,8,9,10,11,12,13,14,15] 16 16 _ rfl (by decide +kernel) (fun _ h => h) ?_
      refine pur ?_
      refine S.idx l.length rfl rfl rfl (lastI hfl) (by simp) ?_
      refine pur ?_
      refine S.idx z rfl rfl rfl rfl hz ?_
      refine pur ?_
      refine Wp.branch rfl (fun h => ?_) (fun h => ?_)
      · have h0 : 0 < (ndOf t z).kids.length := by have := of_decide_eq_true h; omega
        rw [if_pos h0, tx_app, tx_mk, puts_app]
        refine pur ?_
        refine WpO.call Tryz.call61 rfl rfl (putL_ct bw _ xx _ ⟨#[119, 104, 101, 114, 101]⟩ [119, 104, 101, 114, 101] rfl _ (by decide) (puts_len _ _ hb)) fun v L' ⟨x1, e⟩ => ⟨Keeps.none, ?_⟩
        subst e
        refine pur ?_
        refine S.idx l.length rfl rfl rfl (lastI hfl) (by simp) ?_
        refine pur ?_
        refine WpO.call Tryz.call37 rfl rfl (rnodeL_ct (C.hN z (by simp)) ⟨#[61]⟩ (N z [61]) (rfl) x1 _ _ C.tr.cons (by decide) (puts_len _ _ (puts_len _ _ hb))) fun v L' ⟨x2, e⟩ => ⟨Keeps.none, ?_⟩
        subst e
        refine pur ?_
        exact RetNL rfl LeL.drop3 ⟨x2, rfl⟩
      · have h0 : ¬ 0 < (ndOf t z).kids.length := by have := of_decide_eq_false h; omega
        rw [if_neg h0]
        refine pur ?_
        exact RetNL rfl LeL.drop3 ⟨xx, rfl⟩
  have n15 : ¬ op = 15 := of_decide_eq_false h
  refine pur ?_
  refine Wp.branch rfl (fun h => ?_) (fun h => ?_)
  · have ho : op = 16 := of_decide_eq_true h
    subst ho
    obtain ⟨ja, jb, r, rfl⟩ := two_of (hL.two (by omega))
    have hn : tx (restT t N 16 (bs s) (ja :: jb :: r) (bs sep)) = [[124]] ++ (tx (N ja [61]) ++ ([bs sep] ++ tx (N jb [61]))) := by
      unfold restT
      rw [if_neg (by decide)]
      unfold partT
      rw [if_neg (by decide), if_neg (by decide), if_neg (by decide), if_pos rfl]
      simp only [tx_app, tx_mk, List.append_assoc, List.cons_append, List.nil_append, List.getD_cons_zero, List.getD_cons_succ]
    rw [hn, puts_app, puts_app, puts_app]
    obtain ⟨b2, o2, rfl, hE0⟩ := C.kid (k := 0) (j := ja) rfl
    have hE1 := C.kid2 (k := 1) (j := jb) rfl
    refine pur ?_
    refine WpO.call Tryz.call61 rfl rfl (putL_ct bw _ x _ ⟨#[124]⟩ [124] rfl _ (by decide) hb) fun v L' ⟨x1, e⟩ => ⟨Keeps.none, ?_⟩
    subst e
    refine pur ?_
    refine S.idx 0 rfl rfl rfl rfl (by simp) ?_
    refine pur ?_
    refine WpO.call Tryz.call37 rfl rfl (rnodeL_ct (C.hN ja (by simp)) ⟨#[61]⟩ (N ja [61]) (rfl) x1 _ _ C.tr.cons (by decide) (puts_len _ _ hb)) fun v L' ⟨x2, e⟩ => ⟨Keeps.none, ?_⟩
    subst e
    refine pur ?_
    refine WpO.call Tryz.call61 rfl rfl (putL_ct bw _ x2 _ sep (bs sep) rfl _ (by omega) (puts_len _ _ (puts_len _ _ hb))) fun v L' ⟨x3, e⟩ => ⟨Keeps.none, ?_⟩
    subst e
    refine pur ?_
    refine S.idx 1 rfl rfl rfl rfl (by simp) ?_
    refine pur ?_
    refine WpO.call Tryz.call37 rfl rfl (rnodeL_ct (C.hN jb (by simp)) ⟨#[61]⟩ (N jb [61]) (rfl) x3 _ _ C.tr.cons (by decide) (puts_len _ _ (puts_len _ _ (puts_len _ _ hb)))) fun v L' ⟨x4, e⟩ => ⟨Keeps.none, ?_⟩
    subst e
    refine pur ?_
    exact RetNL rfl LeL.drop3 ⟨x4, rfl⟩
  have n16 : ¬ op = 16 := of_decide_eq_false h
  refine pur ?_
  refine Wp.branch rfl (fun h => ?_) (fun h => ?_)
  · have ho : op = 17 := of_decide_eq_true h
    subst ho
    obtain ⟨ja, r, rfl⟩ := one_of (hL.one (by omega))
    have hn : tx (restT t N 17 (bs s) (ja :: r) (bs sep)) = [bs sep] ++ tx (N ja [61]) := by
      unfold restT
      rw [if_neg (by decide)]
      unfold partT
      rw [if_neg (by decide), if_neg (by decide), if_neg (by decide), if_neg (by decide), if_pos rfl]
      simp only [tx_app, tx_mk, List.append_assoc, List.cons_append, List.nil_append, List.getD_cons_zero, List.getD_cons_succ]
    rw [hn, puts_app]
    obtain ⟨b2, o2, rfl, hE0⟩ := C.kid (k := 0) (j := ja) rfl
    refine pur ?_
    refine WpO.call Tryz.call61 rfl rfl (putL_ct bw _ x _ sep (bs sep) rfl _ (by omega) hb) fun v L' ⟨x1, e⟩ => ⟨Keeps.none, ?_⟩
    subst e
    refine pur ?_
    refine S.idx 0 rfl rfl rfl rfl (by simp) ?_
    refine pur ?_
    refine WpO.call Tryz.call37 rfl rfl (rnodeL_ct (C.hN ja (by simp)) ⟨#[61]⟩ (N ja [61]) (rfl) x1 _ _ C.tr.cons (by decide) (puts_len _ _ hb)) fun v L' ⟨x2, e⟩ => ⟨Keeps.none, ?_⟩
    subst e
    refine pur ?_
    exact RetNL rfl LeL.drop3 ⟨x2, rfl⟩
  have n17 : ¬ op = 17 := of_decide_eq_false h
  refine pur ?_
  refine Wp.branch rfl (fun h => ?_) (fun h => ?_)
  · have ho : op = 18 := of_decide_eq_true h
    subst ho
    have hn : tx (restT t N 18 (bs s) fs (bs sep)) = [[123]] ++ (tx (betweenT N [59] fs) ++ [[125]]) := by
      unfold restT
      rw [if_neg (by decide)]
      unfold partT
      rw [if_neg (by decide), if_neg (by decide), if_neg (by decide), if_neg (by decide), if_neg (by decide), if_pos rfl]
      simp only [tx_app, tx_mk, List.append_assoc, List.cons_append, List.nil_append, List.getD_cons_zero, List.getD_cons_succ]
    rw [hn, puts_app, puts_app]
    refine pur ?_
    refine WpO.call Tryz.call61 rfl rfl (putL_ct bw _ x _ ⟨#[123]⟩ [123] rfl _ (by decide) hb) fun v L' ⟨x1, e⟩ => ⟨Keeps.none, ?_⟩
    subst e
    refine pur ?_
    refine WpO.call Tryz.call67 rfl rfl (rlist_ct C.cons ⟨#[59]⟩ ⟨#[61]⟩ [59] rfl (by decide) (by decide) (fun _ _ => rfl) x1 _ (puts_len _ _ hb)) fun v L' ⟨x2, e⟩ => ⟨Keeps.none, ?_⟩
    subst e
    refine pur ?_
    refine WpO.call Tryz.call61 rfl rfl (putL_ct bw _ x2 _ ⟨#[125]⟩ [125] rfl _ (by decide) (puts_len _ _ (puts_len _ _ hb))) fun v L' ⟨x3, e⟩ => ⟨Keeps.none, ?_⟩
    subst e
    refine pur ?_
    exact RetNL rfl LeL.drop3 ⟨x3, rfl⟩
  have n18 : ¬ op = 18 := of_decide_eq_false h
  refine pur ?_
  refine Wp.branch rfl (fun h => ?_) (fun h => ?_)
  · have ho : op = 20 := of_decide_eq_true h
    subst ho
    have hn : tx (restT t N 20 (bs s) fs (bs sep)) = tx (betweenT N [59] fs) := by
      unfold restT
      rw [if_neg (by decide)]
      unfold partT
      rw [if_neg (by decide), if_neg (by decide), if_neg (by decide), if_neg (by decide), if_neg (by decide), if_neg (by decide), if_pos rfl]
    rw [hn]
    refine pur ?_
    refine WpO.call Tryz.call67 rfl rfl (rlist_ct C.cons ⟨#[59]⟩ ⟨#[61]⟩ [59] rfl (by decide) (by decide) (fun _ _ => rfl) x _ hb) fun v L' ⟨x1, e⟩ => ⟨Keeps.none, ?_⟩
    subst e
    refine pur ?_
    exact RetNL rfl LeL.drop3 ⟨x1, rfl⟩
  have n20 : ¬ op = 20 := of_decide_eq_false h
  refine pur ?_
  refine Wp.branch rfl (fun h => ?_) (fun h => ?_)
  · have ho : op = 19 := of_decide_eq_true h
    subst ho
    obtain ⟨l, z, rfl⟩ := last_of (hL.one (by omega))
    have hn : tx (restT t N 19 (bs s) (l ++ [z]) (bs sep)) = [bs s] ++ (tx (argsT t N l) ++ tx (N z [61])) := by
      unfold restT
      rw [if_neg (by decide)]
      unfold partT
      rw [if_neg (by decide), if_pos rfl]
      rw [(lastD l z).1, (lastD l z).2]
      simp only [tx_app, tx_mk, List.append_assoc, List.cons_append, List.nil_append, List.getD_cons_zero, List.getD_cons_succ]
    rw [hn, puts_app, puts_app]
    have h19 : ∀ j ∈ l, 25 ≤ (ndOf t j).op ∧ (ndOf t j).op ≤ 32 := by
      have h1 := hK.pini (.inr rfl)
      rw [show ((l ++ [z]).map (opAt t)).take (((l ++ [z]).map (opAt t)).length - 1) = l.map (opAt t) from by simp] at h1
      exact kid_ops (fun j hj => C.lt j (by simp [hj])) h1
    obtain ⟨b2, o2, rfl, hE0⟩ := C.kid (k := l.length) (j := z) (by simp)
    have hll : (l ++ [z]).length = l.length + 1 := by simp
    refine pur ?_
    refine WpO.call Tryz.call61 rfl rfl (putL_ct bw _ x _ s (bs s) rfl _ (by omega) hb) fun v L' ⟨x1, e⟩ => ⟨Keeps.none, ?_⟩
    subst e
    refine pur ?_
    refine S.sliceL 0 l.length rfl rfl Bd.no (Bd.at l.length rfl (by infer_instance) (fun _ => lastI hfl)) ⟨Nat.zero_le _, by omega⟩ ?_
    rw [slA_zero (.inr ⟨b2, o2, rfl⟩), Nat.sub_zero, Nat.sub_zero]
    refine pur ?_
    refine WpO.call Tryz.call66 rfl rfl (rapats_ct C.init.cons h19 x1 _ (puts_len _ _ hb)) fun v L' ⟨x2, e⟩ => ⟨Keeps.none, ?_⟩
    subst e
    refine pur ?_
    refine S.idx l.length rfl rfl rfl (lastI hfl) (by simp) ?_
    refine pur ?_
    refine WpO.call Tryz.call37 rfl rfl (rnodeL_ct (C.hN z (by simp)) ⟨#[61]⟩ (N z [61]) (rfl) x2 _ _ C.tr.cons (by decide) (puts_len _ _ (puts_len _ _ hb))) fun v L' ⟨x3, e⟩ => ⟨Keeps.none, ?_⟩
    subst e
    refine pur ?_
    exact RetNL rfl LeL.drop3 ⟨x3, rfl⟩
  have n19 : ¬ op = 19 := of_decide_eq_false h
  refine pur ?_
  refine Wp.branch rfl (fun h => ?_) (fun h => ?_)
  · have ho : op = 21 := of_decide_eq_true h
    subst ho
    have hn : tx (restT t N 21 (bs s) fs (bs sep)) = [[100, 97, 116, 97]] ++ ([bs s] ++ tx (dataT t N [61] fs)) := by
      unfold restT
      rw [if_pos (by decide)]
      unfold namedT
      rw [if_pos rfl]
      simp only [tx_app, tx_mk, List.append_assoc, List.cons_append, List.nil_append, List.getD_cons_zero, List.getD_cons_succ]
    rw [hn, puts_app, puts_app]
    have h21 := kid_ops C.lt (hK.p21 rfl)
    refine pur ?_
    refine WpO.call Tryz.call61 rfl rfl (putL_ct bw _ x _ ⟨#[100, 97, 116, 97]⟩ [100, 97, 116, 97] rfl _ (by decide) hb) fun v L' ⟨x1, e⟩ => ⟨Keeps.none, ?_⟩
    subst e
    refine pur ?_
    refine WpO.call Tryz.call61 rfl rfl (putL_ct bw _ x1 _ s (bs s) rfl _ (by omega) (puts_len _ _ hb)) fun v L' ⟨x2, e⟩ => ⟨Keeps.none, ?_⟩
    subst e
    refine pur ?_
    refine Wp.loopI (α := Nat × List UInt8 × PSt × Option Addr × Nat) (0, [61], puts (puts st [[100, 97, 116, 97]]) [bs s], x2) (fun y => [(0, .v (.pointer (some ⟨bw, 0, none⟩))), (4, .v (.pointer (some ⟨b0, 0, none⟩))), (6, .v (.int .i64 fs.length)), (8, .v (.string (ofL y.2.1))), (9, .v (.int .i64 y.1))])
      (fun y => rm bw (.slice a t.length c) y.2.2.2 y.2.2.1 (ptA b0 36 [.int .i64 21, .string s, .int .i64 num, .slice ka fs.length kc] :: L)) (fun y => fs.length - y.1) (fun y => y.1 ≤ fs.length ∧ y.2.1.length = 1 ∧ y.2.2.1.1.length ≤ 8001 ∧ puts (puts (puts st [[100, 97, 116, 97]]) [bs s]) (tx (dataT t N [61] fs)) = puts y.2.2.1 (tx (dataT t N y.2.1 (fs.drop y.1)))) ⟨Nat.zero_le _, rfl, puts_len _ _ (puts_len _ _ hb), rfl⟩ ⟨rfl, rfl, rfl, rfl, rfl, trivial⟩ (LeL.refl _) ?_
    rintro ⟨i, m, cur, xx⟩ ⟨hi, hm, hcb, hc⟩
    simp only [] at hi hm hcb hc
    rw [hc]
    clear hc
    show Wp _ _ _ _ [_, _, _, (8, .v (.string (ofL m))), (9, .v (.int .i64 i))] _ (rm bw (.slice a t.length c) xx cur _)
    refine pur ?_
    refine Wp.branch rfl (fun h => ?_) (fun h => ?_)
    · have hix := lt_len h
      have hg := List.getElem?_eq_getElem hix
      have hmem := List.getElem_mem hix
      have hdr := List.drop_eq_getElem_cons hix
      generalize fs[i] = j at hg hmem hdr
      have hj := C.lt j hmem
      have h21j := h21 j hmem
      obtain ⟨b2, o2, rfl, hE2⟩ := C.kid hg
      rw [hdr]
      refine pur ?_
      refine S.idx i rfl rfl rfl rfl hix ?_
      refine pur ?_
      refine WpO.callq Tryz.call65 rfl rfl (rop_ct hj xx cur _ C.tr.cons) Keeps.none ?_
      refine pur ?_
      refine Wp.branch rfl (fun h2 => ?_) (fun h2 => ?_)
      · have h22 : (ndOf t j).op = 22 := of_decide_eq_true h2
        have hd : tx (dataT t N m (j :: fs.drop (i + 1))) = [m] ++ (tx (N j [61]) ++ tx (dataT t N [124] (fs.drop (i + 1)))) := by rw [dataT, if_pos h22]; simp only [tx_app, tx_mk, List.append_assoc]
        rw [hd, puts_app, puts_app]
        refine pur ?_
        refine WpO.call Tryz.call61 rfl rfl (putL_ct bw _ xx _ (ofL m) m (bs_ofL m) _ (by rw [bs_ofL]; omega) hcb) fun v L' ⟨x3, e⟩ => ⟨Keeps.none, ?_⟩
        subst e
        refine pur ?_
        refine S.idx i rfl rfl rfl rfl hix ?_
        refine pur ?_
        refine WpO.call Tryz.call37 rfl rfl (rnodeL_ct (C.hN j hmem) ⟨#[]⟩ (N j [61]) (C.sp j hmem (by omega) _ _) x3 _ _ C.tr.cons (by decide) (puts_len _ _ hcb)) fun v L' ⟨x4, e⟩ => ⟨Keeps.none, ?_⟩
        subst e
        refine pur ?_
        exact Round.mk (i + 1, [124], puts (puts cur [m]) (tx (N j [61])), x4) (by simp only []; omega) ⟨hix, rfl, puts_len _ _ (puts_len _ _ hcb), rfl⟩ ⟨rfl, rfl, rfl, rfl, inc_e (by omega), trivial⟩ (LeL.refl _)
      · have h22 : ¬ (ndOf t j).op = 22 := of_decide_eq_false h2
        have hd : tx (dataT t N m (j :: fs.drop (i + 1))) = tx (N j [61]) ++ tx (dataT t N m (fs.drop (i + 1))) := by rw [dataT, if_neg h22, tx_app]
        rw [hd, puts_app]
        refine pur ?_
        refine S.idx i rfl rfl rfl rfl hix ?_
        refine pur ?_
        refine WpO.call Tryz.call37 rfl rfl (rnodeL_ct (C.hN j hmem) ⟨#[]⟩ (N j [61]) (C.sp j hmem (by omega) _ _) xx _ _ C.tr.cons (by decide) hcb) fun v L' ⟨x4, e⟩ => ⟨Keeps.none, ?_⟩
        subst e
        refine pur ?_
        exact Round.mk (i + 1, m, puts cur (tx (N j [61])), x4) (by simp only []; omega) ⟨hix, hm, puts_len _ _ hcb, rfl⟩ ⟨rfl, rfl, rfl, rfl, inc_e (by omega), trivial⟩ (LeL.refl _)
    · have hin : fs.length ≤ i := by have := of_decide_eq_false h; omega
      rw [List.drop_eq_nil_of_le hin]
      refine pur ?_
      exact RetNL rfl LeL.drop3 ⟨xx, rfl⟩
  have n21 : ¬ op = 21 := of_decide_eq_false h
  refine pur ?_
  refine Wp.branch rfl (fun h => ?_) (fun h => ?_)
  · have ho : op = 22 := of_decide_eq_true h
    subst ho
    have hnm := fields22 (.inr rfl) hf
    obtain ⟨hm0, hm1, hm2, hm3, hm4⟩ := nameF_two (s := bs s) (by omega)
    have hn : tx (restT t N 22 (bs s) fs (bs sep)) = [bs s] ++ tx (argsT t N fs) := by
      unfold restT
      rw [if_pos (by decide)]
      unfold namedT
      rw [if_neg (by decide), if_neg (fun q => q.elim hm1 hm2), if_neg hm3, if_neg hm4]
      simp only [tx_app, tx_mk, List.append_assoc, List.cons_append, List.nil_append, List.getD_cons_zero, List.getD_cons_succ]
    rw [hn, puts_app]
    refine pur ?_
    refine WpO.call Tryz.call61 rfl rfl (putL_ct bw _ x _ s (bs s) rfl _ (by omega) hb) fun v L' ⟨x1, e⟩ => ⟨Keeps.none, ?_⟩
    subst e
    refine pur ?_
    refine WpO.call Tryz.call128 rfl rfl (ratypes_ct C.cons (kid_ops C.lt (hK.p24 (.inr rfl))) x1 _ (puts_len _ _ hb)) fun v L' ⟨x2, e⟩ => ⟨Keeps.none, ?_⟩
    subst e
    refine pur ?_
    exact RetNL rfl LeL.drop3 ⟨x2, rfl⟩
  have n22 : ¬ op = 22 := of_decide_eq_false h
  refine pur ?_
  refine Wp.branch rfl (fun h => ?_) (fun h => ?_)
  · have ho : op = 30 := of_decide_eq_true h
    subst ho
    have h30 := kid_ops C.lt (hK.p30 rfl)
    have hsp : ∀ j ∈ fs, ∀ r, N j r = N j [61] := fun j hj r => C.sp j hj (by have := h30 j hj; omega) _ _
    obtain ⟨_, hp30⟩ := parts30 hp
    rw [List.length_map] at hp30
    refine pur ?_
    refine Wp.branch rfl (fun h => ?_) (fun h => ?_)
    · have hs2 : bs s = [58] := of_decide_eq_true h
      obtain ⟨ja, jb, r, rfl⟩ := two_of ((hL.con (by omega)).2.1 (.inl hs2))
      have hn : tx (restT t N 30 (bs s) (ja :: jb :: r) (bs sep)) = tx (closedT N ja (sameF t ja 30 [58])) ++ ([[58]] ++ tx (N jb [61])) := by
        unfold restT
        rw [if_pos (by decide)]
        unfold namedT
        rw [if_neg (by decide), if_pos (.inl hs2), hs2]
        simp only [tx_app, tx_mk, List.append_assoc, List.cons_append, List.nil_append, List.getD_cons_zero, List.getD_cons_succ]
      rw [hn, puts_app, puts_app]
      obtain ⟨b2, o2, rfl, hE0⟩ := C.kid (k := 0) (j := ja) rfl
      have hE1 := C.kid2 (k := 1) (j := jb) rfl
      have hja := C.lt ja (by simp)
      obtain ⟨bt, ot, ka2, kc2, rfl, hE, _⟩ := C.tr.at (ndOf_some hja)
      refine pur ?_
      refine Wp.draw rfl [0,1,2,3,4,5,6,7,8,9,10,11,12] 12 12 _ rfl (by decide +kernel) (fun _ h => h) ?_
      refine pur ?_
      refine S.idx 0 rfl rfl rfl rfl (by simp) ?_
      refine pur ?_
      refine S.idx ja rfl rfl rfl rfl hja ?_
      refine S.loadN rfl rfl hE.cons.cons.cons rfl ?_
      refine WpO.alloc rfl rfl (fun _ => Keeps.by fun _ s => s.tail) fun b4 => ?_
      refine pur ?_
      refine Wp.parts LeL.third ?_
      refine Wp.draw rfl [0,1,2,3,4,5,6,7,8,9,10,11,12,13] 14 14 (ptA b4 36 [.int .i64 (ndOf t ja).op, .string (ndOf t ja).text, .int .i64 (ndOf t ja).num, .slice ka2 (ndOf t ja).kids.length kc2] :: (ptA b0 36 [.int .i64 30, .string s, .int .i64 num, .slice (some ⟨b2, o2, none⟩) (ja :: jb :: r).length kc] :: L)) rfl (by decide +kernel) (fun _ h => h.tail.tail) ?_
      refine pur ?_
      refine S.idx 0 rfl rfl rfl rfl (by simp) ?_
      refine pur ?_
      refine WpO.call Tryz.call63 rfl rfl (rinW_ct (C.hN ja (by simp)) _ (sameF t ja 30 [58]) rfl ⟨#[]⟩ (hsp ja (by simp) _) x _ _ C.tr.cons.cons (by decide) hb) fun v L' ⟨x1, e⟩ => ⟨by subst e; exact Keeps.by fun _ h => h.tail.tail, ?_⟩
      subst e
      refine pur ?_
      refine WpO.parts (L' := rm bw (.slice (some ⟨bt, ot, none⟩) t.length c) x1 (puts st (tx (closedT N ja (sameF t ja 30 [58])))) (ptA b0 36 [.int .i64 30, .string s, .int .i64 num, .slice (some ⟨b2, o2, none⟩) (ja :: jb :: r).length kc] :: L)) LeL.drop3 ?_
      refine WpO.call Tryz.call61 rfl rfl (putL_ct bw _ x1 _ ⟨#[58]⟩ [58] rfl _ (by decide) (puts_len _ _ hb)) fun v L' ⟨x2, e⟩ => ⟨Keeps.none, ?_⟩
      subst e
      refine pur ?_
      refine S.idx 1 rfl rfl rfl rfl (by simp) ?_
      refine pur ?_
      refine WpO.call Tryz.call37 rfl rfl (rnodeL_ct (C.hN jb (by simp)) ⟨#[]⟩ (N jb [61]) (hsp jb (by simp) _) x2 _ _ C.tr.cons (by decide) (puts_len _ _ (puts_len _ _ hb))) fun v L' ⟨x3, e⟩ => ⟨Keeps.none, ?_⟩
      subst e
      refine pur ?_
      exact Wp.ret (RetL rfl LeL.drop3 ⟨x3, rfl⟩)
    have hs2 : ¬ bs s = [58] := of_decide_eq_false h
    have hfin : tx (restT t N 30 (bs s) fs (bs sep)) = tx (nmT (bs s)) ++ tx (argsT t N fs) := by
      unfold restT
      rw [if_pos (by decide)]
      rcases hp30 with (h | ⟨h, h0⟩) | ⟨h, _⟩
      · obtain ⟨hm0, hm1, hm2, hm3, hm4⟩ := nameF_two (s := bs s) (by omega)
        unfold namedT nmT
        rw [if_neg (by decide), if_neg (fun q => q.elim hm1 hm2), if_neg hm3, if_neg hm4, if_neg (fun q => by rw [q] at h; exact absurd h (by decide)), tx_app]
      · have hf0 : fs = [] := List.length_eq_zero_iff.1 (by omega)
        subst hf0
        rw [h]; rfl
      · exact absurd h hs2
    rw [hfin, puts_app]
    refine pur ?_
    refine WpO.call Tryz.call60 rfl rfl (rname_wct bw _ x _ s _ (by omega) hb) fun v L' ⟨x1, e⟩ => ⟨Keeps.none, ?_⟩
    subst e
    refine pur ?_
    refine WpO.call Tryz.call66 rfl rfl (rapats_ct C.cons h30 x1 _ (puts_len _ _ hb)) fun v L' ⟨x2, e⟩ => ⟨Keeps.none, ?_⟩
    subst e
    refine pur ?_
    exact RetNL rfl LeL.drop3 ⟨x2, rfl⟩
  have n30 : ¬ op = 30 := of_decide_eq_false h
  refine pur ?_
  refine Wp.branch rfl (fun h => ?_) (fun h => ?_)
  · have ho : op = 24 := of_decide_eq_true h
    subst ho
    have hn : restT t N 24 (bs s) fs (bs sep) = namedT t N 24 (bs s) fs := by unfold restT; rw [if_pos (by decide)]
    rw [hn]
    refine pur ?_
    refine S.loadN (vs := [.int .i64 24, .string s, .int .i64 num, .slice ka fs.length kc]) rfl rfl (Ent.pt 2 4 rfl rfl) rfl ?_
    refine pur ?_
    refine WpO.call Tryz.call129 rfl rfl (rtycon_ct num s hp hf hs C.cons x st hb) fun v L' ⟨x1, e⟩ => ⟨Keeps.none, ?_⟩
    subst e
    refine pur ?_
    exact RetNL rfl LeL.drop3 ⟨x1, rfl⟩
  have n24 : ¬ op = 24 := of_decide_eq_false h
  refine pur ?_
  have hn : restT t N op (bs s) fs (bs sep) = [] := by unfold restT partT; rw [if_neg (by omega), if_neg n14, if_neg n19, if_neg n15, if_neg n16, if_neg n17, if_neg n18, if_neg n20]
  rw [hn]
  exact RetNL rfl LeL.drop3 ⟨x, rfl⟩
end
end Go.Proofs.YtikgokpbhldlnaaGreatDoor
end

section
namespace Go.Proofs.YtikgokpbhldlnaaGreatDoor
open Go Go.Ab
attribute [local irreducible] Wp WpO Qt OpT Ct Ent

set_option maxHeartbeats 8000000 in
theorem rnode_step {t : List Nd} {a : Option Addr} {c bw f i : Nat} (hs : Sound t t.length) (hsm : Small t) (hi : i < t.length) (hN : ∀ j, j < i → RNodeOk t a c bw (nodeT t f) j) : RNodeOk t a c bw (nodeT t (f + 1)) i := by
  intro sep x st L hT hsep hb
  have hLy := hs.lay hi
  have hlt := hs.lt i hi
  have hkl := kids_len (hs.kids i hi)
  have hkn := hs.kids i hi
  have hgd := hs.good i hi
  have hTx := hs.tx hi
  unfold goodR at hgd
  rw [Bool.and_eq_true] at hgd
  have hmem : ndOf t i ∈ t := List.mem_of_getElem? (ndOf_some hi)
  have htx := hsm.text _ hmem
  have hnum := hsm.num _ hmem
  have hkb := hsm.kids _ hmem
  obtain ⟨b, o, ka, kc, rfl, hE, hK⟩ := hT.at (ndOf_some hi)
  have hsp : ∀ j, (ndOf t j).op ≠ 15 ∧ (ndOf t j).op ≠ 16 ∧ (ndOf t j).op ≠ 17 → ∀ s s', nodeT t f j s = nodeT t f j s' := fun j q s s' => nodeT_sep q f s s'
  have hst : nodeT t (f + 1) i (bs sep) = stepT t (nodeT t f) (ndOf t i) (kidsN (ndOf t i)) (bs sep) := rfl
  rw [hst]
  generalize nodeT t f = N at hN hsp ⊢
  rw [hkn] at hK
  rw [hkl] at hkb hE
  clear hst hkn hkl
  generalize hnd : ndOf t i = nd at *
  generalize hfs : kidsN nd = fs at *
  have C : RKd t (some ⟨b, o, none⟩) c bw N fs ka kc L := ⟨fun j hj => hN j (hlt j hj), fun j hj => Nat.lt_trans (hlt j hj) hi, hsm, hT, hK, hkb, fun j _ => hsp j⟩
  have hcap := C.cap
  have hfl := C.fl
  have hRK := rk_of hgd.1
  clear hK hN
  refine Ct.body Tryz.func37 rfl Tryz.ntmps37 Tryz.results37 rfl ?_
  refine pur ?_
  refine S.idx i rfl rfl rfl rfl hi ?_
  refine S.loadN rfl rfl hE.cons.cons rfl ?_
  refine WpO.alloc rfl rfl (fun _ => Keeps.none) fun b0 => ?_
  refine pur ?_
  refine Wp.parts LeL.third ?_
  refine Wp.branch rfl (fun h => ?_) (fun h => ?_)
  · have ho : nd.op = 1 := of_decide_eq_true h
    have hn : tx (stepT t N nd fs (bs sep)) = tx (nmT (bs nd.text)) := by
      unfold stepT
      rw [if_pos (by omega)]
    rw [hn]
    refine pur ?_
    refine WpO.call Tryz.call60 rfl rfl (rname_wct bw _ x _ nd.text _ (by omega) hb) fun v L' ⟨x1, e⟩ => ⟨Keeps.none, ?_⟩
    subst e
    refine pur ?_
    exact RetNL rfl LeL.drop3 ⟨x1, rfl⟩
  have n1 : ¬ nd.op = 1 := of_decide_eq_false h
  refine pur ?_
  refine Wp.branch rfl (fun h => ?_) (fun h => ?_)
  · have ho : nd.op = 2 := of_decide_eq_true h
    have hn : tx (stepT t N nd fs (bs sep)) = tx (nmT (bs nd.text)) := by
      unfold stepT
      rw [if_pos (by omega)]
    rw [hn]
    refine pur ?_
    refine WpO.call Tryz.call60 rfl rfl (rname_wct bw _ x _ nd.text _ (by omega) hb) fun v L' ⟨x1, e⟩ => ⟨Keeps.none, ?_⟩
    subst e
    refine pur ?_
    exact RetNL rfl LeL.drop3 ⟨x1, rfl⟩
  have n2 : ¬ nd.op = 2 := of_decide_eq_false h
  refine pur ?_
  refine Wp.branch rfl (fun h => ?_) (fun h => ?_)
  · have ho : nd.op = 25 := of_decide_eq_true h
    have hn : tx (stepT t N nd fs (bs sep)) = tx (nmT (bs nd.text)) := by
      unfold stepT
      rw [if_pos (by omega)]
    rw [hn]
    refine pur ?_
    refine WpO.call Tryz.call60 rfl rfl (rname_wct bw _ x _ nd.text _ (by omega) hb) fun v L' ⟨x1, e⟩ => ⟨Keeps.none, ?_⟩
    subst e
    refine pur ?_
    exact RetNL rfl LeL.drop3 ⟨x1, rfl⟩
  have n25 : ¬ nd.op = 25 := of_decide_eq_false h
  refine pur ?_
  refine Wp.branch rfl (fun h => ?_) (fun h => ?_)
  · have ho : nd.op = 23 := of_decide_eq_true h
    have hn : tx (stepT t N nd fs (bs sep)) = tx (nmT (bs nd.text)) := by
      unfold stepT
      rw [if_pos (by omega)]
    rw [hn]
    refine pur ?_
    refine WpO.call Tryz.call60 rfl rfl (rname_wct bw _ x _ nd.text _ (by omega) hb) fun v L' ⟨x1, e⟩ => ⟨Keeps.none, ?_⟩
    subst e
    refine pur ?_
    exact RetNL rfl LeL.drop3 ⟨x1, rfl⟩
  have n23 : ¬ nd.op = 23 := of_decide_eq_false h
  refine pur ?_
  refine Wp.branch rfl (fun h => ?_) (fun h => ?_)
  · have ho : nd.op = 26 := of_decide_eq_true h
    have hn : tx (stepT t N nd fs (bs sep)) = [[95]] := by
      unfold stepT
      rw [if_neg (by omega), if_pos (by omega)]
      simp only [tx_app, tx_mk, List.append_assoc, List.cons_append, List.nil_append, List.getD_cons_zero, List.getD_cons_succ]
    rw [hn]
    refine pur ?_
    refine WpO.call Tryz.call61 rfl rfl (putL_ct bw _ x _ ⟨#[95]⟩ [95] rfl _ (by decide) hb) fun v L' ⟨x1, e⟩ => ⟨Keeps.none, ?_⟩
    subst e
    refine pur ?_
    exact RetNL rfl LeL.drop3 ⟨x1, rfl⟩
  have n26 : ¬ nd.op = 26 := of_decide_eq_false h
  refine pur ?_
  refine Wp.branch rfl (fun h => ?_) (fun h => ?_)
  · have ho : nd.op = 3 := of_decide_eq_true h
    have hn : tx (stepT t N nd fs (bs sep)) = tx [⟨3, [], nd.num, 0⟩] := by
      unfold stepT
      rw [if_neg (by omega), if_neg (by omega), if_pos (by omega)]
    rw [hn]
    refine pur ?_
    refine S.build rfl rfl rfl ?_
    refine pur ?_
    refine WpO.call Tryz.call62 rfl (by rfl) (rtoken_ct bw _ x st ⟨3, [], nd.num, 0⟩ (TokOk.int _ _ (hTx.int (by omega)) hnum) _ hb) fun v L' ⟨x1, e⟩ => ⟨Keeps.none, ?_⟩
    subst e
    refine pur ?_
    exact RetNL rfl LeL.drop3 ⟨x1, rfl⟩
  have n3 : ¬ nd.op = 3 := of_decide_eq_false h
  refine pur ?_
  refine Wp.branch rfl (fun h => ?_) (fun h => ?_)
  · have ho : nd.op = 27 := of_decide_eq_true h
    have hn : tx (stepT t N nd fs (bs sep)) = tx [⟨3, [], nd.num, 0⟩] := by
      unfold stepT
      rw [if_neg (by omega), if_neg (by omega), if_pos (by omega)]
    rw [hn]
    refine pur ?_
    refine S.build rfl rfl rfl ?_
    refine pur ?_
    refine WpO.call Tryz.call62 rfl (by rfl) (rtoken_ct bw _ x st ⟨3, [], nd.num, 0⟩ (TokOk.int _ _ (hTx.int (by omega)) hnum) _ hb) fun v L' ⟨x1, e⟩ => ⟨Keeps.none, ?_⟩
    subst e
    refine pur ?_
    exact RetNL rfl LeL.drop3 ⟨x1, rfl⟩
  have n27 : ¬ nd.op = 27 := of_decide_eq_false h
  refine pur ?_
  refine Wp.branch rfl (fun h => ?_) (fun h => ?_)
  · have ho : nd.op = 4 := of_decide_eq_true h
    have hn : tx (stepT t N nd fs (bs sep)) = tx [⟨4, [], nd.num, 0⟩] := by
      unfold stepT
      rw [if_neg (by omega), if_neg (by omega), if_neg (by omega), if_pos (by omega)]
    rw [hn]
    refine pur ?_
    refine S.build rfl rfl rfl ?_
    refine pur ?_
    refine WpO.call Tryz.call62 rfl (by rfl) (rtoken_ct bw _ x st ⟨4, [], nd.num, 0⟩ (TokOk.chr _ _ (hTx.chr (by omega)).1 (hTx.chr (by omega)).2) _ hb) fun v L' ⟨x1, e⟩ => ⟨Keeps.none, ?_⟩
    subst e
    refine pur ?_
    exact RetNL rfl LeL.drop3 ⟨x1, rfl⟩
  have n4 : ¬ nd.op = 4 := of_decide_eq_false h
  refine pur ?_
  refine Wp.branch rfl (fun h => ?_) (fun h => ?_)
  · have ho : nd.op = 28 := of_decide_eq_true h
    have hn : tx (stepT t N nd fs (bs sep)) = tx [⟨4, [], nd.num, 0⟩] := by
      unfold stepT
      rw [if_neg (by omega), if_neg (by omega), if_neg (by omega), if_pos (by omega)]
    rw [hn]
    refine pur ?_
    refine S.build rfl rfl rfl ?_
    refine pur ?_
    refine WpO.call Tryz.call62 rfl (by rfl) (rtoken_ct bw _ x st ⟨4, [], nd.num, 0⟩ (TokOk.chr _ _ (hTx.chr (by omega)).1 (hTx.chr (by omega)).2) _ hb) fun v L' ⟨x1, e⟩ => ⟨Keeps.none, ?_⟩
    subst e
    refine pur ?_
    exact RetNL rfl LeL.drop3 ⟨x1, rfl⟩
  have n28 : ¬ nd.op = 28 := of_decide_eq_false h
  refine pur ?_
  refine Wp.branch rfl (fun h => ?_) (fun h => ?_)
  · have ho : nd.op = 5 := of_decide_eq_true h
    have hn : tx (stepT t N nd fs (bs sep)) = tx [⟨5, bs nd.text, 0, 0⟩] := by
      unfold stepT
      rw [if_neg (by omega), if_neg (by omega), if_neg (by omega), if_neg (by omega), if_pos (by omega)]
    rw [hn]
    refine pur ?_
    refine S.build rfl rfl rfl ?_
    refine pur ?_
    refine WpO.call Tryz.call62 rfl (by show _ = _; simp only [ofL_bs]; rfl) (rtoken_ct bw _ x st ⟨5, bs nd.text, 0, 0⟩ (TokOk.str _ _ htx) _ hb) fun v L' ⟨x1, e⟩ => ⟨Keeps.none, ?_⟩
    subst e
    refine pur ?_
    exact RetNL rfl LeL.drop3 ⟨x1, rfl⟩
  have n5 : ¬ nd.op = 5 := of_decide_eq_false h
  refine pur ?_
  refine Wp.branch rfl (fun h => ?_) (fun h => ?_)
  · have ho : nd.op = 29 := of_decide_eq_true h
    have hn : tx (stepT t N nd fs (bs sep)) = tx [⟨5, bs nd.text, 0, 0⟩] := by
      unfold stepT
      rw [if_neg (by omega), if_neg (by omega), if_neg (by omega), if_neg (by omega), if_pos (by omega)]
    rw [hn]
    refine pur ?_
    refine S.build rfl rfl rfl ?_
    refine pur ?_
    refine WpO.call Tryz.call62 rfl (by show _ = _; simp only [ofL_bs]; rfl) (rtoken_ct bw _ x st ⟨5, bs nd.text, 0, 0⟩ (TokOk.str _ _ htx) _ hb) fun v L' ⟨x1, e⟩ => ⟨Keeps.none, ?_⟩
    subst e
    refine pur ?_
    exact RetNL rfl LeL.drop3 ⟨x1, rfl⟩
  have n29 : ¬ nd.op = 29 := of_decide_eq_false h
  refine pur ?_
  refine Wp.branch rfl (fun h => ?_) (fun h => ?_)
  · have ho : nd.op = 6 := of_decide_eq_true h
    have hn : tx (stepT t N nd fs (bs sep)) = tx ((fs.map fun j => closedT N j (reachF t j || decide ((ndOf t j).op = 6))).flatten) := by
      unfold stepT
      rw [if_neg (by omega), if_neg (by omega), if_neg (by omega), if_neg (by omega), if_neg (by omega), if_neg (by omega), if_neg (by omega), if_neg (by omega), if_pos (by omega)]
      unfold exprT
      rw [if_pos ho]
    rw [hn]
    refine pur ?_
    refine Wp.loopI (α := Nat × Option Addr × Nat) (0, x) (fun y => [(0, .v (.pointer (some ⟨bw, 0, none⟩))), (6, .v (.pointer (some ⟨b0, 0, none⟩))), (7, .v (.int .i64 fs.length)), (8, .v (.int .i64 y.1))])
      (fun y => rm bw (.slice (some ⟨b, o, none⟩) t.length c) y.2 (puts st (tx ((fs.take y.1).map fun j => closedT N j (reachF t j || decide ((ndOf t j).op = 6))).flatten)) (ptA b0 36 [.int .i64 nd.op, .string nd.text, .int .i64 nd.num, .slice ka (fs).length kc] :: L)) (fun y => fs.length - y.1) (fun y => y.1 ≤ fs.length) (Nat.zero_le _) ⟨rfl, rfl, rfl, rfl, trivial⟩ (LeL.refl _) ?_
    rintro ⟨i, xx⟩ hi6
    simp only [] at hi6
    show Wp _ _ _ _ [_, _, _, (8, .v (.int .i64 i))] _ (rm bw (.slice (some ⟨b, o, none⟩) t.length c) xx (puts st (tx ((fs.take i).map fun j => closedT N j (reachF t j || decide ((ndOf t j).op = 6))).flatten)) _)
    refine pur ?_
    refine Wp.branch rfl (fun h => ?_) (fun h => ?_)
    · have hix := lt_len h
      have hg := List.getElem?_eq_getElem hix
      have hmj := List.getElem_mem hix
      generalize fs[i] = j at hg hmj
      have hj := C.lt j hmj
      obtain ⟨b2, o2, rfl, hE2⟩ := C.kid hg
      have hsn := flat_snoc (fun j => closedT N j (reachF t j || decide ((ndOf t j).op = 6))) fs i j hg
      have e2 : puts (puts st (tx ((fs.take i).map fun j => closedT N j (reachF t j || decide ((ndOf t j).op = 6))).flatten)) (tx (closedT N j (reachF t j || decide ((ndOf t j).op = 6)))) = puts st (tx ((fs.take (i + 1)).map fun j => closedT N j (reachF t j || decide ((ndOf t j).op = 6))).flatten) := by rw [hsn, tx_app, puts_app]
      refine pur ?_
      refine Wp.draw rfl [0,1,2,3,4,5,6,7,8,9,10,11,12,13,14,15,16,17,18,19,20,21,22,23] 24 24 (ptA b0 36 [.int .i64 nd.op, .string nd.text, .int .i64 nd.num, .slice (some ⟨b2, o2, none⟩) (fs).length kc] :: L) rfl (by decide +kernel) (fun _ h => h.tail.tail) ?_
      refine pur ?_
      refine S.idx i rfl rfl rfl rfl hix ?_
      refine pur ?_
      refine S.idx i rfl rfl rfl rfl hix ?_
      refine pur ?_
      refine WpO.callq Tryz.call64 rfl rfl (ropen_ct hj xx _ _ C.tr.cons) (Keeps.by fun _ h => h.tail.tail) ?_
      refine pur ?_
      refine G.idx i rfl rfl rfl (by infer_instance) rfl (by infer_instance) (fun _ => ⟨rfl, hix⟩) ?_
      refine pur ?_
      refine WpO.callqg Tryz.call65 rfl rfl (.cons rfl (by infer_instance) (.cons rfl (by infer_instance) .nil)) (fun _ => rop_ct hj xx _ _ C.tr.cons) (Keeps.by fun _ h => h.tail.tail) ?_
      refine pur ?_
      refine WpO.call Tryz.call63 rfl rfl (rinW_ct (C.hN j hmj) _ (reachF t j || decide ((ndOf t j).op = 6)) rfl ⟨#[61]⟩ rfl xx _ _ C.tr.cons (by decide) (puts_len _ _ hb)) fun v L' ⟨x1, e⟩ => ⟨by subst e; exact Keeps.by fun _ h => h.tail.tail, ?_⟩
      subst e
      rw [e2]
      refine pur ?_
      exact Round.mk (i + 1, x1) (by simp only []; omega) hix ⟨rfl, rfl, rfl, inc_e (by omega), trivial⟩ (LeL.refl _)
    · have hin : fs.length ≤ i := by have := of_decide_eq_false h; omega
      refine pur ?_
      refine RetNL rfl LeL.drop3 ⟨xx, ?_⟩
      rw [List.take_of_length_le hin]
  have n6 : ¬ nd.op = 6 := of_decide_eq_false h
  refine pur ?_
  refine Wp.branch rfl (fun h => ?_) (fun h => ?_)
  · have ho : nd.op = 7 := of_decide_eq_true h
    obtain ⟨l, z, rfl⟩ := last_of (hLy.one (by omega))
    have hn : tx (stepT t N nd (l ++ [z]) (bs sep)) = [[92]] ++ (tx (argsT t N l) ++ ([[45, 62]] ++ tx (N z [61]))) := by
      unfold stepT
      rw [if_neg (by omega), if_neg (by omega), if_neg (by omega), if_neg (by omega), if_neg (by omega), if_neg (by omega), if_neg (by omega), if_neg (by omega), if_pos (by omega)]
      unfold exprT
      rw [if_neg (by omega), if_neg (by omega), if_pos ho]
      rw [(lastD l z).1, (lastD l z).2]
      simp only [tx_app, tx_mk, List.append_assoc, List.cons_append, List.nil_append, List.getD_cons_zero, List.getD_cons_succ]
    rw [hn, puts_app, puts_app, puts_app]
    have h7 : ∀ j ∈ l, 25 ≤ (ndOf t j).op ∧ (ndOf t j).op ≤ 32 := by
      have h1 := hRK.pini (.inl ho)
      rw [show ((l ++ [z]).map (opAt t)).take (((l ++ [z]).map (opAt t)).length - 1) = l.map (opAt t) from by simp] at h1
      exact kid_ops (fun j hj => C.lt j (by simp [hj])) h1
    obtain ⟨b2, o2, rfl, hE0⟩ := C.kid (k := l.length) (j := z) (by simp)
    have hll : (l ++ [z]).length = l.length + 1 := by simp
    refine pur ?_
    refine WpO.call Tryz.call61 rfl rfl (putL_ct bw _ x _ ⟨#[92]⟩ [92] rfl _ (by decide) hb) fun v L' ⟨x1, e⟩ => ⟨Keeps.none, ?_⟩
    subst e
    refine pur ?_
    refine S.sliceL 0 l.length rfl rfl Bd.no (Bd.at l.length rfl (by infer_instance) (fun _ => lastI hfl)) ⟨Nat.zero_le _, by omega⟩ ?_
    rw [slA_zero (.inr ⟨b2, o2, rfl⟩), Nat.sub_zero, Nat.sub_zero]
    refine pur ?_
    refine WpO.call Tryz.call66 rfl rfl (rapats_ct C.init.cons h7 x1 _ (puts_len _ _ hb)) fun v L' ⟨x2, e⟩ => ⟨Keeps.none, ?_⟩
    subst e
    refine pur ?_
    refine WpO.call Tryz.call61 rfl rfl (putL_ct bw _ x2 _ ⟨#[45, 62]⟩ [45, 62] rfl _ (by decide) (puts_len _ _ (puts_len _ _ hb))) fun v L' ⟨x3, e⟩ => ⟨Keeps.none, ?_⟩
    subst e
    refine pur ?_
    refine S.idx l.length rfl rfl rfl (lastI hfl) (by simp) ?_
    refine pur ?_
    refine WpO.call Tryz.call37 rfl rfl (rnodeL_ct (C.hN z (by simp)) ⟨#[61]⟩ (N z [61]) (rfl) x3 _ _ C.tr.cons (by decide) (puts_len _ _ (puts_len _ _ (puts_len _ _ hb)))) fun v L' ⟨x4, e⟩ => ⟨Keeps.none, ?_⟩
    subst e
    refine pur ?_
    exact RetNL rfl LeL.drop3 ⟨x4, rfl⟩
  have n7 : ¬ nd.op = 7 := of_decide_eq_false h
  refine pur ?_
  refine Wp.branch rfl (fun h => ?_) (fun h => ?_)
  · have ho : nd.op = 8 := of_decide_eq_true h
    obtain ⟨ja, jb, r, rfl⟩ := two_of (hLy.two (by omega))
    have hn : tx (stepT t N nd (ja :: jb :: r) (bs sep)) = [[108, 101, 116]] ++ (tx (N ja [61]) ++ ([[105, 110]] ++ tx (N jb [61]))) := by
      unfold stepT
      rw [if_neg (by omega), if_neg (by omega), if_neg (by omega), if_neg (by omega), if_neg (by omega), if_neg (by omega), if_neg (by omega), if_neg (by omega), if_pos (by omega)]
      unfold exprT
      rw [if_neg (by omega), if_neg (by omega), if_neg (by omega), if_pos ho]
      simp only [tx_app, tx_mk, List.append_assoc, List.cons_append, List.nil_append, List.getD_cons_zero, List.getD_cons_succ]
    rw [hn, puts_app, puts_app, puts_app]
    obtain ⟨b2, o2, rfl, hE0⟩ := C.kid (k := 0) (j := ja) rfl
    have hE1 := C.kid2 (k := 1) (j := jb) rfl
    refine pur ?_
    refine WpO.call Tryz.call61 rfl rfl (putL_ct bw _ x _ ⟨#[108, 101, 116]⟩ [108, 101, 116] rfl _ (by decide) hb) fun v L' ⟨x1, e⟩ => ⟨Keeps.none, ?_⟩
    subst e
    refine pur ?_
    refine S.idx 0 rfl rfl rfl rfl (by simp) ?_
    refine pur ?_
    refine WpO.call Tryz.call37 rfl rfl (rnodeL_ct (C.hN ja (by simp)) ⟨#[61]⟩ (N ja [61]) (rfl) x1 _ _ C.tr.cons (by decide) (puts_len _ _ hb)) fun v L' ⟨x2, e⟩ => ⟨Keeps.none, ?_⟩
    subst e
    refine pur ?_
    refine WpO.call Tryz.call61 rfl rfl (putL_ct bw _ x2 _ ⟨#[105, 110]⟩ [105, 110] rfl _ (by decide) (puts_len _ _ (puts_len _ _ hb))) fun v L' ⟨x3, e⟩ => ⟨Keeps.none, ?_⟩
    subst e
    refine pur ?_
    refine S.idx 1 rfl rfl rfl rfl (by simp) ?_
    refine pur ?_
    refine WpO.call Tryz.call37 rfl rfl (rnodeL_ct (C.hN jb (by simp)) ⟨#[61]⟩ (N jb [61]) (rfl) x3 _ _ C.tr.cons (by decide) (puts_len _ _ (puts_len _ _ (puts_len _ _ hb)))) fun v L' ⟨x4, e⟩ => ⟨Keeps.none, ?_⟩
    subst e
    refine pur ?_
    exact RetNL rfl LeL.drop3 ⟨x4, rfl⟩
  have n8 : ¬ nd.op = 8 := of_decide_eq_false h
  refine pur ?_
  refine Wp.branch rfl (fun h => ?_) (fun h => ?_)
  · have ho : nd.op = 9 := of_decide_eq_true h
    have hn : tx (stepT t N nd fs (bs sep)) = tx (ifT N ifWords fs) := by
      unfold stepT
      rw [if_neg (by omega), if_neg (by omega), if_neg (by omega), if_neg (by omega), if_neg (by omega), if_neg (by omega), if_neg (by omega), if_neg (by omega), if_pos (by omega)]
      unfold exprT
      rw [if_neg (by omega), if_neg (by omega), if_neg (by omega), if_neg (by omega), if_pos ho]
      rfl
    rw [hn]
    have hf3 := hLy.three ho
    refine pur ?_
    refine WpO.buildSlice rfl rfl rfl rfl rfl rfl rfl (fun _ => Keeps.none) fun bW => ?_
    have hS : ∀ M, Sl (ptA bW 9 [.string ⟨#[105, 102]⟩, .string ⟨#[116, 104, 101, 110]⟩, .string ⟨#[101, 108, 115, 101]⟩] :: M) (some ⟨bW, 0, none⟩) 3 1 (strRows ifWords) := fun M => Sl.ofPt 0 rfl rfl (by intro r hr; simp [strRows, ifWords] at hr; rcases hr with rfl | rfl | rfl <;> rfl) (Nat.le_refl _)
    refine WpO.parts LeL.third ?_
    refine pur ?_
    refine Wp.loopI (α := Nat × PSt × Option Addr × Nat) (0, st, x) (fun y => [(0, .v (.pointer (some ⟨bw, 0, none⟩))), (6, .v (.pointer (some ⟨b0, 0, none⟩))), (9, .v (.slice (some ⟨bW, 0, none⟩) 3 3)), (10, .v (.int .i64 y.1))])
      (fun y => rm bw (.slice (some ⟨b, o, none⟩) t.length c) y.2.2 y.2.1 (ptA bW 9 [.string ⟨#[105, 102]⟩, .string ⟨#[116, 104, 101, 110]⟩, .string ⟨#[101, 108, 115, 101]⟩] :: (ptA b0 36 [.int .i64 nd.op, .string nd.text, .int .i64 nd.num, .slice ka (fs).length kc] :: L))) (fun y => 3 - y.1) (fun y => y.1 ≤ 3 ∧ y.2.1.1.length ≤ 8001 ∧ puts st (tx (ifT N ifWords fs)) = puts y.2.1 (tx (ifT N (List.drop y.1 ifWords) (fs.drop y.1)))) ⟨Nat.zero_le _, hb, rfl⟩ ⟨rfl, rfl, rfl, rfl, trivial⟩ (LeL.refl _) ?_
    rintro ⟨i, cur, xx⟩ ⟨hi9, hcb, hc⟩
    simp only [] at hi9 hcb hc
    rw [hc]
    clear hc
    show Wp _ _ _ _ [_, _, _, (10, .v (.int .i64 i))] _ (rm bw (.slice (some ⟨b, o, none⟩) t.length c) xx cur _)
    refine pur ?_
    refine Wp.branch rfl (fun h => ?_) (fun h => ?_)
    · have hi3 : i < 3 := by have := of_decide_eq_true h; omega
      have hix : i < fs.length := by omega
      have hg := List.getElem?_eq_getElem hix
      have hmj := List.getElem_mem hix
      have hdr := List.drop_eq_getElem_cons hix
      generalize fs[i] = j at hg hmj hdr
      have hwx : i < List.length ifWords := hi3
      have hwg := List.getElem?_eq_getElem hwx
      have hwd := List.drop_eq_getElem_cons hwx
      have hwl : (List.length (ifWords[i])) < 100 := by
        have : (List.all ifWords fun q => decide (q.length < 100)) = true := by decide
        rw [List.all_eq_true] at this
        exact of_decide_eq_true (this _ (List.getElem_mem hwx))
      generalize ifWords[i] = m at hwg hwd hwl
      have hd : tx (ifT N (m :: List.drop (i + 1) ifWords) (j :: fs.drop (i + 1))) = [m] ++ (tx (N j [61]) ++ tx (ifT N (List.drop (i + 1) ifWords) (fs.drop (i + 1)))) := by
        rw [ifT]; simp only [tx_app, tx_mk, List.append_assoc]
      rw [hdr, hwd, hd, puts_app, puts_app]
      have hj := C.lt j hmj
      obtain ⟨b2, o2, rfl, hE2⟩ := C.kid hg
      obtain ⟨bW', oW, eW, _, hEW⟩ := (hS (ptA b0 36 [.int .i64 nd.op, .string nd.text, .int .i64 nd.num, .slice (some ⟨b2, o2, none⟩) (fs).length kc] :: L)).at (i := i) (r := [.string (ofL m)]) (by simp [strRows, hwg])
      simp only [Option.some.injEq, Addr.mk.injEq, and_true] at eW
      obtain ⟨rfl, rfl⟩ := eW
      refine pur ?_
      refine S.idx i rfl rfl rfl rfl hi3 ?_
      refine pur ?_
      refine WpO.call Tryz.call61 rfl rfl (putL_ct bw _ xx _ (ofL m) m (bs_ofL m) _ (by rw [bs_ofL]; omega) hcb) fun v L' ⟨x3, e⟩ => ⟨Keeps.none, ?_⟩
      subst e
      refine pur ?_
      refine S.idx i rfl rfl rfl rfl (by omega) ?_
      refine pur ?_
      refine WpO.call Tryz.call37 rfl rfl (rnodeL_ct (C.hN j hmj) ⟨#[61]⟩ (N j [61]) rfl x3 _ _ C.tr.cons.cons (by decide) (puts_len _ _ hcb)) fun v L' ⟨x4, e⟩ => ⟨Keeps.none, ?_⟩
      subst e
      refine pur ?_
      exact Round.mk (i + 1, puts (puts cur [m]) (tx (N j [61])), x4) (by simp only []; omega) ⟨hi3, puts_len _ _ (puts_len _ _ hcb), rfl⟩ ⟨rfl, rfl, rfl, inc_e (by omega), trivial⟩ (LeL.refl _)
    · have hin : i = 3 := by have := of_decide_eq_false h; omega
      subst hin
      have hz : ifT N (List.drop 3 ifWords) (fs.drop 3) = [] := by rw [List.drop_eq_nil_of_le (show fs.length ≤ 3 by omega)]; rfl
      rw [hz]
      refine pur ?_
      exact RetNL rfl (fun _ s => LeL.drop3 _ (LeL.drop3 _ s)) ⟨xx, rfl⟩
  have n9 : ¬ nd.op = 9 := of_decide_eq_false h
  refine pur ?_
  refine Wp.branch rfl (fun h => ?_) (fun h => ?_)
  · have ho : nd.op = 10 := of_decide_eq_true h
    obtain ⟨ja, r, rfl⟩ := one_of (hLy.one (by omega))
    have hn : tx (stepT t N nd (ja :: r) (bs sep)) = [[99, 97, 115, 101]] ++ (tx (N ja [61]) ++ ([[111, 102]] ++ ([[123]] ++ (tx (betweenT N [59] r) ++ [[125]])))) := by
      unfold stepT
      rw [if_neg (by omega), if_neg (by omega), if_neg (by omega), if_neg (by omega), if_neg (by omega), if_neg (by omega), if_neg (by omega), if_neg (by omega), if_pos (by omega)]
      unfold exprT
      rw [if_neg (by omega), if_neg (by omega), if_neg (by omega), if_neg (by omega), if_neg (by omega), if_pos ho]
      show tx (mk [[99, 97, 115, 101]] ++ N ja [61] ++ mk [[111, 102], [123]] ++ betweenT N [59] r ++ mk [[125]]) = _
      simp only [tx_app, tx_mk, List.append_assoc, List.cons_append, List.nil_append, List.getD_cons_zero, List.getD_cons_succ]
    rw [hn, puts_app, puts_app, puts_app, puts_app, puts_app]
    have h10 : ∀ j ∈ r, (ndOf t j).op = 14 := kid_ops (p := fun o => o = 14) (fun j hj => C.lt j (by simp [hj])) (hRK.p10 ho)
    have hspr : ∀ j ∈ r, N j (bs ⟨#[45, 62]⟩) = N j [61] := fun j hj => C.sp j (by simp [hj]) (by have := h10 j hj; omega) _ _
    obtain ⟨b2, o2, rfl, hE0⟩ := C.kid (k := 0) (j := ja) rfl
    refine pur ?_
    refine WpO.call Tryz.call61 rfl rfl (putL_ct bw _ x _ ⟨#[99, 97, 115, 101]⟩ [99, 97, 115, 101] rfl _ (by decide) hb) fun v L' ⟨x1, e⟩ => ⟨Keeps.none, ?_⟩
    subst e
    refine pur ?_
    refine S.idx 0 rfl rfl rfl rfl (by simp) ?_
    refine pur ?_
    refine WpO.call Tryz.call37 rfl rfl (rnodeL_ct (C.hN ja (by simp)) ⟨#[61]⟩ (N ja [61]) (rfl) x1 _ _ C.tr.cons (by decide) (puts_len _ _ hb)) fun v L' ⟨x2, e⟩ => ⟨Keeps.none, ?_⟩
    subst e
    refine pur ?_
    refine WpO.call Tryz.call61 rfl rfl (putL_ct bw _ x2 _ ⟨#[111, 102]⟩ [111, 102] rfl _ (by decide) (puts_len _ _ (puts_len _ _ hb))) fun v L' ⟨x3, e⟩ => ⟨Keeps.none, ?_⟩
    subst e
    refine pur ?_
    refine WpO.call Tryz.call61 rfl rfl (putL_ct bw _ x3 _ ⟨#[123]⟩ [123] rfl _ (by decide) (puts_len _ _ (puts_len _ _ (puts_len _ _ hb)))) fun v L' ⟨x4, e⟩ => ⟨Keeps.none, ?_⟩
    subst e
    refine pur ?_
    refine S.sliceL 1 (ja :: r).length rfl rfl (Bd.at 1 rfl (by infer_instance) (fun _ => rfl)) Bd.no ⟨by simp, hcap⟩ ?_
    rw [show (ja :: r).length - 1 = r.length from rfl]
    refine pur ?_
    refine WpO.call Tryz.call67 rfl rfl (rlist_ct C.rest.cons ⟨#[59]⟩ ⟨#[45, 62]⟩ [59] rfl (by decide) (by decide) hspr x4 _ (puts_len _ _ (puts_len _ _ (puts_len _ _ (puts_len _ _ hb))))) fun v L' ⟨x5, e⟩ => ⟨Keeps.none, ?_⟩
    subst e
    refine pur ?_
    refine WpO.call Tryz.call61 rfl rfl (putL_ct bw _ x5 _ ⟨#[125]⟩ [125] rfl _ (by decide) (puts_len _ _ (puts_len _ _ (puts_len _ _ (puts_len _ _ (puts_len _ _ hb)))))) fun v L' ⟨x6, e⟩ => ⟨Keeps.none, ?_⟩
    subst e
    refine pur ?_
    exact RetNL rfl LeL.drop3 ⟨x6, rfl⟩
  have n10 : ¬ nd.op = 10 := of_decide_eq_false h
  refine pur ?_
  refine Wp.branch rfl (fun h => ?_) (fun h => ?_)
  · have ho : nd.op = 11 := of_decide_eq_true h
    have hn : tx (stepT t N nd fs (bs sep)) = [[40]] ++ (tx (betweenT N [44] fs) ++ [[41]]) := by
      unfold stepT
      rw [if_neg (by omega), if_neg (by omega), if_neg (by omega), if_neg (by omega), if_neg (by omega), if_pos (by omega)]
      simp only [tx_app, tx_mk, List.append_assoc, List.cons_append, List.nil_append, List.getD_cons_zero, List.getD_cons_succ]
    rw [hn, puts_app, puts_app]
    refine pur ?_
    refine WpO.call Tryz.call61 rfl rfl (putL_ct bw _ x _ ⟨#[40]⟩ [40] rfl _ (by decide) hb) fun v L' ⟨x1, e⟩ => ⟨Keeps.none, ?_⟩
    subst e
    refine pur ?_
    refine WpO.call Tryz.call67 rfl rfl (rlist_ct C.cons ⟨#[44]⟩ ⟨#[61]⟩ [44] rfl (by decide) (by decide) (fun _ _ => rfl) x1 _ (puts_len _ _ hb)) fun v L' ⟨x2, e⟩ => ⟨Keeps.none, ?_⟩
    subst e
    refine pur ?_
    refine WpO.call Tryz.call61 rfl rfl (putL_ct bw _ x2 _ ⟨#[41]⟩ [41] rfl _ (by decide) (puts_len _ _ (puts_len _ _ hb))) fun v L' ⟨x3, e⟩ => ⟨Keeps.none, ?_⟩
    subst e
    refine pur ?_
    exact RetNL rfl LeL.drop3 ⟨x3, rfl⟩
  have n11 : ¬ nd.op = 11 := of_decide_eq_false h
  refine pur ?_
  refine Wp.branch rfl (fun h => ?_) (fun h => ?_)
  · have ho : nd.op = 31 := of_decide_eq_true h
    have hn : tx (stepT t N nd fs (bs sep)) = [[40]] ++ (tx (betweenT N [44] fs) ++ [[41]]) := by
      unfold stepT
      rw [if_neg (by omega), if_neg (by omega), if_neg (by omega), if_neg (by omega), if_neg (by omega), if_pos (by omega)]
      simp only [tx_app, tx_mk, List.append_assoc, List.cons_append, List.nil_append, List.getD_cons_zero, List.getD_cons_succ]
    rw [hn, puts_app, puts_app]
    refine pur ?_
    refine WpO.call Tryz.call61 rfl rfl (putL_ct bw _ x _ ⟨#[40]⟩ [40] rfl _ (by decide) hb) fun v L' ⟨x1, e⟩ => ⟨Keeps.none, ?_⟩
    subst e
    refine pur ?_
    refine WpO.call Tryz.call67 rfl rfl (rlist_ct C.cons ⟨#[44]⟩ ⟨#[61]⟩ [44] rfl (by decide) (by decide) (fun _ _ => rfl) x1 _ (puts_len _ _ hb)) fun v L' ⟨x2, e⟩ => ⟨Keeps.none, ?_⟩
    subst e
    refine pur ?_
    refine WpO.call Tryz.call61 rfl rfl (putL_ct bw _ x2 _ ⟨#[41]⟩ [41] rfl _ (by decide) (puts_len _ _ (puts_len _ _ hb))) fun v L' ⟨x3, e⟩ => ⟨Keeps.none, ?_⟩
    subst e
    refine pur ?_
    exact RetNL rfl LeL.drop3 ⟨x3, rfl⟩
  have n31 : ¬ nd.op = 31 := of_decide_eq_false h
  refine pur ?_
  refine Wp.branch rfl (fun h => ?_) (fun h => ?_)
  · have ho : nd.op = 12 := of_decide_eq_true h
    have hn : tx (stepT t N nd fs (bs sep)) = [[91]] ++ (tx (betweenT N [44] fs) ++ [[93]]) := by
      unfold stepT
      rw [if_neg (by omega), if_neg (by omega), if_neg (by omega), if_neg (by omega), if_neg (by omega), if_neg (by omega), if_pos (by omega)]
      simp only [tx_app, tx_mk, List.append_assoc, List.cons_append, List.nil_append, List.getD_cons_zero, List.getD_cons_succ]
    rw [hn, puts_app, puts_app]
    refine pur ?_
    refine WpO.call Tryz.call61 rfl rfl (putL_ct bw _ x _ ⟨#[91]⟩ [91] rfl _ (by decide) hb) fun v L' ⟨x1, e⟩ => ⟨Keeps.none, ?_⟩
    subst e
    refine pur ?_
    refine WpO.call Tryz.call67 rfl rfl (rlist_ct C.cons ⟨#[44]⟩ ⟨#[61]⟩ [44] rfl (by decide) (by decide) (fun _ _ => rfl) x1 _ (puts_len _ _ hb)) fun v L' ⟨x2, e⟩ => ⟨Keeps.none, ?_⟩
    subst e
    refine pur ?_
    refine WpO.call Tryz.call61 rfl rfl (putL_ct bw _ x2 _ ⟨#[93]⟩ [93] rfl _ (by decide) (puts_len _ _ (puts_len _ _ hb))) fun v L' ⟨x3, e⟩ => ⟨Keeps.none, ?_⟩
    subst e
    refine pur ?_
    exact RetNL rfl LeL.drop3 ⟨x3, rfl⟩
  have n12 : ¬ nd.op = 12 := of_decide_eq_false h
  refine pur ?_
  refine Wp.branch rfl (fun h => ?_) (fun h => ?_)
  · have ho : nd.op = 32 := of_decide_eq_true h
    have hn : tx (stepT t N nd fs (bs sep)) = [[91]] ++ (tx (betweenT N [44] fs) ++ [[93]]) := by
      unfold stepT
      rw [if_neg (by omega), if_neg (by omega), if_neg (by omega), if_neg (by omega), if_neg (by omega), if_neg (by omega), if_pos (by omega)]
      simp only [tx_app, tx_mk, List.append_assoc, List.cons_append, List.nil_append, List.getD_cons_zero, List.getD_cons_succ]
    rw [hn, puts_app, puts_app]
    refine pur ?_
    refine WpO.call Tryz.call61 rfl rfl (putL_ct bw _ x _ ⟨#[91]⟩ [91] rfl _ (by decide) hb) fun v L' ⟨x1, e⟩ => ⟨Keeps.none, ?_⟩
    subst e
    refine pur ?_
    refine WpO.call Tryz.call67 rfl rfl (rlist_ct C.cons ⟨#[44]⟩ ⟨#[61]⟩ [44] rfl (by decide) (by decide) (fun _ _ => rfl) x1 _ (puts_len _ _ hb)) fun v L' ⟨x2, e⟩ => ⟨Keeps.none, ?_⟩
    subst e
    refine pur ?_
    refine WpO.call Tryz.call61 rfl rfl (putL_ct bw _ x2 _ ⟨#[93]⟩ [93] rfl _ (by decide) (puts_len _ _ (puts_len _ _ hb))) fun v L' ⟨x3, e⟩ => ⟨Keeps.none, ?_⟩
    subst e
    refine pur ?_
    exact RetNL rfl LeL.drop3 ⟨x3, rfl⟩
  have n32 : ¬ nd.op = 32 := of_decide_eq_false h
  refine pur ?_
  refine Wp.branch rfl (fun h => ?_) (fun h => ?_)
  · have ho : nd.op = 13 := of_decide_eq_true h
    obtain ⟨ja, jb, r, rfl⟩ := two_of (hLy.two (by omega))
    have hn : tx (stepT t N nd (ja :: jb :: r) (bs sep)) = tx (closedT N ja (reachF t ja)) ++ ([bs nd.text] ++ tx (closedT N jb (reachF t jb))) := by
      unfold stepT
      rw [if_neg (by omega), if_neg (by omega), if_neg (by omega), if_neg (by omega), if_neg (by omega), if_neg (by omega), if_neg (by omega), if_neg (by omega), if_pos (by omega)]
      unfold exprT
      rw [if_neg (by omega), if_pos ho]
      simp only [tx_app, tx_mk, List.append_assoc, List.cons_append, List.nil_append, List.getD_cons_zero, List.getD_cons_succ]
    rw [hn, puts_app, puts_app]
    obtain ⟨b2, o2, rfl, hE0⟩ := C.kid (k := 0) (j := ja) rfl
    have hE1 := C.kid2 (k := 1) (j := jb) rfl
    refine pur ?_
    refine Wp.draw rfl [0,1,2,3,4,5,6,7,8,9,10,11] 12 12 (ptA b0 36 [.int .i64 nd.op, .string nd.text, .int .i64 nd.num, .slice (some ⟨b2, o2, none⟩) (ja :: jb :: r).length kc] :: L) rfl (by decide +kernel) (fun _ h => h.tail.tail) ?_
    refine pur ?_
    refine S.idx 0 rfl rfl rfl rfl (by simp) ?_
    refine pur ?_
    refine S.idx 0 rfl rfl rfl rfl (by simp) ?_
    refine pur ?_
    refine WpO.callq Tryz.call64 rfl rfl (ropen_ct (C.lt ja (by simp)) x _ _ C.tr.cons) (Keeps.by fun _ h => h.tail.tail) ?_
    refine pur ?_
    refine WpO.call Tryz.call63 rfl rfl (rinW_ct (C.hN ja (by simp)) _ (reachF t ja) rfl ⟨#[61]⟩ rfl x _ _ C.tr.cons (by decide) hb) fun v L' ⟨x1, e⟩ => ⟨by subst e; exact Keeps.by fun _ h => h.tail.tail, ?_⟩
    subst e
    refine pur ?_
    refine WpO.call Tryz.call61 rfl rfl (putL_ct bw _ x1 _ nd.text (bs nd.text) rfl _ (by omega) (puts_len _ _ hb)) fun v L' ⟨x2, e⟩ => ⟨Keeps.none, ?_⟩
    subst e
    refine pur ?_
    refine Wp.draw rfl [0,1,2,3,4,5,6,7,8,9,10,11] 12 12 (ptA b0 36 [.int .i64 nd.op, .string nd.text, .int .i64 nd.num, .slice (some ⟨b2, o2, none⟩) (ja :: jb :: r).length kc] :: L) rfl (by decide +kernel) (fun _ h => h.tail.tail) ?_
    refine pur ?_
    refine S.idx 1 rfl rfl rfl rfl (by simp) ?_
    refine pur ?_
    refine S.idx 1 rfl rfl rfl rfl (by simp) ?_
    refine pur ?_
    refine WpO.callq Tryz.call64 rfl rfl (ropen_ct (C.lt jb (by simp)) x2 _ _ C.tr.cons) (Keeps.by fun _ h => h.tail.tail) ?_
    refine pur ?_
    refine WpO.call Tryz.call63 rfl rfl (rinW_ct (C.hN jb (by simp)) _ (reachF t jb) rfl ⟨#[61]⟩ rfl x2 _ _ C.tr.cons (by decide) (puts_len _ _ (puts_len _ _ hb))) fun v L' ⟨x3, e⟩ => ⟨by subst e; exact Keeps.by fun _ h => h.tail.tail, ?_⟩
    subst e
    refine pur ?_
    exact RetNL rfl LeL.drop3 ⟨x3, rfl⟩
  have n13 : ¬ nd.op = 13 := of_decide_eq_false h
  refine pur ?_
  have hn : stepT t N nd fs (bs sep) = restT t N nd.op (bs nd.text) fs (bs sep) := by
    unfold stepT restT
    rw [if_neg (by omega), if_neg (by omega), if_neg (by omega), if_neg (by omega), if_neg (by omega), if_neg (by omega), if_neg (by omega)]
    split
    · rfl
    · rw [if_neg (by omega)]
  rw [hn]
  refine S.loadN (vs := [.int .i64 nd.op, .string nd.text, .int .i64 nd.num, .slice ka fs.length kc]) rfl rfl (Ent.pt 2 4 rfl rfl) rfl ?_
  refine pur ?_
  refine WpO.call Tryz.call68 rfl rfl (rrest_ct nd.op nd.num nd.text sep hgd.1 hgd.2 htx hsep C.cons x st hb) fun v L' ⟨x1, e⟩ => ⟨Keeps.none, ?_⟩
  subst e
  refine pur ?_
  exact RetNL rfl LeL.drop3 ⟨x1, rfl⟩
theorem rnode_all {t : List Nd} {a : Option Addr} {c bw : Nat} (hs : Sound t t.length) (hsm : Small t) : ∀ (f i : Nat), i < f → i < t.length → RNodeOk t a c bw (nodeT t f) i
  | 0, _, h, _ => absurd h (by omega)
  | f + 1, i, h, hi => rnode_step hs hsm hi fun j hj => rnode_all hs hsm f j (by omega) (by omega)
end Go.Proofs.YtikgokpbhldlnaaGreatDoor
end
