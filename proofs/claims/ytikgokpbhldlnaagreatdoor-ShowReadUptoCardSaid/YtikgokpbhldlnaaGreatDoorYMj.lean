/- Parts of a proof: Sg Sh Si Sj. -/
import Derived.Test.YtikgokpbhldlnaaGreatDoorYMi
import Derived.Test.YtikgokpbhldlnaaGreatDoorYMd
import Derived.Lib.ItoaMem
set_option linter.unusedVariables false
set_option linter.unusedSimpArgs false
set_option linter.unusedSectionVars false
section
namespace Go.Proofs.YtikgokpbhldlnaaGreatDoor
open Go Go.Ab
attribute [local irreducible] Wp WpO Qt OpT Ct Ent
/-! ## The walks of named, expr, part and node -/
theorem mark1L_ct (bw : Nat) (nv : Value) (x : Option Addr × Nat) (ts : List Tok) (s : ByteArray) (l : List UInt8) (hs : bs s = l) (b : Nat) (L : List Assn) (hl : (bs s).length < 1073741824) (hb : ts.length + 1 ≤ 16777216) :
    Ct Tryz.prog 116 #[.pointer (some ⟨bw, 0, none⟩), .slice (some ⟨b, 0, none⟩) 1 1] (ptA b 9 [.string s] :: wm bw nv x ts L) (ret fun _ L' => ∃ x', L' = wm bw nv x' (ts ++ mk [l]) L) := by
  subst hs; exact mark1_ct bw nv x ts s b L hl hb
theorem mark2L_ct (bw : Nat) (nv : Value) (x : Option Addr × Nat) (ts : List Tok) (s r : ByteArray) (l m : List UInt8) (hs : bs s = l) (hm : bs r = m) (b : Nat) (L : List Assn) (hl : (bs s).length < 1073741824) (hr : (bs r).length < 1073741824) (hb : ts.length + 2 ≤ 16777216) :
    Ct Tryz.prog 116 #[.pointer (some ⟨bw, 0, none⟩), .slice (some ⟨b, 0, none⟩) 2 2] (ptA b 9 [.string s, .string r] :: wm bw nv x ts L) (ret fun _ L' => ∃ x', L' = wm bw nv x' (ts ++ mk [l, m]) L) := by
  subst hs; subst hm; exact mark2_ct bw nv x ts s r b L hl hr hb
/-- What is known of a node's parts. -/
structure Kd (t : List Nd) (a : Option Addr) (c bw : Nat) (N : Nat → List UInt8 → List Tok) (fs : List Nat) (ka : Option Addr) (kc : Nat) (L : List Assn) : Prop where
  hN : ∀ j ∈ fs, NodeOk t a c bw N j
  lt : ∀ j ∈ fs, j < t.length
  sm : Small t
  tr : TreeR L a c t
  sl : Sl L ka kc 1 (ints (natI fs))
  fl : fs.length ≤ 1048576
section
variable {t : List Nd} {a : Option Addr} {c bw : Nat} {N : Nat → List UInt8 → List Tok} {fs : List Nat} {ka : Option Addr} {kc : Nat} {L : List Assn}
theorem betweenL_ct (fs : List Nat) (ka : Option Addr) (kc : Nat) (m : ByteArray) (l : List UInt8) (hl : bs m = l) (hm : (bs m).length < 1073741824) (hN : ∀ j ∈ fs, NodeOk t a c bw N j) (x : Option Addr × Nat) (ts : List Tok) (L : List Assn) (hT : TreeR L a c t) (hK : Sl L ka kc 1 (ints (natI fs))) (hfl : fs.length ≤ 1048576) (hb : ts.length + (betweenT N l fs).length ≤ 16000000) :
    Ct Tryz.prog 117 #[.pointer (some ⟨bw, 0, none⟩), .slice ka fs.length kc, .string m, .func (.func 35) #[.pointer (some ⟨bw, 0, none⟩)] #[]] (wm bw (.slice a t.length c) x ts L) (ret fun _ L' => ∃ x', L' = wm bw (.slice a t.length c) x' (ts ++ betweenT N l fs) L) := by
  subst hl; exact between_ct fs ka kc m hm hN x ts L hT hK hfl hb
theorem natI_get {fs : List Nat} {k j : Nat} (h : fs[k]? = some j) : (natI fs)[k]? = some (j : Int) := by simp [natI, h]
theorem Kd.kid (C : Kd t a c bw N fs ka kc L) {k j : Nat} (h : fs[k]? = some j) : ∃ b o, ka = some ⟨b, o, none⟩ ∧ Ent L (CellsAt b (o + k * 1) [.int .i64 (j : Int)]) := ints_at C.sl (natI_get h)
theorem Kd.kid2 {b o : Nat} (C : Kd t a c bw N fs (some ⟨b, o, none⟩) kc L) {k j : Nat} (h : fs[k]? = some j) : Ent L (CellsAt b (o + k * 1) [.int .i64 (j : Int)]) := by
  obtain ⟨b', o', e, hE⟩ := C.kid h
  simp only [Option.some.injEq, Addr.mk.injEq, and_true] at e
  obtain ⟨rfl, rfl⟩ := e
  exact hE
theorem Kd.cap (C : Kd t a c bw N fs ka kc L) : fs.length ≤ kc := by
  have := C.sl.cap
  rwa [ints_length, show (natI fs).length = fs.length from by simp [natI]] at this
set_option maxHeartbeats 4000000 in
theorem wnamed_ct (op num : Int) (s : ByteArray) (hL : Lay op (bs s) fs.length) (hs : (bs s).length ≤ 1048576) (ho : op = 30 ∨ op = 24 ∨ op = 22 ∨ op = 21) (C : Kd t a c bw N fs ka kc L) (x : Option Addr × Nat) (ts : List Tok) (hb : ts.length + (namedT t N op (bs s) fs).length ≤ 16000000) :
    Ct Tryz.prog 118 #[.pointer (some ⟨bw, 0, none⟩), .agg #[.int .i64 op, .string s, .int .i64 num, .slice ka fs.length kc]] (wm bw (.slice a t.length c) x ts L) (ret fun _ L' => ∃ x', L' = wm bw (.slice a t.length c) x' (ts ++ namedT t N op (bs s) fs) L) := by
  have hcap := C.cap
  have hfl := C.fl
  refine Ct.body Tryz.func118 rfl Tryz.ntmps118 Tryz.results118 rfl ?_
  refine pur ?_
  refine WpO.box (vs := [.int .i64 op, .string s, .int .i64 num, .slice ka fs.length kc]) rfl rfl rfl (fun _ => Keeps.none) fun b0 => ?_
  refine WpO.parts LeL.third ?_
  refine pur ?_
  refine Wp.branch rfl (fun h => ?_) (fun h => ?_)
  · have h21 : op = 21 := of_decide_eq_true h
    have hn : namedT t N op (bs s) fs = mk [[100, 97, 116, 97], bs s] ++ dataT t N [61] fs := by unfold namedT; rw [if_pos h21]
    rw [hn] at hb ⊢
    refine pur ?_
    refine WpO.buildSlice rfl rfl rfl rfl rfl rfl rfl (fun _ => Keeps.none) fun bs1 => ?_
    refine WpO.call Tryz.call116 rfl rfl (mark2L_ct bw _ x _ ⟨#[100, 97, 116, 97]⟩ s [100, 97, 116, 97] (bs s) rfl rfl bs1 _ (by decide) (by omega) (by first | omega | (simp only [List.length_append, mk_len, List.length_cons, List.length_nil] at hb ⊢; omega))) fun v L' ⟨x1, e⟩ => ⟨Keeps.none, ?_⟩
    subst e
    refine pur ?_
    refine Wp.loopI (α := Nat × List UInt8 × List Tok × Option Addr × Nat) (0, [61], ts ++ mk [[100, 97, 116, 97], bs s], x1) (fun y => [(0, .v (.pointer (some ⟨bw, 0, none⟩))), (4, .v (.string (ofL y.2.1))), (26, .v (.slice ka fs.length kc)), (27, .v (.int .i64 fs.length)), (28, .v (.int .i64 y.1))])
      (fun y => wm bw (.slice a t.length c) y.2.2.2 y.2.2.1 (ptA b0 36 [.int .i64 op, .string s, .int .i64 num, .slice ka fs.length kc] :: L)) (fun y => fs.length - y.1) (fun y => y.1 ≤ fs.length ∧ y.2.1.length = 1 ∧ ts ++ (mk [[100, 97, 116, 97], bs s] ++ dataT t N [61] fs) = y.2.2.1 ++ dataT t N y.2.1 (fs.drop y.1)) ⟨Nat.zero_le _, rfl, by simp only [List.drop_zero, List.append_assoc]⟩ ⟨rfl, rfl, rfl, rfl, rfl, trivial⟩ (LeL.refl _) ?_
    rintro ⟨i, m, cur, xx⟩ ⟨hi, hm, hc⟩
    simp only [] at hi hm hc
    show Wp _ _ _ _ [_, (4, .v (.string (ofL m))), _, _, (28, .v (.int .i64 i))] _ (wm bw (.slice a t.length c) xx cur _)
    have hcl := congrArg List.length hc
    simp only [List.length_append] at hcl
    refine pur ?_
    refine Wp.branch rfl (fun h => ?_) (fun h => ?_)
    · have hix := lt_len h
      have hg := List.getElem?_eq_getElem hix
      have hmem := List.getElem_mem hix
      have hdr := List.drop_eq_getElem_cons hix
      generalize fs[i] = j at hg hmem hdr
      have hj := C.lt j hmem
      obtain ⟨b2, o2, rfl, hE2⟩ := C.kid hg
      obtain ⟨bt, ot, ka2, kc2, rfl, hE, _⟩ := C.tr.at (ndOf_some hj)
      rw [hdr] at hc hcl
      refine pur ?_
      refine S.idx i rfl rfl rfl rfl hix ?_
      refine pur ?_
      refine S.idx j rfl rfl rfl rfl hj ?_
      refine pur ?_
      refine Wp.branch rfl (fun h2 => ?_) (fun h2 => ?_)
      · have h22 : (ndOf t j).op = 22 := of_decide_eq_true h2
        have hd : dataT t N m (j :: fs.drop (i + 1)) = mk [m] ++ N j [61] ++ dataT t N [124] (fs.drop (i + 1)) := by rw [dataT, if_pos h22]
        rw [hd] at hc hcl
        simp only [List.length_append, mk_len, List.length_cons, List.length_nil] at hcl hb
        refine pur ?_
        refine WpO.buildSlice rfl rfl rfl rfl rfl rfl rfl (fun _ => Keeps.none) fun bs3 => ?_
        refine WpO.call Tryz.call116 rfl rfl (mark1L_ct bw _ xx _ (ofL m) m (bs_ofL m) bs3 _ (by rw [bs_ofL]; omega) (by omega)) fun v L' ⟨x3, e⟩ => ⟨Keeps.none, ?_⟩
        subst e
        refine pur ?_
        refine WpO.call Tryz.call35 rfl rfl (plainly_ct (C.hN j hmem) x3 _ _ C.tr.cons (by simp only [List.length_append, mk_len, List.length_cons, List.length_nil]; omega)) fun v L' ⟨x4, e⟩ => ⟨Keeps.none, ?_⟩
        subst e
        refine pur ?_
        refine Round.mk (i + 1, [124], cur ++ mk [m] ++ N j [61], x4) (by simp only []; omega) ⟨hix, rfl, ?_⟩ ⟨rfl, rfl, rfl, rfl, inc_e (by omega), trivial⟩ (LeL.refl _)
        rw [hc]; simp only [List.append_assoc]
      · have h22 : ¬ (ndOf t j).op = 22 := of_decide_eq_false h2
        have hd : dataT t N m (j :: fs.drop (i + 1)) = N j [61] ++ dataT t N m (fs.drop (i + 1)) := by rw [dataT, if_neg h22]
        rw [hd] at hc hcl
        simp only [List.length_append, mk_len, List.length_cons, List.length_nil] at hcl hb
        refine pur ?_
        refine WpO.call Tryz.call35 rfl rfl (plainly_ct (C.hN j hmem) xx _ _ C.tr.cons (by omega)) fun v L' ⟨x4, e⟩ => ⟨Keeps.none, ?_⟩
        subst e
        refine pur ?_
        refine Round.mk (i + 1, m, cur ++ N j [61], x4) (by simp only []; omega) ⟨hix, hm, ?_⟩ ⟨rfl, rfl, rfl, rfl, inc_e (by omega), trivial⟩ (LeL.refl _)
        rw [hc]; simp only [List.append_assoc]
    · have hin : fs.length ≤ i := by have := of_decide_eq_false h; omega
      rw [List.drop_eq_nil_of_le hin, dataT, List.append_nil] at hc
      refine pur ?_
      refine RetNL rfl LeL.drop3 ⟨xx, ?_⟩
      rw [hc]
  have h21 : ¬ op = 21 := of_decide_eq_false h
  have hcon := hL.con (by omega)
  refine pur ?_
  refine Wp.branch rfl (fun h => ?_) (fun h => ?_)
  · have hs2 : bs s = [58] ∨ bs s = [45, 62] := by simp only [Bool.or_eq_true, decide_eq_true_eq] at h; exact h
    obtain ⟨ja, jb, r, rfl⟩ := two_of (hcon.2.1 hs2)
    have hn : namedT t N op (bs s) (ja :: jb :: r) = closedT N ja (sameF t ja op (bs s)) ++ mk [bs s] ++ N jb [61] := by unfold namedT; rw [if_neg h21, if_pos hs2]; rfl
    rw [hn] at hb ⊢
    obtain ⟨b2, o2, rfl, hE0⟩ := C.kid (k := 0) (j := ja) rfl
    have hE1 := C.kid2 (k := 1) (j := jb) rfl
    refine pur ?_
    refine Wp.draw rfl [0,1,2,3,4,5,6,7,8,9,10,11,12,13,14,15] 16 16 (ptA b0 36 [.int .i64 op, .string s, .int .i64 num, .slice (some ⟨b2, o2, none⟩) (ja :: jb :: r).length kc] :: L) rfl (by decide +kernel) (fun _ h => h.tail.tail) ?_
    refine pur ?_
    refine S.idx 0 rfl rfl rfl rfl (by simp) ?_
    refine pur ?_
    refine S.idx 0 rfl rfl rfl rfl (by simp) ?_
    refine pur ?_
    refine WpO.callq Tryz.call174 rfl rfl (same_ct ja (C.lt ja (by simp)) op s x ts _ C.tr.cons) (Keeps.by fun _ h => h.tail.tail) ?_
    refine pur ?_
    refine WpO.call Tryz.call173 rfl rfl (closed_ct (C.hN ja (by simp)) _ x ts _ C.tr.cons (by simp only [List.length_append, mk_len, List.length_cons, List.length_nil] at hb ⊢; omega)) fun v L' ⟨y1, e⟩ => ⟨by subst e; exact Keeps.by fun _ h => h.tail.tail, ?_⟩
    subst e
    refine pur ?_
    refine WpO.buildSlice rfl rfl rfl rfl rfl rfl rfl (fun _ => Keeps.none) fun bs1 => ?_
    refine WpO.call Tryz.call116 rfl rfl (mark1L_ct bw _ y1 _ s (bs s) rfl bs1 _ (by omega) (by first | omega | (simp only [List.length_append, mk_len, List.length_cons, List.length_nil] at hb ⊢; omega))) fun v L' ⟨x1, e⟩ => ⟨Keeps.none, ?_⟩
    subst e
    refine pur ?_
    refine S.idx 1 rfl rfl rfl rfl (by simp) ?_
    refine pur ?_
    refine WpO.call Tryz.call35 rfl rfl (plainly_ct (C.hN jb (by simp)) x1 _ _ C.tr.cons (by first | omega | (simp only [List.length_append, mk_len, List.length_cons, List.length_nil] at hb ⊢; omega))) fun v L' ⟨x2, e⟩ => ⟨Keeps.none, ?_⟩
    subst e
    refine pur ?_
    refine RetNL rfl LeL.drop3 ⟨x2, ?_⟩
    simp only [List.append_assoc]
  have hs2 : ¬ (bs s = [58] ∨ bs s = [45, 62]) := by simp only [Bool.or_eq_false_iff, decide_eq_false_iff_not] at h; exact fun q => q.elim h.1 h.2
  refine pur ?_
  refine Wp.branch rfl (fun h => ?_) (fun h => ?_)
  · have hs3 : bs s = [91, 93] := of_decide_eq_true h
    obtain ⟨ja, r, rfl⟩ := one_of (hcon.2.2 hs3)
    have hn : namedT t N op (bs s) (ja :: r) = mk [[91]] ++ N ja [61] ++ mk [[93]] := by unfold namedT; rw [if_neg h21, if_neg hs2, if_pos hs3]; rfl
    rw [hn] at hb ⊢
    obtain ⟨b2, o2, rfl, hE0⟩ := C.kid (k := 0) (j := ja) rfl
    refine pur ?_
    refine WpO.buildSlice rfl rfl rfl rfl rfl rfl rfl (fun _ => Keeps.none) fun bs1 => ?_
    refine WpO.call Tryz.call116 rfl rfl (mark1L_ct bw _ x _ ⟨#[91]⟩ [91] rfl bs1 _ (by decide) (by first | omega | (simp only [List.length_append, mk_len, List.length_cons, List.length_nil] at hb ⊢; omega))) fun v L' ⟨x1, e⟩ => ⟨Keeps.none, ?_⟩
    subst e
    refine pur ?_
    refine S.idx 0 rfl rfl rfl rfl (by simp) ?_
    refine pur ?_
    refine WpO.call Tryz.call35 rfl rfl (plainly_ct (C.hN ja (by simp)) x1 _ _ C.tr.cons (by first | omega | (simp only [List.length_append, mk_len, List.length_cons, List.length_nil] at hb ⊢; omega))) fun v L' ⟨x2, e⟩ => ⟨Keeps.none, ?_⟩
    subst e
    refine pur ?_
    refine WpO.buildSlice rfl rfl rfl rfl rfl rfl rfl (fun _ => Keeps.none) fun bs3 => ?_
    refine WpO.call Tryz.call116 rfl rfl (mark1L_ct bw _ x2 _ ⟨#[93]⟩ [93] rfl bs3 _ (by decide) (by first | omega | (simp only [List.length_append, mk_len, List.length_cons, List.length_nil] at hb ⊢; omega))) fun v L' ⟨x3, e⟩ => ⟨Keeps.none, ?_⟩
    subst e
    refine pur ?_
    refine RetNL rfl LeL.drop3 ⟨x3, ?_⟩
    simp only [List.append_assoc]
  have hs3 : ¬ bs s = [91, 93] := of_decide_eq_false h
  obtain ⟨ch, hch⟩ : ∃ ch, (bs s)[0]? = some ch := by
    cases hq : bs s with
    | nil => exact absurd hq hcon.1
    | cons q _ => exact ⟨q, rfl⟩
  have hhd : (bs s).headD 0 = ch := by
    cases hq : bs s with
    | nil => exact absurd hq hcon.1
    | cons q _ => rw [hq] at hch; simpa using hch
  refine pur ?_
  refine S.index ch 0 rfl rfl rfl rfl hch ?_
  refine pur ?_
  refine Wp.branch rfl (fun h => ?_) (fun h => ?_)
  · have hs4 : (bs s).headD 0 = 40 := by
      rw [hhd]
      have : ((ch.toNat : Nat) : Int) = 40 := of_decide_eq_true h
      exact UInt8.toNat_inj.1 (by show ch.toNat = 40; omega)
    have hn : namedT t N op (bs s) fs = mk [[40]] ++ betweenT N [44] fs ++ mk [[41]] := by unfold namedT; rw [if_neg h21, if_neg hs2, if_neg hs3, if_pos hs4]
    rw [hn] at hb ⊢
    refine pur ?_
    refine WpO.buildSlice rfl rfl rfl rfl rfl rfl rfl (fun _ => Keeps.none) fun bs1 => ?_
    refine WpO.call Tryz.call116 rfl rfl (mark1L_ct bw _ x _ ⟨#[40]⟩ [40] rfl bs1 _ (by decide) (by first | omega | (simp only [List.length_append, mk_len, List.length_cons, List.length_nil] at hb ⊢; omega))) fun v L' ⟨x1, e⟩ => ⟨Keeps.none, ?_⟩
    subst e
    refine pur ?_
    refine S.makeFuncM rfl (.cons rfl (by infer_instance) .nil) .nil ?_
    refine pur ?_
    refine WpO.call Tryz.call117 rfl rfl (betweenL_ct _ _ _ ⟨#[44]⟩ [44] rfl (by decide) C.hN x1 _ _ C.tr.cons C.sl.cons C.fl (by first | omega | (simp only [List.length_append, mk_len, List.length_cons, List.length_nil] at hb ⊢; omega))) fun v L' ⟨x2, e⟩ => ⟨Keeps.none, ?_⟩
    subst e
    refine pur ?_
    refine WpO.buildSlice rfl rfl rfl rfl rfl rfl rfl (fun _ => Keeps.none) fun bs3 => ?_
    refine WpO.call Tryz.call116 rfl rfl (mark1L_ct bw _ x2 _ ⟨#[41]⟩ [41] rfl bs3 _ (by decide) (by first | omega | (simp only [List.length_append, mk_len, List.length_cons, List.length_nil] at hb ⊢; omega))) fun v L' ⟨x3, e⟩ => ⟨Keeps.none, ?_⟩
    subst e
    refine pur ?_
    refine RetNL rfl LeL.drop3 ⟨x3, ?_⟩
    show wm _ _ _ (ts ++ mk [[40]] ++ betweenT N [44] fs ++ mk [[41]]) _ = _
    simp only [List.append_assoc]
  · have hs4 : ¬ (bs s).headD 0 = 40 := by
      rw [hhd]
      have : ¬ ((ch.toNat : Nat) : Int) = 40 := of_decide_eq_false h
      rintro rfl; exact this rfl
    have hn : namedT t N op (bs s) fs = mk [bs s] ++ argsT t N fs := by unfold namedT; rw [if_neg h21, if_neg hs2, if_neg hs3, if_neg hs4]
    rw [hn] at hb ⊢
    refine pur ?_
    refine WpO.buildSlice rfl rfl rfl rfl rfl rfl rfl (fun _ => Keeps.none) fun bs1 => ?_
    refine WpO.call Tryz.call116 rfl rfl (mark1L_ct bw _ x _ s (bs s) rfl bs1 _ (by omega) (by first | omega | (simp only [List.length_append, mk_len, List.length_cons, List.length_nil] at hb ⊢; omega))) fun v L' ⟨x1, e⟩ => ⟨Keeps.none, ?_⟩
    subst e
    refine pur ?_
    refine WpO.call Tryz.call175 rfl rfl (arguments_ct _ _ _ C.hN C.lt C.sm x1 _ _ C.tr.cons C.sl.cons C.fl (by first | omega | (simp only [List.length_append, mk_len, List.length_cons, List.length_nil] at hb ⊢; omega))) fun v L' ⟨x2, e⟩ => ⟨Keeps.none, ?_⟩
    subst e
    refine pur ?_
    refine RetNL rfl LeL.drop3 ⟨x2, ?_⟩
    simp only [List.append_assoc]
end
end Go.Proofs.YtikgokpbhldlnaaGreatDoor
end
section
namespace Go.Proofs.YtikgokpbhldlnaaGreatDoor
open Go Go.Ab
/-! ## The texts of tokens -/
def digs : List UInt8 := [48, 49, 50, 51, 52, 53, 54, 55, 56, 57, 97, 98, 99, 100, 101, 102]
/-- A byte as it is written in quotes. -/
def escT (c : Nat) : List UInt8 :=
  if c = 10 then [92, 110] else if c = 9 then [92, 116] else
  if c = 92 ∨ c = 39 ∨ c = 34 then [92, UInt8.ofNat c] else
  if 32 ≤ c ∧ c ≤ 126 then [UInt8.ofNat c] else [92, 120, digs.getD (c / 16) 0, digs.getD (c % 16) 0]
def quoteT (l : List UInt8) : List UInt8 := (l.map fun c => escT c.toNat).flatten
def tokText (k : Tok) : List UInt8 :=
  if k.kind = 3 then Lib.decDigits k.num.toNat else
  if k.kind = 4 then [39] ++ escT k.num.toNat ++ [39] else
  if k.kind = 5 then [34] ++ quoteT k.text ++ [34] else k.text
def isMarkL : List (List UInt8) := [[40], [41], [91], [93], [123], [125], [44], [59], [95], [61], [124], [45, 62], [92]]
/-- The tokens that may stand in a list. -/
inductive TokOk : Tok → Prop where
  | int (n : Int) (p : Int) (h : 0 ≤ n) (h2 : n ≤ 9223372036854775807) : TokOk ⟨3, [], n, p⟩
  | chr (n : Int) (p : Int) (h : 0 ≤ n) (h2 : n ≤ 255) : TokOk ⟨4, [], n, p⟩
  | str (s : List UInt8) (p : Int) (h : s.length ≤ 1048576) : TokOk ⟨5, s, 0, p⟩
  | mark (s : List UInt8) (p : Int) (h : s ∈ isMarkL) : TokOk ⟨7, s, 0, p⟩
  | op (s : List UInt8) (p : Int) (h : s ∈ opTexts) : TokOk ⟨8, s, 0, p⟩
  | name (s : List UInt8) (k p : Int) (h : k = 1 ∨ k = 2 ∨ k = 6) (h2 : nameF s = k) : TokOk ⟨k, s, 0, p⟩
def AllOk (l : List Tok) : Prop := ∀ k ∈ l, TokOk k
theorem AllOk.nil : AllOk [] := nofun
theorem AllOk.app {l r : List Tok} (h : AllOk l) (h2 : AllOk r) : AllOk (l ++ r) := fun k hk => by
  rcases List.mem_append.1 hk with q | q
  · exact h k q
  · exact h2 k q
theorem AllOk.flat {L : List (List Tok)} (h : ∀ l ∈ L, AllOk l) : AllOk L.flatten := fun k hk => by
  obtain ⟨l, hl, hk⟩ := List.mem_flatten.1 hk
  exact h l hl k hk
theorem nameF_vals (s : List UInt8) : nameF s = 0 ∨ nameF s = 1 ∨ nameF s = 2 ∨ nameF s = 6 ∨ nameF s = 7 ∧ s = [95] := by
  unfold nameF
  split
  · exact .inl rfl
  split
  · exact .inr (.inr (.inl rfl))
  split
  · exact .inr (.inr (.inr (.inl rfl)))
  split
  · rename_i h; exact .inr (.inr (.inr (.inr ⟨rfl, h⟩)))
  · exact .inr (.inl rfl)
theorem mkT_ok {s : List UInt8} (h : s ∈ markTexts ∨ s ∈ opTexts ∨ nameF s ≠ 0) : TokOk (mkT s) := by
  unfold mkT markK
  split
  · rename_i hm
    refine .mark s 0 ?_
    simp only [markTexts, isMarkL, List.mem_cons, List.not_mem_nil, or_false] at hm ⊢
    rcases hm with q | q | q | q | q | q | q | q | q | q | q | q <;> simp [q]
  rename_i hm
  split
  · rename_i h0
    rcases h with h | h | h
    · exact absurd h hm
    · exact .op s 0 h
    · exact absurd h0 h
  · rename_i h0
    rcases nameF_vals s with q | q | q | q | ⟨q, q2⟩
    · exact absurd q h0
    · rw [q]; exact .name s 1 0 (by decide) q
    · rw [q]; exact .name s 2 0 (by decide) q
    · rw [q]; exact .name s 6 0 (by decide) q
    · rw [q]; subst q2; exact .mark [95] 0 (by decide)
theorem mk_ok {l : List (List UInt8)} (h : ∀ s ∈ l, s ∈ markTexts ∨ s ∈ opTexts ∨ nameF s ≠ 0) : AllOk (mk l) := fun k hk => by
  unfold mk at hk
  obtain ⟨s, hs, rfl⟩ := List.mem_map.1 hk
  exact mkT_ok (h s hs)
theorem mk1_ok {s : List UInt8} (h : s ∈ markTexts ∨ s ∈ opTexts ∨ nameF s ≠ 0) : AllOk (mk [s]) := mk_ok (by simpa using h)
section
variable {t : List Nd} {N : Nat → List UInt8 → List Tok} {fs : List Nat}
theorem closed_ok {j : Nat} {w : Bool} (h : AllOk (N j [61])) : AllOk (closedT N j w) := by
  unfold closedT
  split
  · exact ((mk1_ok (.inl (by decide))).app h).app (mk1_ok (.inl (by decide)))
  · exact h
theorem map_ok {F : Nat → List Tok} (h : ∀ j ∈ fs, AllOk (F j)) : AllOk (fs.map F).flatten := .flat fun l hl => by
  obtain ⟨j, hj, rfl⟩ := List.mem_map.1 hl
  exact h j hj
theorem args_ok (h : ∀ j ∈ fs, AllOk (N j [61])) : AllOk (argsT t N fs) := map_ok fun j hj => closed_ok (h j hj)
theorem mapIdx_ok : ∀ (fs : List Nat) (F : Nat → Nat → List Tok), (∀ i, ∀ j ∈ fs, AllOk (F i j)) → AllOk (fs.mapIdx F).flatten
  | [], _, _ => by simpa using AllOk.nil
  | j :: fs, F, h => by
    rw [List.mapIdx_cons, List.flatten_cons]
    exact (h 0 j (by simp)).app (mapIdx_ok fs _ fun i k hk => h (i + 1) k (by simp [hk]))
theorem between_ok {m : List UInt8} (hm : m ∈ markTexts) (h : ∀ j ∈ fs, AllOk (N j [61])) : AllOk (betweenT N m fs) := mapIdx_ok fs _ fun i j hj => by
  refine AllOk.app ?_ (h j hj)
  split
  · exact .nil
  · exact mk1_ok (.inl hm)
theorem data_ok : ∀ (fs : List Nat) (m : List UInt8), m ∈ markTexts → (∀ j ∈ fs, AllOk (N j [61])) → AllOk (dataT t N m fs)
  | [], _, _, _ => .nil
  | j :: fs, m, hm, h => by
    unfold dataT
    split
    · exact ((mk1_ok (.inl hm)).app (h j (by simp))).app (data_ok fs [124] (by decide) fun k hk => h k (by simp [hk]))
    · exact (h j (by simp)).app (data_ok fs m hm fun k hk => h k (by simp [hk]))
theorem if_ok : ∀ (ws : List (List UInt8)) (fs : List Nat), (∀ w ∈ ws, nameF w ≠ 0) → (∀ j ∈ fs, AllOk (N j [61])) → AllOk (ifT N ws fs)
  | [], _, _, _ => .nil
  | _ :: _, [], _, _ => .nil
  | w :: ws, j :: fs, hw, h => by
    unfold ifT
    exact ((mk1_ok (.inr (.inr (hw w (by simp))))).app (h j (by simp))).app (if_ok ws fs (fun x hx => hw x (by simp [hx])) fun k hk => h k (by simp [hk]))
/-- What a node's text and number must be for its tokens to be good ones. -/
structure TxOk (op num : Int) (s : List UInt8) : Prop where
  nm : op = 1 ∨ op = 2 ∨ op = 25 ∨ op = 23 → s = [40, 41] ∨ nameF s ≠ 0
  int : op = 3 ∨ op = 27 → 0 ≤ num
  chr : op = 4 ∨ op = 28 → 0 ≤ num ∧ num ≤ 255
  data : op = 21 ∨ op = 19 → nameF s ≠ 0
  con : op = 30 ∨ op = 24 ∨ op = 22 → ¬ (s = [58] ∨ s = [45, 62]) → s ≠ [91, 93] → s.headD 0 ≠ 40 → nameF s = 2
  bin : op = 13 → s ∈ opTexts
theorem tx_of {op : Int} {ops : List Int} {s : List UInt8} {num : Int} (hp : partsF op ops s = true) (hf : fieldsF op num s = true) : TxOk op num s := by
  constructor
  · intro ho
    by_cases h0 : num = 0
    · rcases ho with rfl | rfl | rfl | rfl
      · have h : decide (nameF s = 1) = true := by simpa [fieldsF, h0] using hf
        have := of_decide_eq_true h; exact .inr (by omega)
      · have h : (decide (nameF s = 2) || decide (s = [40, 41])) = true := by simpa [fieldsF, h0] using hf
        simp only [Bool.or_eq_true, decide_eq_true_eq] at h
        rcases h with h | h
        · exact .inr (by omega)
        · exact .inl h
      · have h : decide (nameF s = 1) = true := by simpa [fieldsF, h0] using hf
        have := of_decide_eq_true h; exact .inr (by omega)
      · have h : decide (nameF s = 1) = true := by simpa [fieldsF, h0] using hf
        have := of_decide_eq_true h; exact .inr (by omega)
    · rcases ho with rfl | rfl | rfl | rfl <;> simp [fieldsF, h0] at hf
  · rintro (rfl | rfl)
    · have h : (decide (s = []) && decide (0 ≤ num)) = true := by simpa [fieldsF] using hf
      simp only [Bool.and_eq_true, decide_eq_true_eq] at h; exact h.2
    · have h : (decide (s = []) && decide (0 ≤ num)) = true := by simpa [fieldsF] using hf
      simp only [Bool.and_eq_true, decide_eq_true_eq] at h; exact h.2
  · rintro (rfl | rfl)
    · have h : ((decide (s = []) && decide (0 ≤ num)) && decide (num ≤ 255)) = true := by simpa [fieldsF] using hf
      simp only [Bool.and_eq_true, decide_eq_true_eq] at h; exact ⟨h.1.2, h.2⟩
    · have h : ((decide (s = []) && decide (0 ≤ num)) && decide (num ≤ 255)) = true := by simpa [fieldsF] using hf
      simp only [Bool.and_eq_true, decide_eq_true_eq] at h; exact ⟨h.1.2, h.2⟩
  · rintro (rfl | rfl)
    · have := fields22 (.inl rfl) hf; omega
    · by_cases h0 : num = 0
      · have h : decide (nameF s = 1) = true := by simpa [fieldsF, h0] using hf
        have := of_decide_eq_true h; omega
      · simp [fieldsF, h0] at hf
  · rintro (rfl | rfl | rfl) h1 h2 h3
    · obtain ⟨_, (h | ⟨h, _⟩) | ⟨h, _⟩⟩ := parts30 hp
      · exact h
      · subst h; exact absurd rfl h3
      · exact absurd (.inl h) h1
    · obtain ⟨_, (((h | ⟨h, _⟩) | ⟨h, hk⟩) | ⟨h, hk⟩) | ⟨hk, h⟩⟩ := parts24 hp
      · exact h
      · subst h; exact absurd rfl h3
      · exact absurd h h2
      · exact absurd (.inr h) h1
      · rw [h] at h3; exact absurd rfl h3
    · exact fields22 (.inr rfl) hf
  · rintro rfl
    by_cases h0 : num = 0
    · have h : decide (s ∈ opTexts) = true := by simpa [fieldsF, h0] using hf
      exact of_decide_eq_true h
    · simp [fieldsF, h0] at hf
theorem getD_in {fs : List Nat} {i : Nat} (h : i < fs.length) : fs.getD i 0 ∈ fs := by
  rw [List.getD_eq_getElem?_getD, List.getElem?_eq_getElem h]; exact List.getElem_mem h
theorem step_ok {nd : Nd} {sep : List UInt8} (hL : Lay nd.op (bs nd.text) fs.length) (hx : TxOk nd.op nd.num (bs nd.text)) (hlen : (bs nd.text).length ≤ 1048576) (hnum : nd.num ≤ 9223372036854775807) (hsep : sep = [61] ∨ sep = [45, 62]) (h : ∀ j ∈ fs, ∀ s, s = [61] ∨ s = [45, 62] → AllOk (N j s)) : AllOk (stepT t N nd fs sep) := by
  have h1 : ∀ j ∈ fs, AllOk (N j [61]) := fun j hj => h j hj _ (.inl rfl)
  have hg : ∀ i, i < fs.length → AllOk (N (fs.getD i 0) [61]) := fun i hi => h1 _ (getD_in hi)
  have hgs : ∀ i, i < fs.length → AllOk (N (fs.getD i 0) sep) := fun i hi => h _ (getD_in hi) _ hsep
  have hms : AllOk (mk [sep]) := mk1_ok (.inl (by rcases hsep with rfl | rfl <;> decide))
  have key : ∀ s, nameF s ≠ 0 → AllOk (mk [s]) := fun s q => mk1_ok (.inr (.inr q))
  have mrk : ∀ s, s ∈ markTexts → AllOk (mk [s]) := fun s q => mk1_ok (.inl q)
  unfold stepT
  split
  · rename_i ho
    unfold nmT
    split
    · exact mk_ok (by decide)
    · rename_i hne
      rcases hx.nm ho with q | q
      · exact absurd q hne
      · exact key _ q
  split
  · exact mk_ok (by decide)
  split
  · rename_i ho
    intro k hk
    obtain rfl := List.mem_singleton.1 hk
    exact .int _ _ (hx.int ho) hnum
  split
  · rename_i ho
    intro k hk
    obtain rfl := List.mem_singleton.1 hk
    exact .chr _ _ (hx.chr ho).1 (hx.chr ho).2
  split
  · intro k hk
    obtain rfl := List.mem_singleton.1 hk
    exact .str _ _ hlen
  split
  · exact ((mrk _ (by decide)).app (between_ok (by decide) h1)).app (mrk _ (by decide))
  split
  · exact ((mrk _ (by decide)).app (between_ok (by decide) h1)).app (mrk _ (by decide))
  split
  · rename_i ho
    unfold namedT
    split
    · rename_i h21
      refine AllOk.app (mk_ok fun s hs => ?_) (data_ok fs [61] (by decide) h1)
      rcases List.mem_cons.1 hs with rfl | hs
      · exact .inr (.inr (by decide))
      · obtain rfl := List.mem_singleton.1 hs; exact .inr (.inr (hx.data (.inl h21)))
    rename_i h21
    have hc := hL.con (by omega)
    split
    · rename_i hs
      have hk := hc.2.1 hs
      refine AllOk.app (AllOk.app (closed_ok (hg 0 (by omega))) (mk1_ok ?_)) (hg 1 (by omega))
      rcases hs with q | q
      · rw [q]; exact .inr (.inl (by decide))
      · rw [q]; exact .inl (by decide)
    rename_i hs
    split
    · rename_i hs2
      have hk := hc.2.2 hs2
      exact ((mrk _ (by decide)).app (hg 0 (by omega))).app (mrk _ (by decide))
    rename_i hs2
    split
    · exact ((mrk _ (by decide)).app (between_ok (by decide) h1)).app (mrk _ (by decide))
    · rename_i hs3
      have := hx.con (by omega) hs hs2 hs3
      exact (key _ (by omega)).app (args_ok h1)
  split
  · unfold exprT
    split
    · exact map_ok fun j hj => closed_ok (h1 j hj)
    split
    · rename_i _ h13
      have hk := hL.two (.inl h13)
      exact ((closed_ok (hg 0 (by omega))).app (mk1_ok (.inr (.inl (hx.bin h13))))).app (closed_ok (hg 1 (by omega)))
    split
    · rename_i _ _ h7
      have hk := hL.one (.inl h7)
      exact (((mrk _ (by decide)).app (args_ok fun j hj => h1 j (List.mem_of_mem_take hj))).app (mrk _ (by decide))).app (hg _ (by omega))
    split
    · rename_i _ _ _ h8
      have hk := hL.two (by omega)
      exact (((key _ (by decide)).app (hg 0 (by omega))).app (key _ (by decide))).app (hg 1 (by omega))
    split
    · exact if_ok _ fs (by decide) h1
    split
    · rename_i _ _ _ _ _ h10
      have hk := hL.one (by omega)
      refine ((((key _ (by decide)).app (hg 0 (by omega))).app (mk_ok fun s hs => ?_)).app (between_ok (by decide) fun j hj => h1 j (List.mem_of_mem_drop hj))).app (mrk _ (by decide))
      rcases List.mem_cons.1 hs with rfl | hs
      · exact .inr (.inr (by decide))
      · obtain rfl := List.mem_singleton.1 hs; exact .inl (by decide)
    · exact .nil
  · unfold partT
    split
    · rename_i h14
      have hk := hL.two (by omega)
      exact (hg 0 (by omega)).app (h _ (getD_in (by omega)) _ (.inr rfl))
    split
    · rename_i _ h19
      have hk := hL.one (by omega)
      exact ((key _ (hx.data (.inr h19))).app (args_ok fun j hj => h1 j (List.mem_of_mem_take hj))).app (hg _ (by omega))
    split
    · rename_i _ _ h15
      have hk := hL.one (by omega)
      refine AllOk.app (map_ok fun j hj => h j (List.mem_of_mem_take hj) _ hsep) ?_
      split
      · exact (key _ (by decide)).app (hg _ (by omega))
      · exact .nil
    split
    · rename_i _ _ _ h16
      have hk := hL.two (by omega)
      exact (((mrk _ (by decide)).app (hg 0 (by omega))).app hms).app (hg 1 (by omega))
    split
    · rename_i _ _ _ _ h17
      have hk := hL.one (by omega)
      exact hms.app (hg 0 (by omega))
    split
    · exact ((mrk _ (by decide)).app (between_ok (by decide) h1)).app (mrk _ (by decide))
    split
    · exact between_ok (by decide) h1
    · exact .nil
end
theorem Sound.tx {t : List Nd} {m i : Nat} (h : Sound t m) (hi : i < m) : TxOk (ndOf t i).op (ndOf t i).num (bs (ndOf t i).text) := by
  have hg := h.good i hi
  unfold goodR at hg; rw [Bool.and_eq_true] at hg
  exact tx_of hg.1 hg.2
theorem node_ok {t : List Nd} (hs : Sound t t.length) (hsm : Small t) : ∀ (f j : Nat) (sep : List UInt8), j < t.length → sep = [61] ∨ sep = [45, 62] → AllOk (nodeT t f j sep)
  | 0, _, _, _, _ => .nil
  | f + 1, j, sep, hj, hsep => by
    have hm : ndOf t j ∈ t := List.mem_of_getElem? (ndOf_some hj)
    exact step_ok (hs.lay hj) (hs.tx hj) (hsm.text _ hm) (hsm.num _ hm) hsep fun k hk s q => node_ok hs hsm f k s (Nat.lt_trans (hs.lt j hj k hk) hj) q
end Go.Proofs.YtikgokpbhldlnaaGreatDoor
end
section
namespace Go.Proofs.YtikgokpbhldlnaaGreatDoor
open Go Go.Ab
/-! ## Texts with a blank between; the writer that cuts -/
def joinT (l : List (List UInt8)) : List UInt8 := (l.mapIdx fun i s => (if i = 0 then [] else [32]) ++ s).flatten
theorem joinT_snoc (l : List (List UInt8)) (s : List UInt8) : joinT (l ++ [s]) = joinT l ++ (if l = [] then [] else [32]) ++ s := by
  unfold joinT
  rw [List.mapIdx_append]
  simp [List.flatten_append]
abbrev PSt := List UInt8 × Bool
def putF (st : PSt) (s : List UInt8) : PSt := if st.2 = true ∨ 8001 < st.1.length + s.length + 1 then (st.1, true) else ((if st.1 = [] then [] else st.1 ++ [32]) ++ s, false)
def PInv (pre : List (List UInt8)) (st : PSt) : Prop := (st.2 = false → st.1 = joinT pre ∧ (pre = [] ↔ st.1 = [])) ∧ (st.2 = true → 8000 < (joinT pre).length)
theorem PInv.put {pre : List (List UInt8)} {st : PSt} {s : List UInt8} (h : PInv pre st) (hs : s ≠ []) : PInv (pre ++ [s]) (putF st s) := by
  obtain ⟨h1, h2⟩ := h
  have hsl : 1 ≤ s.length := List.length_pos_iff.2 hs
  have hj := congrArg List.length (joinT_snoc pre s)
  rw [List.length_append, List.length_append] at hj
  unfold putF
  split
  · rename_i hc
    refine ⟨nofun, fun _ => ?_⟩
    cases hb : st.2 with
    | true => have := h2 hb; omega
    | false =>
      obtain ⟨h3, h4⟩ := h1 hb
      rw [hb] at hc
      have hc : 8001 < st.1.length + s.length + 1 := by simpa using hc
      rw [h3] at hc
      by_cases hp : pre = []
      · rw [if_pos hp, List.length_nil] at hj
        have : (joinT pre).length = 0 := by rw [← h3, h4.1 hp]; rfl
        omega
      · rw [if_neg hp] at hj; simp at hj; omega
  · rename_i hc
    simp only [not_or, Nat.not_lt, Bool.not_eq_true] at hc
    obtain ⟨h3, h4⟩ := h1 hc.1
    refine ⟨fun _ => ⟨?_, ?_⟩, nofun⟩
    · show (if st.1 = [] then [] else st.1 ++ [32]) ++ s = _
      rw [joinT_snoc]
      by_cases hp : pre = []
      · rw [if_pos (h4.1 hp), if_pos hp, ← h3, h4.1 hp]; rfl
      · rw [if_neg (fun q => hp (h4.2 q)), if_neg hp, ← h3]
    · show _ ↔ (if st.1 = [] then [] else st.1 ++ [32]) ++ s = []
      simp [hs]
theorem nDigits_le : ∀ (k u : Nat), u < 10 ^ (k + 1) → Lib.nDigits u ≤ k + 1
  | 0, u, h => by rw [Lib.nDigits_small (by simpa using h)]; omega
  | k + 1, u, h => by
    by_cases h10 : u < 10
    · rw [Lib.nDigits_small h10]; omega
    · rw [Lib.nDigits_big h10]
      have h2 : 10 ^ (k + 1 + 1) = 10 ^ (k + 1) * 10 := Nat.pow_succ ..
      have := nDigits_le k (u / 10) (by rw [h2] at h; omega)
      omega
theorem decDigits_ne (u : Nat) : Lib.decDigits u ≠ [] := by
  intro h
  have := congrArg List.length h
  rw [Lib.decDigits_length] at this
  unfold Lib.nDigits at this
  split at this <;> simp at this
theorem tok_ne {k : Tok} (h : TokOk k) : tokText k ≠ [] := by
  cases h with
  | int n p h h2 => exact decDigits_ne _
  | chr n p h h2 => show [39] ++ escT n.toNat ++ [39] ≠ []; simp
  | str s p => show [34] ++ quoteT s ++ [34] ≠ []; simp
  | mark s p h =>
    show s ≠ []
    rintro rfl; exact absurd h (by decide)
  | op s p h =>
    show s ≠ []
    rintro rfl; exact absurd h (by decide)
  | name s k p h h2 =>
    have e : tokText ⟨k, s, 0, p⟩ = s := by
      unfold tokText; rw [if_neg (by show ¬ k = 3; omega), if_neg (by show ¬ k = 4; omega), if_neg (by show ¬ k = 5; omega)]
    rw [e]; exact (nameF_two (s := s) (by omega)).1
theorem escT_len (c : Nat) : (escT c).length ≤ 4 := by
  unfold escT
  split
  · decide
  split
  · decide
  split
  · exact Nat.le_trans (Nat.le_refl 2) (by decide)
  split
  · exact Nat.le_trans (Nat.le_refl 1) (by decide)
  · exact Nat.le_refl 4
theorem quoteT_len : ∀ (l : List UInt8), (quoteT l).length ≤ 4 * l.length
  | [] => by simp [quoteT]
  | c :: l => by
    have h1 := quoteT_len l
    have h2 := escT_len c.toNat
    unfold quoteT at h1 ⊢
    simp only [List.map_cons, List.flatten_cons, List.length_append, List.length_cons]; omega
theorem nameF_len {s : List UInt8} (h : nameF s ≠ 0) : s.length ≤ 32 := by
  apply Classical.byContradiction
  intro h2
  refine h ?_
  unfold nameF
  rw [if_pos]
  unfold badName
  have : decide ((32 : Int) < (s.length : Int)) = true := decide_eq_true (by omega)
  rw [this]; simp
theorem tok_len {k : Tok} (h : TokOk k) : (tokText k).length ≤ 4194400 := by
  cases h with
  | int n p h h2 =>
    show (Lib.decDigits n.toNat).length ≤ _
    rw [Lib.decDigits_length]
    have := nDigits_le 19 n.toNat (by omega)
    omega
  | chr n p h h2 =>
    have := escT_len n.toNat
    show ([39] ++ escT n.toNat ++ [39]).length ≤ _
    simp; omega
  | str s p h =>
    have := quoteT_len s
    show ([34] ++ quoteT s ++ [34]).length ≤ _
    simp; omega
  | mark s p h =>
    show s.length ≤ _
    have : (isMarkL.all fun s => decide (s.length ≤ 4194400)) = true := by decide +kernel
    rw [List.all_eq_true] at this
    exact of_decide_eq_true (this s h)
  | op s p h =>
    show s.length ≤ _
    have : (opTexts.all fun s => decide (s.length ≤ 4194400)) = true := by decide +kernel
    rw [List.all_eq_true] at this
    exact of_decide_eq_true (this s h)
  | name s k p h h2 =>
    have e : tokText ⟨k, s, 0, p⟩ = s := by
      unfold tokText; rw [if_neg (by show ¬ k = 3; omega), if_neg (by show ¬ k = 4; omega), if_neg (by show ¬ k = 5; omega)]
    rw [e]; have := nameF_len (s := s) (by omega); omega
end Go.Proofs.YtikgokpbhldlnaaGreatDoor
end
section
namespace Go.Proofs.YtikgokpbhldlnaaGreatDoor
open Go Go.Ab
attribute [local irreducible] Wp WpO Qt OpT Ct Ent
section
variable {t : List Nd} {a : Option Addr} {c bw : Nat} {N : Nat → List UInt8 → List Tok} {fs : List Nat} {ka : Option Addr} {kc : Nat} {L : List Assn}
theorem nodeL_ct {j : Nat} (hN : NodeOk t a c bw N j) (sep : ByteArray) (l : List UInt8) (hl : bs sep = l) (x : Option Addr × Nat) (ts : List Tok) (L : List Assn) (hT : TreeR L a c t) (hs : (bs sep).length < 1073741824) (hb : ts.length + (N j l).length ≤ 16000000) :
    Ct Tryz.prog 57 #[.pointer (some ⟨bw, 0, none⟩), .int .i64 j, .string sep] (wm bw (.slice a t.length c) x ts L) (ret fun _ L' => ∃ x', L' = wm bw (.slice a t.length c) x' (ts ++ N j l) L) := by
  subst hl; exact hN sep x ts L hT hs hb
theorem Kd.init {l : List Nat} {z : Nat} (C : Kd t a c bw N (l ++ [z]) ka kc L) : Sl L ka kc 1 (ints (natI l)) := by
  have := C.sl.take l.length
  rwa [show (ints (natI (l ++ [z]))).take l.length = ints (natI l) from by simp [ints, natI]] at this
theorem Kd.rest {j : Nat} {r : List Nat} (C : Kd t a c bw N (j :: r) ka kc L) : Sl L (slA ka kc 1 1) (kc - 1) 1 (ints (natI r)) := C.sl.drop 1 (by simp [ints, natI])
def ifWords : List (List UInt8) := [[105, 102], [116, 104, 101, 110], [101, 108, 115, 101]]
theorem lastI {l : List Nat} {z : Nat} (h : (l ++ [z]).length ≤ 1048576) : IntKind.i64.wrap (((l ++ [z]).length : Int) - 1) = (l.length : Int) := by
  rw [wrap_id (by omega) (by omega)]; simp
set_option maxHeartbeats 4000000 in
theorem wexpr_ct (op num : Int) (s : ByteArray) (hL : Lay op (bs s) fs.length) (hs : (bs s).length ≤ 1048576) (C : Kd t a c bw N fs ka kc L) (x : Option Addr × Nat) (ts : List Tok) (hb : ts.length + (exprT t N op (bs s) fs).length ≤ 16000000) :
    Ct Tryz.prog 119 #[.pointer (some ⟨bw, 0, none⟩), .agg #[.int .i64 op, .string s, .int .i64 num, .slice ka fs.length kc]] (wm bw (.slice a t.length c) x ts L) (ret fun _ L' => ∃ x', L' = wm bw (.slice a t.length c) x' (ts ++ exprT t N op (bs s) fs) L) := by
  have hcap := C.cap
  have hfl := C.fl
  refine Ct.body Tryz.func119 rfl Tryz.ntmps119 Tryz.results119 rfl ?_
  refine pur ?_
  refine WpO.box (vs := [.int .i64 op, .string s, .int .i64 num, .slice ka fs.length kc]) rfl rfl rfl (fun _ => Keeps.none) fun b0 => ?_
  refine WpO.parts LeL.third ?_
  refine pur ?_
  refine Wp.branch rfl (fun h => ?_) (fun h => ?_)
  · have ho : op = 6 := of_decide_eq_true h
    have hn : exprT t N op (bs s) fs = (fs.map fun j => closedT N j (reachF t j || decide ((ndOf t j).op = 6))).flatten := by unfold exprT; rw [if_pos ho]
    rw [hn] at hb ⊢
    refine pur ?_
    refine Wp.loopI (α := Nat × Option Addr × Nat) (0, x) (fun y => [(0, .v (.pointer (some ⟨bw, 0, none⟩))), (18, .v (.slice ka fs.length kc)), (19, .v (.int .i64 fs.length)), (20, .v (.int .i64 y.1))])
      (fun y => wm bw (.slice a t.length c) y.2 (ts ++ ((fs.take y.1).map fun j => closedT N j (reachF t j || decide ((ndOf t j).op = 6))).flatten) (ptA b0 36 [.int .i64 op, .string s, .int .i64 num, .slice ka fs.length kc] :: L)) (fun y => fs.length - y.1) (fun y => y.1 ≤ fs.length) (Nat.zero_le _) ⟨rfl, rfl, rfl, rfl, trivial⟩ (by simp only [List.take_zero, List.map_nil, List.flatten_nil, List.append_nil]; exact LeL.refl _) ?_
    rintro ⟨i, xx⟩ hi
    simp only [] at hi
    show Wp _ _ _ _ [_, _, _, (20, .v (.int .i64 i))] _ (wm bw (.slice a t.length c) xx (ts ++ ((fs.take i).map fun j => closedT N j (reachF t j || decide ((ndOf t j).op = 6))).flatten) _)
    refine pur ?_
    refine Wp.branch rfl (fun h => ?_) (fun h => ?_)
    · have hix := lt_len h
      have hg := List.getElem?_eq_getElem hix
      have hmem := List.getElem_mem hix
      generalize fs[i] = j at hg hmem
      have hj := C.lt j hmem
      obtain ⟨b2, o2, rfl, hE2⟩ := C.kid hg
      obtain ⟨bt, ot, ka2, kc2, rfl, hE, _⟩ := C.tr.at (ndOf_some hj)
      have hle := flat_le (fun j => closedT N j (reachF t j || decide ((ndOf t j).op = 6))) fs i j hg
      have hsn := flat_snoc (fun j => closedT N j (reachF t j || decide ((ndOf t j).op = 6))) fs i j hg
      refine pur ?_
      refine S.idx i rfl rfl rfl rfl hix ?_
      refine pur ?_
      refine WpO.callq Tryz.call176 rfl rfl (reaches_ct j hj xx _ _ C.tr.cons) Keeps.none ?_
      refine pur ?_
      refine G.idx j rfl rfl rfl (by infer_instance) rfl (by infer_instance) (fun _ => ⟨rfl, hj⟩) ?_
      refine pur ?_
      refine WpO.call Tryz.call173 rfl rfl (closed_ct (C.hN j hmem) (reachF t j || decide ((ndOf t j).op = 6)) xx _ _ C.tr.cons (by rw [List.length_append]; omega)) fun v L' ⟨x1, e⟩ => ⟨Keeps.none, ?_⟩
      subst e
      refine pur ?_
      refine Round.mk (i + 1, x1) (by simp only []; omega) hix ⟨rfl, rfl, rfl, inc_e (by omega), trivial⟩ ?_
      have : ts ++ ((fs.take i).map fun j => closedT N j (reachF t j || decide ((ndOf t j).op = 6))).flatten ++ closedT N j (reachF t j || decide ((ndOf t j).op = 6)) = ts ++ ((fs.take (i + 1)).map fun j => closedT N j (reachF t j || decide ((ndOf t j).op = 6))).flatten := by rw [hsn, List.append_assoc]
      rw [this]; exact LeL.refl _
    · have hin : fs.length ≤ i := by have := of_decide_eq_false h; omega
      refine pur ?_
      refine RetNL rfl LeL.drop3 ⟨xx, ?_⟩
      rw [List.take_of_length_le hin]
  have n6 : ¬ op = 6 := of_decide_eq_false h
  refine pur ?_
  refine Wp.branch rfl (fun h => ?_) (fun h => ?_)
  · have ho : op = 13 := of_decide_eq_true h
    obtain ⟨ja, jb, r, rfl⟩ := two_of (hL.two (by omega))
    have hn : exprT t N op (bs s) (ja :: jb :: r) = closedT N ja (reachF t ja) ++ mk [bs s] ++ closedT N jb (reachF t jb) := by unfold exprT; rw [if_neg n6, if_pos ho]; rfl
    rw [hn] at hb ⊢
    obtain ⟨b2, o2, rfl, hE0⟩ := C.kid (k := 0) (j := ja) rfl
    have hE1 := C.kid2 (k := 1) (j := jb) rfl
    refine pur ?_
    refine Wp.draw rfl [0,1,2,3,4,5,6,7,8,9,10,11] 12 12 (ptA b0 36 [.int .i64 op, .string s, .int .i64 num, .slice (some ⟨b2, o2, none⟩) (ja :: jb :: r).length kc] :: L) rfl (by decide +kernel) (fun _ h => h.tail.tail) ?_
    refine pur ?_
    refine S.idx 0 rfl rfl rfl rfl (by simp) ?_
    refine pur ?_
    refine S.idx 0 rfl rfl rfl rfl (by simp) ?_
    refine pur ?_
    refine WpO.callq Tryz.call176 rfl rfl (reaches_ct ja (C.lt ja (by simp)) x _ _ C.tr.cons) (Keeps.by fun _ h => h.tail.tail) ?_
    refine pur ?_
    refine WpO.call Tryz.call173 rfl rfl (closed_ct (C.hN ja (by simp)) _ x _ _ C.tr.cons (by simp only [List.length_append, mk_len, List.length_cons, List.length_nil] at hb ⊢; omega)) fun v L' ⟨x1, e⟩ => ⟨by subst e; exact Keeps.by fun _ h => h.tail.tail, ?_⟩
    subst e
    refine pur ?_
    refine WpO.buildSlice rfl rfl rfl rfl rfl rfl rfl (fun _ => Keeps.none) fun bs2 => ?_
    refine WpO.call Tryz.call116 rfl rfl (mark1L_ct bw _ x1 _ s (bs s) rfl bs2 _ (by omega) (by first | omega | (simp only [List.length_append, mk_len, List.length_cons, List.length_nil] at hb ⊢; omega))) fun v L' ⟨x2, e⟩ => ⟨Keeps.none, ?_⟩
    subst e
    refine pur ?_
    refine Wp.draw rfl [0,1,2,3,4,5,6,7,8,9,10,11] 12 12 (ptA b0 36 [.int .i64 op, .string s, .int .i64 num, .slice (some ⟨b2, o2, none⟩) (ja :: jb :: r).length kc] :: L) rfl (by decide +kernel) (fun _ h => h.tail.tail) ?_
    refine pur ?_
    refine S.idx 1 rfl rfl rfl rfl (by simp) ?_
    refine pur ?_
    refine S.idx 1 rfl rfl rfl rfl (by simp) ?_
    refine pur ?_
    refine WpO.callq Tryz.call176 rfl rfl (reaches_ct jb (C.lt jb (by simp)) x2 _ _ C.tr.cons) (Keeps.by fun _ h => h.tail.tail) ?_
    refine pur ?_
    refine WpO.call Tryz.call173 rfl rfl (closed_ct (C.hN jb (by simp)) _ x2 _ _ C.tr.cons (by simp only [List.length_append, mk_len, List.length_cons, List.length_nil] at hb ⊢; omega)) fun v L' ⟨x3, e⟩ => ⟨by subst e; exact Keeps.by fun _ h => h.tail.tail, ?_⟩
    subst e
    refine pur ?_
    refine RetNL rfl LeL.drop3 ⟨x3, ?_⟩
    simp only [List.append_assoc]
  have n13 : ¬ op = 13 := of_decide_eq_false h
  refine pur ?_
  refine Wp.branch rfl (fun h => ?_) (fun h => ?_)
  · have ho : op = 7 := of_decide_eq_true h
    obtain ⟨l, z, rfl⟩ := last_of (hL.one (by omega))
    have hn : exprT t N op (bs s) (l ++ [z]) = mk [[92]] ++ argsT t N l ++ mk [[45, 62]] ++ N z [61] := by unfold exprT; rw [if_neg n6, if_neg n13, if_pos ho]; rw [(lastD l z).1, (lastD l z).2]
    rw [hn] at hb ⊢
    have hll : (l ++ [z]).length = l.length + 1 := by simp
    obtain ⟨b2, o2, rfl, hE0⟩ := C.kid (k := l.length) (j := z) (by simp)
    refine pur ?_
    refine WpO.buildSlice rfl rfl rfl rfl rfl rfl rfl (fun _ => Keeps.none) fun bs1 => ?_
    refine WpO.call Tryz.call116 rfl rfl (mark1L_ct bw _ x _ ⟨#[92]⟩ [92] rfl bs1 _ (by decide) (by first | omega | (simp only [List.length_append, mk_len, List.length_cons, List.length_nil] at hb ⊢; omega))) fun v L' ⟨x1, e⟩ => ⟨Keeps.none, ?_⟩
    subst e
    refine pur ?_
    refine S.sliceL 0 l.length rfl rfl Bd.no (Bd.at l.length rfl (by infer_instance) (fun _ => lastI hfl)) ⟨Nat.zero_le _, by omega⟩ ?_
    rw [slA_zero (.inr ⟨b2, o2, rfl⟩), Nat.sub_zero, Nat.sub_zero]
    refine pur ?_
    refine WpO.call Tryz.call175 rfl rfl (arguments_ct l _ _ (fun j hj => C.hN j (by simp [hj])) (fun j hj => C.lt j (by simp [hj])) C.sm x1 _ _ C.tr.cons C.init.cons (by omega) (by first | omega | (simp only [List.length_append, mk_len, List.length_cons, List.length_nil] at hb ⊢; omega))) fun v L' ⟨x2, e⟩ => ⟨Keeps.none, ?_⟩
    subst e
    refine pur ?_
    refine WpO.buildSlice rfl rfl rfl rfl rfl rfl rfl (fun _ => Keeps.none) fun bs3 => ?_
    refine WpO.call Tryz.call116 rfl rfl (mark1L_ct bw _ x2 _ ⟨#[45, 62]⟩ [45, 62] rfl bs3 _ (by decide) (by first | omega | (simp only [List.length_append, mk_len, List.length_cons, List.length_nil] at hb ⊢; omega))) fun v L' ⟨x3, e⟩ => ⟨Keeps.none, ?_⟩
    subst e
    refine pur ?_
    refine S.idx l.length rfl rfl rfl (lastI hfl) (by simp) ?_
    refine pur ?_
    refine WpO.call Tryz.call35 rfl rfl (plainly_ct (C.hN z (by simp)) x3 _ _ C.tr.cons (by first | omega | (simp only [List.length_append, mk_len, List.length_cons, List.length_nil] at hb ⊢; omega))) fun v L' ⟨x4, e⟩ => ⟨Keeps.none, ?_⟩
    subst e
    refine pur ?_
    refine RetNL rfl LeL.drop3 ⟨x4, ?_⟩
    simp only [List.append_assoc]
  have n7 : ¬ op = 7 := of_decide_eq_false h
  refine pur ?_
  refine Wp.branch rfl (fun h => ?_) (fun h => ?_)
  · have ho : op = 8 := of_decide_eq_true h
    obtain ⟨ja, jb, r, rfl⟩ := two_of (hL.two (by omega))
    have hn : exprT t N op (bs s) (ja :: jb :: r) = mk [[108, 101, 116]] ++ N ja [61] ++ mk [[105, 110]] ++ N jb [61] := by unfold exprT; rw [if_neg n6, if_neg n13, if_neg n7, if_pos ho]; rfl
    rw [hn] at hb ⊢
    obtain ⟨b2, o2, rfl, hE0⟩ := C.kid (k := 0) (j := ja) rfl
    have hE1 := C.kid2 (k := 1) (j := jb) rfl
    refine pur ?_
    refine WpO.buildSlice rfl rfl rfl rfl rfl rfl rfl (fun _ => Keeps.none) fun bs1 => ?_
    refine WpO.call Tryz.call116 rfl rfl (mark1L_ct bw _ x _ ⟨#[108, 101, 116]⟩ [108, 101, 116] rfl bs1 _ (by decide) (by first | omega | (simp only [List.length_append, mk_len, List.length_cons, List.length_nil] at hb ⊢; omega))) fun v L' ⟨x1, e⟩ => ⟨Keeps.none, ?_⟩
    subst e
    refine pur ?_
    refine S.idx 0 rfl rfl rfl rfl (by simp) ?_
    refine pur ?_
    refine WpO.call Tryz.call35 rfl rfl (plainly_ct (C.hN ja (by simp)) x1 _ _ C.tr.cons (by first | omega | (simp only [List.length_append, mk_len, List.length_cons, List.length_nil] at hb ⊢; omega))) fun v L' ⟨x2, e⟩ => ⟨Keeps.none, ?_⟩
    subst e
    refine pur ?_
    refine WpO.buildSlice rfl rfl rfl rfl rfl rfl rfl (fun _ => Keeps.none) fun bs3 => ?_
    refine WpO.call Tryz.call116 rfl rfl (mark1L_ct bw _ x2 _ ⟨#[105, 110]⟩ [105, 110] rfl bs3 _ (by decide) (by first | omega | (simp only [List.length_append, mk_len, List.length_cons, List.length_nil] at hb ⊢; omega))) fun v L' ⟨x3, e⟩ => ⟨Keeps.none, ?_⟩
    subst e
    refine pur ?_
    refine S.idx 1 rfl rfl rfl rfl (by simp) ?_
    refine pur ?_
    refine WpO.call Tryz.call35 rfl rfl (plainly_ct (C.hN jb (by simp)) x3 _ _ C.tr.cons (by first | omega | (simp only [List.length_append, mk_len, List.length_cons, List.length_nil] at hb ⊢; omega))) fun v L' ⟨x4, e⟩ => ⟨Keeps.none, ?_⟩
    subst e
    refine pur ?_
    refine RetNL rfl LeL.drop3 ⟨x4, ?_⟩
    simp only [List.append_assoc]
  have n8 : ¬ op = 8 := of_decide_eq_false h
  refine pur ?_
  refine Wp.branch rfl (fun h => ?_) (fun h => ?_)
  · have ho : op = 9 := of_decide_eq_true h
    have hn : exprT t N op (bs s) fs = ifT N ifWords fs := by unfold exprT; rw [if_neg n6, if_neg n13, if_neg n7, if_neg n8, if_pos ho]; rfl
    rw [hn] at hb ⊢
    have hf3 := hL.three ho
    refine pur ?_
    refine WpO.buildSlice rfl rfl rfl rfl rfl rfl rfl (fun _ => Keeps.none) fun bW => ?_
    have hS : ∀ M, Sl (ptA bW 9 [.string ⟨#[105, 102]⟩, .string ⟨#[116, 104, 101, 110]⟩, .string ⟨#[101, 108, 115, 101]⟩] :: M) (some ⟨bW, 0, none⟩) 3 1 (strRows ifWords) := fun M => Sl.ofPt 0 rfl rfl (by intro r hr; simp [strRows, ifWords] at hr; rcases hr with rfl | rfl | rfl <;> rfl) (Nat.le_refl _)
    refine WpO.parts LeL.third ?_
    refine pur ?_
    refine Wp.loopI (α := Nat × List Tok × Option Addr × Nat) (0, ts, x) (fun y => [(0, .v (.pointer (some ⟨bw, 0, none⟩))), (3, .v (.pointer (some ⟨b0, 0, none⟩))), (117, .v (.slice (some ⟨bW, 0, none⟩) 3 3)), (118, .v (.int .i64 3)), (119, .v (.int .i64 y.1))])
      (fun y => wm bw (.slice a t.length c) y.2.2 y.2.1 (ptA bW 9 [.string ⟨#[105, 102]⟩, .string ⟨#[116, 104, 101, 110]⟩, .string ⟨#[101, 108, 115, 101]⟩] :: (ptA b0 36 [.int .i64 op, .string s, .int .i64 num, .slice ka fs.length kc] :: L))) (fun y => 3 - y.1) (fun y => y.1 ≤ 3 ∧ ts ++ ifT N ifWords fs = y.2.1 ++ ifT N (List.drop y.1 ifWords) (fs.drop y.1)) ⟨Nat.zero_le _, rfl⟩ ⟨rfl, rfl, rfl, rfl, rfl, trivial⟩ (LeL.refl _) ?_
    rintro ⟨i, cur, xx⟩ ⟨hi, hc⟩
    simp only [] at hi hc
    show Wp _ _ _ _ [_, _, _, _, (119, .v (.int .i64 i))] _ (wm bw (.slice a t.length c) xx cur _)
    have hcl := congrArg List.length hc
    rw [List.length_append, List.length_append] at hcl
    refine pur ?_
    refine Wp.branch rfl (fun h => ?_) (fun h => ?_)
    · have hi3 : i < 3 := by have := of_decide_eq_true h; omega
      have hix : i < fs.length := by omega
      have hg := List.getElem?_eq_getElem hix
      have hmem := List.getElem_mem hix
      have hdr := List.drop_eq_getElem_cons hix
      generalize fs[i] = j at hg hmem hdr
      have hwx : i < List.length ifWords := hi3
      have hwg := List.getElem?_eq_getElem hwx
      have hwd := List.drop_eq_getElem_cons hwx
      have hwl : (List.length (ifWords[i])) < 100 := by
        have : (List.all ifWords fun q => decide (q.length < 100)) = true := by decide
        rw [List.all_eq_true] at this
        exact of_decide_eq_true (this _ (List.getElem_mem hwx))
      generalize ifWords[i] = m at hwg hwd hwl
      have hd : ifT N (m :: List.drop (i + 1) ifWords) (j :: fs.drop (i + 1)) = mk [m] ++ N j [61] ++ ifT N (List.drop (i + 1) ifWords) (fs.drop (i + 1)) := rfl
      rw [hdr, hwd, hd] at hc hcl
      simp only [List.length_append, mk_len, List.length_cons, List.length_nil] at hcl
      have hj := C.lt j hmem
      obtain ⟨b2, o2, rfl, hE2⟩ := C.kid hg
      obtain ⟨bW', oW, eW, _, hEW⟩ := (hS (ptA b0 36 [.int .i64 op, .string s, .int .i64 num, .slice (some ⟨b2, o2, none⟩) (fs).length kc] :: L)).at (i := i) (r := [.string (ofL m)]) (by simp [strRows, hwg])
      simp only [Option.some.injEq, Addr.mk.injEq, and_true] at eW
      obtain ⟨rfl, rfl⟩ := eW
      refine pur ?_
      refine S.idx i rfl rfl rfl rfl hi3 ?_
      refine pur ?_
      refine WpO.buildSlice rfl rfl rfl rfl rfl rfl rfl (fun _ => Keeps.none) fun bs3 => ?_
      refine WpO.call Tryz.call116 rfl rfl (mark1L_ct bw _ xx _ (ofL m) m (bs_ofL m) bs3 _ (by rw [bs_ofL]; omega) (by omega)) fun v L' ⟨x3, e⟩ => ⟨Keeps.none, ?_⟩
      subst e
      refine pur ?_
      refine S.idx i rfl rfl rfl rfl (by omega) ?_
      refine pur ?_
      refine WpO.call Tryz.call35 rfl rfl (plainly_ct (C.hN j hmem) x3 _ _ C.tr.cons.cons (by simp only [List.length_append, mk_len, List.length_cons, List.length_nil]; omega)) fun v L' ⟨x4, e⟩ => ⟨Keeps.none, ?_⟩
      subst e
      refine pur ?_
      refine Round.mk (i + 1, cur ++ mk [m] ++ N j [61], x4) (by simp only []; omega) ⟨hi3, ?_⟩ ⟨rfl, rfl, rfl, rfl, inc_e (by omega), trivial⟩ (LeL.refl _)
      rw [hc]; simp only [List.append_assoc]
    · have hin : i = 3 := by have := of_decide_eq_false h; omega
      subst hin
      have hz : ifT N (List.drop 3 ifWords) (fs.drop 3) = [] := by rw [List.drop_eq_nil_of_le (show fs.length ≤ 3 by omega)]; rfl
      rw [hz, List.append_nil] at hc
      refine pur ?_
      refine RetNL rfl (fun _ s => LeL.drop3 _ (LeL.drop3 _ s)) ⟨xx, ?_⟩
      rw [hc]
  have n9 : ¬ op = 9 := of_decide_eq_false h
  refine pur ?_
  refine Wp.branch rfl (fun h => ?_) (fun h => ?_)
  · have ho : op = 10 := of_decide_eq_true h
    obtain ⟨ja, r, rfl⟩ := one_of (hL.one (by omega))
    have hn : exprT t N op (bs s) (ja :: r) = mk [[99, 97, 115, 101]] ++ N ja [61] ++ mk [[111, 102], [123]] ++ betweenT N [59] r ++ mk [[125]] := by unfold exprT; rw [if_neg n6, if_neg n13, if_neg n7, if_neg n8, if_neg n9, if_pos ho]; rfl
    rw [hn] at hb ⊢
    obtain ⟨b2, o2, rfl, hE0⟩ := C.kid (k := 0) (j := ja) rfl
    refine pur ?_
    refine WpO.buildSlice rfl rfl rfl rfl rfl rfl rfl (fun _ => Keeps.none) fun bs1 => ?_
    refine WpO.call Tryz.call116 rfl rfl (mark1L_ct bw _ x _ ⟨#[99, 97, 115, 101]⟩ [99, 97, 115, 101] rfl bs1 _ (by decide) (by first | omega | (simp only [List.length_append, mk_len, List.length_cons, List.length_nil] at hb ⊢; omega))) fun v L' ⟨x1, e⟩ => ⟨Keeps.none, ?_⟩
    subst e
    refine pur ?_
    refine S.idx 0 rfl rfl rfl rfl (by simp) ?_
    refine pur ?_
    refine WpO.call Tryz.call35 rfl rfl (plainly_ct (C.hN ja (by simp)) x1 _ _ C.tr.cons (by first | omega | (simp only [List.length_append, mk_len, List.length_cons, List.length_nil] at hb ⊢; omega))) fun v L' ⟨x2, e⟩ => ⟨Keeps.none, ?_⟩
    subst e
    refine pur ?_
    refine WpO.buildSlice rfl rfl rfl rfl rfl rfl rfl (fun _ => Keeps.none) fun bs3 => ?_
    refine WpO.call Tryz.call116 rfl rfl (mark2L_ct bw _ x2 _ ⟨#[111, 102]⟩ ⟨#[123]⟩ [111, 102] [123] rfl rfl bs3 _ (by decide) (by decide) (by first | omega | (simp only [List.length_append, mk_len, List.length_cons, List.length_nil] at hb ⊢; omega))) fun v L' ⟨x3, e⟩ => ⟨Keeps.none, ?_⟩
    subst e
    refine pur ?_
    refine S.sliceL 1 (ja :: r).length rfl rfl (Bd.at 1 rfl (by infer_instance) (fun _ => rfl)) Bd.no ⟨by simp, hcap⟩ ?_
    rw [show (ja :: r).length - 1 = r.length from rfl]
    refine pur ?_
    refine S.makeFuncM rfl (.cons rfl (by infer_instance) .nil) .nil ?_
    refine pur ?_
    refine WpO.call Tryz.call117 rfl rfl (betweenL_ct r _ _ ⟨#[59]⟩ [59] rfl (by decide) (fun j hj => C.hN j (by simp [hj])) x3 _ _ C.tr.cons C.rest.cons (by simp at hfl; omega) (by first | omega | (simp only [List.length_append, mk_len, List.length_cons, List.length_nil] at hb ⊢; omega))) fun v L' ⟨x4, e⟩ => ⟨Keeps.none, ?_⟩
    subst e
    refine pur ?_
    refine WpO.buildSlice rfl rfl rfl rfl rfl rfl rfl (fun _ => Keeps.none) fun bs5 => ?_
    refine WpO.call Tryz.call116 rfl rfl (mark1L_ct bw _ x4 _ ⟨#[125]⟩ [125] rfl bs5 _ (by decide) (by first | omega | (simp only [List.length_append, mk_len, List.length_cons, List.length_nil] at hb ⊢; omega))) fun v L' ⟨x5, e⟩ => ⟨Keeps.none, ?_⟩
    subst e
    refine pur ?_
    refine RetNL rfl LeL.drop3 ⟨x5, ?_⟩
    simp only [List.append_assoc]
  have n10 : ¬ op = 10 := of_decide_eq_false h
  refine pur ?_
  have hn : exprT t N op (bs s) fs = [] := by unfold exprT; rw [if_neg n6, if_neg n13, if_neg n7, if_neg n8, if_neg n9, if_neg n10]
  rw [hn, List.append_nil]
  exact RetNL rfl LeL.drop3 ⟨x, rfl⟩
set_option maxHeartbeats 4000000 in
theorem wpart_ct (op num : Int) (s sep : ByteArray) (hL : Lay op (bs s) fs.length) (hs : (bs s).length ≤ 1048576) (hsep : (bs sep).length < 1073741824) (C : Kd t a c bw N fs ka kc L) (x : Option Addr × Nat) (ts : List Tok) (hb : ts.length + (partT t N op (bs s) fs (bs sep)).length ≤ 16000000) :
    Ct Tryz.prog 120 #[.pointer (some ⟨bw, 0, none⟩), .agg #[.int .i64 op, .string s, .int .i64 num, .slice ka fs.length kc], .string sep] (wm bw (.slice a t.length c) x ts L) (ret fun _ L' => ∃ x', L' = wm bw (.slice a t.length c) x' (ts ++ partT t N op (bs s) fs (bs sep)) L) := by
  have hcap := C.cap
  have hfl := C.fl
  refine Ct.body Tryz.func120 rfl Tryz.ntmps120 Tryz.results120 rfl ?_
  refine pur ?_
  refine WpO.box (vs := [.int .i64 op, .string s, .int .i64 num, .slice ka fs.length kc]) rfl rfl rfl (fun _ => Keeps.none) fun b0 => ?_
  refine WpO.parts LeL.third ?_
  refine pur ?_
  refine Wp.branch rfl (fun h => ?_) (fun h => ?_)
  · have ho : op = 14 := of_decide_eq_true h
    obtain ⟨ja, jb, r, rfl⟩ := two_of (hL.two (by omega))
    have hn : partT t N op (bs s) (ja :: jb :: r) (bs sep) = N ja [61] ++ N jb [45, 62] := by unfold partT; rw [if_pos ho]; rfl
    rw [hn] at hb ⊢
    obtain ⟨b2, o2, rfl, hE0⟩ := C.kid (k := 0) (j := ja) rfl
    have hE1 := C.kid2 (k := 1) (j := jb) rfl
    refine pur ?_
    refine S.idx 0 rfl rfl rfl rfl (by simp) ?_
    refine pur ?_
    refine WpO.call Tryz.call35 rfl rfl (plainly_ct (C.hN ja (by simp)) x _ _ C.tr.cons (by first | omega | (simp only [List.length_append, mk_len, List.length_cons, List.length_nil] at hb ⊢; omega))) fun v L' ⟨x1, e⟩ => ⟨Keeps.none, ?_⟩
    subst e
    refine pur ?_
    refine S.idx 1 rfl rfl rfl rfl (by simp) ?_
    refine pur ?_
    refine WpO.call Tryz.call57 rfl rfl (nodeL_ct (C.hN jb (by simp)) ⟨#[45, 62]⟩ [45, 62] rfl x1 _ _ C.tr.cons (by decide) (by simp only [List.length_append, mk_len, List.length_cons, List.length_nil] at hb ⊢; omega)) fun v L' ⟨x2, e⟩ => ⟨Keeps.none, ?_⟩
    subst e
    refine pur ?_
    refine RetNL rfl LeL.drop3 ⟨x2, ?_⟩
    simp only [List.append_assoc]
  have n14 : ¬ op = 14 := of_decide_eq_false h
  refine pur ?_
  refine Wp.branch rfl (fun h => ?_) (fun h => ?_)
  · have ho : op = 19 := of_decide_eq_true h
    obtain ⟨l, z, rfl⟩ := last_of (hL.one (by omega))
    have hn : partT t N op (bs s) (l ++ [z]) (bs sep) = mk [bs s] ++ argsT t N l ++ N z [61] := by unfold partT; rw [if_neg n14, if_pos ho]; rw [(lastD l z).1, (lastD l z).2]
    rw [hn] at hb ⊢
    have hll : (l ++ [z]).length = l.length + 1 := by simp
    obtain ⟨b2, o2, rfl, hE0⟩ := C.kid (k := l.length) (j := z) (by simp)
    refine pur ?_
    refine WpO.buildSlice rfl rfl rfl rfl rfl rfl rfl (fun _ => Keeps.none) fun bs1 => ?_
    refine WpO.call Tryz.call116 rfl rfl (mark1L_ct bw _ x _ s (bs s) rfl bs1 _ (by omega) (by first | omega | (simp only [List.length_append, mk_len, List.length_cons, List.length_nil] at hb ⊢; omega))) fun v L' ⟨x1, e⟩ => ⟨Keeps.none, ?_⟩
    subst e
    refine pur ?_
    refine S.sliceL 0 l.length rfl rfl Bd.no (Bd.at l.length rfl (by infer_instance) (fun _ => lastI hfl)) ⟨Nat.zero_le _, by omega⟩ ?_
    rw [slA_zero (.inr ⟨b2, o2, rfl⟩), Nat.sub_zero, Nat.sub_zero]
    refine pur ?_
    refine WpO.call Tryz.call175 rfl rfl (arguments_ct l _ _ (fun j hj => C.hN j (by simp [hj])) (fun j hj => C.lt j (by simp [hj])) C.sm x1 _ _ C.tr.cons C.init.cons (by omega) (by first | omega | (simp only [List.length_append, mk_len, List.length_cons, List.length_nil] at hb ⊢; omega))) fun v L' ⟨x2, e⟩ => ⟨Keeps.none, ?_⟩
    subst e
    refine pur ?_
    refine S.idx l.length rfl rfl rfl (lastI hfl) (by simp) ?_
    refine pur ?_
    refine WpO.call Tryz.call35 rfl rfl (plainly_ct (C.hN z (by simp)) x2 _ _ C.tr.cons (by first | omega | (simp only [List.length_append, mk_len, List.length_cons, List.length_nil] at hb ⊢; omega))) fun v L' ⟨x3, e⟩ => ⟨Keeps.none, ?_⟩
    subst e
    refine pur ?_
    refine RetNL rfl LeL.drop3 ⟨x3, ?_⟩
    simp only [List.append_assoc]
  have n19 : ¬ op = 19 := of_decide_eq_false h
  refine pur ?_
  refine Wp.branch rfl (fun h => ?_) (fun h => ?_)
  · have ho : op = 15 := of_decide_eq_true h
    obtain ⟨l, z, rfl⟩ := last_of (hL.one (by omega))
    have hn : partT t N op (bs s) (l ++ [z]) (bs sep) = (l.map fun j => N j (bs sep)).flatten ++ (if 0 < (ndOf t z).kids.length then mk [[119, 104, 101, 114, 101]] ++ N z [61] else []) := by unfold partT; rw [if_neg n14, if_neg n19, if_pos ho]; rw [(lastD l z).1, (lastD l z).2]
    rw [hn] at hb ⊢
    have hll : (l ++ [z]).length = l.length + 1 := by simp
    obtain ⟨b2, o2, rfl, hE0⟩ := C.kid (k := l.length) (j := z) (by simp)
    have hz := C.lt z (by simp)
    obtain ⟨bt, ot, ka2, kc2, rfl, hE, _⟩ := C.tr.at (ndOf_some hz)
    rw [List.length_append] at hb
    refine pur ?_
    refine S.sliceL 0 l.length rfl rfl Bd.no (Bd.at l.length rfl (by infer_instance) (fun _ => lastI hfl)) ⟨Nat.zero_le _, by omega⟩ ?_
    rw [slA_zero (.inr ⟨b2, o2, rfl⟩), Nat.sub_zero, Nat.sub_zero]
    refine pur ?_
    refine Wp.loopI (α := Nat × Option Addr × Nat) (0, x) (fun y => [(0, .v (.pointer (some ⟨bw, 0, none⟩))), (2, .v (.string sep)), (4, .v (.pointer (some ⟨b0, 0, none⟩))), (6, .v (.int .i64 (IntKind.i64.wrap (((l ++ [z]).length : Int) - 1)))), (54, .v (.slice (some ⟨b2, o2, none⟩) l.length kc)), (55, .v (.int .i64 l.length)), (56, .v (.int .i64 y.1))])
      (fun y => wm bw (.slice (some ⟨bt, ot, none⟩) t.length c) y.2 (ts ++ ((l.take y.1).map fun j => N j (bs sep)).flatten) (ptA b0 36 [.int .i64 op, .string s, .int .i64 num, .slice (some ⟨b2, o2, none⟩) (l ++ [z]).length kc] :: L)) (fun y => l.length - y.1) (fun y => y.1 ≤ l.length) (Nat.zero_le _) ⟨rfl, rfl, rfl, rfl, rfl, rfl, rfl, trivial⟩ (by simp only [List.take_zero, List.map_nil, List.flatten_nil, List.append_nil]; exact LeL.refl _) ?_
    rintro ⟨i, xx⟩ hi
    simp only [] at hi
    show Wp _ _ _ _ [_, _, _, _, _, _, (56, .v (.int .i64 i))] _ (wm bw (.slice (some ⟨bt, ot, none⟩) t.length c) xx (ts ++ ((l.take i).map fun j => N j (bs sep)).flatten) _)
    refine pur ?_
    refine Wp.branch rfl (fun h => ?_) (fun h => ?_)
    · have hix := lt_len h
      have hg := List.getElem?_eq_getElem hix
      have hmem := List.getElem_mem hix
      have hE2 := C.kid2 (k := i) (j := l[i]) (by rw [List.getElem?_append_left hix]; exact hg)
      generalize l[i] = j at hg hmem hE2
      have hle := flat_le (fun j => N j (bs sep)) l i j hg
      have hsn := flat_snoc (fun j => N j (bs sep)) l i j hg
      refine pur ?_
      refine S.idx i rfl rfl rfl rfl hix ?_
      refine pur ?_
      refine WpO.call Tryz.call57 rfl rfl (C.hN j (by simp [hmem]) sep xx _ _ C.tr.cons hsep (by rw [List.length_append]; omega)) fun v L' ⟨x1, e⟩ => ⟨Keeps.none, ?_⟩
      subst e
      refine pur ?_
      refine Round.mk (i + 1, x1) (by simp only []; omega) hix ⟨rfl, rfl, rfl, rfl, rfl, rfl, inc_e (by omega), trivial⟩ ?_
      have : ts ++ ((l.take i).map fun j => N j (bs sep)).flatten ++ N j (bs sep) = ts ++ ((l.take (i + 1)).map fun j => N j (bs sep)).flatten := by rw [hsn, List.append_assoc]
      rw [this]; exact LeL.refl _
    · have hin : l.length ≤ i := by have := of_decide_eq_false h; omega
      rw [List.take_of_length_le hin]
      refine pur ?_
      refine Wp.draw rfl [0,1,2,3,4,5,6,7,8,9,10,11,12,13,14] 15 15 _ rfl (by decide +kernel) (fun _ h => h) ?_
      refine pur ?_
      refine S.idx l.length rfl rfl rfl (lastI hfl) (by simp) ?_
      refine pur ?_
      refine S.idx z rfl rfl rfl rfl hz ?_
      refine pur ?_
      refine Wp.branch rfl (fun h => ?_) (fun h => ?_)
      · have h0 : 0 < (ndOf t z).kids.length := by have := of_decide_eq_true h; omega
        rw [if_pos h0] at hb ⊢
        refine pur ?_
        refine WpO.buildSlice rfl rfl rfl rfl rfl rfl rfl (fun _ => Keeps.none) fun bs1 => ?_
        refine WpO.call Tryz.call116 rfl rfl (mark1L_ct bw _ xx _ ⟨#[119, 104, 101, 114, 101]⟩ [119, 104, 101, 114, 101] rfl bs1 _ (by decide) (by first | omega | (simp only [List.length_append, mk_len, List.length_cons, List.length_nil] at hb ⊢; omega))) fun v L' ⟨x1, e⟩ => ⟨Keeps.none, ?_⟩
        subst e
        refine pur ?_
        refine S.idx l.length rfl rfl rfl (lastI hfl) (by simp) ?_
        refine pur ?_
        refine WpO.call Tryz.call35 rfl rfl (plainly_ct (C.hN z (by simp)) x1 _ _ C.tr.cons (by first | omega | (simp only [List.length_append, mk_len, List.length_cons, List.length_nil] at hb ⊢; omega))) fun v L' ⟨x2, e⟩ => ⟨Keeps.none, ?_⟩
        subst e
        refine pur ?_
        refine RetNL rfl LeL.drop3 ⟨x2, ?_⟩
        simp only [List.append_assoc]
      · have h0 : ¬ 0 < (ndOf t z).kids.length := by have := of_decide_eq_false h; omega
        rw [if_neg h0, List.append_nil]
        refine pur ?_
        exact RetNL rfl LeL.drop3 ⟨xx, rfl⟩
  have n15 : ¬ op = 15 := of_decide_eq_false h
  refine pur ?_
  refine Wp.branch rfl (fun h => ?_) (fun h => ?_)
  · have ho : op = 16 := of_decide_eq_true h
    obtain ⟨ja, jb, r, rfl⟩ := two_of (hL.two (by omega))
    have hn : partT t N op (bs s) (ja :: jb :: r) (bs sep) = mk [[124]] ++ N ja [61] ++ mk [bs sep] ++ N jb [61] := by unfold partT; rw [if_neg n14, if_neg n19, if_neg n15, if_pos ho]; rfl
    rw [hn] at hb ⊢
    obtain ⟨b2, o2, rfl, hE0⟩ := C.kid (k := 0) (j := ja) rfl
    have hE1 := C.kid2 (k := 1) (j := jb) rfl
    refine pur ?_
    refine WpO.buildSlice rfl rfl rfl rfl rfl rfl rfl (fun _ => Keeps.none) fun bs1 => ?_
    refine WpO.call Tryz.call116 rfl rfl (mark1L_ct bw _ x _ ⟨#[124]⟩ [124] rfl bs1 _ (by decide) (by first | omega | (simp only [List.length_append, mk_len, List.length_cons, List.length_nil] at hb ⊢; omega))) fun v L' ⟨x1, e⟩ => ⟨Keeps.none, ?_⟩
    subst e
    refine pur ?_
    refine S.idx 0 rfl rfl rfl rfl (by simp) ?_
    refine pur ?_
    refine WpO.call Tryz.call35 rfl rfl (plainly_ct (C.hN ja (by simp)) x1 _ _ C.tr.cons (by first | omega | (simp only [List.length_append, mk_len, List.length_cons, List.length_nil] at hb ⊢; omega))) fun v L' ⟨x2, e⟩ => ⟨Keeps.none, ?_⟩
    subst e
    refine pur ?_
    refine WpO.buildSlice rfl rfl rfl rfl rfl rfl rfl (fun _ => Keeps.none) fun bs3 => ?_
    refine WpO.call Tryz.call116 rfl rfl (mark1L_ct bw _ x2 _ sep (bs sep) rfl bs3 _ (by omega) (by first | omega | (simp only [List.length_append, mk_len, List.length_cons, List.length_nil] at hb ⊢; omega))) fun v L' ⟨x3, e⟩ => ⟨Keeps.none, ?_⟩
    subst e
    refine pur ?_
    refine S.idx 1 rfl rfl rfl rfl (by simp) ?_
    refine pur ?_
    refine WpO.call Tryz.call35 rfl rfl (plainly_ct (C.hN jb (by simp)) x3 _ _ C.tr.cons (by first | omega | (simp only [List.length_append, mk_len, List.length_cons, List.length_nil] at hb ⊢; omega))) fun v L' ⟨x4, e⟩ => ⟨Keeps.none, ?_⟩
    subst e
    refine pur ?_
    refine RetNL rfl LeL.drop3 ⟨x4, ?_⟩
    simp only [List.append_assoc]
  have n16 : ¬ op = 16 := of_decide_eq_false h
  refine pur ?_
  refine Wp.branch rfl (fun h => ?_) (fun h => ?_)
  · have ho : op = 17 := of_decide_eq_true h
    obtain ⟨ja, r, rfl⟩ := one_of (hL.one (by omega))
    have hn : partT t N op (bs s) (ja :: r) (bs sep) = mk [bs sep] ++ N ja [61] := by unfold partT; rw [if_neg n14, if_neg n19, if_neg n15, if_neg n16, if_pos ho]; rfl
    rw [hn] at hb ⊢
    obtain ⟨b2, o2, rfl, hE0⟩ := C.kid (k := 0) (j := ja) rfl
    refine pur ?_
    refine WpO.buildSlice rfl rfl rfl rfl rfl rfl rfl (fun _ => Keeps.none) fun bs1 => ?_
    refine WpO.call Tryz.call116 rfl rfl (mark1L_ct bw _ x _ sep (bs sep) rfl bs1 _ (by omega) (by first | omega | (simp only [List.length_append, mk_len, List.length_cons, List.length_nil] at hb ⊢; omega))) fun v L' ⟨x1, e⟩ => ⟨Keeps.none, ?_⟩
    subst e
    refine pur ?_
    refine S.idx 0 rfl rfl rfl rfl (by simp) ?_
    refine pur ?_
    refine WpO.call Tryz.call35 rfl rfl (plainly_ct (C.hN ja (by simp)) x1 _ _ C.tr.cons (by first | omega | (simp only [List.length_append, mk_len, List.length_cons, List.length_nil] at hb ⊢; omega))) fun v L' ⟨x2, e⟩ => ⟨Keeps.none, ?_⟩
    subst e
    refine pur ?_
    refine RetNL rfl LeL.drop3 ⟨x2, ?_⟩
    simp only [List.append_assoc]
  have n17 : ¬ op = 17 := of_decide_eq_false h
  refine pur ?_
  refine Wp.branch rfl (fun h => ?_) (fun h => ?_)
  · have ho : op = 18 := of_decide_eq_true h
    have hn : partT t N op (bs s) fs (bs sep) = mk [[123]] ++ betweenT N [59] fs ++ mk [[125]] := by unfold partT; rw [if_neg n14, if_neg n19, if_neg n15, if_neg n16, if_neg n17, if_pos ho]
    rw [hn] at hb ⊢
    refine pur ?_
    refine WpO.buildSlice rfl rfl rfl rfl rfl rfl rfl (fun _ => Keeps.none) fun bs1 => ?_
    refine WpO.call Tryz.call116 rfl rfl (mark1L_ct bw _ x _ ⟨#[123]⟩ [123] rfl bs1 _ (by decide) (by first | omega | (simp only [List.length_append, mk_len, List.length_cons, List.length_nil] at hb ⊢; omega))) fun v L' ⟨x1, e⟩ => ⟨Keeps.none, ?_⟩
    subst e
    refine pur ?_
    refine S.makeFuncM rfl (.cons rfl (by infer_instance) .nil) .nil ?_
    refine pur ?_
    refine WpO.call Tryz.call117 rfl rfl (betweenL_ct _ _ _ ⟨#[59]⟩ [59] rfl (by decide) C.hN x1 _ _ C.tr.cons C.sl.cons C.fl (by first | omega | (simp only [List.length_append, mk_len, List.length_cons, List.length_nil] at hb ⊢; omega))) fun v L' ⟨x2, e⟩ => ⟨Keeps.none, ?_⟩
    subst e
    refine pur ?_
    refine WpO.buildSlice rfl rfl rfl rfl rfl rfl rfl (fun _ => Keeps.none) fun bs3 => ?_
    refine WpO.call Tryz.call116 rfl rfl (mark1L_ct bw _ x2 _ ⟨#[125]⟩ [125] rfl bs3 _ (by decide) (by first | omega | (simp only [List.length_append, mk_len, List.length_cons, List.length_nil] at hb ⊢; omega))) fun v L' ⟨x3, e⟩ => ⟨Keeps.none, ?_⟩
    subst e
    refine pur ?_
    refine RetNL rfl LeL.drop3 ⟨x3, ?_⟩
    simp only [List.append_assoc]
  have n18 : ¬ op = 18 := of_decide_eq_false h
  refine pur ?_
  refine Wp.branch rfl (fun h => ?_) (fun h => ?_)
  · have ho : op = 20 := of_decide_eq_true h
    have hn : partT t N op (bs s) fs (bs sep) = betweenT N [59] fs := by unfold partT; rw [if_neg n14, if_neg n19, if_neg n15, if_neg n16, if_neg n17, if_neg n18, if_pos ho]
    rw [hn] at hb ⊢
    refine pur ?_
    refine S.makeFuncM rfl (.cons rfl (by infer_instance) .nil) .nil ?_
    refine pur ?_
    refine WpO.call Tryz.call117 rfl rfl (betweenL_ct _ _ _ ⟨#[59]⟩ [59] rfl (by decide) C.hN x _ _ C.tr.cons C.sl.cons C.fl (by first | omega | (simp only [List.length_append, mk_len, List.length_cons, List.length_nil] at hb ⊢; omega))) fun v L' ⟨x1, e⟩ => ⟨Keeps.none, ?_⟩
    subst e
    refine pur ?_
    exact RetNL rfl LeL.drop3 ⟨x1, rfl⟩
  have n20 : ¬ op = 20 := of_decide_eq_false h
  refine pur ?_
  have hn : partT t N op (bs s) fs (bs sep) = [] := by unfold partT; rw [if_neg n14, if_neg n19, if_neg n15, if_neg n16, if_neg n17, if_neg n18, if_neg n20]
  rw [hn, List.append_nil]
  exact RetNL rfl LeL.drop3 ⟨x, rfl⟩
end
end Go.Proofs.YtikgokpbhldlnaaGreatDoor
end
