/- Parts of a proof: Tn To Tp Tq Ts. -/
import Derived.Test.YtikgokpbhldlnaaGreatDoorMf
set_option linter.unusedVariables false
set_option linter.unusedSimpArgs false
set_option linter.unusedSectionVars false
section
namespace Go.Proofs.YtikgokpbhldlnaaGreatDoor
open Go Go.Ab
attribute [local irreducible] Wp WpO Qt OpT Ct Ent

def operatorF (l : List UInt8) : Bool :=
  ((decide ((tokensF l).2.2 = 0) && decide (((tokensF l).1.length : Int) = 1)) && decide (((tokensF l).1.headD tok0).kind = 8)) && decide (((tokensF l).1.headD tok0).text = l)
theorem loopT_mem {l : List UInt8} : ∀ (f a : Nat) (acc : List Tok) (t : Tok), t ∈ (loopT l f a acc).1 → t ∈ acc ∨ ∃ b, t = (tokenF l b).1
  | 0, _, acc, t, h => .inl h
  | f + 1, a, acc, t, h => by
    rw [loopT] at h
    repeat' split at h
    · exact .inl h
    · exact loopT_mem f _ _ t h
    · simp at h
    · exact loopT_mem f _ _ t h
    · simp at h
    · rcases loopT_mem f _ _ t h with h | h
      · rcases List.mem_append.1 h with h | h
        · exact .inl h
        · simp at h; exact .inr ⟨a, h⟩
      · exact .inr h
theorem nameF_ne (l : List UInt8) : nameF l ≠ 8 := by
  unfold nameF
  repeat' split
  all_goals decide
theorem tokenF_op {l : List UInt8} {a : Nat} (h : (tokenF l a).1.kind = 8) : amF (tokenF l a).1.text opsT = true := by
  unfold tokenF at h ⊢
  simp only [] at h ⊢
  repeat' split at h
  · exact absurd h (by decide)
  · exact absurd h (nameF_ne _)
  · unfold numberF at h; split at h <;> first | exact absurd h (by decide) | simp at h
  · unfold quotedF at h
    repeat' split at h
    all_goals first | exact absurd h (by decide) | simp at h
  · simp at h
  · simp at h
  · simp_all
  · exact absurd h (by decide)
  · exact absurd h (by decide)
theorem operatorF_eq (l : List UInt8) : operatorF l = decide (l ∈ opTexts) := by
  rw [Bool.eq_iff_iff, decide_eq_true_eq]
  constructor
  · intro h
    unfold operatorF at h
    simp only [Bool.and_eq_true, decide_eq_true_eq] at h
    obtain ⟨⟨⟨h1, h2⟩, h3⟩, h4⟩ := h
    have hm : ((tokensF l).1.headD tok0) ∈ (tokensF l).1 := by
      cases hl : (tokensF l).1 with
      | nil => rw [hl] at h2; simp at h2
      | cons t r => simp
    have hb : ∃ b, ((tokensF l).1.headD tok0) = (tokenF l b).1 := by
      generalize ((tokensF l).1.headD tok0) = t at *
      unfold tokensF at hm
      split at hm
      · simp at hm
      · rcases loopT_mem _ _ _ _ hm with hm | hm
        · simp at hm
        · exact hm
    obtain ⟨b, hb⟩ := hb
    rw [hb] at h3 h4
    have := tokenF_op h3
    rw [h4, am_ops, decide_eq_true_eq] at this
    exact this
  · have : (opTexts.all operatorF) = true := by decide +kernel
    rw [List.all_eq_true] at this
    exact this l
set_option maxHeartbeats 1000000 in
theorem operator_ct (s : ByteArray) (L : List Assn) (hl : (bs s).length < 1073741824) :
    Ct Tryz.prog 126 #[.string s] L (ret fun v L' => v = .bool (decide (bs s ∈ opTexts)) ∧ L' = L) := by
  refine Ct.body Tryz.func126 rfl Tryz.ntmps126 Tryz.results126 rfl ?_
  refine pur ?_
  refine WpO.call Tryz.call50 rfl rfl (tokens_ct s L hl) fun v L' ⟨ta, tc, e1, e2⟩ => ⟨Keeps.none, ?_⟩
  subst e1; subst e2
  refine WpO.know (fun k hs => own_know 0 rfl hs) fun hk => ?_
  obtain ⟨b, o, hbo⟩ : ∃ b o, (tokensF (bs s)).1.length = 1 → ta = some ⟨b, o, none⟩ ∧ Ent (ownA 48 4 ta tc ((tokensF (bs s)).1.map tokRow) :: L) (CellsAt b (o + 0 * 4) (tokRow ((tokensF (bs s)).1.headD tok0))) := by
    by_cases h1 : (tokensF (bs s)).1.length = 1
    · obtain ⟨t, ht⟩ : ∃ t, (tokensF (bs s)).1 = [t] := List.length_eq_one_iff.1 h1
      have hS := Sl.own (L := ownA 48 4 ta tc ((tokensF (bs s)).1.map tokRow) :: L) 0 rfl hk
      obtain ⟨b, o, e1, _, e3⟩ := hS.at (i := 0) (r := tokRow t) (by rw [ht]; rfl)
      exact ⟨b, o, fun _ => ⟨e1, by rw [ht] at e3 ⊢; exact e3⟩⟩
    · exact ⟨0, 0, fun h => absurd h h1⟩
  refine pur ?_
  have hg1 : ∀ {g : Bool}, (g = true → (decide ((tokensF (bs s)).2.2 = 0) && decide (((tokensF (bs s)).1.length : Int) = 1)) = true) → g = true → (tokensF (bs s)).1.length = 1 := fun h hg => by
    have := of_decide_eq_true (and_r (h hg)); omega
  refine G.idxO (b := b) (o := o) 0 rfl rfl rfl (by infer_instance) rfl (by infer_instance) (fun h => ⟨(hbo (hg1 id h)).1, rfl, by have := hg1 id h; omega⟩) ?_
  refine pur ?_
  refine G.loadIf (v := .int .i64 ((tokensF (bs s)).1.headD tok0).kind) rfl rfl rfl (by infer_instance) (by infer_instance) (fun h => Ent.sub 1 (j := 0) (hbo (hg1 id h)).2 rfl) ?_
  refine pur ?_
  refine G.idxO (b := b) (o := o) 0 rfl rfl rfl (by infer_instance) rfl (by infer_instance) (fun h => ⟨(hbo (hg1 and_l h)).1, rfl, by have := hg1 and_l h; omega⟩) ?_
  refine pur ?_
  refine G.loadIf (v := .string (ofL ((tokensF (bs s)).1.headD tok0).text)) rfl rfl rfl (by infer_instance) (by infer_instance) (fun h => Ent.sub 1 (j := 1) (hbo (hg1 and_l h)).2 rfl) ?_
  refine pur ?_
  refine Wp.ret (Ret 1 rfl ⟨?_, rfl⟩)
  rw [← operatorF_eq]; rfl

/-! ### The kinds of parts -/
def classF (op : Int) : UInt8 :=
  if 1 ≤ op ∧ op ≤ 13 then 101 else if 25 ≤ op ∧ op ≤ 32 then 112 else if op = 23 ∨ op = 24 then 116 else if op = 16 ∨ op = 17 then 103 else if op = 21 ∨ op = 19 then 100 else 63
theorem class_ct (op : Int) (L : List Assn) : Ct Tryz.prog 177 #[.int .i64 op] L (ret fun v L' => v = .int .u8 (classF op).toNat ∧ L' = L) := by
  refine Ct.body Tryz.func177 rfl Tryz.ntmps177 Tryz.results177 rfl ?_
  iterate 5
    refine pur ?_
    refine Wp.branch rfl (fun h => ?_) (fun h => ?_)
    · refine pur ?_
      refine Wp.ret (Ret 0 rfl ⟨?_, rfl⟩)
      simp only [Bool.and_eq_true, Bool.or_eq_true, decide_eq_true_eq, Bool.and_eq_false_iff, Bool.or_eq_false_iff, decide_eq_false_iff_not] at *
      unfold classF
      first
      | (rw [if_pos (by omega)]; rfl)
      | (rw [if_neg (by omega), if_pos (by omega)]; rfl)
      | (rw [if_neg (by omega), if_neg (by omega), if_pos (by omega)]; rfl)
      | (rw [if_neg (by omega), if_neg (by omega), if_neg (by omega), if_pos (by omega)]; rfl)
      | (rw [if_neg (by omega), if_neg (by omega), if_neg (by omega), if_neg (by omega), if_pos (by omega)]; rfl)
  refine pur ?_
  refine Wp.ret (Ret 0 rfl ⟨?_, rfl⟩)
  simp only [Bool.and_eq_true, Bool.or_eq_true, decide_eq_true_eq, Bool.and_eq_false_iff, Bool.or_eq_false_iff, decide_eq_false_iff_not] at *
  unfold classF
  rw [if_neg (by omega), if_neg (by omega), if_neg (by omega), if_neg (by omega), if_neg (by omega)]; rfl

def allF (c : UInt8) (l : List UInt8) (lo hi : Int) : Bool := l.all (fun x => decide (x = c)) && (decide (lo ≤ (l.length : Int)) && decide ((l.length : Int) ≤ hi))
theorem all_ct (s : ByteArray) (c : UInt8) (lo hi : Int) (L : List Assn) (hl : (bs s).length < 1073741824) :
    Ct Tryz.prog 122 #[.string s, .int .u8 c.toNat, .int .i64 lo, .int .i64 hi] L (ret fun v L' => v = .bool (allF c (bs s) lo hi) ∧ L' = L) := by
  refine Ct.body Tryz.func122 rfl Tryz.ntmps122 Tryz.results122 rfl ?_
  refine pur ?_
  refine Wp.loopI (α := Nat) 0 (fun i => [(0, .v (.string s)), (1, .v (.int .u8 c.toNat)), (2, .v (.int .i64 lo)), (3, .v (.int .i64 hi)), (9, .v (.int .i64 i))]) (fun _ => L) (fun i => (bs s).length - i) (fun i => i ≤ (bs s).length ∧ ((bs s).take i).all (fun x => decide (x = c)) = true) ⟨Nat.zero_le _, rfl⟩ ⟨rfl, rfl, rfl, rfl, rfl, trivial⟩ (LeL.refl _) ?_
  rintro i ⟨hi', hn⟩
  refine pur ?_
  refine Wp.branch rfl (fun h => ?_) (fun h => ?_)
  · have hlt := lt_len h
    refine pur ?_
    refine S.index (at0 (bs s) i) i rfl rfl rfl rfl (at0_some hlt) ?_
    refine pur ?_
    rw [u8eq]
    refine Wp.branch rfl (fun h2 => ?_) (fun h2 => ?_)
    · refine pur ?_
      refine Wp.ret (Ret 0 rfl ⟨?_, rfl⟩)
      have : (bs s).all (fun x => decide (x = c)) = false := by
        rw [List.all_eq_false]
        refine ⟨at0 (bs s) i, List.mem_of_getElem? (at0_some hlt), ?_⟩
        simpa using h2
      unfold allF; rw [this]; rfl
    · refine pur ?_
      refine Round.mk (i + 1) (by omega) ⟨by omega, ?_⟩ ⟨rfl, rfl, rfl, rfl, inc_e (by omega), trivial⟩ (LeL.refl _)
      rw [List.take_add_one, at0_some hlt, List.all_append, hn]
      simpa using h2
  · have hge : (bs s).length ≤ i := by have := of_decide_eq_false h; omega
    rw [List.take_of_length_le hge] at hn
    refine pur ?_
    refine Wp.ret (Ret 0 rfl ⟨?_, rfl⟩)
    unfold allF; rw [hn]; rfl

def onlyF (op : Int) (l : List Int) (lo hi : Int) : Bool := l.all (fun x => decide (x = op)) && (decide (lo ≤ (l.length : Int)) && decide ((l.length : Int) ≤ hi))
theorem only_ct (l : List Int) (a : Option Addr) (c : Nat) (op lo hi : Int) (L : List Assn) (hS : Sl L a c 1 (ints l)) (hl : l.length < 1073741824) :
    Ct Tryz.prog 123 #[.slice a l.length c, .int .i64 op, .int .i64 lo, .int .i64 hi] L (ret fun v L' => v = .bool (onlyF op l lo hi) ∧ L' = L) := by
  refine Ct.body Tryz.func123 rfl Tryz.ntmps123 Tryz.results123 rfl ?_
  refine pur ?_
  refine Wp.loopI (α := Nat) 0 (fun i => [(0, .v (.slice a l.length c)), (1, .v (.int .i64 op)), (2, .v (.int .i64 lo)), (3, .v (.int .i64 hi)), (9, .v (.int .i64 i))]) (fun _ => L) (fun i => l.length - i) (fun i => i ≤ l.length ∧ (l.take i).all (fun x => decide (x = op)) = true) ⟨Nat.zero_le _, rfl⟩ ⟨rfl, rfl, rfl, rfl, rfl, trivial⟩ (LeL.refl _) ?_
  rintro i ⟨hi', hn⟩
  refine pur ?_
  refine Wp.branch rfl (fun h => ?_) (fun h => ?_)
  · have hlt := lt_len h
    have hg := List.getElem?_eq_getElem hlt
    obtain ⟨b, o, rfl, hE⟩ := ints_at hS hg
    refine pur ?_
    refine S.idx i rfl rfl rfl rfl hlt ?_
    refine pur ?_
    refine Wp.branch rfl (fun h2 => ?_) (fun h2 => ?_)
    · refine pur ?_
      refine Wp.ret (Ret 0 rfl ⟨?_, rfl⟩)
      have : l.all (fun x => decide (x = op)) = false := by
        rw [List.all_eq_false]
        refine ⟨l[i], List.getElem_mem hlt, ?_⟩
        simpa using h2
      unfold onlyF; rw [this]; rfl
    · refine pur ?_
      refine Round.mk (i + 1) (by omega) ⟨by omega, ?_⟩ ⟨rfl, rfl, rfl, rfl, inc_e (by omega), trivial⟩ (LeL.refl _)
      rw [List.take_add_one, hg, List.all_append, hn]
      simpa using h2
  · have hge : l.length ≤ i := by have := of_decide_eq_false h; omega
    rw [List.take_of_length_le hge] at hn
    refine pur ?_
    refine Wp.ret (Ret 0 rfl ⟨?_, rfl⟩)
    unfold onlyF; rw [hn]; rfl

theorem commas_ct (k : Nat) (L : List Assn) (h1 : 2 ≤ k) (h2 : k ≤ 8) :
    Ct Tryz.prog 178 #[.int .i64 k] L (ret fun v L' => v = .string (ofL ([40] ++ List.replicate (k - 1) 44 ++ [41])) ∧ L' = L) := by
  refine Ct.body Tryz.func178 rfl Tryz.ntmps178 Tryz.results178 rfl ?_
  refine pur ?_
  refine S.sliceS 0 k rfl rfl Bd.no (Bd.at _ rfl (by infer_instance) (fun _ => rfl)) ⟨Nat.zero_le _, h2⟩ ?_
  rw [extract_ofL]
  refine S.sadd rfl rfl rfl (by rw [bs_ofL, List.length_drop, List.length_take]; show _ + 1 < _; omega) ?_
  refine pur ?_
  refine Wp.ret (Ret 0 rfl ⟨?_, rfl⟩)
  have h3 : ∀ k : Fin 9, 2 ≤ k.val → ofL (((bs (⟨#[40, 44, 44, 44, 44, 44, 44, 44]⟩ : ByteArray)).take k.val).drop 0) ++ (⟨#[41]⟩ : ByteArray) = ofL ([40] ++ List.replicate (k.val - 1) 44 ++ [41]) := by decide +kernel
  rw [h3 ⟨k, by omega⟩ h1]
theorem typeName_ct (s : ByteArray) (k : Nat) (L : List Assn) (hl : (bs s).length < 1073741824) (hk : k ≤ 8) :
    Ct Tryz.prog 124 #[.string s, .int .i64 k] L (ret fun v L' => v = .bool (tyNames (nameF (bs s)) (bs s) k) ∧ L' = L) := by
  refine Ct.body Tryz.func124 rfl Tryz.ntmps124 Tryz.results124 rfl ?_
  have n1 : nameF [45, 62] = 0 := by decide
  have n2 : nameF [91, 93] = 0 := by decide
  have n3 : nameF [40, 41] = 0 := by decide
  have hr : ∀ (x y : UInt8) (n : Nat), [x, y] = [40] ++ List.replicate n 44 ++ [(41 : UInt8)] → n = 0 := fun x y n h => by
    have := congrArg List.length h; simp at this; omega
  refine pur ?_
  refine Wp.branch rfl (fun h => ?_) (fun h => ?_)
  · have h' : bs s = [45, 62] := of_decide_eq_true h
    refine pur ?_
    refine Wp.ret (Ret 0 rfl ⟨?_, rfl⟩)
    rw [h']; unfold tyNames; rw [n1]
    have : ¬ ((2 : Int) ≤ k ∧ [45, 62] = [40] ++ List.replicate ((k : Int) - 1).toNat 44 ++ [(41 : UInt8)]) := fun ⟨q1, q2⟩ => by
      have := hr _ _ _ q2; omega
    rw [← Bool.decide_and (p := (2 : Int) ≤ k), decide_eq_false this]; simp
  refine pur ?_
  refine Wp.branch rfl (fun h2 => ?_) (fun h2 => ?_)
  · have h' : bs s = [91, 93] := of_decide_eq_true h2
    refine pur ?_
    refine Wp.ret (Ret 0 rfl ⟨?_, rfl⟩)
    rw [h']; unfold tyNames; rw [n2]
    have : ¬ ((2 : Int) ≤ k ∧ [91, 93] = [40] ++ List.replicate ((k : Int) - 1).toNat 44 ++ [(41 : UInt8)]) := fun ⟨q1, q2⟩ => by
      have := hr _ _ _ q2; omega
    rw [← Bool.decide_and (p := (2 : Int) ≤ k), decide_eq_false this]; simp
  refine pur ?_
  refine Wp.branch rfl (fun h3 => ?_) (fun h3 => ?_)
  · have h' : bs s = [40, 41] := of_decide_eq_true h3
    refine pur ?_
    refine Wp.ret (Ret 0 rfl ⟨?_, rfl⟩)
    rw [h']; unfold tyNames; rw [n3]
    have : ¬ ((2 : Int) ≤ k ∧ [40, 41] = [40] ++ List.replicate ((k : Int) - 1).toNat 44 ++ [(41 : UInt8)]) := fun ⟨q1, q2⟩ => by
      have := hr _ _ _ q2; omega
    rw [← Bool.decide_and (p := (2 : Int) ≤ k), decide_eq_false this]; simp
  have h' : ¬ bs s = [45, 62] := of_decide_eq_false h
  have h2' : ¬ bs s = [91, 93] := of_decide_eq_false h2
  have h3' : ¬ bs s = [40, 41] := of_decide_eq_false h3
  refine pur ?_
  refine WpO.callq Tryz.call125 rfl rfl (rname_ct s _ hl) Keeps.none ?_
  refine pur ?_
  refine Wp.branch rfl (fun h4 => ?_) (fun h4 => ?_)
  · have h4' : nameF (bs s) = 2 := of_decide_eq_true h4
    refine pur ?_
    refine Wp.ret (Ret 0 rfl ⟨?_, rfl⟩)
    unfold tyNames; rw [h4']; simp
  have h4' : ¬ nameF (bs s) = 2 := of_decide_eq_false h4
  refine pur ?_
  refine WpO.callqg (v := .string (ofL ([40] ++ List.replicate (k - 1) 44 ++ [41]))) Tryz.call178 rfl rfl (.cons rfl (by infer_instance) .nil) (fun hg => commas_ct k L (by have := of_decide_eq_true hg; omega) hk) Keeps.none ?_
  refine pur ?_
  refine Wp.ret (Ret 0 rfl ⟨?_, rfl⟩)
  unfold tyNames
  rw [decide_eq_false h4', decide_eq_false h', decide_eq_false h2', decide_eq_false h3', bs_ofL, show ((k : Int) - 1).toNat = k - 1 from by omega]; simp
end Go.Proofs.YtikgokpbhldlnaaGreatDoor
end

section
namespace Go.Proofs.YtikgokpbhldlnaaGreatDoor
open Go Go.Ab
attribute [local irreducible] Wp WpO Qt OpT Ct Ent

set_option maxHeartbeats 2000000 in
theorem kinds_ct (t : List Nd) (a : Option Addr) (c : Nat) (op num : Int) (txt : ByteArray) (ka : Option Addr) (kc : Nat) (fs : List Nat) (L : List Assn) (hT : TreeR L a c t) (hK : Sl L ka kc 1 (ints (natI fs))) (hlt : ∀ j ∈ fs, j < t.length) (hfl : fs.length ≤ 1048576) :
    Ct Tryz.prog 121 #[.agg #[.slice a t.length c], .agg #[.int .i64 op, .string txt, .int .i64 num, .slice ka fs.length kc]] L
      (ret fun v L' => ∃ oa oc, v = .tuple #[.slice oa fs.length oc, .string (ofL ((fs.map (opAt t)).map classF))] ∧ L' = ownA 3 1 oa oc (ints (fs.map (opAt t))) :: L) := by
  refine Ct.body Tryz.func121 rfl Tryz.ntmps121 Tryz.results121 rfl ?_
  refine pur ?_
  refine WpO.box (vs := [.slice a t.length c]) rfl rfl rfl (fun _ => Keeps.none) fun b2 => ?_
  refine WpO.box (vs := [.int .i64 op, .string txt, .int .i64 num, .slice ka fs.length kc]) rfl rfl rfl (fun _ => Keeps.none) fun b3 => ?_
  refine pur ?_
  refine Wp.parts (L' := ownA 5 1 none 0 (u8s ((([] : List Nat).map (opAt t)).map classF)) :: ownA 3 1 none 0 (ints (([] : List Nat).map (opAt t))) :: ptA b3 36 [.int .i64 op, .string txt, .int .i64 num, .slice ka fs.length kc] :: ptA b2 24 [.slice a t.length c] :: L) (fun k hk => Sat.ownNil (Sat.ownNil hk)) ?_
  refine Wp.loopI (α := Nat × Option Addr × Nat × Option Addr × Nat) (0, none, 0, none, 0)
    (fun y => [(2, .v (.pointer (some ⟨b2, 0, none⟩))), (3, .v (.pointer (some ⟨b3, 0, none⟩))), (6, .v (.slice y.2.2.2.1 y.1 y.2.2.2.2)), (7, .v (.slice y.2.1 y.1 y.2.2.1)), (8, .v (.int .i64 y.1))])
    (fun y => ownA 5 1 y.2.1 y.2.2.1 (u8s (((fs.take y.1).map (opAt t)).map classF)) :: ownA 3 1 y.2.2.2.1 y.2.2.2.2 (ints ((fs.take y.1).map (opAt t))) :: ptA b3 36 [.int .i64 op, .string txt, .int .i64 num, .slice ka fs.length kc] :: ptA b2 24 [.slice a t.length c] :: L)
    (fun y => fs.length - y.1) (fun y => y.1 ≤ fs.length) (Nat.zero_le _) ⟨rfl, rfl, rfl, rfl, rfl, trivial⟩ (LeL.refl _) ?_
  rintro ⟨j, ba, bc, oa, oc⟩ hj
  simp only [] at hj
  show Wp _ _ _ _ [_, _, (6, .v (.slice oa j oc)), (7, .v (.slice ba j bc)), (8, .v (.int .i64 j))] _ (ownA _ _ ba bc (u8s (((fs.take j).map (opAt t)).map classF)) :: ownA _ _ oa oc (ints ((fs.take j).map (opAt t))) :: _)
  refine pur ?_
  refine Wp.branch rfl (fun h => ?_) (fun h => ?_)
  · have hjf := lt_len h
    have hfj := List.getElem?_eq_getElem hjf
    have hkj : (natI fs)[j]? = some ((fs[j] : Nat) : Int) := by simp [natI, hjf]
    have hl2 := hlt _ (List.getElem_mem hjf)
    generalize fs[j] = kj at hfj hkj hl2
    obtain ⟨b5, o5, e5, hE5⟩ := ints_at hK hkj
    subst e5
    obtain ⟨b6, o6, ka6, kc6, e6, hE6, _⟩ := hT.at (List.getElem?_eq_getElem hl2)
    subst e6
    have hop : (t[kj]).op = opAt t kj := by unfold opAt; rw [List.getElem?_eq_getElem hl2]; rfl
    rw [hop] at hE6
    have hl1 : (ints ((fs.take j).map (opAt t))).length = j := by simp [ints]; omega
    have hl0 : (u8s (((fs.take j).map (opAt t)).map classF)).length = j := by simp [u8s]; omega
    refine pur ?_
    refine Wp.draw rfl [0,1,2,3,4,5,6,7,8,9,10,11,12,13] 14 14 (ptA b3 36 [.int .i64 op, .string txt, .int .i64 num, .slice (some ⟨b5, o5, none⟩) fs.length kc] :: ptA b2 24 [.slice (some ⟨b6, o6, none⟩) t.length c] :: L) rfl (by decide +kernel) (fun _ s => s.tail.tail) ?_
    refine pur ?_
    refine S.idx j rfl rfl rfl rfl hjf ?_
    refine pur ?_
    refine S.idx kj rfl rfl rfl rfl hl2 ?_
    refine pur ?_
    refine WpO.buildSlice rfl rfl rfl rfl rfl rfl rfl (fun _ => Keeps.by fun _ s => s.tail.tail.tail) fun bs1 => ?_
    refine WpO.appendLit 1 [[.int .i64 (opAt t kj)]] rfl rfl rfl rfl hl1.symm rfl rfl rfl rfl rfl rfl rfl (by rw [hl1]; simp; omega) (fun _ _ => Keeps.by fun _ s => s.tail.tail) fun a2 k2 => ?_
    have hi2 : ints ((fs.take j).map (opAt t)) ++ [[.int .i64 (opAt t kj)]] = ints ((fs.take (j + 1)).map (opAt t)) := by rw [List.take_add_one, hfj]; simp [ints]
    have hn2 : (ints ((fs.take (j + 1)).map (opAt t))).length = j + 1 := by simp [ints]; omega
    rw [hi2, hn2]
    refine pur ?_
    refine Wp.draw rfl [0,1,2,3,4,5,6,7,8,9,10,11,12,13,14] 15 15 (ptA b3 36 [.int .i64 op, .string txt, .int .i64 num, .slice (some ⟨b5, o5, none⟩) fs.length kc] :: ptA b2 24 [.slice (some ⟨b6, o6, none⟩) t.length c] :: L) rfl (by decide +kernel) (fun _ s => s.tail.tail) ?_
    refine pur ?_
    refine S.idx j rfl rfl rfl rfl hjf ?_
    refine pur ?_
    refine S.idx kj rfl rfl rfl rfl hl2 ?_
    refine pur ?_
    refine WpO.callq Tryz.call177 rfl rfl (class_ct _ _) (Keeps.by fun _ s => s.tail.tail) ?_
    refine WpO.buildSlice rfl rfl rfl rfl rfl rfl rfl (fun _ => Keeps.by fun _ s => s.tail.tail.tail) fun bs2 => ?_
    refine WpO.appendLit 0 [[.int .u8 ((classF (opAt t kj)).toNat : Int)]] rfl rfl rfl rfl hl0.symm rfl rfl rfl rfl rfl rfl rfl (by rw [hl0]; simp; omega) (fun _ _ => Keeps.by fun _ s => s.tail.tail) fun a3 k3 => ?_
    have hi3 : u8s (((fs.take j).map (opAt t)).map classF) ++ [[.int .u8 ((classF (opAt t kj)).toNat : Int)]] = u8s (((fs.take (j + 1)).map (opAt t)).map classF) := by rw [List.take_add_one, hfj]; simp [u8s]
    have hn3 : (u8s (((fs.take (j + 1)).map (opAt t)).map classF)).length = j + 1 := by simp [u8s]; omega
    rw [hi3, hn3]
    refine pur ?_
    exact Round.mk (j + 1, a3, k3, a2, k2) (by simp only []; omega) hjf ⟨rfl, rfl, rfl, rfl, inc_e (by omega), trivial⟩ (LeL.refl _)
  · have hjf : j = fs.length := by have := of_decide_eq_false h; omega
    subst hjf
    rw [List.take_of_length_le (Nat.le_refl _)]
    refine pur ?_
    refine Wp.know (fun k hs => own_know 0 rfl hs) fun hk => ?_
    refine Wp.draw rfl [0,1,2,3,4] 5 5 _ rfl (by decide +kernel) (fun _ h => h) ?_
    refine pur ?_
    refine S.bytesStr ((fs.map (opAt t)).map classF) rfl rfl (Sl.own 0 rfl hk) (by simp) ?_
    refine pur ?_
    exact Wp.ret (RetL rfl (fun _ s => Sat.cons_mono (fun _ s => s.tail.tail) s.tail) ⟨oa, oc, rfl, rfl⟩)

def fieldsF (op num : Int) (l : List UInt8) : Bool :=
  if op = 3 ∨ op = 27 then decide (l = []) && decide (0 ≤ num) else
  if op = 4 ∨ op = 28 then (decide (l = []) && decide (0 ≤ num)) && decide (num ≤ 255) else
  if ¬ num = 0 then false else
  if op = 1 ∨ op = 19 ∨ op = 23 ∨ op = 25 then decide (nameF l = 1) else
  if op = 2 then decide (nameF l = 2) || decide (l = [40, 41]) else
  if op = 21 ∨ op = 22 then decide (nameF l = 2) else
  if op = 5 ∨ op = 24 ∨ op = 30 then true else
  if op = 29 then decide ((l.length : Int) ≤ 64) else
  if op = 13 then decide (l ∈ opTexts) else decide (l = [])
set_option maxHeartbeats 2000000 in
theorem fields_ct (op num : Int) (txt : ByteArray) (kv : Value) (L : List Assn) (hl : (bs txt).length < 1073741824) :
    Ct Tryz.prog 59 #[.agg #[.int .i64 op, .string txt, .int .i64 num, kv]] L (ret fun v L' => v = .bool (fieldsF op num (bs txt)) ∧ L' = L) := by
  refine Ct.body Tryz.func59 rfl Tryz.ntmps59 Tryz.results59 rfl ?_
  refine pur ?_
  refine WpO.box (vs := [.int .i64 op, .string txt, .int .i64 num, kv]) rfl rfl rfl (fun _ => Keeps.none) fun b => ?_
  iterate 2
    refine pur ?_
    refine Wp.branch rfl (fun h => ?_) (fun h => ?_)
    · refine pur ?_
      refine Wp.ret (Ret 1 rfl ⟨?_, rfl⟩)
      simp only [decide_eq_true_eq, decide_eq_false_iff_not] at *
      unfold fieldsF; rw [if_pos (by omega)]
  iterate 2
    refine pur ?_
    refine Wp.branch rfl (fun h => ?_) (fun h => ?_)
    · refine pur ?_
      refine Wp.ret (Ret 1 rfl ⟨?_, rfl⟩)
      simp only [decide_eq_true_eq, decide_eq_false_iff_not] at *
      unfold fieldsF; rw [if_neg (by omega), if_pos (by omega)]
  refine pur ?_
  refine Wp.branch rfl (fun h0 => ?_) (fun h0 => ?_)
  · refine pur ?_
    refine Wp.ret (Ret 1 rfl ⟨?_, rfl⟩)
    rw [Bool.not_eq_true', decide_eq_false_iff_not] at h0
    simp only [decide_eq_true_eq, decide_eq_false_iff_not] at *
    unfold fieldsF; rw [if_neg (by omega), if_neg (by omega), if_pos h0]
  rw [Bool.not_eq_false', decide_eq_true_eq] at h0
  iterate 4
    refine pur ?_
    refine Wp.branch rfl (fun h => ?_) (fun h => ?_)
    · refine pur ?_
      refine WpO.callq Tryz.call125 rfl rfl (rname_ct txt _ hl) Keeps.none ?_
      refine pur ?_
      refine Wp.ret (Ret 1 rfl ⟨?_, rfl⟩)
      simp only [decide_eq_true_eq, decide_eq_false_iff_not] at *
      unfold fieldsF; rw [if_neg (by omega), if_neg (by omega), if_neg (by omega), if_pos (by omega)]
  refine pur ?_
  refine Wp.branch rfl (fun h => ?_) (fun h => ?_)
  · refine pur ?_
    refine WpO.callq Tryz.call125 rfl rfl (rname_ct txt _ hl) Keeps.none ?_
    refine pur ?_
    refine Wp.ret (Ret 1 rfl ⟨?_, rfl⟩)
    simp only [decide_eq_true_eq, decide_eq_false_iff_not] at *
    unfold fieldsF; rw [if_neg (by omega), if_neg (by omega), if_neg (by omega), if_neg (by omega), if_pos (by omega)]
  iterate 2
    refine pur ?_
    refine Wp.branch rfl (fun h => ?_) (fun h => ?_)
    · refine pur ?_
      refine WpO.callq Tryz.call125 rfl rfl (rname_ct txt _ hl) Keeps.none ?_
      refine pur ?_
      refine Wp.ret (Ret 1 rfl ⟨?_, rfl⟩)
      simp only [decide_eq_true_eq, decide_eq_false_iff_not] at *
      unfold fieldsF; rw [if_neg (by omega), if_neg (by omega), if_neg (by omega), if_neg (by omega), if_neg (by omega), if_pos (by omega)]
  iterate 3
    refine pur ?_
    refine Wp.branch rfl (fun h => ?_) (fun h => ?_)
    · refine pur ?_
      refine Wp.ret (Ret 1 rfl ⟨?_, rfl⟩)
      simp only [decide_eq_true_eq, decide_eq_false_iff_not] at *
      unfold fieldsF; rw [if_neg (by omega), if_neg (by omega), if_neg (by omega), if_neg (by omega), if_neg (by omega), if_neg (by omega), if_pos (by omega)]
  refine pur ?_
  refine Wp.branch rfl (fun h => ?_) (fun h => ?_)
  · refine pur ?_
    refine Wp.ret (Ret 1 rfl ⟨?_, rfl⟩)
    simp only [decide_eq_true_eq, decide_eq_false_iff_not] at *
    unfold fieldsF; rw [if_neg (by omega), if_neg (by omega), if_neg (by omega), if_neg (by omega), if_neg (by omega), if_neg (by omega), if_neg (by omega), if_pos (by omega)]
  refine pur ?_
  refine Wp.branch rfl (fun h => ?_) (fun h => ?_)
  · refine pur ?_
    refine WpO.callq Tryz.call126 rfl rfl (operator_ct txt _ hl) Keeps.none ?_
    refine pur ?_
    refine Wp.ret (Ret 1 rfl ⟨?_, rfl⟩)
    simp only [decide_eq_true_eq, decide_eq_false_iff_not] at *
    unfold fieldsF; rw [if_neg (by omega), if_neg (by omega), if_neg (by omega), if_neg (by omega), if_neg (by omega), if_neg (by omega), if_neg (by omega), if_neg (by omega), if_pos (by omega)]
  refine pur ?_
  refine Wp.ret (Ret 1 rfl ⟨?_, rfl⟩)
  simp only [decide_eq_true_eq, decide_eq_false_iff_not] at *
  unfold fieldsF; rw [if_neg (by omega), if_neg (by omega), if_neg (by omega), if_neg (by omega), if_neg (by omega), if_neg (by omega), if_neg (by omega), if_neg (by omega), if_neg (by omega)]
end Go.Proofs.YtikgokpbhldlnaaGreatDoor
end

section
namespace Go.Proofs.YtikgokpbhldlnaaGreatDoor
open Go Go.Ab
attribute [local irreducible] Wp WpO Qt OpT Ct Ent

set_option maxHeartbeats 2000000 in
theorem deep_ct (t : List Nd) (a : Option Addr) (c : Nat) (L : List Assn) (hT : TreeR L a c t) (kss : List (List Nat)) (hk : t.map Nd.kids = kss.map natI) (hlt : ∀ (i : Nat) (ks : List Nat), kss[i]? = some ks → ∀ j ∈ ks, j < i) (hn : t.length ≤ 1073741824) (hkb : ∀ nd ∈ t, nd.kids.length ≤ 1073741824) :
    Ct Tryz.prog 49 #[.slice a t.length c] L (ret fun v L' => v = .int .i64 (depthOf kss) ∧ L' = L) := by
  have hkl : kss.length = t.length := by have := congrArg List.length hk; simpa using this.symm
  refine Ct.body Tryz.func49 rfl Tryz.ntmps49 Tryz.results49 rfl ?_
  refine pur ?_
  refine WpO.make t.length t.length rfl rfl rfl rfl rfl (Nat.le_refl _) (by omega) rfl rfl rfl rfl (fun _ => Keeps.none) fun bd => ?_
  refine pur ?_
  refine Wp.loopI (α := Nat) 0
    (fun i => [(0, .v (.slice a t.length c)), (3, .v (.slice (some ⟨bd, 0, none⟩) t.length t.length)), (4, .v (.int .i64 ((deeps (kss.take i)).foldl max 0 : Nat))), (5, .v (.int .i64 i))])
    (fun i => ownA 3 1 (some ⟨bd, 0, none⟩) t.length (natRows (deeps (kss.take i) ++ List.replicate (t.length - i) 0)) :: L)
    (fun i => t.length - i) (fun i => i ≤ t.length) (Nat.zero_le _) ⟨rfl, rfl, rfl, rfl, trivial⟩ ?_ ?_
  · simp only [natRows, List.take_zero, deeps, List.foldl_nil, List.nil_append, Nat.sub_zero, List.map_replicate]; exact LeL.refl _
  intro i hi
  refine pur ?_
  refine Wp.branch rfl (fun h => ?_) (fun h => ?_)
  · have hit : i < t.length := lt_len h
    obtain ⟨nd, hnd⟩ : ∃ nd, t[i]? = some nd := ⟨_, List.getElem?_eq_getElem hit⟩
    obtain ⟨ks, hks⟩ : ∃ ks, kss[i]? = some ks := ⟨_, List.getElem?_eq_getElem (by omega)⟩
    have hkbi := hkb nd (List.mem_of_getElem? hnd)
    have hkids : nd.kids = natI ks := by
      have := congrArg (fun l => l[i]?) hk; simp [hnd, hks] at this; exact this
    have hdl : (deeps (kss.take i)).length = i := by rw [deeps_length, List.length_take]; omega
    obtain ⟨b, o, ka, kc, rfl, hE, hKs⟩ := hT.at hnd
    have hEk : Ent L (CellsAt b (o + i * 4 + 3) [.slice ka nd.kids.length kc]) := Ent.sub 1 (j := 3) hE rfl
    have hrow : natRows (deeps (kss.take i) ++ List.replicate (t.length - i) 0) = deepRow t.length (deeps (kss.take i)) 0 := by
      unfold deepRow; rw [hdl, show t.length - i = (t.length - i - 1) + 1 from by omega, List.replicate_succ]; simp
    rw [hrow]
    generalize hdd : deeps (kss.take i) = dl at *
    subst hdl
    refine pur ?_
    refine Wp.loopI (α := Nat) 0
      (fun j => [(0, .v (.slice (some ⟨b, o, none⟩) t.length c)), (3, .v (.slice (some ⟨bd, 0, none⟩) t.length t.length)), (4, .v (.int .i64 (dl.foldl max 0 : Nat))), (5, .v (.int .i64 dl.length)), (6, .v (.int .i64 j))])
      (fun j => ownA 3 1 (some ⟨bd, 0, none⟩) t.length (deepRow t.length dl (kidMax dl (ks.take j))) :: L)
      (fun j => nd.kids.length - j) (fun j => j ≤ nd.kids.length) (Nat.zero_le _) ⟨rfl, rfl, rfl, rfl, rfl, trivial⟩ (LeL.refl _) ?_
    intro j hj
    refine pur ?_
    refine S.idx dl.length rfl rfl rfl rfl hit ?_
    refine pur ?_
    refine Wp.branch rfl (fun h2 => ?_) (fun h2 => ?_)
    · have hjk : j < nd.kids.length := lt_len h2
      have hjk' : j < ks.length := by rw [hkids] at hjk; simpa [natI] using hjk
      obtain ⟨kj, hkj⟩ : ∃ kj, ks[j]? = some kj := ⟨_, List.getElem?_eq_getElem hjk'⟩
      have hkj' : nd.kids[j]? = some (kj : Int) := by rw [hkids]; simp [natI, hkj]
      obtain ⟨b2, o2, rfl, hE2⟩ := ints_at hKs hkj'
      have hkl2 : kj < dl.length := hlt _ _ hks _ (List.mem_of_getElem? hkj)
      have hR := Ent.own (L := ownA 3 1 (some ⟨bd, 0, none⟩) t.length (deepRow t.length dl (kidMax dl (ks.take j))) :: L) 0 rfl
      have hR1 := hR.imp fun k hr => (hr _ _ deepRow_get_eq).2
      have hR2 := hR.imp fun k hr => (hr _ _ (deepRow_get_lt hkl2)).2
      refine pur ?_
      refine Wp.draw rfl [0,1,2,3,4,5,6,7,8,9,10,11,12,13,14,15] 16 16 _ rfl (by decide +kernel) (fun _ h => h) ?_
      refine pur ?_
      refine S.idx dl.length rfl rfl rfl rfl hit ?_
      refine pur ?_
      refine S.idx j rfl rfl rfl rfl hjk ?_
      refine pur ?_
      refine S.idx kj rfl rfl rfl rfl (by omega) ?_
      refine pur ?_
      refine S.idx dl.length rfl rfl rfl rfl hit ?_
      refine pur ?_
      have htk : kidMax dl (ks.take (j + 1)) = max (kidMax dl (ks.take j)) (dl.getD kj 0) := by rw [List.take_add_one, hkj, Option.toList_some, kidMax_snoc]
      refine Wp.branch rfl (fun h3 => ?_) (fun h3 => ?_)
      · have h3' := lt_len h3
        refine pur ?_
        refine S.idx dl.length rfl rfl rfl rfl hit ?_
        refine pur ?_
        refine S.idx j rfl rfl rfl rfl hjk ?_
        refine pur ?_
        refine S.idx kj rfl rfl rfl rfl (by omega) ?_
        refine pur ?_
        refine S.idx dl.length rfl rfl rfl rfl hit ?_
        refine WpO.storeRow1 0 dl.length rfl rfl rfl (by rw [deepRow_length hit]; exact hit) rfl rfl Keeps.none (natRows_one _) ?_
        rw [deepRow_set]
        refine pur ?_
        refine Round.mk (j + 1) (by omega) (by omega) ⟨rfl, rfl, rfl, rfl, inc_e (by omega), trivial⟩ ?_
        rw [htk, Nat.max_eq_right (by omega)]; exact LeL.refl _
      · have h3' : ¬ kidMax dl (ks.take j) < dl.getD kj 0 := by have := of_decide_eq_false h3; omega
        refine pur ?_
        refine Round.mk (j + 1) (by omega) (by omega) ⟨rfl, rfl, rfl, rfl, inc_e (by omega), trivial⟩ ?_
        rw [htk, Nat.max_eq_left (by omega)]; exact LeL.refl _
    · have hjn : j = nd.kids.length := by have := of_decide_eq_false h2; omega
      refine pur ?_
      have htk : ks.take j = ks := List.take_of_length_le (by rw [hjn, hkids]; simp [natI])
      rw [htk]
      have hR := Ent.own (L := ownA 3 1 (some ⟨bd, 0, none⟩) t.length (deepRow t.length dl (kidMax dl ks)) :: L) 0 rfl
      have hR1 := hR.imp fun k hr => (hr _ _ deepRow_get_eq).2
      refine S.idx dl.length rfl rfl rfl rfl hit ?_
      refine pur ?_
      refine S.idx dl.length rfl rfl rfl rfl hit ?_
      refine WpO.storeRow1 0 dl.length rfl rfl rfl (by rw [deepRow_length hit]; exact hit) rfl rfl Keeps.none (natRows_one _) ?_
      have hkm : kidMax dl ks ≤ 1073741824 := kidMax_le (fun x hx => by
        rw [← hdd] at hx; have := deeps_le _ x hx; rw [List.length_take] at this; omega) ks
      rw [wrap_id (by omega) (by omega), show ((kidMax dl ks : Nat) : Int) + 1 = ((kidMax dl ks + 1 : Nat) : Int) from by omega, deepRow_set]
      clear hR hR1
      have hR := Ent.own (L := ownA 3 1 (some ⟨bd, 0, none⟩) t.length (deepRow t.length dl (kidMax dl ks + 1)) :: L) 0 rfl
      have hR1 := hR.imp fun k hr => (hr _ _ deepRow_get_eq).2
      have hsn : kss.take (dl.length + 1) = kss.take dl.length ++ [ks] := by rw [List.take_add_one, hks]; rfl
      have hml : ownA 3 1 (some ⟨bd, 0, none⟩) t.length (deepRow t.length dl (kidMax dl ks + 1)) = ownA 3 1 (some ⟨bd, 0, none⟩) t.length (natRows (deeps (kss.take (dl.length + 1)) ++ List.replicate (t.length - (dl.length + 1)) 0)) := by
        rw [hsn, deeps_snoc, hdd]
        unfold deepRow
        rw [List.append_assoc, List.singleton_append, show t.length - (dl.length + 1) = t.length - dl.length - 1 from by omega]
      have hmx : (deeps (kss.take (dl.length + 1))).foldl max 0 = max (dl.foldl max 0) (kidMax dl ks + 1) := by
        rw [hsn, deeps_snoc, hdd, List.foldl_append, List.foldl_cons, List.foldl_nil]
      refine pur ?_
      refine S.idx dl.length rfl rfl rfl rfl hit ?_
      refine pur ?_
      refine Wp.branch rfl (fun h3 => ?_) (fun h3 => ?_)
      · have h3' := lt_len h3
        refine pur ?_
        refine S.idx dl.length rfl rfl rfl rfl hit ?_
        refine pur ?_
        refine Round.mk (dl.length + 1) (by omega) (by omega) ⟨rfl, rfl, ?_, inc_e (by omega), trivial⟩ ?_
        · rw [hmx, Nat.max_eq_right (by omega)]; rfl
        · rw [hml]; exact LeL.refl _
      · have h3' : ¬ dl.foldl max 0 < kidMax dl ks + 1 := by have := of_decide_eq_false h3; omega
        refine pur ?_
        refine Round.mk (dl.length + 1) (by omega) (by omega) ⟨rfl, rfl, ?_, inc_e (by omega), trivial⟩ ?_
        · rw [hmx, Nat.max_eq_left (by omega)]; rfl
        · rw [hml]; exact LeL.refl _
  · have hin : i = t.length := by have := of_decide_eq_false h; omega
    refine pur ?_
    refine Wp.ret (Ret 1 rfl ⟨?_, rfl⟩)
    rw [List.take_of_length_le (by omega)]; rfl
end Go.Proofs.YtikgokpbhldlnaaGreatDoor
end

section
namespace Go.Proofs.YtikgokpbhldlnaaGreatDoor
open Go Go.Ab
attribute [local irreducible] Wp WpO Qt OpT Ct Ent

def cls (ops : List Int) : List UInt8 := ops.map classF
theorem km1 {k : Nat} (h : 1 ≤ k) (h2 : k < 1073741824 := by omega) : IntKind.i64.wrap ((k : Int) - 1) = ((k - 1 : Nat) : Int) := by rw [wrap_id (by omega) (by omega)]; omega
/-- Has the node the parts that the grammar can give it? -/
def partsF (op : Int) (ops : List Int) (l : List UInt8) : Bool :=
  if op = 1 ∨ op = 2 ∨ op = 3 ∨ op = 4 ∨ op = 5 ∨ op = 23 ∨ op = 25 ∨ op = 26 ∨ op = 27 ∨ op = 28 ∨ op = 29 then decide ((ops.length : Int) = 0) else
  if op = 6 then allF 101 (cls ops) 2 9 else
  if op = 7 then (decide ((2 : Int) ≤ (ops.length : Int)) && allF 112 ((cls ops).take (ops.length - 1)) 1 8) && decide (((at0 (cls ops) (ops.length - 1)).toNat : Int) = 101) else
  if op = 8 then (decide ((ops.length : Int) = 2) && decide (ops.getD 0 0 = 18)) && decide (((at0 (cls ops) 1).toNat : Int) = 101) else
  if op = 9 then allF 101 (cls ops) 3 3 else
  if op = 10 then (decide ((2 : Int) ≤ (ops.length : Int)) && decide (((at0 (cls ops) 0).toNat : Int) = 101)) && onlyF 14 (ops.drop 1) 1 6000 else
  if op = 11 then allF 101 (cls ops) 2 8 else
  if op = 12 then allF 101 (cls ops) 0 6000 else
  if op = 13 ∨ op = 16 then allF 101 (cls ops) 2 2 else
  if op = 17 then allF 101 (cls ops) 1 1 else
  if op = 14 then (decide ((ops.length : Int) = 2) && decide (((at0 (cls ops) 0).toNat : Int) = 112)) && decide (ops.getD 1 0 = 15) else
  if op = 15 then (decide ((2 : Int) ≤ (ops.length : Int)) && decide (ops.getD (ops.length - 1) 0 = 18)) && (onlyF 17 (ops.take (ops.length - 1)) 1 1 || onlyF 16 (ops.take (ops.length - 1)) 1 6000) else
  if op = 18 then onlyF 19 ops 0 6000 else
  if op = 19 then (decide ((1 : Int) ≤ (ops.length : Int)) && allF 112 ((cls ops).take (ops.length - 1)) 0 8) && decide (ops.getD (ops.length - 1) 0 = 15) else
  if op = 20 then allF 100 (cls ops) 0 6000 else
  if op = 21 then decide (((ops.takeWhile (fun x => decide (x = 23))).length : Int) ≤ 8) && onlyF 22 (ops.drop (ops.takeWhile (fun x => decide (x = 23))).length) 1 6000 else
  if op = 22 then allF 116 (cls ops) 0 8 else
  if op = 24 then allF 116 (cls ops) 0 8 && tyNames (nameF l) l ops.length else
  if op = 30 then allF 112 (cls ops) 0 8 && ((decide (nameF l = 2) || (decide (l = [40, 41]) && decide ((ops.length : Int) = 0))) || (decide (l = [58]) && decide ((ops.length : Int) = 2))) else
  if op = 31 then allF 112 (cls ops) 2 8 else
  if op = 32 then allF 112 (cls ops) 0 6000 else
  false
set_option maxHeartbeats 8000000 in
theorem parts_ct (t : List Nd) (a : Option Addr) (c : Nat) (op num : Int) (txt : ByteArray) (ka : Option Addr) (kc : Nat) (fs : List Nat) (L : List Assn) (hT : TreeR L a c t) (hK : Sl L ka kc 1 (ints (natI fs))) (hlt : ∀ j ∈ fs, j < t.length) (hfl : fs.length ≤ 1048576) (hl : (bs txt).length < 1073741824) :
    Ct Tryz.prog 58 #[.agg #[.slice a t.length c], .agg #[.int .i64 op, .string txt, .int .i64 num, .slice ka fs.length kc]] L (ret fun v L' => v = .bool (partsF op (fs.map (opAt t)) (bs txt)) ∧ L' = L) := by
  refine Ct.body Tryz.func58 rfl Tryz.ntmps58 Tryz.results58 rfl ?_
  refine pur ?_
  refine WpO.box (vs := [.slice a t.length c]) rfl rfl rfl (fun _ => Keeps.none) fun b2 => ?_
  refine WpO.box (vs := [.int .i64 op, .string txt, .int .i64 num, .slice ka fs.length kc]) rfl rfl rfl (fun _ => Keeps.none) fun b3 => ?_
  refine pur ?_
  refine S.loadN (vs := [.slice a t.length c]) rfl rfl (Ent.pt 1 1 rfl rfl) rfl ?_
  refine S.loadN (vs := [.int .i64 op, .string txt, .int .i64 num, .slice ka fs.length kc]) rfl rfl (Ent.pt 0 4 rfl rfl) rfl ?_
  refine WpO.call Tryz.call121 rfl rfl (kinds_ct t a c op num txt ka kc fs _ hT.cons.cons hK.cons.cons hlt hfl) fun v L' ⟨oa, oc, e1, e2⟩ => ⟨Keeps.none, ?_⟩
  subst e1; subst e2
  refine WpO.know (fun k hs => own_know 0 rfl hs) fun hk => ?_
  rw [show fs.length = (fs.map (opAt t)).length from (List.length_map ..).symm]
  rw [show fs.length = (fs.map (opAt t)).length from (List.length_map ..).symm] at hfl
  generalize fs.map (opAt t) = ops at *
  have hcs : (cls ops).length = ops.length := by simp [cls]
  have hcs2 : (bs (ofL (ops.map classF))).length = ops.length := by rw [bs_ofL, List.length_map]
  have hcl : (bs (ofL (ops.map classF))).length < 1073741824 := by rw [bs_ofL, List.length_map]; omega
  have hoc : ops.length ≤ oc := by have := hk.1; simpa [ints] using this
  have hoa : oa = none ∨ ∃ b o, oa = some ⟨b, o, none⟩ := by
    rcases hk.2.2 with ⟨q, _⟩ | q
    · exact .inl q
    · exact .inr q
  have hSl : Sl (ownA 3 1 oa oc (ints ops) :: ptA b3 36 [.int .i64 op, .string txt, .int .i64 num, .slice ka ops.length kc] :: ptA b2 24 [.slice a t.length c] :: L) oa oc 1 (ints ops) := Sl.own 0 rfl hk
  have hdr : ∀ v, v ≤ ops.length → Sl (ownA 3 1 oa oc (ints ops) :: ptA b3 36 [.int .i64 op, .string txt, .int .i64 num, .slice ka ops.length kc] :: ptA b2 24 [.slice a t.length c] :: L) (slA oa oc v 1) (oc - v) 1 (ints (ops.drop v)) := fun v hv => by
    have := hSl.drop v (by rw [ints_length]; exact hv)
    rw [show (ints ops).drop v = ints (ops.drop v) from by simp [ints]] at this; exact this
  have htk : ∀ v, Sl (ownA 3 1 oa oc (ints ops) :: ptA b3 36 [.int .i64 op, .string txt, .int .i64 num, .slice ka ops.length kc] :: ptA b2 24 [.slice a t.length c] :: L) oa oc 1 (ints (ops.take v)) := fun v => by
    have := hSl.take v
    rw [show (ints ops).take v = ints (ops.take v) from by simp [ints]] at this; exact this
  obtain ⟨bo, oo, hO⟩ : ∃ bo oo, 0 < ops.length → oa = some ⟨bo, oo, none⟩ ∧ ∀ i, i < ops.length → Ent (ownA 3 1 oa oc (ints ops) :: ptA b3 36 [.int .i64 op, .string txt, .int .i64 num, .slice ka ops.length kc] :: ptA b2 24 [.slice a t.length c] :: L) (CellsAt bo (oo + i * 1) [.int .i64 (ops.getD i 0)]) := by
    by_cases h0 : 0 < ops.length
    · obtain ⟨b, o, e1, _⟩ := ints_at hSl (List.getElem?_eq_getElem h0)
      refine ⟨b, o, fun _ => ⟨e1, fun i hi => ?_⟩⟩
      obtain ⟨b', o', e2, e3⟩ := ints_at hSl (List.getElem?_eq_getElem hi)
      rw [e1] at e2
      cases e2
      rw [show ops.getD i 0 = ops[i] from by simp [List.getD, hi]]
      exact e3
    · exact ⟨0, 0, fun h => absurd h h0⟩
  refine pur ?_
  refine pur ?_
  refine Wp.branch rfl (fun h => ?_) (fun h => ?_)
  · have h' := of_decide_eq_true h
    refine pur ?_
    refine Wp.ret (Ret 3 rfl ⟨?_, rfl⟩)
    unfold partsF; rw [if_pos (by omega)]
  have m1 : op ≠ 1 := of_decide_eq_false h
  refine pur ?_
  refine Wp.branch rfl (fun h => ?_) (fun h => ?_)
  · have h' := of_decide_eq_true h
    refine pur ?_
    refine Wp.ret (Ret 3 rfl ⟨?_, rfl⟩)
    unfold partsF; rw [if_pos (by omega)]
  have m2 : op ≠ 2 := of_decide_eq_false h
  refine pur ?_
  refine Wp.branch rfl (fun h => ?_) (fun h => ?_)
  · have h' := of_decide_eq_true h
    refine pur ?_
    refine Wp.ret (Ret 3 rfl ⟨?_, rfl⟩)
    unfold partsF; rw [if_pos (by omega)]
  have m3 : op ≠ 3 := of_decide_eq_false h
  refine pur ?_
  refine Wp.branch rfl (fun h => ?_) (fun h => ?_)
  · have h' := of_decide_eq_true h
    refine pur ?_
    refine Wp.ret (Ret 3 rfl ⟨?_, rfl⟩)
    unfold partsF; rw [if_pos (by omega)]
  have m4 : op ≠ 4 := of_decide_eq_false h
  refine pur ?_
  refine Wp.branch rfl (fun h => ?_) (fun h => ?_)
  · have h' := of_decide_eq_true h
    refine pur ?_
    refine Wp.ret (Ret 3 rfl ⟨?_, rfl⟩)
    unfold partsF; rw [if_pos (by omega)]
  have m5 : op ≠ 5 := of_decide_eq_false h
  refine pur ?_
  refine Wp.branch rfl (fun h => ?_) (fun h => ?_)
  · have h' := of_decide_eq_true h
    refine pur ?_
    refine Wp.ret (Ret 3 rfl ⟨?_, rfl⟩)
    unfold partsF; rw [if_pos (by omega)]
  have m23 : op ≠ 23 := of_decide_eq_false h
  refine pur ?_
  refine Wp.branch rfl (fun h => ?_) (fun h => ?_)
  · have h' := of_decide_eq_true h
    refine pur ?_
    refine Wp.ret (Ret 3 rfl ⟨?_, rfl⟩)
    unfold partsF; rw [if_pos (by omega)]
  have m25 : op ≠ 25 := of_decide_eq_false h
  refine pur ?_
  refine Wp.branch rfl (fun h => ?_) (fun h => ?_)
  · have h' := of_decide_eq_true h
    refine pur ?_
    refine Wp.ret (Ret 3 rfl ⟨?_, rfl⟩)
    unfold partsF; rw [if_pos (by omega)]
  have m26 : op ≠ 26 := of_decide_eq_false h
  refine pur ?_
  refine Wp.branch rfl (fun h => ?_) (fun h => ?_)
  · have h' := of_decide_eq_true h
    refine pur ?_
    refine Wp.ret (Ret 3 rfl ⟨?_, rfl⟩)
    unfold partsF; rw [if_pos (by omega)]
  have m27 : op ≠ 27 := of_decide_eq_false h
  refine pur ?_
  refine Wp.branch rfl (fun h => ?_) (fun h => ?_)
  · have h' := of_decide_eq_true h
    refine pur ?_
    refine Wp.ret (Ret 3 rfl ⟨?_, rfl⟩)
    unfold partsF; rw [if_pos (by omega)]
  have m28 : op ≠ 28 := of_decide_eq_false h
  refine pur ?_
  refine Wp.branch rfl (fun h => ?_) (fun h => ?_)
  · have h' := of_decide_eq_true h
    refine pur ?_
    refine Wp.ret (Ret 3 rfl ⟨?_, rfl⟩)
    unfold partsF; rw [if_pos (by omega)]
  have m29 : op ≠ 29 := of_decide_eq_false h
  refine pur ?_
  refine Wp.branch rfl (fun h => ?_) (fun h => ?_)
  · obtain rfl : op = 6 := of_decide_eq_true h
    refine pur ?_
    refine WpO.callq Tryz.call122 rfl rfl (all_ct _ 101 2 9 _ hcl) Keeps.none ?_
    refine pur ?_
    exact Wp.ret (Ret 3 rfl ⟨rfl, rfl⟩)
  have n6 : op ≠ 6 := of_decide_eq_false h
  refine pur ?_
  refine Wp.branch rfl (fun h => ?_) (fun h => ?_)
  · obtain rfl : op = 7 := of_decide_eq_true h
    refine pur ?_
    refine G.sliceS 0 (ops.length - 1) rfl rfl rfl (by infer_instance) Bd.no (Bd.at _ rfl (by infer_instance) (fun h => km1 (by have := of_decide_eq_true h; omega))) (fun h => ⟨Nat.zero_le _, by rw [hcs2]; omega⟩) ?_
    rw [extract_ofL, List.drop_zero]
    refine WpO.callqg Tryz.call122 rfl rfl (.cons rfl (by infer_instance) (.cons rfl (by infer_instance) (.cons rfl (by infer_instance) (.cons rfl (by infer_instance) (.nil))))) (fun _ => all_ct _ 112 1 8 _ (by rw [bs_ofL, List.length_take, hcs2]; omega)) Keeps.none ?_
    refine pur ?_
    refine G.index (at0 (cls ops) (ops.length - 1)) (ops.length - 1) rfl rfl rfl (by infer_instance) rfl (by infer_instance) (fun h => km1 (by have := of_decide_eq_true (and_l h); omega)) (fun h => at0_some (by have := of_decide_eq_true (and_l h); rw [hcs2]; omega)) ?_
    refine pur ?_
    exact Wp.ret (Ret 3 rfl ⟨rfl, rfl⟩)
  have n7 : op ≠ 7 := of_decide_eq_false h
  refine pur ?_
  refine Wp.branch rfl (fun h => ?_) (fun h => ?_)
  · obtain rfl : op = 8 := of_decide_eq_true h
    refine pur ?_
    refine G.idxO (b := bo) (o := oo) 0 rfl rfl rfl (by infer_instance) rfl (by infer_instance) (fun h => ⟨(hO (by have := of_decide_eq_true h; omega)).1, rfl, by have := of_decide_eq_true h; omega⟩) ?_
    refine pur ?_
    refine G.loadIf (v := .int .i64 (ops.getD 0 0)) rfl rfl rfl (by infer_instance) (by infer_instance) (fun h => (hO (by have := of_decide_eq_true h; omega)).2 0 (by have := of_decide_eq_true h; omega)) ?_
    refine pur ?_
    refine G.index (at0 (cls ops) 1) 1 rfl rfl rfl (by infer_instance) rfl (by infer_instance) (fun h => rfl) (fun h => at0_some (by have := of_decide_eq_true (and_l h); rw [hcs2]; omega)) ?_
    refine pur ?_
    exact Wp.ret (Ret 3 rfl ⟨rfl, rfl⟩)
  have n8 : op ≠ 8 := of_decide_eq_false h
  refine pur ?_
  refine Wp.branch rfl (fun h => ?_) (fun h => ?_)
  · obtain rfl : op = 9 := of_decide_eq_true h
    refine pur ?_
    refine WpO.callq Tryz.call122 rfl rfl (all_ct _ 101 3 3 _ hcl) Keeps.none ?_
    refine pur ?_
    exact Wp.ret (Ret 3 rfl ⟨rfl, rfl⟩)
  have n9 : op ≠ 9 := of_decide_eq_false h
  refine pur ?_
  refine Wp.branch rfl (fun h => ?_) (fun h => ?_)
  · obtain rfl : op = 10 := of_decide_eq_true h
    refine pur ?_
    refine G.index (at0 (cls ops) 0) 0 rfl rfl rfl (by infer_instance) rfl (by infer_instance) (fun h => rfl) (fun h => at0_some (by have := of_decide_eq_true h; rw [hcs2]; omega)) ?_
    refine pur ?_
    refine G.sliceL 1 ops.length rfl rfl rfl (by infer_instance) (Bd.at 1 rfl (by infer_instance) (fun _ => rfl)) Bd.no (fun h => ⟨by have := of_decide_eq_true (and_l h); omega, hoc⟩) ?_
    refine WpO.callqg (v := .bool (onlyF 14 (ops.drop 1) 1 6000)) Tryz.call123 rfl rfl (.cons rfl (by infer_instance) (.cons rfl (by infer_instance) (.cons rfl (by infer_instance) (.cons rfl (by infer_instance) (.nil))))) (fun h => ?_) Keeps.none ?_
    · have hh := only_ct (ops.drop 1) (slA oa oc 1 1) (oc - 1) 14 1 6000 _ (hdr 1 (by have := of_decide_eq_true (and_l h); omega)) (by rw [List.length_drop]; omega)
      rw [List.length_drop] at hh
      exact hh
    refine pur ?_
    exact Wp.ret (Ret 3 rfl ⟨rfl, rfl⟩)
  have n10 : op ≠ 10 := of_decide_eq_false h
  refine pur ?_
  refine Wp.branch rfl (fun h => ?_) (fun h => ?_)
  · obtain rfl : op = 11 := of_decide_eq_true h
    refine pur ?_
    refine WpO.callq Tryz.call122 rfl rfl (all_ct _ 101 2 8 _ hcl) Keeps.none ?_
    refine pur ?_
    exact Wp.ret (Ret 3 rfl ⟨rfl, rfl⟩)
  have n11 : op ≠ 11 := of_decide_eq_false h
  refine pur ?_
  refine Wp.branch rfl (fun h => ?_) (fun h => ?_)
  · obtain rfl : op = 12 := of_decide_eq_true h
    refine pur ?_
    refine WpO.callq Tryz.call122 rfl rfl (all_ct _ 101 0 6000 _ hcl) Keeps.none ?_
    refine pur ?_
    exact Wp.ret (Ret 3 rfl ⟨rfl, rfl⟩)
  have n12 : op ≠ 12 := of_decide_eq_false h
  refine pur ?_
  refine Wp.branch rfl (fun h => ?_) (fun h => ?_)
  · obtain rfl : op = 13 := of_decide_eq_true h
    refine pur ?_
    refine WpO.callq Tryz.call122 rfl rfl (all_ct _ 101 2 2 _ hcl) Keeps.none ?_
    refine pur ?_
    exact Wp.ret (Ret 3 rfl ⟨rfl, rfl⟩)
  have n13 : op ≠ 13 := of_decide_eq_false h
  refine pur ?_
  refine Wp.branch rfl (fun h => ?_) (fun h => ?_)
  · obtain rfl : op = 16 := of_decide_eq_true h
    refine pur ?_
    refine WpO.callq Tryz.call122 rfl rfl (all_ct _ 101 2 2 _ hcl) Keeps.none ?_
    refine pur ?_
    exact Wp.ret (Ret 3 rfl ⟨rfl, rfl⟩)
  have n16 : op ≠ 16 := of_decide_eq_false h
  refine pur ?_
  refine Wp.branch rfl (fun h => ?_) (fun h => ?_)
  · obtain rfl : op = 17 := of_decide_eq_true h
    refine pur ?_
    refine WpO.callq Tryz.call122 rfl rfl (all_ct _ 101 1 1 _ hcl) Keeps.none ?_
    refine pur ?_
    exact Wp.ret (Ret 3 rfl ⟨rfl, rfl⟩)
  have n17 : op ≠ 17 := of_decide_eq_false h
  refine pur ?_
  refine Wp.branch rfl (fun h => ?_) (fun h => ?_)
  · obtain rfl : op = 14 := of_decide_eq_true h
    refine pur ?_
    refine G.index (at0 (cls ops) 0) 0 rfl rfl rfl (by infer_instance) rfl (by infer_instance) (fun h => rfl) (fun h => at0_some (by have := of_decide_eq_true h; rw [hcs2]; omega)) ?_
    refine pur ?_
    refine G.idxO (b := bo) (o := oo) 1 rfl rfl rfl (by infer_instance) rfl (by infer_instance) (fun h => ⟨(hO (by have := of_decide_eq_true (and_l h); omega)).1, rfl, by have := of_decide_eq_true (and_l h); omega⟩) ?_
    refine pur ?_
    refine G.loadIf (v := .int .i64 (ops.getD 1 0)) rfl rfl rfl (by infer_instance) (by infer_instance) (fun h => (hO (by have := of_decide_eq_true (and_l h); omega)).2 1 (by have := of_decide_eq_true (and_l h); omega)) ?_
    refine pur ?_
    exact Wp.ret (Ret 3 rfl ⟨rfl, rfl⟩)
  have n14 : op ≠ 14 := of_decide_eq_false h
  refine pur ?_
  refine Wp.branch rfl (fun h => ?_) (fun h => ?_)
  · obtain rfl : op = 15 := of_decide_eq_true h
    refine pur ?_
    refine G.idxO (b := bo) (o := oo) (ops.length - 1) rfl rfl rfl (by infer_instance) rfl (by infer_instance) (fun h => ⟨(hO (by have := of_decide_eq_true h; omega)).1, km1 (by have := of_decide_eq_true h; omega), by have := of_decide_eq_true h; omega⟩) ?_
    refine pur ?_
    refine G.loadIf (v := .int .i64 (ops.getD (ops.length - 1) 0)) rfl rfl rfl (by infer_instance) (by infer_instance) (fun h => (hO (by have := of_decide_eq_true h; omega)).2 _ (by have := of_decide_eq_true h; omega)) ?_
    refine pur ?_
    refine G.sliceL 0 (ops.length - 1) rfl rfl rfl (by infer_instance) Bd.no (Bd.at _ rfl (by infer_instance) (fun h => km1 (by have := of_decide_eq_true (and_l h); omega))) (fun h => ⟨Nat.zero_le _, by omega⟩) ?_
    rw [slA_zero hoa]
    refine WpO.callqg (v := .bool (onlyF 17 (ops.take (ops.length - 1)) 1 1)) Tryz.call123 rfl rfl (.cons rfl (by infer_instance) (.cons rfl (by infer_instance) (.cons rfl (by infer_instance) (.cons rfl (by infer_instance) (.nil))))) (fun h => ?_) Keeps.none ?_
    · have hh := only_ct (ops.take (ops.length - 1)) oa oc 17 1 1 _ (htk (ops.length - 1)) (by rw [List.length_take]; omega)
      rw [List.length_take, Nat.min_eq_left (Nat.sub_le _ _)] at hh
      exact hh
    refine pur ?_
    refine G.sliceL 0 (ops.length - 1) rfl rfl rfl (by infer_instance) Bd.no (Bd.at _ rfl (by infer_instance) (fun h => km1 (by have := of_decide_eq_true (and_l (and_l h)); omega))) (fun h => ⟨Nat.zero_le _, by omega⟩) ?_
    rw [slA_zero hoa]
    refine WpO.callqg (v := .bool (onlyF 16 (ops.take (ops.length - 1)) 1 6000)) Tryz.call123 rfl rfl (.cons rfl (by infer_instance) (.cons rfl (by infer_instance) (.cons rfl (by infer_instance) (.cons rfl (by infer_instance) (.nil))))) (fun h => ?_) Keeps.none ?_
    · have hh := only_ct (ops.take (ops.length - 1)) oa oc 16 1 6000 _ (htk (ops.length - 1)) (by rw [List.length_take]; omega)
      rw [List.length_take, Nat.min_eq_left (Nat.sub_le _ _)] at hh
      exact hh
    refine pur ?_
    exact Wp.ret (Ret 3 rfl ⟨rfl, rfl⟩)
  have n15 : op ≠ 15 := of_decide_eq_false h
  refine pur ?_
  refine Wp.branch rfl (fun h => ?_) (fun h => ?_)
  · obtain rfl : op = 18 := of_decide_eq_true h
    refine pur ?_
    refine WpO.callq Tryz.call123 rfl rfl (only_ct ops oa oc 19 0 6000 _ hSl (by omega)) Keeps.none ?_
    refine pur ?_
    exact Wp.ret (Ret 3 rfl ⟨rfl, rfl⟩)
  have n18 : op ≠ 18 := of_decide_eq_false h
  refine pur ?_
  refine Wp.branch rfl (fun h => ?_) (fun h => ?_)
  · obtain rfl : op = 19 := of_decide_eq_true h
    refine pur ?_
    refine G.sliceS 0 (ops.length - 1) rfl rfl rfl (by infer_instance) Bd.no (Bd.at _ rfl (by infer_instance) (fun h => km1 (by have := of_decide_eq_true h; omega))) (fun h => ⟨Nat.zero_le _, by rw [hcs2]; omega⟩) ?_
    rw [extract_ofL, List.drop_zero]
    refine WpO.callqg Tryz.call122 rfl rfl (.cons rfl (by infer_instance) (.cons rfl (by infer_instance) (.cons rfl (by infer_instance) (.cons rfl (by infer_instance) (.nil))))) (fun _ => all_ct _ 112 0 8 _ (by rw [bs_ofL, List.length_take, hcs2]; omega)) Keeps.none ?_
    refine pur ?_
    refine G.idxO (b := bo) (o := oo) (ops.length - 1) rfl rfl rfl (by infer_instance) rfl (by infer_instance) (fun h => ⟨(hO (by have := of_decide_eq_true (and_l h); omega)).1, km1 (by have := of_decide_eq_true (and_l h); omega), by have := of_decide_eq_true (and_l h); omega⟩) ?_
    refine pur ?_
    refine G.loadIf (v := .int .i64 (ops.getD (ops.length - 1) 0)) rfl rfl rfl (by infer_instance) (by infer_instance) (fun h => (hO (by have := of_decide_eq_true (and_l h); omega)).2 _ (by have := of_decide_eq_true (and_l h); omega)) ?_
    refine pur ?_
    exact Wp.ret (Ret 3 rfl ⟨rfl, rfl⟩)
  have n19 : op ≠ 19 := of_decide_eq_false h
  refine pur ?_
  refine Wp.branch rfl (fun h => ?_) (fun h => ?_)
  · obtain rfl : op = 20 := of_decide_eq_true h
    refine pur ?_
    refine WpO.callq Tryz.call122 rfl rfl (all_ct _ 100 0 6000 _ hcl) Keeps.none ?_
    refine pur ?_
    exact Wp.ret (Ret 3 rfl ⟨rfl, rfl⟩)
  have n20 : op ≠ 20 := of_decide_eq_false h
  refine pur ?_
  refine Wp.branch rfl (fun h => ?_) (fun h => ?_)
  · obtain rfl : op = 21 := of_decide_eq_true h
    refine pur ?_
    refine Wp.loopI (α := Nat) 0 (fun v => [(5, .v (.slice oa ops.length oc)), (7, .v (.int .i64 ops.length)), (8, .v (.int .i64 v))]) (fun _ => ownA 3 1 oa oc (ints ops) :: ptA b3 36 [.int .i64 21, .string txt, .int .i64 num, .slice ka ops.length kc] :: ptA b2 24 [.slice a t.length c] :: L) (fun v => ops.length - v) (fun v => v ≤ ops.length ∧ (ops.takeWhile (fun x => decide (x = 23))).length = v + ((ops.drop v).takeWhile (fun x => decide (x = 23))).length) ⟨Nat.zero_le _, by simp⟩ ⟨rfl, rfl, rfl, trivial⟩ (LeL.refl _) ?_
    rintro v ⟨hv, ht⟩
    refine pur ?_
    refine G.idxO (b := bo) (o := oo) v rfl rfl rfl (by infer_instance) rfl (by infer_instance) (fun h => ⟨(hO (by have := lt_len h; omega)).1, rfl, lt_len h⟩) ?_
    refine pur ?_
    refine G.loadIf (v := .int .i64 (ops.getD v 0)) rfl rfl rfl (by infer_instance) (by infer_instance) (fun h => (hO (by have := lt_len h; omega)).2 v (lt_len h)) ?_
    refine pur ?_
    refine Wp.branch rfl (fun h => ?_) (fun h => ?_)
    · have hlt := lt_len (and_l h)
      refine pur ?_
      refine Round.mk (v + 1) (by omega) ⟨by omega, ?_⟩ ⟨rfl, rfl, inc_e (by omega), trivial⟩ (LeL.refl _)
      have hg : ops.getD v 0 = ops[v] := by simp [List.getD, hlt]
      rw [ht, List.drop_eq_getElem_cons hlt, List.takeWhile_cons_of_pos (by rw [← hg]; exact and_r h)]; simp; omega
    · have hz : ((ops.drop v).takeWhile (fun x => decide (x = 23))).length = 0 := by
        rcases Nat.lt_or_ge v ops.length with hlt | hge
        · have hg : ops.getD v 0 = ops[v] := by simp [List.getD, hlt]
          rw [Bool.and_eq_false_iff] at h
          rcases h with h | h
          · have := of_decide_eq_false h; omega
          · rw [List.drop_eq_getElem_cons hlt, List.takeWhile_cons_of_neg (by rw [← hg, h]; decide)]; rfl
        · rw [List.drop_eq_nil_of_le hge]; rfl
      rw [hz] at ht
      replace ht := ht.trans (Nat.add_zero v)
      refine pur ?_
      refine G.sliceL v ops.length rfl rfl rfl (by infer_instance) (Bd.at v rfl (by infer_instance) (fun _ => rfl)) Bd.no (fun h => ⟨hv, hoc⟩) ?_
      refine WpO.callqg (v := .bool (onlyF 22 (ops.drop v) 1 6000)) Tryz.call123 rfl rfl (.cons rfl (by infer_instance) (.cons rfl (by infer_instance) (.cons rfl (by infer_instance) (.cons rfl (by infer_instance) (.nil))))) (fun h => ?_) Keeps.none ?_
      · have hh := only_ct (ops.drop v) (slA oa oc v 1) (oc - v) 22 1 6000 _ (hdr v hv) (by rw [List.length_drop]; omega)
        rw [List.length_drop] at hh
        exact hh
      refine pur ?_
      refine Wp.ret (Ret 3 rfl ⟨?_, rfl⟩)
      unfold partsF
      simp only [m1, m2, m3, m4, m5, m23, m25, m26, m27, m28, m29, n6, n7, n8, n9, n10, n11, n12, n13, n16, n17, n14, n15, n18, n19, n20, if_false, or_self, if_true]
      rw [ht]
  have n21 : op ≠ 21 := of_decide_eq_false h
  refine pur ?_
  refine Wp.branch rfl (fun h => ?_) (fun h => ?_)
  · obtain rfl : op = 22 := of_decide_eq_true h
    refine pur ?_
    refine WpO.callq Tryz.call122 rfl rfl (all_ct _ 116 0 8 _ hcl) Keeps.none ?_
    refine pur ?_
    exact Wp.ret (Ret 3 rfl ⟨rfl, rfl⟩)
  have n22 : op ≠ 22 := of_decide_eq_false h
  refine pur ?_
  refine Wp.branch rfl (fun h => ?_) (fun h => ?_)
  · obtain rfl : op = 24 := of_decide_eq_true h
    refine pur ?_
    refine WpO.callq Tryz.call122 rfl rfl (all_ct _ 116 0 8 _ hcl) Keeps.none ?_
    refine pur ?_
    refine WpO.callqg Tryz.call124 rfl rfl (.cons rfl (by infer_instance) (.cons rfl (by infer_instance) (.nil))) (fun h => typeName_ct txt ops.length _ hl (by have h2 := of_decide_eq_true (and_r (and_r h)); rw [hcs2] at h2; omega)) Keeps.none ?_
    refine pur ?_
    exact Wp.ret (Ret 3 rfl ⟨rfl, rfl⟩)
  have n24 : op ≠ 24 := of_decide_eq_false h
  refine pur ?_
  refine Wp.branch rfl (fun h => ?_) (fun h => ?_)
  · obtain rfl : op = 30 := of_decide_eq_true h
    refine pur ?_
    refine WpO.callq Tryz.call122 rfl rfl (all_ct _ 112 0 8 _ hcl) Keeps.none ?_
    refine pur ?_
    refine WpO.callqg Tryz.call125 rfl rfl (.cons rfl (by infer_instance) (.nil)) (fun h => rname_ct txt _ hl) Keeps.none ?_
    refine pur ?_
    exact Wp.ret (Ret 3 rfl ⟨rfl, rfl⟩)
  have n30 : op ≠ 30 := of_decide_eq_false h
  refine pur ?_
  refine Wp.branch rfl (fun h => ?_) (fun h => ?_)
  · obtain rfl : op = 31 := of_decide_eq_true h
    refine pur ?_
    refine WpO.callq Tryz.call122 rfl rfl (all_ct _ 112 2 8 _ hcl) Keeps.none ?_
    refine pur ?_
    exact Wp.ret (Ret 3 rfl ⟨rfl, rfl⟩)
  have n31 : op ≠ 31 := of_decide_eq_false h
  refine pur ?_
  refine Wp.branch rfl (fun h => ?_) (fun h => ?_)
  · obtain rfl : op = 32 := of_decide_eq_true h
    refine pur ?_
    refine WpO.callq Tryz.call122 rfl rfl (all_ct _ 112 0 6000 _ hcl) Keeps.none ?_
    refine pur ?_
    exact Wp.ret (Ret 3 rfl ⟨rfl, rfl⟩)
  have n32 : op ≠ 32 := of_decide_eq_false h
  refine pur ?_
  refine Wp.ret (Ret 3 rfl ⟨?_, rfl⟩)
  unfold partsF
  simp only [m1, m2, m3, m4, m5, m23, m25, m26, m27, m28, m29, n6, n7, n8, n9, n10, n11, n12, n13, n16, n17, n14, n15, n18, n19, n20, n21, n22, n24, n30, n31, n32, if_false, or_self]
end Go.Proofs.YtikgokpbhldlnaaGreatDoor
end

section
namespace Go.Proofs.YtikgokpbhldlnaaGreatDoor
open Go Go.Ab
attribute [local irreducible] Wp WpO Qt OpT Ct Ent

def goodR (ops : List Int) (nd : Nd) : Bool := partsF nd.op ops (bs nd.text) && fieldsF nd.op nd.num (bs nd.text)
structure StOkR (t : List Nd) (x : St) : Prop where
  le : x.i ≤ t.length
  run : runs goodR t t 0 [] = runs goodR t (t.drop x.i) x.i x.free
  lt : ∀ j ∈ x.free, j < x.i
  fl : x.free.length ≤ x.i
  kl : x.kss.length = x.i
  ks : (t.take x.i).map Nd.kids = x.kss.map natI
  kb : ∀ (j : Nat) (ks : List Nat), x.kss[j]? = some ks → ∀ k ∈ ks, k < j
theorem runs_no {good : List Int → Nd → Bool} {t r : List Nd} {nd : Nd} {i : Nat} {free : List Nat} (h : ¬ (nd.kids.length ≤ free.length ∧ nd.kids = natI (free.drop (free.length - nd.kids.length)) ∧ ¬ (nd.op = 20 ∧ i + 1 < t.length))) : runs good t (nd :: r) i free = none := by
  rw [runs, if_neg]
  intro hh
  simp only [Bool.and_eq_true, decide_eq_true_eq, Bool.not_eq_true', Bool.and_eq_false_iff, decide_eq_false_iff_not] at hh
  exact h ⟨hh.1.1.1, hh.1.1.2, fun ⟨q1, q2⟩ => by rcases hh.1.2 with w | w <;> exact w (by assumption)⟩
set_option maxHeartbeats 4000000 in
theorem rcheck_ct (t : List Nd) (a : Option Addr) (c : Nat) (L : List Assn) (hT : TreeR L a c t) (hs : Small t) :
    Ct Tryz.prog 36 #[.agg #[.slice a t.length c]] L (ret fun v L' => v = .int .i64 (checkF goodR t) ∧ L' = L) := by
  have hlen := hs.len
  refine Ct.body Tryz.func36 rfl Tryz.ntmps36 Tryz.results36 rfl ?_
  refine pur ?_
  refine WpO.box (vs := [.slice a t.length c]) rfl rfl rfl (fun _ => Keeps.none) fun b1 => ?_
  refine pur ?_
  obtain ⟨bn, on, hbn⟩ : ∃ bn on, t ≠ [] → a = some ⟨bn, on, none⟩ ∧ Ent L (CellsAt bn (on + (t.length - 1) * 4 + 0) [.int .i64 (opAt t (t.length - 1))]) := by
    by_cases h0 : t = []
    · exact ⟨0, 0, fun h => absurd h0 h⟩
    · have hl : t.length - 1 < t.length := by have := List.length_pos_iff.2 h0; omega
      obtain ⟨b, o, ka, kc, h1, h2, _⟩ := hT.at (List.getElem?_eq_getElem hl)
      refine ⟨b, o, fun _ => ⟨h1, ?_⟩⟩
      have := Ent.sub 1 (j := 0) h2 rfl
      unfold opAt; rw [List.getElem?_eq_getElem hl]; exact this
  have hlast : ∀ b : Bool, (!(decide ((t.length : Int) < 1) || b)) = true → t ≠ [] := fun b h e => by
    subst e
    rw [show decide ((([] : List Nd).length : Int) < 1) = true from by decide] at h
    simp at h
  refine G.idxO (b := bn) (o := on) (t.length - 1) rfl rfl rfl (by infer_instance) rfl (by infer_instance) (fun h => ?_) ?_
  · have h0 := hlast _ h
    have := List.length_pos_iff.2 h0
    exact ⟨(hbn h0).1, by rw [wrap_id (by omega) (by omega)]; omega, by omega⟩
  refine pur ?_
  refine G.loadIf (v := .int .i64 (opAt t (t.length - 1))) rfl rfl rfl (by infer_instance) (by infer_instance) (fun h => (hbn (hlast _ h)).2.cons) ?_
  refine pur ?_
  refine Wp.branch rfl (fun h => ?_) (fun h => ?_)
  · refine pur ?_
    refine Wp.ret (Ret 1 rfl ⟨?_, rfl⟩)
    unfold checkF
    rw [if_neg]
    rintro ⟨h1, h2, h3⟩
    rw [h3] at h
    simp at h; omega
  obtain ⟨hl1, hl2, hl3⟩ : 1 ≤ t.length ∧ t.length ≤ 6000 ∧ opAt t (t.length - 1) = 20 := by
    simp only [Bool.or_eq_false_iff, decide_eq_false_iff_not, Bool.not_eq_false', decide_eq_true_eq] at h
    obtain ⟨⟨q1, q2⟩, q3⟩ := h
    exact ⟨by omega, by omega, q3⟩
  clear hbn hlast
  refine pur ?_
  refine Wp.parts (L' := ownA 3 1 none 0 (natRows []) :: ptA b1 24 [.slice a t.length c] :: L) (fun k hk => Sat.ownNil hk) ?_
  refine Wp.loopI (α := St) ⟨0, [], [], none, 0⟩
    (fun x => [(1, .v (.pointer (some ⟨b1, 0, none⟩))), (3, .v (.int .i64 t.length)), (4, .v (.slice x.a x.free.length x.c)), (5, .v (.int .i64 x.i))])
    (fun x => ownA 3 1 x.a x.c (natRows x.free) :: ptA b1 24 [.slice a t.length c] :: L)
    (fun x => t.length - x.i) (StOkR t) ⟨Nat.zero_le _, rfl, nofun, Nat.le_refl _, rfl, rfl, fun j ks h => by simp at h⟩ ⟨rfl, rfl, rfl, rfl, trivial⟩ (LeL.refl _) ?_
  rintro ⟨i, free, kss, fa, fc⟩ ⟨q1, q2, q3, q4, q5, q6, q7⟩
  simp only [] at q1 q2 q3 q4 q5 q6 q7
  show Wp _ _ _ _ [_, _, (4, .v (.slice fa free.length fc)), (5, .v (.int .i64 i))] _ (ownA _ _ fa fc (natRows free) :: _)
  refine pur ?_
  refine Wp.branch rfl (fun h => ?_) (fun h => ?_)
  · have hit : i < t.length := lt_len h
    have hnd := List.getElem?_eq_getElem hit
    have hdrop := List.drop_eq_getElem_cons hit
    generalize t[i] = nd at hnd hdrop
    have hkl := hs.kids nd (List.mem_of_getElem? hnd)
    have htl := hs.text nd (List.mem_of_getElem? hnd)
    obtain ⟨b, o, ka, kc, rfl, hE, hKs⟩ := hT.at hnd
    refine pur ?_
    refine S.idx i rfl rfl rfl rfl hit ?_
    refine S.loadN rfl rfl hE.cons.cons rfl ?_
    refine WpO.alloc rfl rfl (fun _ => Keeps.none) fun bn => ?_
    refine pur ?_
    rw [wrap_id (i := (t.length : Int) - 1) (by omega) (by omega)]
    refine Wp.branch rfl (fun h => ?_) (fun h => ?_)
    · refine pur ?_
      refine Wp.ret (Ret 3 rfl ⟨?_, rfl⟩)
      rw [checkF_none]
      rw [q2, hdrop]
      refine runs_no ?_
      simp only [Bool.or_eq_true, Bool.and_eq_true, decide_eq_true_eq] at h
      rintro ⟨w1, _, w3⟩
      rcases h with h | ⟨h1, h2⟩
      · omega
      · exact w3 ⟨h1, by omega⟩
    simp only [Bool.or_eq_false_iff, Bool.and_eq_false_iff, decide_eq_false_iff_not] at h
    have w1 : nd.kids.length ≤ free.length := by have := h.1; omega
    have w3 : ¬ (nd.op = 20 ∧ i + 1 < t.length) := by
      rintro ⟨q8, q9⟩
      rcases h.2 with h2 | h2
      · exact h2 q8
      · omega
    refine pur ?_
    rw [wrap_id (by omega) (by omega), sub_nat w1]
    refine Wp.know (fun k hs => own_know 1 rfl hs) fun hk => ?_
    have hfc : free.length ≤ fc := by have := hk.1; simpa [natRows] using this
    have hfa : fa = none ∨ ∃ b o, fa = some ⟨b, o, none⟩ := by
      rcases hk.2.2 with ⟨q, _⟩ | q
      · exact .inl q
      · exact .inr q
    generalize hfr : free.length - nd.kids.length = from0 at *
    have hfle : from0 + nd.kids.length = free.length := by omega
    refine Wp.loopI (α := Nat) 0
      (fun j => [(1, .v (.pointer (some ⟨b1, 0, none⟩))), (3, .v (.int .i64 t.length)), (4, .v (.slice fa free.length fc)), (5, .v (.int .i64 i)), (6, .v (.pointer (some ⟨bn, 0, none⟩))), (7, .v (.int .i64 nd.kids.length)), (8, .v (.int .i64 from0)), (9, .v (.int .i64 j))])
      (fun _ => ptA bn 36 [.int .i64 nd.op, .string nd.text, .int .i64 nd.num, .slice ka nd.kids.length kc] :: ownA 3 1 fa fc (natRows free) :: ptA b1 24 [.slice (some ⟨b, o, none⟩) t.length c] :: L)
      (fun j => nd.kids.length - j) (fun j => j ≤ nd.kids.length ∧ nd.kids.take j = natI ((free.drop from0).take j)) ⟨Nat.zero_le _, rfl⟩ ⟨rfl, rfl, rfl, rfl, rfl, rfl, rfl, rfl, trivial⟩ (LeL.refl _) ?_
    rintro j ⟨hj, hjt⟩
    refine pur ?_
    refine Wp.branch rfl (fun h => ?_) (fun h => ?_)
    · have hjk : j < nd.kids.length := lt_len h
      have hkj := List.getElem?_eq_getElem hjk
      generalize hkv : nd.kids[j] = kv at hkj
      have hfj : from0 + j < free.length := by omega
      have hfv := List.getElem?_eq_getElem hfj
      generalize free[from0 + j] = fv at hfv
      obtain ⟨b2, o2, rfl, e2⟩ := ints_at hKs hkj
      obtain ⟨b3, o3, e3⟩ : ∃ b o, fa = some ⟨b, o, none⟩ := by
        rcases hk.2.2 with ⟨_, _, q⟩ | q
        · have : free = [] := by simpa [natRows] using q
          subst this; simp at hfj
        · exact q
      subst e3
      have hR := Ent.own (L := ptA bn 36 [.int .i64 nd.op, .string nd.text, .int .i64 nd.num, .slice (some ⟨b2, o2, none⟩) nd.kids.length kc] :: ownA 3 1 (some ⟨b3, o3, none⟩) fc (natRows free) :: ptA b1 24 [.slice (some ⟨b, o, none⟩) t.length c] :: L) 1 rfl
      have hR1 := hR.imp fun k hr => (hr _ _ (natRows_get _ _ _ hfv)).2
      have wj : IntKind.i64.wrap ((from0 : Int) + (j : Int)) = ((from0 + j : Nat) : Int) := nat_add (by omega)
      refine pur ?_
      refine Wp.draw rfl [0,1,2,3,4,5,6,7,8,9,10,11] 12 12 _ rfl (by decide +kernel) (fun _ h => h) ?_
      refine pur ?_
      refine S.idx j rfl rfl rfl rfl hjk ?_
      refine pur ?_
      refine S.idx (from0 + j) rfl rfl rfl wj hfj ?_
      refine pur ?_
      refine Wp.branch rfl (fun h => ?_) (fun h => ?_)
      · refine pur ?_
        refine Wp.ret (Ret 3 rfl ⟨?_, rfl⟩)
        rw [checkF_none]
        rw [q2, hdrop]
        refine runs_no ?_
        rintro ⟨_, w2, _⟩
        rw [hfr] at w2
        rw [w2] at hkj
        simp [natI, hfv] at hkj
        rw [hkj] at h; simp at h
      · have hkf : kv = (fv : Int) := by simpa using h
        refine pur ?_
        refine Round.mk (j + 1) (by omega) ⟨by omega, ?_⟩ ⟨rfl, rfl, rfl, rfl, rfl, rfl, rfl, inc_e (by omega), trivial⟩ (LeL.refl _)
        rw [List.take_add_one, hkj, hjt, List.take_add_one, List.getElem?_drop, hfv, hkf]; simp [natI]
    · have hjn : j = nd.kids.length := by have := of_decide_eq_false h; omega
      subst hjn
      have w2 : nd.kids = natI (free.drop from0) := by
        rw [List.take_of_length_le (Nat.le_refl _), List.take_of_length_le (by rw [List.length_drop]; omega)] at hjt
        exact hjt
      generalize hfs : free.drop from0 = fs at *
      have hfsl : fs.length = nd.kids.length := by rw [w2]; simp [natI]
      have hfsm : ∀ j ∈ fs, j < i := fun j hj => q3 j (by rw [← hfs] at hj; exact List.mem_of_mem_drop hj)
      refine pur ?_
      refine S.loadN (vs := [.slice (some ⟨b, o, none⟩) t.length c]) rfl rfl (Ent.pt 2 1 rfl rfl) rfl ?_
      refine S.loadN (vs := [.int .i64 nd.op, .string nd.text, .int .i64 nd.num, .slice ka nd.kids.length kc]) rfl rfl (Ent.pt 0 4 rfl rfl) rfl ?_
      have hpc := parts_ct t (some ⟨b, o, none⟩) c nd.op nd.num nd.text ka kc fs (ptA bn 36 [.int .i64 nd.op, .string nd.text, .int .i64 nd.num, .slice ka nd.kids.length kc] :: ownA 3 1 fa fc (natRows free) :: ptA b1 24 [.slice (some ⟨b, o, none⟩) t.length c] :: L) hT.cons.cons.cons (by rw [← w2]; exact hKs.cons.cons.cons) (fun j hj => by have := hfsm j hj; omega) (by omega) (by omega)
      rw [hfsl] at hpc
      refine WpO.callq Tryz.call58 rfl rfl hpc Keeps.none ?_
      refine pur ?_
      refine G.loadN (vs := [.int .i64 nd.op, .string nd.text, .int .i64 nd.num, .slice ka nd.kids.length kc]) rfl rfl rfl (by infer_instance) (Ent.pt 0 4 rfl rfl) rfl ?_
      refine WpO.callqg Tryz.call59 rfl rfl (.cons rfl (by infer_instance) .nil) (fun _ => fields_ct nd.op nd.num nd.text _ _ (by omega)) Keeps.none ?_
      refine pur ?_
      have hgd : goodR (fs.map (opAt t)) nd = !(!partsF nd.op (fs.map (opAt t)) (bs nd.text) || !fieldsF nd.op nd.num (bs nd.text)) := by unfold goodR; simp
      refine Wp.branch rfl (fun h => ?_) (fun h => ?_)
      · refine pur ?_
        refine Wp.ret (Ret 3 rfl ⟨?_, rfl⟩)
        rw [checkF_none]
        rw [q2, hdrop]
        apply runs_bad
        rw [hfr, hfs, hgd, h]; rfl
      · have hgood : goodR (fs.map (opAt t)) nd = true := by rw [hgd, h]; rfl
        have w4 : runs goodR t t 0 [] = runs goodR t (t.drop (i + 1)) (i + 1) (free.take from0 ++ [i]) := by
          rw [q2, hdrop]
          have := runs_yes (good := goodR) (t := t) (r := t.drop (i + 1)) (nd := nd) (i := i) (free := free) w1 (by rw [hfr, hfs]; exact w2) w3 (by rw [hfr, hfs]; exact hgood)
          rw [hfr] at this; exact this
        have htk2 : (natRows free).take from0 = natRows (free.take from0) := by simp [natRows]
        have htl2 : (natRows (free.take from0)).length = from0 := by simp [natRows]; omega
        refine pur ?_
        refine S.sliceL 0 from0 rfl rfl Bd.no (Bd.at _ rfl (by infer_instance) (fun _ => rfl)) ⟨Nat.zero_le _, by omega⟩ ?_
        rw [slA_zero hfa, Nat.sub_zero, Nat.sub_zero]
        refine WpO.parts (L' := ownA 3 1 fa fc (natRows (free.take from0)) :: ptA b1 24 [.slice (some ⟨b, o, none⟩) t.length c] :: L) (fun k hs => LeL.head (fun _ h => htk2 ▸ h.take _) k hs.tail) ?_
        refine pur ?_
        refine WpO.buildSlice rfl rfl rfl rfl rfl rfl rfl (fun _ => Keeps.none) fun bs1 => ?_
        refine WpO.appendLit 0 [[.int .i64 (i : Int)]] rfl rfl rfl rfl htl2.symm rfl rfl rfl rfl rfl rfl rfl (by rw [htl2]; simp; omega) (fun _ _ => Keeps.none) fun a2 k2 => ?_
        refine pur ?_
        refine Round.mk ⟨i + 1, free.take from0 ++ [i], kss ++ [fs], a2, k2⟩ (by simp only []; omega) ⟨hit, w4, ?_, ?_, ?_, ?_, ?_⟩ ⟨rfl, rfl, ?_, inc_e (by omega), trivial⟩ ?_
        · intro j hj
          rcases List.mem_append.1 hj with hj | hj
          · have := q3 j (List.mem_of_mem_take hj); show j < i + 1; omega
          · simp at hj; subst hj; exact Nat.lt_succ_self _
        · simp; omega
        · simp [q5]
        · show (t.take (i + 1)).map Nd.kids = _
          rw [List.take_add_one, hnd, List.map_append, q6]; simp [w2]
        · intro j ks hj k hk
          simp only [] at hj
          rcases Nat.lt_or_ge j kss.length with hl | hl
          · rw [List.getElem?_append_left hl] at hj; exact q7 j ks hj k hk
          · rw [List.getElem?_append_right hl] at hj
            have hj0 : j - kss.length = 0 := by
              have := (List.getElem?_eq_some_iff.1 hj).1; simp at this; omega
            rw [hj0] at hj; simp at hj; subst hj
            have := hfsm k hk; omega
        · show some (AV.v (.slice a2 (natRows (free.take from0) ++ [[Value.int .i64 (i : Int)]]).length k2)) = some (AV.v (.slice a2 (free.take from0 ++ [i]).length k2))
          simp [natRows]
        · have : natRows (free.take from0) ++ [[.int .i64 (i : Int)]] = natRows (free.take from0 ++ [i]) := by simp [natRows]
          rw [this]; exact LeL.refl _
  · have hin : i = t.length := by have := of_decide_eq_false h; omega
    subst hin
    have hall : runs goodR t t 0 [] = some free := by rw [q2, List.drop_length]; rfl
    have hkss : kss = kssOf t := by
      rw [List.take_length] at q6
      unfold kssOf
      rw [show t.map (fun nd => nd.kids.map Int.toNat) = (t.map Nd.kids).map (List.map Int.toNat) from by simp, q6]
      rw [List.map_map]
      symm
      have : (List.map Int.toNat ∘ natI) = id := by funext l; simp [natI, Function.comp_def]
      rw [this, List.map_id]
    refine pur ?_
    have hdc := deep_ct t a c (ownA 3 1 fa fc (natRows free) :: ptA b1 24 [.slice a t.length c] :: L) hT.cons.cons (kssOf t) (by rw [← hkss]; rw [List.take_length] at q6; exact q6) (by rw [← hkss]; exact q7) (by omega) (fun nd hnd => by have := hs.kids nd hnd; omega)
    refine WpO.callqg Tryz.call49 rfl rfl (.cons rfl (by infer_instance) .nil) (fun _ => hdc) Keeps.none ?_
    refine pur ?_
    refine Wp.branch rfl (fun h => ?_) (fun h => ?_)
    · refine pur ?_
      refine Wp.ret (Ret 2 rfl ⟨?_, rfl⟩)
      unfold checkF
      rw [if_pos ⟨hl1, hl2, hl3⟩, hall]
      simp only [Bool.or_eq_true, Bool.not_eq_true', decide_eq_false_iff_not, decide_eq_true_eq] at h
      simp only []
      rw [if_neg (by omega)]
    · refine pur ?_
      refine Wp.ret (Ret 2 rfl ⟨?_, rfl⟩)
      unfold checkF
      rw [if_pos ⟨hl1, hl2, hl3⟩, hall]
      simp only [Bool.or_eq_false_iff, Bool.not_eq_false', decide_eq_false_iff_not, decide_eq_true_eq] at h
      simp only []
      rw [if_pos (by omega)]
end Go.Proofs.YtikgokpbhldlnaaGreatDoor
end
