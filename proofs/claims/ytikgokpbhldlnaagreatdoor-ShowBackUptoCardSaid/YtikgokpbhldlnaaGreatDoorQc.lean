/- Parts of a proof: Ch Ci Cj Ck Cl. -/
import Derived.Test.YtikgokpbhldlnaaGreatDoorQb
set_option linter.unusedVariables false
set_option linter.unusedSimpArgs false
set_option linter.unusedSectionVars false
section
/- scan: written. -/
namespace Go.Proofs.YtikgokpbhldlnaaGreatDoor
open Go Go.Ab
attribute [local irreducible] Wp WpO Qt OpT Ct Ent

theorem toNat_eq (c : UInt8) (n : Nat) (hn : n < 256) : ((c.toNat : Int) = n) ↔ c = UInt8.ofNat n :=
  ⟨fun e => by have : c.toNat = n := by omega
               subst this; simp, fun e => by subst e; simp; omega⟩
set_option maxHeartbeats 4000000 in
theorem written2_ct (s : ByteArray) (h0 : 0 < (bs s).length) (hl : (bs s).length < 1073741824) (L : List Assn) (hE : ErrL L) :
    Ct Tryz.prog 153 #[.string s] L (ret fun v L' => v = .tuple #[.int .u8 (writtenF (bs s) 0).1, .int .i64 (writtenF (bs s) 0).2] ∧ L' = L) := by
  refine Ct.body Tryz.func153 rfl Tryz.ntmps153 Tryz.results153 rfl ?_
  have hc0 := at0_some h0
  refine pur ?_
  refine S.index (at0 (bs s) 0) 0 rfl rfl rfl rfl hc0 ?_
  refine pur ?_
  refine G.index (at0 (bs s) 0) 0 rfl rfl rfl (by infer_instance) rfl (by infer_instance) (fun _ => rfl) (fun _ => hc0) ?_
  refine pur ?_
  refine Wp.branch rfl (fun h => ?_) (fun h => ?_)
  · refine pur ?_
    refine Wp.ret (Ret 0 rfl ⟨?_, rfl⟩)
    unfold writtenF
    rw [if_pos (by rw [Bool.or_assoc, h, Bool.or_true])]
  have hw : ((decide (((bs s).length : Int) ≤ ((0 : Nat) : Int)) || decide (((at0 (bs s) 0).toNat : Int) < 32)) || decide ((126 : Int) < ((at0 (bs s) 0).toNat : Int))) = false := by
    rw [Bool.or_assoc, h, Bool.or_false]; exact decide_eq_false (by omega)
  have hwr : writtenF (bs s) 0 = if ¬ at0 (bs s) 0 = 92 then (((at0 (bs s) 0).toNat : Int), 1) else
    if (bs s).length ≤ 0 + 1 then (0, 0) else
    if at0 (bs s) (0 + 1) = 110 then (10, 2) else
    if at0 (bs s) (0 + 1) = 116 then (9, 2) else
    if at0 (bs s) (0 + 1) = 92 ∨ at0 (bs s) (0 + 1) = 39 ∨ at0 (bs s) (0 + 1) = 34 then (((at0 (bs s) (0 + 1)).toNat : Int), 2) else
    if at0 (bs s) (0 + 1) = 120 ∧ 0 + 3 < (bs s).length ∧ 0 ≤ hexF (at0 (bs s) (0 + 2)) ∧ 0 ≤ hexF (at0 (bs s) (0 + 3)) then (16 * hexF (at0 (bs s) (0 + 2)) + hexF (at0 (bs s) (0 + 3)), 4) else (0, 0) := by
    unfold writtenF; rw [if_neg (by rw [hw]; decide)]
  rw [hwr]
  simp only [Nat.zero_add]
  refine pur ?_
  refine S.index (at0 (bs s) 0) 0 rfl rfl rfl rfl hc0 ?_
  refine pur ?_
  refine Wp.branch rfl (fun h => ?_) (fun h => ?_)
  · have hx : ¬ at0 (bs s) 0 = 92 := fun e => by rw [e] at h; exact absurd h (by decide)
    refine pur ?_
    refine S.index (at0 (bs s) 0) 0 rfl rfl rfl rfl hc0 ?_
    refine pur ?_
    refine Wp.ret (Ret 0 rfl ⟨?_, rfl⟩)
    rw [if_pos hx]
  have hx : at0 (bs s) 0 = 92 := (toNat_eq _ 92 (by decide)).1 (by simpa using h)
  rw [if_neg (fun q => q hx)]
  refine pur ?_
  refine Wp.branch rfl (fun h => ?_) (fun h => ?_)
  · have hlt : (bs s).length ≤ 1 := by have := of_decide_eq_true h; omega
    refine pur ?_
    refine Wp.ret (Ret 0 rfl ⟨?_, rfl⟩)
    rw [if_pos hlt]
  have hlt : 1 < (bs s).length := by have := of_decide_eq_false h; omega
  have hc1 := at0_some hlt
  rw [if_neg (by omega)]
  refine pur ?_
  refine S.index (at0 (bs s) 1) 1 rfl rfl rfl rfl hc1 ?_
  refine pur ?_
  generalize hq : at0 (bs s) 1 = c at hc1
  refine Wp.branch rfl (fun h1 => ?_) (fun h1 => ?_)
  · have e1 : c = 110 := (toNat_eq _ 110 (by decide)).1 (of_decide_eq_true h1)
    refine pur ?_
    refine Wp.ret (Ret 0 rfl ⟨?_, rfl⟩)
    rw [if_pos e1]
  have n1 : ¬ c = 110 := fun e => by subst e; exact absurd h1 (by decide)
  rw [if_neg n1]
  refine pur ?_
  refine Wp.branch rfl (fun h2 => ?_) (fun h2 => ?_)
  · have e1 : c = 116 := (toNat_eq _ 116 (by decide)).1 (of_decide_eq_true h2)
    refine pur ?_
    refine Wp.ret (Ret 0 rfl ⟨?_, rfl⟩)
    rw [if_pos e1]
  have n2 : ¬ c = 116 := fun e => by subst e; exact absurd h2 (by decide)
  rw [if_neg n2]
  refine pur ?_
  refine Wp.branch rfl (fun h3 => ?_) (fun h3 => ?_)
  · have e1 : c = 92 := (toNat_eq _ 92 (by decide)).1 (of_decide_eq_true h3)
    refine pur ?_
    refine S.index c 1 rfl rfl rfl rfl hc1 ?_
    refine pur ?_
    refine Wp.ret (Ret 0 rfl ⟨?_, rfl⟩)
    rw [if_pos (.inl e1)]
  have n3 : ¬ c = 92 := fun e => by subst e; exact absurd h3 (by decide)
  refine pur ?_
  refine Wp.branch rfl (fun h4 => ?_) (fun h4 => ?_)
  · have e1 : c = 39 := (toNat_eq _ 39 (by decide)).1 (of_decide_eq_true h4)
    refine pur ?_
    refine S.index c 1 rfl rfl rfl rfl hc1 ?_
    refine pur ?_
    refine Wp.ret (Ret 0 rfl ⟨?_, rfl⟩)
    rw [if_pos (.inr (.inl e1))]
  have n4 : ¬ c = 39 := fun e => by subst e; exact absurd h4 (by decide)
  refine pur ?_
  refine Wp.branch rfl (fun h5 => ?_) (fun h5 => ?_)
  · have e1 : c = 34 := (toNat_eq _ 34 (by decide)).1 (of_decide_eq_true h5)
    refine pur ?_
    refine S.index c 1 rfl rfl rfl rfl hc1 ?_
    refine pur ?_
    refine Wp.ret (Ret 0 rfl ⟨?_, rfl⟩)
    rw [if_pos (.inr (.inr e1))]
  have n5 : ¬ c = 34 := fun e => by subst e; exact absurd h5 (by decide)
  rw [if_neg (by rintro (q | q | q); exact n3 q; exact n4 q; exact n5 q)]
  refine pur ?_
  refine Wp.branch rfl (fun h6 => ?_) (fun h6 => ?_)
  · have e1 : c = 120 := (toNat_eq _ 120 (by decide)).1 (of_decide_eq_true h6)
    refine pur ?_
    refine Wp.branch rfl (fun h7 => ?_) (fun h7 => ?_)
    · have hl4 : 4 ≤ (bs s).length := by have := of_decide_eq_true h7; omega
      refine pur ?_
      refine S.sliceS 2 4 rfl rfl (Bd.at 2 rfl (by infer_instance) (fun _ => rfl)) (Bd.at 4 rfl (by infer_instance) (fun _ => rfl)) ⟨by decide, hl4⟩ ?_
      have hs2 : bs (s.extract 2 4) = [at0 (bs s) 2, at0 (bs s) 3] := by
        rw [extract_ofL, bs_ofL]
        have e2 : (bs s).take 4 = (bs s).take 2 ++ [at0 (bs s) 2, at0 (bs s) 3] := by
          rw [List.take_add_one, List.take_add_one, at0_some (show 2 < (bs s).length by omega), at0_some (show 3 < (bs s).length by omega)]; simp
        rw [e2, List.drop_left' (by rw [List.length_take]; omega)]
      refine pur ?_
      refine WpO.call Tryz.call198 rfl rfl (spuint_ct _ _ _ hs2 L hE) fun v L' ⟨⟨z, e, e2, he⟩, e'⟩ => ⟨Keeps.none, ?_⟩
      subst e2; subst e'
      rw [hs2] at he
      by_cases hh : 0 ≤ hexF (at0 (bs s) 2) ∧ 0 ≤ hexF (at0 (bs s) 3)
      · have hp : puF [at0 (bs s) 2, at0 (bs s) 3] = some (16 * hexF (at0 (bs s) 2) + hexF (at0 (bs s) 3)) := if_pos hh
        rw [hp] at he
        obtain ⟨rfl, rfl⟩ := he
        have b2 := hexF_le (at0 (bs s) 2)
        have b3 := hexF_le (at0 (bs s) 3)
        refine pur ?_
        refine S.isNil rfl rfl rfl rfl ?_
        refine pur ?_
        refine Wp.ret (Ret 0 rfl ⟨?_, rfl⟩)
        rw [if_pos ⟨e1, by omega, hh⟩]
        have : IntKind.u8.wrap (16 * hexF (at0 (bs s) 2) + hexF (at0 (bs s) 3)) = 16 * hexF (at0 (bs s) 2) + hexF (at0 (bs s) 3) := IntWalk.u8_in _ ⟨by omega, by omega⟩
        rw [this]
      · have hp : puF [at0 (bs s) 2, at0 (bs s) 3] = none := if_neg hh
        rw [hp] at he
        obtain ⟨t, p, rfl⟩ := he
        refine pur ?_
        refine S.isNil rfl rfl rfl rfl ?_
        refine pur ?_
        refine Wp.ret (Ret 0 rfl ⟨?_, rfl⟩)
        rw [if_neg (fun q => hh q.2.2)]
    · have hl4 : ¬ 3 < (bs s).length := by have := of_decide_eq_false h7; omega
      refine pur ?_
      refine Wp.ret (Ret 0 rfl ⟨?_, rfl⟩)
      rw [if_neg (fun q => hl4 q.2.1)]
  · have n6 : ¬ c = 120 := fun e => by subst e; exact absurd h6 (by decide)
    refine pur ?_
    refine Wp.ret (Ret 0 rfl ⟨?_, rfl⟩)
    rw [if_neg (fun q => n6 q.1)]
end Go.Proofs.YtikgokpbhldlnaaGreatDoor
end

section
/- scan: quoted. -/
namespace Go.Proofs.YtikgokpbhldlnaaGreatDoor
open Go Go.Ab
attribute [local irreducible] Wp WpO Qt OpT Ct Ent

theorem at0_drop (l : List UInt8) (p i : Nat) : at0 (l.drop p) i = at0 l (p + i) := by
  unfold at0; simp [List.getD, List.getElem?_drop]
theorem written_drop (l : List UInt8) (p : Nat) (h : p < l.length) : writtenF (l.drop p) 0 = writtenF l p := by
  unfold writtenF
  rw [List.length_drop, at0_drop, at0_drop, at0_drop, at0_drop]
  simp only [Nat.add_zero, Nat.zero_add]
  rw [show decide (((l.length - p : Nat) : Int) ≤ ((0 : Nat) : Int)) = decide ((l.length : Int) ≤ (p : Int)) from decide_eq_decide.2 (by omega)]
  simp only [show (l.length - p ≤ 1) ↔ (l.length ≤ p + 1) from by omega, show (3 < l.length - p) ↔ (p + 3 < l.length) from by omega]
set_option maxHeartbeats 4000000 in
theorem quoted2_ct (b : Nat) (s : ByteArray) (p : Nat) (q : Option Addr × Nat) (ts : List Tok) (c : UInt8) (L : List Assn) (hE : ErrL L) (hp : p < (bs s).length) (hc : at0 (bs s) p = c) (hc2 : c = 39 ∨ c = 34) (hl : (bs s).length < 1073741823) (ht : ts.length < 1073741824) :
    Ct Tryz.prog 98 #[.pointer (some ⟨b, 0, none⟩), .int .u8 c.toNat] (xm b s p q ts L) (retP (fun v L' => (quotedF (bs s) p).2 ≠ 0 ∧ ∃ q', L' = xm b s (p + (quotedF (bs s) p).2) q' (ts ++ [(quotedF (bs s) p).1]) L) (fun v L' => (quotedF (bs s) p).2 = 0 ∧ v = .iface 78 (.int .i64 p) ∧ L' = L)) := by
  have hqf : quotedF (bs s) p = match quoL (bs s) c (bs s).length (p + 1) [] with
      | none => (tok0, 0)
      | some (b, n) => if (bs s).length ≤ n ∨ c = 39 ∧ b.length ≠ 1 then (tok0, 0) else if c = 39 then (⟨4, [], (b.headD 0).toNat, p⟩, n + 1 - p) else (⟨5, b, 0, p⟩, n + 1 - p) := by
    unfold quotedF; rw [hc]
    cases quoL (bs s) c (bs s).length (p + 1) [] <;> rfl
  generalize hR : quoL (bs s) c (bs s).length (p + 1) [] = R at hqf
  refine Ct.body Tryz.func98 rfl Tryz.ntmps98 Tryz.results98 rfl ?_
  refine pur ?_
  rw [show IntKind.i64.wrap ((p : Int) + 1) = ((p + 1 : Nat) : Int) from nat_add (b := 1) (by omega)]
  refine Wp.parts (L' := ownA 5 1 none 0 (u8s []) :: xm b s p q ts L) (fun k hk => Sat.ownNil hk) ?_
  refine Wp.loopI (α := Nat × List UInt8 × Option Addr × Nat) (p + 1, [], none, 0) (fun z => [(0, .v (.pointer (some ⟨b, 0, none⟩))), (1, .v (.int .u8 c.toNat)), (4, .v (.slice z.2.2.1 z.2.1.length z.2.2.2)), (5, .v (.int .i64 z.1))])
    (fun z => ownA 5 1 z.2.2.1 z.2.2.2 (u8s z.2.1) :: xm b s p q ts L) (fun z => (bs s).length - z.1)
    (fun z => p < z.1 ∧ z.1 ≤ (bs s).length ∧ z.2.1.length < z.1 ∧ ∃ f, (bs s).length ≤ z.1 + f ∧ quoL (bs s) c f z.1 z.2.1 = R) ⟨by simp only []; omega, hp, by simp, _, by simp only []; omega, hR⟩ ⟨rfl, rfl, rfl, rfl, trivial⟩ (LeL.refl _) ?_
  rintro ⟨n, acc, ba, bc⟩ ⟨hn0, hn1, hacc, f, hf, hq⟩
  simp only [] at hn0 hn1 hacc hf hq
  refine pur ?_
  refine Wp.branch rfl (fun h => ?_) (fun h => ?_)
  · have hlt : n < (bs s).length := by have := of_decide_eq_true h; omega
    obtain ⟨f, rfl⟩ : ∃ f', f = f' + 1 := ⟨f - 1, by omega⟩
    unfold quoL at hq
    rw [decide_eq_true (show (n : Int) < (bs s).length by omega), Bool.true_and] at hq
    refine pur ?_
    refine WpO.know (fun k q => own_know 0 rfl q) fun hkn => ?_
    refine S.index (at0 (bs s) n) n rfl rfl rfl rfl (at0_some hlt) ?_
    refine pur ?_
    refine Wp.branch rfl (fun h1 => ?_) (fun h1 => ?_)
    · have hqc : (at0 (bs s) n).toNat = c.toNat := by have := of_decide_eq_true h1; omega
      have hR2 : R = some (acc, n) := by rw [← hq, if_neg (by simp [hqc])]
      rw [hR2] at hqf
      simp only [] at hqf
      refine pur ?_
      refine Wp.branch rfl (fun h2 => ?_) (fun h2 => ?_)
      · have hc34 : c = 34 := (toNat_eq _ 34 (by decide)).1 (of_decide_eq_true h2)
        have hq1 : quotedF (bs s) p = (⟨5, acc, 0, p⟩, n + 1 - p) := by
          rw [hqf, if_neg (by rintro (q | ⟨q, _⟩); omega; rw [hc34] at q; cases q), if_neg (by rw [hc34]; decide)]
        rw [hq1]
        refine pur ?_
        refine Wp.draw rfl [0,1,2,3,4,5,6,7,8,9,10,11] 11 11 _ rfl (by decide +kernel) (fun _ h => h) ?_
        refine pur ?_
        refine S.bytesStr acc rfl rfl (Sl.own 0 rfl hkn) rfl ?_
        refine S.build rfl rfl rfl ?_
        refine pur ?_
        rw [show IntKind.i64.wrap (IntKind.i64.wrap ((n : Int) + 1) - (p : Int)) = ((n + 1 - p : Nat) : Int) from by rw [wrap_id (i := (n : Int) + 1) (by omega) (by omega), wrap_id (by omega) (by omega)]; omega]
        refine WpO.parts (fun _ q => q.tail) ?_
        refine WpO.call Tryz.call95 rfl rfl (put_ct b s p q ts 5 ⟨acc.toArray⟩ 0 (n + 1 - p) L (by omega) ht) fun v L' ⟨q', e⟩ => ⟨Keeps.last, ?_⟩
        subst e
        refine pur ?_
        exact Wp.ret (Ret 0 rfl ⟨by show n + 1 - p ≠ 0; omega, q', rfl⟩)
      · have hc39 : c = 39 := by
          rcases hc2 with q | q
          · exact q
          · subst q; exact absurd h2 (by decide)
        refine pur ?_
        refine Wp.branch rfl (fun h3 => ?_) (fun h3 => ?_)
        · have ha1 : acc.length = 1 := by
            have h3 : decide ((acc.length : Int) = 1) = true := h3
            have := of_decide_eq_true h3; omega
          obtain ⟨d, rfl⟩ : ∃ d, acc = [d] := List.length_eq_one_iff.1 ha1
          have hd := d.toNat_lt
          have hq1 : quotedF (bs s) p = (⟨4, [], (d.toNat : Int), p⟩, n + 1 - p) := by
            rw [hqf, if_neg (by rintro (q | ⟨_, q⟩); omega; exact q ha1), if_pos hc39]; rfl
          rw [hq1]
          obtain ⟨b2, o2, e2, _, hE2⟩ := (Sl.own (L := ownA 5 1 ba bc (u8s [d]) :: xm b s p q ts L) 0 rfl hkn).at (i := 0) (r := [.int .u8 (d.toNat : Int)]) rfl
          subst e2
          refine pur ?_
          refine Wp.draw rfl [0,1,2,3,4,5,6,7,8,9,10,11,12,13] 13 13 _ rfl (by decide +kernel) (fun _ h => h) ?_
          refine pur ?_
          refine S.idx 0 rfl rfl rfl rfl (Nat.zero_lt_one) ?_
          refine pur ?_
          refine S.build rfl rfl rfl ?_
          refine pur ?_
          rw [show IntKind.i64.wrap (IntKind.i64.wrap ((n : Int) + 1) - (p : Int)) = ((n + 1 - p : Nat) : Int) from by rw [wrap_id (i := (n : Int) + 1) (by omega) (by omega), wrap_id (by omega) (by omega)]; omega,
            wrap_id (i := (d.toNat : Int)) (by omega) (by omega)]
          refine WpO.parts (fun _ q => q.tail) ?_
          refine WpO.call Tryz.call95 rfl rfl (put_ct b s p q ts 4 ⟨#[]⟩ d.toNat (n + 1 - p) L (by omega) ht) fun v L' ⟨q', e⟩ => ⟨Keeps.last, ?_⟩
          subst e
          refine pur ?_
          exact Wp.ret (Ret 0 rfl ⟨by show n + 1 - p ≠ 0; omega, q', rfl⟩)
        · have ha1 : acc.length ≠ 1 := by
            have h3 : decide ((acc.length : Int) = 1) = false := h3
            have := of_decide_eq_false h3; omega
          have hq1 : quotedF (bs s) p = (tok0, 0) := by rw [hqf, if_pos (.inr ⟨hc39, ha1⟩)]
          rw [hq1]
          refine pur ?_
          refine S.mkiface concF rfl rfl ?_
          refine WpO.parts (LeL.drop 3 _) ?_
          exact WpO.panic rfl ⟨rfl, _, rfl, rfl, rfl, rfl⟩
    · have hqc : (at0 (bs s) n).toNat ≠ c.toNat := by have := of_decide_eq_false h1; omega
      rw [if_pos (by simp [hqc])] at hq
      have hw := writtenF_le (bs s) n
      refine pur ?_
      refine S.sliceS n (bs s).length rfl rfl (Bd.at n rfl (by infer_instance) (fun _ => rfl)) Bd.no ⟨hn1, Nat.le_refl _⟩ ?_
      rw [cut_drop]
      refine WpO.callq Tryz.call153 rfl rfl (written2_ct (ofL ((bs s).drop n)) (by rw [bs_ofL, List.length_drop]; omega) (by rw [bs_ofL, List.length_drop]; omega) _ hE.cons.cons.cons) Keeps.none ?_
      rw [bs_ofL, written_drop _ _ hlt]
      refine pur ?_
      refine Wp.branch rfl (fun h4 => ?_) (fun h4 => ?_)
      · have hw0 : (writtenF (bs s) n).2 = 0 := of_decide_eq_true h4
        rw [if_pos hw0] at hq
        have hq1 : quotedF (bs s) p = (tok0, 0) := by rw [hqf, ← hq]
        rw [hq1]
        refine pur ?_
        refine S.mkiface concF rfl rfl ?_
        refine WpO.parts (LeL.drop 3 _) ?_
        exact WpO.panic rfl ⟨rfl, _, rfl, rfl, rfl, rfl⟩
      · have hw0 : ¬ (writtenF (bs s) n).2 = 0 := of_decide_eq_false h4
        rw [if_neg hw0] at hq
        have hro : u8s acc ++ [[.int .u8 (writtenF (bs s) n).1]] = u8s (acc ++ [UInt8.ofNat (writtenF (bs s) n).1.toNat]) := by
          have : ((UInt8.ofNat (writtenF (bs s) n).1.toNat).toNat : Int) = (writtenF (bs s) n).1 := by
            rw [UInt8.toNat_ofNat_of_lt' (by show _ < 256; omega)]; omega
          simp only [u8s, List.map_append, List.map_cons, List.map_nil, this]
        refine pur ?_
        refine WpO.buildSlice rfl rfl rfl rfl rfl rfl rfl (fun _ => Keeps.none) fun b9 => ?_
        refine pur ?_
        refine WpO.appendLit 0 [[.int .u8 (writtenF (bs s) n).1]] rfl rfl rfl rfl (by simp [u8s]) rfl rfl rfl rfl rfl rfl rfl (by simp [u8s]; omega) (fun _ _ => Keeps.none) fun a3 k3 => ?_
        rw [hro]
        refine pur ?_
        refine Round.mk (n + (writtenF (bs s) n).2.toNat, acc ++ [UInt8.ofNat (writtenF (bs s) n).1.toNat], a3, k3) (by simp only []; omega) ⟨by simp only []; omega, by simp only []; omega, by simp only [List.length_append, List.length_cons, List.length_nil]; omega, f, by simp only []; omega, hq⟩ ⟨rfl, rfl, by simp [u8s]; rfl, ?_, trivial⟩ (LeL.refl _)
        show some (AV.v (.int .i64 (IntKind.i64.wrap ((n : Int) + (writtenF (bs s) n).2)))) = some (AV.v (.int .i64 ((n + (writtenF (bs s) n).2.toNat : Nat) : Int)))
        rw [wrap_id (by omega) (by omega)]
        congr 3; omega
  · have hge : (bs s).length ≤ n := by have := of_decide_eq_false h; omega
    have hR2 : R = some (acc, n) := by
      rw [← hq]
      cases f with
      | zero => rfl
      | succ f => unfold quoL; rw [if_neg]; rw [decide_eq_false (by omega)]; simp
    have hq1 : quotedF (bs s) p = (tok0, 0) := by rw [hqf, hR2]; simp only []; rw [if_pos (.inl hge)]
    rw [hq1]
    refine pur ?_
    refine S.mkiface concF rfl rfl ?_
    refine WpO.parts (LeL.drop 3 _) ?_
    exact WpO.panic rfl ⟨rfl, _, rfl, rfl, rfl, rfl⟩
end Go.Proofs.YtikgokpbhldlnaaGreatDoor
end

section
/- scan: token. -/
namespace Go.Proofs.YtikgokpbhldlnaaGreatDoor
open Go Go.Ab
attribute [local irreducible] Wp WpO Qt OpT Ct Ent

theorem am_marks (l : List UInt8) : amF l marksT = decide (l ∈ isMarkL) := am_words (by decide +kernel) (by decide +kernel) l
def one8 : List UInt8 := [40, 41, 91, 93, 123, 125, 44, 59]
theorem byte_sym_all : ∀ n : Fin 256, symB (UInt8.ofNat n) = true → ¬ UInt8.ofNat n ∈ one8 := by decide +kernel
theorem byte_one_all : ∀ n : Fin 256, (smallB (UInt8.ofNat n) || largeB (UInt8.ofNat n)) = false → symB (UInt8.ofNat n) = false → decide ([UInt8.ofNat n] ∈ isMarkL) = decide (UInt8.ofNat n ∈ one8) := by decide +kernel
theorem byte_sym (c : UInt8) (h : symB c = true) : ¬ c ∈ one8 := by
  have := byte_sym_all ⟨c.toNat, c.toNat_lt⟩
  simp only [UInt8.ofNat_toNat] at this; exact this h
theorem byte_one (c : UInt8) (h1 : (smallB c || largeB c) = false) (h2 : symB c = false) : decide ([c] ∈ isMarkL) = decide (c ∈ one8) := by
  have := byte_one_all ⟨c.toNat, c.toNat_lt⟩
  simp only [UInt8.ofNat_toNat] at this; exact this h1 h2
theorem take_drop_add (l : List UInt8) (p m : Nat) : (l.take (p + m)).drop p = (l.drop p).take m := by
  rw [List.drop_take, Nat.add_sub_cancel_left]
theorem head_cut (s : ByteArray) (p m : Nat) : bs ((ofL ((bs s).drop p)).extract 0 m) = ((bs s).take (p + m)).drop p := by
  rw [extract_ofL, bs_ofL, bs_ofL, List.drop_zero, take_drop_add]
theorem inner_of (c : UInt8) (h : (smallB c || largeB c) = true) : innerB c = true := by
  unfold innerB; rw [h, Bool.true_or, Bool.true_or]
set_option maxHeartbeats 8000000 in
theorem stoken_ct (b : Nat) (s : ByteArray) (p : Nat) (q : Option Addr × Nat) (ts : List Tok) (L : List Assn) (hE : ErrL L) (hp : p < (bs s).length) (hl : (bs s).length < 1073741823) (ht : ts.length < 1073741824) :
    Ct Tryz.prog 48 #[.pointer (some ⟨b, 0, none⟩)] (xm b s p q ts L) (retP (fun v L' => (tokenF (bs s) p).2 ≠ 0 ∧ ∃ q', L' = xm b s (p + (tokenF (bs s) p).2) q' (ts ++ [(tokenF (bs s) p).1]) L) (fun v L' => (tokenF (bs s) p).2 = 0 ∧ v = .iface 78 (.int .i64 p) ∧ L' = L)) := by
  refine Ct.body Tryz.func48 rfl Tryz.ntmps48 Tryz.results48 rfl ?_
  have hdl : (bs (ofL ((bs s).drop p))).length < 1073741824 := by rw [bs_ofL, List.length_drop]; omega
  refine pur ?_
  refine Wp.draw rfl [0,1,2,3,4,5,6,7,8,9] 10 10 _ rfl (by decide +kernel) (fun _ h => h) ?_
  refine pur ?_
  refine S.index (at0 (bs s) p) p rfl rfl rfl rfl (at0_some hp) ?_
  refine pur ?_
  generalize hc : at0 (bs s) p = c
  refine WpO.callq Tryz.call92 rfl rfl (isSmall_ct c _) Keeps.none ?_
  refine pur ?_
  refine WpO.callqg Tryz.call93 rfl rfl (.cons rfl (by infer_instance) .nil) (fun _ => isLarge_ct c _) Keeps.none ?_
  refine pur ?_
  refine Wp.branch rfl (fun h => ?_) (fun h => ?_)
  · have hm1 : twL innerB (bs s) p = twL innerB (bs s) (p + 1) + 1 := twL_step hp (by rw [hc]; exact inner_of c h)
    have hm2 := twL_le innerB (bs s) p (by omega)
    have htk : tokenF (bs s) p = if nameF (((bs s).take (p + twL innerB (bs s) p)).drop p) = 0 then (tok0, 0) else (⟨nameF (((bs s).take (p + twL innerB (bs s) p)).drop p), ((bs s).take (p + twL innerB (bs s) p)).drop p, 0, p⟩, twL innerB (bs s) p) := by
      unfold tokenF
      simp only [hc]
      rw [if_pos h, show p + 1 + twL innerB (bs s) (p + 1) = p + twL innerB (bs s) p from by omega, Nat.add_sub_cancel_left]
    rw [htk]
    refine pur ?_
    refine WpO.callq Tryz.call88 rfl rfl (rest_ct b s p q ts L (by omega)) Keeps.none ?_
    refine pur ?_
    refine WpO.callq Tryz.call88 rfl rfl (rest_ct b s p q ts L (by omega)) Keeps.none ?_
    refine WpO.callq Tryz.call87 rfl rfl (span_ct (ofL ((bs s).drop p)) 94 innerB _ Tryz.call94 (fun c => isInner_ct c _) hdl) Keeps.none ?_
    rw [bs_ofL, drop_tw]
    refine S.sliceS 0 (twL innerB (bs s) p) rfl rfl Bd.no (Bd.at _ rfl (by infer_instance) (fun _ => rfl)) ⟨Nat.zero_le _, by rw [bs_ofL, List.length_drop]; omega⟩ ?_
    have hb := head_cut s p (twL innerB (bs s) p)
    generalize (ofL ((bs s).drop p)).extract 0 (twL innerB (bs s) p) = tx at hb
    have hbl : (bs tx).length = twL innerB (bs s) p := by rw [hb, List.length_drop, List.length_take]; omega
    rw [← hb]
    refine pur ?_
    refine WpO.callq Tryz.call82 rfl rfl (name_ct tx _ (by omega)) Keeps.none ?_
    refine pur ?_
    refine Wp.branch rfl (fun h1 => ?_) (fun h1 => ?_)
    · have hk : nameF (bs tx) = 0 := of_decide_eq_true h1
      rw [if_pos hk]
      refine pur ?_
      refine S.mkiface concF rfl rfl ?_
      refine WpO.parts (LeL.drop 2 _) ?_
      exact WpO.panic rfl ⟨rfl, _, rfl, rfl, rfl, rfl⟩
    · have hk : ¬ nameF (bs tx) = 0 := of_decide_eq_false h1
      rw [if_neg hk]
      refine pur ?_
      refine S.build rfl rfl rfl ?_
      refine pur ?_
      rw [hbl]
      refine WpO.call Tryz.call95 rfl rfl (put_ct b s p q ts (nameF (bs tx)) tx 0 (twL innerB (bs s) p) L (by omega) ht) fun v L' ⟨q', e⟩ => ⟨Keeps.none, ?_⟩
      subst e
      refine pur ?_
      exact RetN 0 rfl ⟨by show twL innerB (bs s) p ≠ 0; omega, q', rfl⟩
  refine pur ?_
  refine WpO.callq Tryz.call96 rfl rfl (isDigit_ct c _) Keeps.none ?_
  refine pur ?_
  refine Wp.branch rfl (fun h2 => ?_) (fun h2 => ?_)
  · have hm1 : twL digitB (bs s) p = twL digitB (bs s) (p + 1) + 1 := twL_step hp (by rw [hc]; exact h2)
    have hm2 := twL_le digitB (bs s) p (by omega)
    have htk : tokenF (bs s) p = numberF (bs s) p := by
      unfold tokenF
      simp only [hc]
      rw [if_neg (by rw [h]; decide), if_pos h2]
    rw [htk]
    refine pur ?_
    refine WpO.callq Tryz.call88 rfl rfl (rest_ct b s p q ts L (by omega)) Keeps.none ?_
    refine pur ?_
    refine WpO.callq Tryz.call88 rfl rfl (rest_ct b s p q ts L (by omega)) Keeps.none ?_
    refine WpO.callq Tryz.call87 rfl rfl (span_ct (ofL ((bs s).drop p)) 96 digitB _ Tryz.call96 (fun c => isDigit_ct c _) hdl) Keeps.none ?_
    rw [bs_ofL, drop_tw]
    refine S.sliceS 0 (twL digitB (bs s) p) rfl rfl Bd.no (Bd.at _ rfl (by infer_instance) (fun _ => rfl)) ⟨Nat.zero_le _, by rw [bs_ofL, List.length_drop]; omega⟩ ?_
    have hb : bs ((ofL ((bs s).drop p)).extract 0 (twL digitB (bs s) p)) = ((bs s).drop p).takeWhile digitB := by
      rw [extract_ofL, bs_ofL, bs_ofL, List.drop_zero]
      exact List.prefix_iff_eq_take.1 (List.takeWhile_prefix digitB) |>.symm
    generalize (ofL ((bs s).drop p)).extract 0 (twL digitB (bs s) p) = tx at hb
    have hbl : (bs tx).length = twL digitB (bs s) p := by rw [hb]; rfl
    refine pur ?_
    refine WpO.call Tryz.call97 rfl rfl (pint_ct tx _ hE.cons.cons (fun e => by rw [e] at hbl; simp only [List.length_nil] at hbl; omega) (fun x hx => by rw [hb] at hx; exact List.all_eq_true.1 (List.all_takeWhile (p := digitB)) x hx) (by omega)) fun v L' ⟨⟨z, e, e1, he⟩, e'⟩ => ⟨Keeps.none, ?_⟩
    subst e1; subst e'
    rw [hb] at he
    unfold numberF
    cases hn : numL (((bs s).drop p).takeWhile digitB) 0 with
    | none =>
      rw [hn] at he
      obtain ⟨t, pp, rfl⟩ := he
      simp only []
      refine pur ?_
      refine S.isNil rfl rfl rfl rfl ?_
      refine pur ?_
      refine S.mkiface concF rfl rfl ?_
      refine WpO.parts (LeL.drop 2 _) ?_
      exact WpO.panic rfl ⟨rfl, _, rfl, trivial, rfl, rfl⟩
    | some u =>
      rw [hn] at he
      obtain ⟨rfl, rfl⟩ := he
      simp only []
      refine pur ?_
      refine S.isNil rfl rfl rfl rfl ?_
      refine pur ?_
      refine S.build rfl rfl rfl ?_
      refine pur ?_
      rw [hbl]
      refine WpO.call Tryz.call95 rfl rfl (put_ct b s p q ts 3 ⟨#[]⟩ u (twL digitB (bs s) p) L (by omega) ht) fun v L' ⟨q', e⟩ => ⟨Keeps.none, ?_⟩
      subst e
      refine pur ?_
      exact RetN 0 rfl ⟨by show twL digitB (bs s) p ≠ 0; omega, q', rfl⟩
  refine pur ?_
  have hqu : (decide ((c.toNat : Int) = 39) || decide ((c.toNat : Int) = 34)) = decide (c = 39 ∨ c = 34) := by
    rw [Bool.decide_or, show decide ((c.toNat : Int) = 39) = decide (c = 39) from decide_eq_decide.2 (toNat_eq c 39 (by decide)), show decide ((c.toNat : Int) = 34) = decide (c = 34) from decide_eq_decide.2 (toNat_eq c 34 (by decide))]
  rw [hqu]
  refine Wp.branch rfl (fun h3 => ?_) (fun h3 => ?_)
  · have hc2 : c = 39 ∨ c = 34 := of_decide_eq_true h3
    have htk : tokenF (bs s) p = quotedF (bs s) p := by
      unfold tokenF
      simp only [hc]
      rw [if_neg (by rw [h]; decide), if_neg (by rw [h2]; decide), if_pos hc2]
    rw [htk]
    refine pur ?_
    refine WpO.callP Tryz.call98 rfl rfl (quoted2_ct b s p q ts c L hE hp hc hc2 hl ht) (fun v L' e => ⟨rfl, v, rfl, e⟩) fun v L' ⟨e1, q', e2⟩ => ⟨Keeps.none, ?_⟩
    subst e2
    refine pur ?_
    exact RetN 0 rfl ⟨e1, q', rfl⟩
  have hc2 : ¬ (c = 39 ∨ c = 34) := of_decide_eq_false h3
  have htk : tokenF (bs s) p = if c ∈ one8 then (⟨7, ((bs s).take (p + 1)).drop p, 0, p⟩, 1)
    else if symB c = true then
      if amF (((bs s).take (p + 1 + twL symB (bs s) (p + 1))).drop p) marksT = true then (⟨7, ((bs s).take (p + 1 + twL symB (bs s) (p + 1))).drop p, 0, p⟩, p + 1 + twL symB (bs s) (p + 1) - p) else
      if amF (((bs s).take (p + 1 + twL symB (bs s) (p + 1))).drop p) opsT = true then (⟨8, ((bs s).take (p + 1 + twL symB (bs s) (p + 1))).drop p, 0, p⟩, p + 1 + twL symB (bs s) (p + 1) - p) else (tok0, 0)
    else (tok0, 0) := by
    unfold tokenF
    simp only [hc]
    rw [if_neg (by rw [h]; decide), if_neg (by rw [h2]; decide), if_neg hc2]; rfl
  rw [htk]
  refine pur ?_
  refine WpO.callq Tryz.call99 rfl rfl (isSym_ct c _) Keeps.none ?_
  refine pur ?_
  refine Wp.branch rfl (fun h4 => ?_) (fun h4 => ?_)
  · rw [if_neg (byte_sym c h4), if_pos h4]
    have hm1 : twL symB (bs s) p = twL symB (bs s) (p + 1) + 1 := twL_step hp (by rw [hc]; exact h4)
    have hm2 := twL_le symB (bs s) p (by omega)
    rw [show p + 1 + twL symB (bs s) (p + 1) = p + twL symB (bs s) p from by omega, Nat.add_sub_cancel_left]
    refine pur ?_
    refine WpO.callq Tryz.call88 rfl rfl (rest_ct b s p q ts L (by omega)) Keeps.none ?_
    refine pur ?_
    refine WpO.callq Tryz.call88 rfl rfl (rest_ct b s p q ts L (by omega)) Keeps.none ?_
    refine WpO.callq Tryz.call87 rfl rfl (span_ct (ofL ((bs s).drop p)) 99 symB _ Tryz.call99 (fun c => isSym_ct c _) hdl) Keeps.none ?_
    rw [bs_ofL, drop_tw]
    refine S.sliceS 0 (twL symB (bs s) p) rfl rfl Bd.no (Bd.at _ rfl (by infer_instance) (fun _ => rfl)) ⟨Nat.zero_le _, by rw [bs_ofL, List.length_drop]; omega⟩ ?_
    have hb := head_cut s p (twL symB (bs s) p)
    generalize (ofL ((bs s).drop p)).extract 0 (twL symB (bs s) p) = tx at hb
    have hbl : (bs tx).length = twL symB (bs s) p := by rw [hb, List.length_drop, List.length_take]; omega
    rw [← hb, am_marks, am_ops]
    refine pur ?_
    refine WpO.callq Tryz.call100 rfl rfl (isMark2_ct tx _) Keeps.none ?_
    refine pur ?_
    refine Wp.branch rfl (fun h5 => ?_) (fun h5 => ?_)
    · rw [if_pos h5]
      refine pur ?_
      refine S.build rfl rfl rfl ?_
      refine pur ?_
      rw [hbl]
      refine WpO.call Tryz.call95 rfl rfl (put_ct b s p q ts 7 tx 0 (twL symB (bs s) p) L (by omega) ht) fun v L' ⟨q', e⟩ => ⟨Keeps.none, ?_⟩
      subst e
      refine pur ?_
      exact RetN 0 rfl ⟨by show twL symB (bs s) p ≠ 0; omega, q', rfl⟩
    rw [if_neg (by rw [h5]; decide)]
    refine pur ?_
    refine WpO.callq Tryz.call101 rfl rfl (isOp2_ct tx _) Keeps.none ?_
    refine pur ?_
    refine Wp.branch rfl (fun h6 => ?_) (fun h6 => ?_)
    · rw [if_pos h6]
      refine pur ?_
      refine S.build rfl rfl rfl ?_
      refine pur ?_
      rw [hbl]
      refine WpO.call Tryz.call95 rfl rfl (put_ct b s p q ts 8 tx 0 (twL symB (bs s) p) L (by omega) ht) fun v L' ⟨q', e⟩ => ⟨Keeps.none, ?_⟩
      subst e
      refine pur ?_
      exact RetN 0 rfl ⟨by show twL symB (bs s) p ≠ 0; omega, q', rfl⟩
    · rw [if_neg (by rw [h6]; decide)]
      refine pur ?_
      refine S.mkiface concF rfl rfl ?_
      refine WpO.parts (LeL.drop 2 _) ?_
      exact WpO.panic rfl ⟨rfl, _, rfl, rfl, rfl, rfl⟩
  have h1c := byte_one c h h4
  have hcut : ((bs s).take (p + 1)).drop p = [c] := by
    rw [take_drop_add, List.drop_eq_getElem_cons hp]
    have := at0_some hp
    rw [List.getElem?_eq_getElem hp, hc] at this
    simp only [Option.some.injEq] at this
    rw [this]; rfl
  rw [hcut, if_neg (show ¬ symB c = true by rw [h4]; decide)]
  refine pur ?_
  refine WpO.buildSlice rfl rfl rfl rfl rfl rfl rfl (fun _ => Keeps.none) fun b1 => ?_
  refine S.bytesStr [c] rfl rfl (Sl.ofPt (e := 5) 0 rfl rfl (by simp [u8s]) (Nat.le_refl 1)) rfl ?_
  refine WpO.callq Tryz.call100 rfl rfl (isMark2_ct _ _) Keeps.none ?_
  rw [show decide (bs ⟨[c].toArray⟩ ∈ isMarkL) = decide (c ∈ one8) from h1c]
  refine pur ?_
  refine Wp.branch rfl (fun h5 => ?_) (fun h5 => ?_)
  · have h5' : c ∈ one8 := of_decide_eq_true h5
    rw [if_pos h5']
    refine pur ?_
    refine WpO.buildSlice rfl rfl rfl rfl rfl rfl rfl (fun _ => Keeps.none) fun b2 => ?_
    refine S.bytesStr [c] rfl rfl (Sl.ofPt (e := 5) 0 rfl rfl (by simp [u8s]) (Nat.le_refl 1)) rfl ?_
    refine S.build rfl rfl rfl ?_
    refine WpO.parts (LeL.drop 2 _) ?_
    refine WpO.call Tryz.call95 rfl rfl (put_ct b s p q ts 7 ⟨[c].toArray⟩ 0 1 L (by omega) ht) fun v L' ⟨q', e⟩ => ⟨Keeps.none, ?_⟩
    subst e
    refine pur ?_
    exact RetN 0 rfl ⟨by show 1 ≠ 0; omega, q', rfl⟩
  · have h5' : ¬ c ∈ one8 := of_decide_eq_false h5
    rw [if_neg h5']
    refine pur ?_
    refine S.mkiface concF rfl rfl ?_
    refine WpO.parts (LeL.drop 3 _) ?_
    exact WpO.panic rfl ⟨rfl, _, rfl, rfl, rfl, rfl⟩
end Go.Proofs.YtikgokpbhldlnaaGreatDoor
end

section
/- The plain law of scan.Tokens: skipping and reading tokens comes to tokensF. -/
namespace Go.Proofs.YtikgokpbhldlnaaGreatDoor
open Go Go.Ab

theorem loopT_fuel {l : List UInt8} : ∀ (f g a : Nat) (acc : List Tok), l.length ≤ a + f → l.length ≤ a + g → loopT l f a acc = loopT l g a acc
  | 0, 0, _, _, _, _ => rfl
  | 0, g + 1, a, acc, h1, _ => by rw [loopT, loopT, if_pos (by omega)]
  | f + 1, 0, a, acc, _, h2 => by rw [loopT, loopT, if_pos (by omega)]
  | f + 1, g + 1, a, acc, h1, h2 => by
    rw [loopT, loopT]
    split
    · rfl
    split
    · exact loopT_fuel f g _ _ (by omega) (by omega)
    split
    · rfl
    split
    · exact loopT_fuel f g _ _ (by omega) (by omega)
    split
    · rfl
    · exact loopT_fuel f g _ _ (by omega) (by omega)
/-- What comes from place a on, behind these tokens. -/
def tt (l : List UInt8) (a : Nat) (acc : List Tok) : List Tok × Int × Int := loopT l (l.length + 1) a acc
theorem tt_end {l : List UInt8} {a : Nat} {acc : List Tok} (h : l.length ≤ a) : tt l a acc = (acc, 0, 0) := by
  unfold tt; rw [loopT, if_pos h]
theorem tt_step {l : List UInt8} {a : Nat} {acc : List Tok} (h : a < l.length) : tt l a acc =
    if at0 l a ∈ [(32 : UInt8), 9, 10, 13] then tt l (a + 1) acc else
    if commentF l a < 0 then ([], a, 8) else
    if (a : Int) < commentF l a then tt l (commentF l a).toNat acc else
    if (tokenF l a).2 = 0 then ([], a, 8) else tt l (a + (tokenF l a).2) (acc ++ [(tokenF l a).1]) := by
  unfold tt
  rw [loopT, if_neg (by omega)]
  split
  · exact loopT_fuel _ _ _ _ (by omega) (by omega)
  split
  · rfl
  split
  · exact loopT_fuel _ _ _ _ (by omega) (by omega)
  split
  · rfl
  · exact loopT_fuel _ _ _ _ (by omega) (by omega)
theorem tt_blank {l : List UInt8} {acc : List Tok} : ∀ (k a : Nat), twL blankB l a = k → a ≤ l.length → tt l a acc = tt l (a + twL blankB l a) acc
  | 0, a, h, _ => by rw [h]; rfl
  | k + 1, a, h, ha => by
    have hlt : a < l.length := by
      rcases Nat.lt_or_ge a l.length with q | q
      · exact q
      · have := twL_stop (p := blankB) (l := l) (n := a) (fun e => by omega); omega
    have hb : blankB (at0 l a) = true := by
      cases hh : blankB (at0 l a) with
      | true => rfl
      | false => have := twL_stop (p := blankB) (l := l) (n := a) (fun _ => hh); omega
    have hs := twL_step (p := blankB) hlt hb
    have ih := tt_blank (l := l) (acc := acc) k (a + 1) (by omega) (by omega)
    rw [tt_step hlt, if_pos (of_decide_eq_true hb), ih, hs]
    congr 1; omega
theorem dash_not {l : List UInt8} {a : Nat} (h : 1 ≤ twL dash l a) (ha : a ≤ l.length) : a < l.length ∧ at0 l a = 45 := by
  have hlt : a < l.length := by
    rcases Nat.lt_or_ge a l.length with q | q
    · exact q
    · have := twL_stop (p := dash) (l := l) (n := a) (fun e => by omega); omega
  have hb : dash (at0 l a) = true := by
    cases hh : dash (at0 l a) with
    | true => rfl
    | false => have := twL_stop (p := dash) (l := l) (n := a) (fun _ => hh); omega
  exact ⟨hlt, (toNat_eq _ 45 (by decide)).1 (of_decide_eq_true hb)⟩
theorem comment_line {l : List UInt8} {a : Nat} : commentF l a = if (decide (a + 2 ≤ a + twL dash l a) && (decide (a + twL dash l a = l.length) || !symB (at0 l (a + twL dash l a)))) = true then ((a + twL dash l a + twL noNl l (a + twL dash l a) : Nat) : Int) else nestedF l a := by
  unfold commentF nestedF
  simp only []
  rw [show decide (((a + 2 : Nat) : Int) ≤ ((a + twL dash l a : Nat) : Int)) = decide (a + 2 ≤ a + twL dash l a) from decide_eq_decide.2 (by omega),
    show decide (((a + twL dash l a : Nat) : Int) = (l.length : Int)) = decide (a + twL dash l a = l.length) from decide_eq_decide.2 (by omega)]
  split
  · rfl
  · have hp := pre2 123 45 l a
    by_cases h : preF [123, 45] (l.drop a) = true
    · have h2 := hp.1 h
      rw [if_neg, if_pos h]
      simp only [Bool.or_eq_true, decide_eq_true_eq, Bool.not_eq_true', decide_eq_false_iff_not, not_or, Classical.not_not]
      refine ⟨⟨by omega, by rw [h2.2.1]; rfl⟩, by rw [h2.2.2]; rfl⟩
    · rw [if_neg h, if_pos]
      simp only [Bool.or_eq_true, decide_eq_true_eq, Bool.not_eq_true', decide_eq_false_iff_not]
      by_cases q1 : a + 1 < l.length
      · by_cases q2 : at0 l a = 123
        · right
          intro e
          exact h (hp.2 ⟨q1, q2, (toNat_eq _ 45 (by decide)).1 e⟩)
        · left; right
          intro e
          exact q2 ((toNat_eq _ 123 (by decide)).1 e)
      · left; left; omega
theorem tt_line {l : List UInt8} {a : Nat} {acc : List Tok} (ha : a ≤ l.length) : tt l a acc = tt l (lineF l a) acc := by
  unfold lineF
  simp only []
  split
  · rename_i h
    have h1 : 2 ≤ twL dash l a := by
      rw [Bool.and_eq_true, decide_eq_true_eq] at h; omega
    obtain ⟨hlt, hb⟩ := dash_not (l := l) (a := a) (by omega) ha
    have hc : commentF l a = ((a + twL dash l a + twL noNl l (a + twL dash l a) : Nat) : Int) := by rw [comment_line, if_pos h]
    rw [tt_step hlt, if_neg (by rw [hb]; decide), hc, if_neg (by omega), if_pos (by omega)]
    rfl
  · rfl
theorem tt_nested {l : List UInt8} {a : Nat} {acc : List Tok} (ha : a ≤ l.length) : tt l a acc = if nestedF l a < 0 then (([], (a : Int), 8) : List Tok × Int × Int) else tt l (nestedF l a).toNat acc := by
  by_cases h : preF [123, 45] (l.drop a) = true
  · have h2 := (pre2 123 45 l a).1 h
    have hlt : a < l.length := by omega
    have hd : twL dash l a = 0 := twL_stop fun _ => by rw [h2.2.1]; decide
    have hc : commentF l a = nestedF l a := by rw [comment_line, if_neg]; rw [hd, decide_eq_false (by omega)]; simp
    rw [tt_step hlt, if_neg (by rw [h2.2.1]; decide), hc]
    split
    · rfl
    · rename_i h0
      have hge : (a : Int) < nestedF l a := by
        unfold nestedF at h0 ⊢
        rw [if_pos h] at h0 ⊢
        have := nestF_ge _ _ _ (show 0 ≤ nestF l l.length 1 (a + 2) by omega); omega
      rw [if_pos hge]
  · have hn : nestedF l a = a := by unfold nestedF; rw [if_neg h]
    rw [hn, if_neg (by omega)]; rfl
theorem tt_skip {l : List UInt8} {acc : List Tok} : ∀ (f a : Nat), a ≤ l.length → l.length < a + f → match skipF l f a with
    | .ok a' => tt l a acc = tt l a' acc ∧ a' ≤ l.length ∧ skip1 l a' = a' ∧ nestedF l a' = a'
    | .error a' => tt l a acc = ([], (a' : Int), 8)
  | 0, a, h1, h2 => by omega
  | f + 1, a, h1, h2 => by
    have hs := skip1_le h1
    have hb := twL_le blankB l a h1
    have e1 : tt l a acc = tt l (skip1 l a) acc := by rw [tt_blank _ a rfl h1, tt_line hb]; rfl
    have e2 := tt_nested (acc := acc) hs.2
    rw [skipF]
    by_cases h0 : nestedF l (skip1 l a) < 0
    · rw [if_pos h0]; rw [if_pos h0] at e2
      simp only []
      rw [e1, e2]
    · rw [if_neg h0]; rw [if_neg h0] at e2
      have hn := nestedF_le hs.2 (by omega)
      by_cases h3 : (nestedF l (skip1 l a)).toNat = a
      · rw [if_pos h3]
        simp only []
        have h4 : skip1 l a = a := by omega
        refine ⟨trivial, h1, h4, ?_⟩
        rw [h4] at h3 hn; omega
      · rw [if_neg h3]
        have ih := tt_skip (l := l) (acc := acc) f (nestedF l (skip1 l a)).toNat (by omega) (by omega)
        cases hk : skipF l f (nestedF l (skip1 l a)).toNat with
        | ok a' => rw [hk] at ih; simp only [] at ih ⊢; rw [e1, e2]; exact ih
        | error a' => rw [hk] at ih; simp only [] at ih ⊢; rw [e1, e2]; exact ih
theorem tt_token {l : List UInt8} {a : Nat} {acc : List Tok} (h : a < l.length) (h1 : skip1 l a = a) (h2 : nestedF l a = a) : tt l a acc = if (tokenF l a).2 = 0 then (([], (a : Int), 8) : List Tok × Int × Int) else tt l (a + (tokenF l a).2) (acc ++ [(tokenF l a).1]) := by
  have hb := twL_le blankB l a (by omega)
  have hl := lineF_le hb
  have hb0 : twL blankB l a = 0 := by unfold skip1 at h1; omega
  have hnb : ¬ at0 l a ∈ [(32 : UInt8), 9, 10, 13] := fun q => by
    have := twL_step (p := blankB) h (decide_eq_true q); omega
  have hl0 : lineF l a = a := by unfold skip1 at h1; rw [hb0] at h1; exact h1
  have hc : commentF l a = a := by
    rw [comment_line]
    split
    · rename_i hh
      unfold lineF at hl0
      simp only [] at hl0
      rw [if_pos hh] at hl0
      omega
    · exact h2
  rw [tt_step h, if_neg hnb, hc, if_neg (by omega), if_neg (by omega)]
theorem tokensF_tt (l : List UInt8) : tokensF l = if 8000 < l.length then ([], 0, 11) else tt l 0 [] := by
  unfold tokensF tt
  split
  · rfl
  · exact loopT_fuel _ _ _ _ (by omega) (by omega)
end Go.Proofs.YtikgokpbhldlnaaGreatDoor
end

section
/- scan: Tokens. -/
namespace Go.Proofs.YtikgokpbhldlnaaGreatDoor
open Go Go.Ab
attribute [local irreducible] Wp WpO WpE Qt OpT Ct Ent

/-- The three results of Tokens lie in memory. -/
@[reducible] def t3m (b2 b3 b4 : Nat) (v : Value) (p e : Int) (L : List Assn) : List Assn :=
  ptA b4 26 [.int .i64 e] :: ptA b3 3 [.int .i64 p] :: ptA b2 44 [v] :: L
theorem tok_rec (b2 b3 b4 : Nat) (v : Value) (p0 e0 p : Int) (L : List Assn) :
    CtD Tryz.prog 46 #[.pointer (some ⟨b2, 0, none⟩), .pointer (some ⟨b3, 0, none⟩), .pointer (some ⟨b4, 0, none⟩)] (.panicking [{ v := .iface 78 (.int .i64 p), recovered := false }]) (t3m b2 b3 b4 v p0 e0 L)
      (fun e u L' => e = .returned (.tuple #[]) ∧ u = .panicking [{ v := .iface 78 (.int .i64 p), recovered := true }] ∧ L' = t3m b2 b3 b4 (.slice none 0 0) p 8 L) := by
  refine CtD.panicking Tryz.func46 rfl Tryz.ntmps46 rfl rfl rfl ?_
  refine pur ?_
  refine S.isNil rfl rfl rfl rfl ?_
  refine pur ?_
  refine S.assert rfl rfl ?_
  refine pur ?_
  exact RetN 0 rfl rfl
theorem tok_ret (b2 b3 b4 : Nat) (L : List Assn) :
    CtD Tryz.prog 46 #[.pointer (some ⟨b2, 0, none⟩), .pointer (some ⟨b3, 0, none⟩), .pointer (some ⟨b4, 0, none⟩)] .returning L (fun e u L' => e = .returned (.tuple #[]) ∧ u = .returning ∧ L' = L) := by
  refine CtD.returning Tryz.func46 rfl Tryz.ntmps46 rfl rfl rfl ?_
  refine pur ?_
  refine S.isNil rfl rfl rfl rfl ?_
  refine pur ?_
  exact RetN 0 rfl rfl
theorem skipF_ge {l : List UInt8} : ∀ (f a b : Nat), a ≤ l.length → skipF l f a = .ok b → a ≤ b
  | 0, a, b, _, h => by rw [skipF] at h; cases h; exact Nat.le_refl _
  | f + 1, a, b, ha, h => by
    have hs := skip1_le ha
    rw [skipF] at h
    split at h
    · cases h
    · rename_i h0
      have hn := nestedF_le hs.2 (by omega)
      split at h
      · cases h; exact Nat.le_refl _
      · have := skipF_ge f _ b (by omega) h; omega
set_option maxHeartbeats 4000000 in
theorem stokens_ct (s : ByteArray) (L : List Assn) (hE : ErrL L) (hl : (bs s).length < 1073741823) :
    Ct Tryz.prog 24 #[.string s] L (ret fun v L' => ∃ ta tc, v = .tuple #[.slice ta (tokensF (bs s)).1.length tc, .int .i64 (tokensF (bs s)).2.1, .int .i64 (tokensF (bs s)).2.2] ∧ L' = ownA 48 4 ta tc ((tokensF (bs s)).1.map tokRow) :: L) := by
  rw [tokensF_tt]
  refine Ct.bodyE Tryz.func24 rfl Tryz.ntmps24 Tryz.results24 rfl ?_
  repeat refine WpE.seq ?_
  refine WpE.np ?_
  refine pur ?_
  refine WpO.alloc rfl rfl (fun _ => Keeps.none) fun b2 => ?_
  refine pur ?_
  refine WpO.alloc rfl rfl (fun _ => Keeps.none) fun b3 => ?_
  refine pur ?_
  refine WpO.alloc rfl rfl (fun _ => Keeps.none) fun b4 => ?_
  refine pur ?_
  repeat refine WpE.seq ?_
  refine WpE.np ?_
  refine pur ?_
  repeat refine WpE.seq ?_
  refine WpE.branch rfl (fun h => ?_) (fun h => ?_)
  · have h8 : 8000 < (bs s).length := by have := of_decide_eq_true h; omega
    rw [if_pos h8]
    repeat refine WpE.seq ?_
    refine WpE.np ?_
    refine pur ?_
    refine WpE.ret ?_
    refine ⟨[.slice none 0 0, .int .i64 0, .int .i64 11], ownA 48 4 none 0 [] :: L, .cons (.one rfl (by infer_instance) (Ent.pt 2 1 rfl rfl)) (.cons (.one rfl (by infer_instance) (Ent.pt 1 1 rfl rfl)) (.cons (.one rfl (by infer_instance) (Ent.pt 0 1 rfl rfl)) .nil)), fun k hk => Sat.ownNil hk.tail.tail.tail, none, 0, rfl, rfl⟩
  have h8 : ¬ 8000 < (bs s).length := by have := of_decide_eq_false h; omega
  rw [if_neg h8]
  refine WpE.skip ?_
  repeat refine WpE.seq ?_
  refine WpE.np ?_
  refine pur ?_
  refine S.makeFuncM rfl .nil (.cons rfl (by infer_instance) (.cons rfl (by infer_instance) (.cons rfl (by infer_instance) .nil))) ?_
  refine WpO.defer rfl Keeps.none ?_
  refine pur ?_
  repeat refine WpE.seq ?_
  refine WpE.np ?_
  refine pur ?_
  refine S.build rfl rfl rfl ?_
  refine WpO.box (vs := [.string s, .int .i64 0, .slice none 0 0]) rfl rfl rfl (fun _ => Keeps.none) fun b5 => ?_
  refine pur ?_
  repeat refine WpE.seq ?_
  refine WpE.weaken (L' := xm b5 s 0 (none, 0) [] (t3m b2 b3 b4 (.slice none 0 0) 0 0 L)) (fun _ _ h => h) (fun k hk => (Sat.ownNil hk).swap) ?_
  have hfault : ∀ (p : Nat) (v : Value) (L0 : List Assn), (tt (bs s) 0 [] = (([], (p : Int), 8) : List Tok × Int × Int)) → v = .iface 78 (.int .i64 p) → L0 = t3m b2 b3 b4 (.slice none 0 0) 0 0 L →
      EndE Tryz.prog [.cell 2 44, .cell 3 3, .cell 4 26] (ret fun v L' => ∃ ta tc, v = .tuple #[.slice ta (tt (bs s) 0 []).1.length tc, .int .i64 (tt (bs s) 0 []).2.1, .int .i64 (tt (bs s) 0 []).2.2] ∧ L' = ownA 48 4 ta tc ((tt (bs s) 0 []).1.map tokRow) :: L) (.panicking [{ v, recovered := false }])
        [(2, .v (.pointer (some ⟨b2, 0, none⟩))), (3, .v (.pointer (some ⟨b3, 0, none⟩))), (4, .v (.pointer (some ⟨b4, 0, none⟩)))] [{ target := .fn (.func 46) #[.pointer (some ⟨b2, 0, none⟩), .pointer (some ⟨b3, 0, none⟩), .pointer (some ⟨b4, 0, none⟩)], args := #[] }] L0 := by
    intro p v L0 e1 e2 e3
    subst e2; subst e3
    rw [e1]
    refine ⟨nofun, _, _, _, fun L' => L' = t3m b2 b3 b4 (.slice none 0 0) p 8 L, rfl, Tryz.call46, tok_rec b2 b3 b4 _ 0 0 p L, ?_⟩
    intro L' e
    subst e
    exact ⟨[.slice none 0 0, .int .i64 p, .int .i64 8], ownA 48 4 none 0 [] :: L, .cons (.one rfl (by infer_instance) (Ent.pt 2 1 rfl rfl)) (.cons (.one rfl (by infer_instance) (Ent.pt 1 1 rfl rfl)) (.cons (.one rfl (by infer_instance) (Ent.pt 0 1 rfl rfl)) .nil)), fun k hk => Sat.ownNil hk.tail.tail.tail, none, 0, rfl, rfl⟩
  have hErr : ErrL (t3m b2 b3 b4 (.slice none 0 0) 0 0 L) := hE.cons.cons.cons
  repeat refine WpE.seq ?_
  refine WpE.region [(2, .v (.pointer (some ⟨b2, 0, none⟩))), (3, .v (.pointer (some ⟨b3, 0, none⟩))), (4, .v (.pointer (some ⟨b4, 0, none⟩)))] (EnvLe.look ⟨rfl, rfl, rfl, trivial⟩) rfl ?_
  refine pur ?_
  refine WpO.callP Tryz.call47 rfl rfl (skip_ct b5 s 0 (none, 0) [] _ (Nat.zero_le _) (by omega) ((bs s).length + 1) (by omega)) (fun v L' ⟨p', e1, e2, e3⟩ => ?_) fun v L' ⟨p', e1, e2⟩ => ⟨Keeps.none, ?_⟩
  · have := tt_skip (acc := []) ((bs s).length + 1) 0 (Nat.zero_le _) (by omega) (l := bs s)
    rw [e1] at this
    exact hfault p' v L' this e2 e3
  subst e2
  have hs0 := tt_skip (acc := []) ((bs s).length + 1) 0 (Nat.zero_le _) (by omega) (l := bs s)
  rw [e1] at hs0
  obtain ⟨hs1, hs2, hs3, hs4⟩ := hs0
  refine pur ?_
  refine WpE.block (WpE.loopI (α := Nat × (Option Addr × Nat) × List Tok) (p', (none, 0), []) (fun x => [(0, .v (.string s)), (2, .v (.pointer (some ⟨b2, 0, none⟩))), (3, .v (.pointer (some ⟨b3, 0, none⟩))), (4, .v (.pointer (some ⟨b4, 0, none⟩))), (5, .v (.pointer (some ⟨b5, 0, none⟩)))])
    (fun x => xm b5 s x.1 x.2.1 x.2.2 (t3m b2 b3 b4 (.slice none 0 0) 0 0 L)) (fun x => (bs s).length - x.1)
    (fun x => x.1 ≤ (bs s).length ∧ skip1 (bs s) x.1 = x.1 ∧ nestedF (bs s) x.1 = x.1 ∧ x.2.2.length ≤ x.1 ∧ tt (bs s) 0 [] = tt (bs s) x.1 x.2.2) ⟨hs2, hs3, hs4, Nat.zero_le _, hs1⟩ ⟨rfl, rfl, rfl, rfl, rfl, trivial⟩ (LeL.refl _) ?_)
  rintro ⟨p, q, ts⟩ ⟨h1, h2, h3, h4, h5⟩
  simp only [] at h1 h2 h3 h4 h5
  repeat refine WpE.seq ?_
  refine WpE.np ?_
  refine pur ?_
  refine WpE.branch rfl (fun h => ?_) (fun h => ?_)
  · have hlt : p < (bs s).length := by have := of_decide_eq_true h; omega
    rw [tt_token hlt h2 h3] at h5
    have hle := tokenF_le hlt
    refine WpE.skip ?_
    repeat refine WpE.seq ?_
    refine WpE.block ?_
    refine WpE.region [(2, .v (.pointer (some ⟨b2, 0, none⟩))), (3, .v (.pointer (some ⟨b3, 0, none⟩))), (4, .v (.pointer (some ⟨b4, 0, none⟩)))] (EnvLe.look ⟨rfl, rfl, rfl, trivial⟩) rfl ?_
    refine pur ?_
    refine WpO.callP Tryz.call48 rfl rfl (stoken_ct b5 s p q ts _ hErr hlt hl (by omega)) (fun v L' ⟨e1, e2, e3⟩ => ?_) fun v L' ⟨e1, q', e2⟩ => ⟨Keeps.none, ?_⟩
    · rw [if_pos e1] at h5
      exact hfault p v L' h5 e2 e3
    subst e2
    rw [if_neg e1] at h5
    generalize tokenF (bs s) p = tk at h5 hle e1
    refine pur ?_
    refine WpE.region [(2, .v (.pointer (some ⟨b2, 0, none⟩))), (3, .v (.pointer (some ⟨b3, 0, none⟩))), (4, .v (.pointer (some ⟨b4, 0, none⟩)))] (EnvLe.look ⟨rfl, rfl, rfl, trivial⟩) rfl ?_
    refine pur ?_
    refine WpO.callP Tryz.call47 rfl rfl (skip_ct b5 s (p + tk.2) q' (ts ++ [tk.1]) _ hle (by omega) ((bs s).length + 1) (by omega)) (fun v L' ⟨p2, e1, e2, e3⟩ => ?_) fun v L' ⟨p2, e1, e2⟩ => ⟨Keeps.none, ?_⟩
    · have := tt_skip (acc := ts ++ [tk.1]) ((bs s).length + 1) (p + tk.2) hle (by omega) (l := bs s)
      rw [e1] at this
      exact hfault p2 v L' (h5.trans this) e2 e3
    subst e2
    have hs0 := tt_skip (acc := ts ++ [tk.1]) ((bs s).length + 1) (p + tk.2) hle (by omega) (l := bs s)
    have hsk := skipF_ge (l := bs s) ((bs s).length + 1) (p + tk.2) p2 hle e1
    rw [e1] at hs0
    obtain ⟨g1, g2, g3, g4⟩ := hs0
    refine pur ?_
    refine Round.mk (p2, q', ts ++ [tk.1]) (by simp only []; omega) ⟨g2, g3, g4, by simp only [List.length_append, List.length_cons, List.length_nil]; omega, h5.trans g1⟩ ⟨rfl, rfl, rfl, rfl, rfl, trivial⟩ (LeL.refl _)
  · have hge : (bs s).length ≤ p := by have := of_decide_eq_false h; omega
    rw [tt_end hge] at h5
    refine WpE.exit ?_
    repeat refine WpE.seq ?_
    refine WpE.np ?_
    refine pur ?_
    refine WpO.store 4 rfl rfl rfl rfl rfl rfl rfl rfl Keeps.none ?_
    refine WpO.store 3 rfl rfl rfl rfl rfl rfl rfl rfl Keeps.none ?_
    refine pur ?_
    refine WpE.ret ?_
    refine ⟨nofun, _, _, .returning, fun L' => L' = _, rfl, Tryz.call46, tok_ret b2 b3 b4 _, ?_⟩
    intro L' e
    subst e
    rw [h5]
    exact ⟨[.slice q.1 ts.length q.2, .int .i64 0, .int .i64 0], ownA 48 4 q.1 q.2 (ts.map tokRow) :: L, .cons (.one rfl (by infer_instance) (Ent.pt 4 1 rfl rfl)) (.cons (.one rfl (by infer_instance) (Ent.pt 3 1 rfl rfl)) (.cons (.one rfl (by infer_instance) (Ent.pt 2 1 rfl rfl)) .nil)), fun k hk => Sat.cons_mono (fun _ hk => hk.tail.tail.tail) hk.tail, q.1, q.2, rfl, rfl⟩
end Go.Proofs.YtikgokpbhldlnaaGreatDoor
end
