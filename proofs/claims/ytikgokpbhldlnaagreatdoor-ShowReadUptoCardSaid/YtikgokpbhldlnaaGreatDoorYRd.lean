/- Parts of a proof: Fj Fk Fl. -/
import Derived.Test.YtikgokpbhldlnaaGreatDoorYRc
set_option linter.unusedVariables false
set_option linter.unusedSimpArgs false
set_option linter.unusedSectionVars false
section
/- What is shown of a tree is read as that tree again: declarations. -/
namespace Go.Proofs.YtikgokpbhldlnaaGreatDoor
open Go Go.Ab
theorem bindP_assoc {α β γ : Type} {m : Out α} {f : α → PS → Out β} {g : β → PS → Out γ} : bindP (bindP m f) g = bindP m fun a st => bindP (f a st) g := by
  match m with
  | .error _ => rfl
  | .ok (_, _) => rfl
section
variable {t : List Nd} {ks : List Tok} {en : Nat} {N N' : Nat → List UInt8 → List Tok} {j : Nat} {nd : Nd} {fs : List Nat}
theorem sep_mk {sep : List UInt8} (h : sep = [61] ∨ sep = [45, 62]) : 6 ≤ markK sep ∧ (markK sep = 6 ∨ markK sep = 7) ∧ sep ∈ CE ∧ sep ≠ [124] := by
  rcases h with rfl | rfl <;> exact ⟨by decide, by decide, by decide, by decide⟩
/-- = e -/
theorem at_plain (h : At1 t ks en N N' j nd fs) (ho : nd.op = 17) (sep : List UInt8) (hsep : sep = [61] ∨ sep = [45, 62]) (n p0 a : Nat) (r : List Tok) (hF : Forest t a (j + 1) [j]) (hs : StopIn CG r) (hm : measS (place ks 0) .clause p0 < n + 1) : Rd t ks (plainP ks en n sep) p0 a j (N' j sep) r := by
  obtain ⟨h0, hx⟩ := fields_nil h.fields (by omega)
  have hp := h.parts
  rw [h.st, step_part (by omega)]
  unfold partT
  rw [if_neg (by omega), if_neg (by omega), if_neg (by omega), if_neg (by omega), if_pos ho]
  have hp : allF 101 (cls (fs.map (opAt t))) 1 1 = true := by rw [ho] at hp; simpa [partsF] using hp
  obtain ⟨hE, h2, h9⟩ := all_e hp
  obtain ⟨x, l, rfl⟩ := cons_of (l := fs) (by omega)
  obtain rfl : l = [] := List.eq_nil_of_length_eq_zero (by simp at h9; omega)
  have cx := h.kid x (by simp)
  have ex := hE x (by simp)
  obtain rfl := (h.forest hF).one.1
  rintro ⟨T, q⟩ ht hd hq hp
  simp only [] at ht hd hq hp
  subst ht
  simp only [List.getD_cons_zero] at hd ⊢
  have hd : ks.drop q = mkT sep :: (N x [61] ++ r) := by rw [hd]; simp [mk]
  have d1 := drop1 hd
  unfold plainP
  rw [take_b hd (sep_mk hsep).1]
  rw [rd_b (RdS.rd (p0 := q + 1) (cx.e ex a r 0 (h.forest hF) (hs.mono (by decide)) (fun _ => rfl)) (meas_lt (s := .clause) (p := q) (Nat.lt_of_le_of_lt (meas_mono hq) hm) (Nat.le_refl _) (by rw [place_len]; exact d1.2))) d1.1 (Nat.le_refl _) d1.2]
  rw [put_rd (st := ⟨t.take (x + 1), _⟩) rfl h.hj ho hx h0 h.hk]
  simp [mk]; omega
/-- | a = b -/
theorem at_guard (h : At1 t ks en N N' j nd fs) (ho : nd.op = 16) (sep : List UInt8) (hsep : sep = [61] ∨ sep = [45, 62]) (n p0 a : Nat) (r : List Tok) (hF : Forest t a (j + 1) [j]) (hs : StopIn CG r) (hm : measS (place ks 0) .clause p0 < n + 1) : Rd t ks (guardP ks en n sep) p0 a j (N' j sep) r := by
  obtain ⟨h0, hx⟩ := fields_nil h.fields (by omega)
  have hp := h.parts
  rw [h.st, step_part (by omega)]
  unfold partT
  rw [if_neg (by omega), if_neg (by omega), if_neg (by omega), if_pos ho]
  have hp : allF 101 (cls (fs.map (opAt t))) 2 2 = true := by rw [ho] at hp; simpa [partsF] using hp
  obtain ⟨hE, h2, h9⟩ := all_e hp
  obtain ⟨x, y, rfl⟩ := pair_of (l := fs) (by omega)
  have cx := h.kid x (by simp)
  have ex := hE x (by simp)
  have cy := h.kid y (by simp)
  have ey := hE y (by simp)
  obtain ⟨w1, w2⟩ := (h.forest hF).cons
  obtain rfl := w2.one.1
  rintro ⟨T, q⟩ ht hd hq hp
  simp only [] at ht hd hq hp
  subst ht
  simp only [List.getD_cons_zero, List.getD_cons_succ] at hd ⊢
  have hd : ks.drop q = mkT [124] :: (N x [61] ++ (mkT sep :: (N y [61] ++ r))) := by rw [hd]; simp [mk]
  have d1 := drop1 hd
  have d2 := drop_len d1.1 (cx.he ex).ne
  have d3 := drop_app d1.1
  have d4 := drop1 d3
  have hmm : measS (place ks 0) (.expr 0) (q + 1) < n := meas_lt (s := .clause) (p := q) (Nat.lt_of_le_of_lt (meas_mono hq) hm) (Nat.le_refl _) (by rw [place_len]; exact d1.2)
  unfold guardP
  rw [take_b hd (by decide)]
  rw [rd_b (RdS.rd (p0 := q + 1) (cx.e ex a _ 0 w1 (stop_mk (sep_mk hsep).2.2.1 (sep_mk hsep).2.1) (fun _ => rfl)) hmm) d1.1 (Nat.le_refl _) d1.2, take_b d3 (sep_mk hsep).1]
  rw [rd_b (RdS.rd (p0 := q + 1) (cy.e ey _ r 0 w2 (hs.mono (by decide)) (fun _ => rfl)) hmm) d4.1 (by omega) d4.2]
  rw [put_rd (st := ⟨t.take (y + 1), _⟩) rfl h.hj ho hx h0 h.hk]
  simp [mk]; omega
theorem guards_rd {sep : List UInt8} (hsep : sep = [61] ∨ sep = [45, 62]) {n p0 : Nat} (hm : measS (place ks 0) .clause p0 < n + 1) {r : List Tok} (hr : StopIn CG r) (hr2 : isT r [124] = false) : ∀ (l : List Nat) (f : Nat) (kids : List Nat) (q a e : Nat), Forest t a e l → (∀ k ∈ l, (ndOf t k).op = 16 ∧ k < t.length ∧ RT t ks en N k) → (kids = [] → l ≠ []) → (kids ≠ [] → kids.getD 0 0 < a ∧ (ndOf t (kids.getD 0 0)).op = 16) → ks.drop q = (l.map fun k => N k sep).flatten ++ r → p0 ≤ q → q ≤ ks.length → l.length < f →
    guardF (place ks 0) en (parseN (place ks 0) en n (.expr 0)) sep f kids ⟨t.take a, q⟩ = .ok (kids ++ l, ⟨t.take e, q + ((l.map fun k => N k sep).flatten).length⟩)
  | [], f, kids, q, a, e, hF, _, hn, hk, hd, hq, hp, hf => by
    obtain ⟨f, rfl⟩ : ∃ g, f = g + 1 := ⟨f - 1, by simp at hf; omega⟩
    obtain rfl := hF.empty
    have hd : ks.drop q = r := by simpa using hd
    have hne : kids ≠ [] := fun q => hn q rfl
    have hl := List.length_pos_iff.2 hne
    rw [guardF, if_neg (by
      unfold guardB
      rw [decide_eq_false (show ¬ kids.length = 0 by omega), is_pl, hd, hr2, Bool.false_and]; decide)]
    simp
  | k :: l, f, kids, q, a, e, hF, hc, hn, hk, hd, hq, hp, hf => by
    obtain ⟨f, rfl⟩ : ∃ g, f = g + 1 := ⟨f - 1, by simp at hf; omega⟩
    simp only [List.length_cons] at hf
    obtain ⟨w1, w2⟩ := hF.cons
    obtain ⟨c1, c2, c3⟩ := hc k (by simp)
    obtain ⟨tk, e1⟩ := c3.hgd c1 sep
    have hd : ks.drop q = N k sep ++ ((l.map fun k => N k sep).flatten ++ r) := by rw [hd]; simp
    have hne : N k sep ≠ [] := by rw [e1]; simp
    have d1 := drop_len hd hne
    have d2 := drop_app hd
    have hone : kids.length = 0 ∨ ¬ kids.length = 0 := Nat.eq_zero_or_pos _ |>.imp id (by omega)
    have hstop : StopIn CG ((l.map fun k => N k sep).flatten ++ r) := by
      cases l with
      | nil => simpa using hr
      | cons u l =>
        obtain ⟨tu, eu⟩ := (hc u (by simp)).2.2.hgd (hc u (by simp)).1 sep
        rw [List.map_cons, List.flatten_cons, eu]
        exact stop_mk (by decide) (by decide)
    rw [guardF, if_pos (by
      unfold guardB
      by_cases h0 : kids.length = 0
      · rw [decide_eq_true h0]; rfl
      · obtain ⟨g1, g2⟩ := hk (by intro e; exact h0 (by rw [e]; rfl))
        have hlt := (w1.lt k (by simp)).1
        rw [is_pl, hd, e1]
        have hget : ((t.take a).getD (kids.getD 0 0) ⟨0, ⟨#[]⟩, 0, []⟩).op = 16 := by
          rw [← g2]
          unfold ndOf
          rw [List.getD_eq_getElem?_getD, List.getD_eq_getElem?_getD (l := t), List.getElem?_take_of_lt g1, List.getElem?_eq_getElem (by omega : kids.getD 0 0 < t.length)]; rfl
        simp only [hget]
        rw [show isT (mkT [124] :: tk ++ ((l.map fun k => N k sep).flatten ++ r)) [124] = true from isT_hd (by decide)]; simp)]
    have hg := rd_b (f := fun g st => guardF (place ks 0) en (parseN (place ks 0) en n (.expr 0)) sep f (kids ++ [g]) st) (c3.gd c1 sep hsep n p0 a _ w1 hstop hm) hd hq hp
    unfold guardP at hg
    simp only [bindP_assoc] at hg
    rw [hg]
    rw [guards_rd hsep hm hr hr2 l f (kids ++ [k]) _ (k + 1) e w2 (fun x hx => hc x (by simp [hx])) (by simp) (fun _ => by
      cases kids with
      | nil => exact ⟨by simp, c1⟩
      | cons g kids =>
        obtain ⟨g1, g2⟩ := hk (by simp)
        have hlt := (w1.lt k (by simp)).1
        exact ⟨by simp at g1 ⊢; omega, g2⟩) d2 (by omega) d1 (by omega)]
    simp; omega
theorem no_bar {r : List Tok} (h : StopIn CR r) : isT r [124] = false := h.is (by decide)
/-- The right side of a clause or an alternative. -/
theorem at_rhs (h : At1 t ks en N N' j nd fs) (ho : nd.op = 15) (sep : List UInt8) (hsep : sep = [61] ∨ sep = [45, 62]) : HdR sep (N' j sep) ∧ ∀ a r, Forest t a (j + 1) [j] → StopIn CR r → RdS t ks en (.rhs sep) a j (N' j sep) r := by
  obtain ⟨h0, hx⟩ := fields_nil h.fields (by omega)
  have hp := h.parts
  rw [h.st, step_part (by omega)]
  unfold partT
  rw [if_neg (by omega), if_neg (by omega), if_pos ho]
  have hp : ((decide ((2 : Int) ≤ ((fs.map (opAt t)).length : Int)) && decide ((fs.map (opAt t)).getD ((fs.map (opAt t)).length - 1) 0 = 18)) && (onlyF 17 ((fs.map (opAt t)).take ((fs.map (opAt t)).length - 1)) 1 1 || onlyF 16 ((fs.map (opAt t)).take ((fs.map (opAt t)).length - 1)) 1 6000)) = true := by rw [ho] at hp; simpa [partsF] using hp
  simp only [Bool.and_eq_true, Bool.or_eq_true, decide_eq_true_eq] at hp
  obtain ⟨⟨p1, p2⟩, p3⟩ := hp
  obtain ⟨gs, d, rfl⟩ := snoc_of (l := fs) (by simp at p1; omega)
  have q2 : (ndOf t d).op = 18 := by rw [← op_at]; simpa using p2
  have q3 : onlyF 17 (gs.map (opAt t)) 1 1 = true ∨ onlyF 16 (gs.map (opAt t)) 1 6000 = true := by simpa using p3
  rw [init_of.1, init_of.2]
  have cd := h.kid d (by simp)
  have cg : ∀ k ∈ gs, RT t ks en N k := fun k hk => h.kid k (by simp [hk])
  -- the where part, for any rest
  have hw : ∀ (n q b p0 : Nat) (r : List Tok) (kids : List Nat), kids ++ [d] = gs ++ [d] → Forest t b (d + 1) [d] → StopIn CR r → (∀ s', measS (place ks 0) s' (p0 + 1) < n) → p0 ≤ q → q ≤ ks.length → ks.drop q = (if 0 < (ndOf t d).kids.length then mk [[119, 104, 101, 114, 101]] ++ N d [61] else []) ++ r → j = d + 1 → bindP (if isP (place ks 0) q [119, 104, 101, 114, 101] = true then parseN (place ks 0) en n .decls ⟨t.take b, q + 1⟩ else putP 18 [] [] ⟨t.take b, q⟩) (fun d st => putP 15 [] (kids ++ [d]) st) = .ok (j, ⟨t.take (j + 1), q + (if 0 < (ndOf t d).kids.length then mk [[119, 104, 101, 114, 101]] ++ N d [61] else []).length⟩) := by
    intro n q b p0 r kids hkk hF hs hm hq hp hd hj
    subst hj
    by_cases hk : 0 < (ndOf t d).kids.length
    · rw [if_pos hk] at hd ⊢
      have hd : ks.drop q = mkT [119, 104, 101, 114, 101] :: (N d [61] ++ r) := by rw [hd]; simp [mk]
      have d1 := drop1 hd
      rw [if_pos (by rw [is_pl, hd]; exact isT_hd (by decide)), rd_b ((cd.d q2 b r hF).rd (p0 := p0 + 1) (hm _)) d1.1 (by omega) d1.2, put_rd (st := ⟨t.take (d + 1), _⟩) rfl h.hj ho hx h0 (by rw [hkk, h.hk])]
      simp [mk]; omega
    · rw [if_neg hk] at hd ⊢
      have hd : ks.drop q = r := by simpa using hd
      obtain ⟨k1, k2, k3⟩ := cd.d0 q2
      obtain ⟨_, kids', nd', v1, v2, v3⟩ := hF.one
      rw [k1] at v2
      obtain rfl := Option.some.inj v2
      have hkn : (ndOf t d).kids = [] := List.eq_nil_of_length_eq_zero (by omega)
      obtain rfl : kids' = [] := by rw [hkn] at v3; exact natI_inj (r := []) v3.symm
      obtain rfl := v1.empty
      rw [if_neg (by rw [is_pl, hd, hs.is (by decide)]; decide), put_b (kids := []) k1 q2 k2 k3 hkn, put_rd (st := ⟨t.take (b + 1), _⟩) rfl h.hj ho hx h0 (by rw [hkk, h.hk])]
      simp
  rcases q3 with q3 | q3
  · obtain ⟨hG, g1, g2⟩ := only_of q3
    obtain ⟨g, l, rfl⟩ := cons_of (l := gs) (by omega)
    obtain rfl : l = [] := List.eq_nil_of_length_eq_zero (by simp at g2; omega)
    have c := cg g (by simp)
    have og := hG g (by simp)
    obtain ⟨tg, eg⟩ := c.hpl og sep
    refine ⟨⟨sep, _, by simp only [List.map_cons, List.map_nil, List.flatten_cons, List.flatten_nil, List.append_nil, eg, List.cons_append]; rfl, .inl rfl⟩, ?_⟩
    rintro a r hF hs n ⟨T, q⟩ ht hd hp hm
    simp only [] at ht hd hp hm
    subst ht
    obtain ⟨n, rfl⟩ : ∃ m, n = m + 1 := ⟨n - 1, by omega⟩
    obtain ⟨w1, w2⟩ := (h.forest hF).cons
    have ej := w2.one.1
    have hd : ks.drop q = N g sep ++ ((if 0 < (ndOf t d).kids.length then mk [[119, 104, 101, 114, 101]] ++ N d [61] else []) ++ r) := by rw [hd]; simp
    have hne : N g sep ≠ [] := by rw [eg]; simp
    have d1 := drop_len hd hne
    have d2 := drop_app hd
    have hpos := List.length_pos_iff.2 hne
    have hmm : ∀ s', measS (place ks 0) s' (q + 1) < n := fun s' => meas_lt hm (Nat.le_refl _) (by rw [place_len]; omega)
    have hbar : isT ((if 0 < (ndOf t d).kids.length then mk [[119, 104, 101, 114, 101]] ++ N d [61] else []) ++ r) [124] = false ∧ StopIn CG ((if 0 < (ndOf t d).kids.length then mk [[119, 104, 101, 114, 101]] ++ N d [61] else []) ++ r) := by
      split
      · exact ⟨(is_mk (s := [119, 104, 101, 114, 101]) (by decide)).trans (by decide), stop_mk (s := [119, 104, 101, 114, 101]) (by decide) (by decide)⟩
      · exact ⟨no_bar hs, hs.mono (by decide)⟩
    show bindP (if isP (place ks 0) q [124] = true then .ok ([], ⟨t.take a, q⟩) else _) _ = _
    rw [if_neg (by rw [is_pl, hd, eg, List.cons_append, is_mk (sep_mk hsep).1]; simpa using (sep_mk hsep).2.2.2)]
    have hg := rd_b (f := fun g st => (.ok ([g], st) : Out (List Nat))) (c.pl og sep hsep n q a _ w1 hbar.2 hm) hd (Nat.le_refl _) hp
    unfold plainP at hg
    simp only [bindP_assoc] at hg
    rw [hg, bindP_ok, guardF, if_neg (by
      unfold guardB
      rw [is_pl, d2, hbar.1, Bool.false_and]; simp), bindP_ok]
    show bindP (if isP (place ks 0) (q + (N g sep).length) [119, 104, 101, 114, 101] = true then parseN (place ks 0) en n .decls ⟨t.take (g + 1), q + (N g sep).length + 1⟩ else _) _ = _
    rw [hw n _ (g + 1) q r [g] rfl (ej ▸ w2) hs hmm (by omega) d1 d2 ej]
    simp; omega
  · obtain ⟨hG, g1, g2⟩ := only_of q3
    obtain ⟨g, l, rfl⟩ := cons_of (l := gs) (by omega)
    obtain ⟨tg, eg⟩ := (cg g (by simp)).hgd (hG g (by simp)) sep
    refine ⟨⟨[124], _, by simp only [List.map_cons, List.flatten_cons, eg, List.cons_append]; rfl, .inr rfl⟩, ?_⟩
    rintro a r hF hs n ⟨T, q⟩ ht hd hp hm
    simp only [] at ht hd hp hm
    subst ht
    obtain ⟨n, rfl⟩ : ∃ m, n = m + 1 := ⟨n - 1, by omega⟩
    obtain ⟨b, w1, w2⟩ := (h.forest hF).split (g :: l) [d] rfl
    have hgn : ∀ k ∈ g :: l, N k sep ≠ [] := fun k hk => by
      obtain ⟨u, e⟩ := (cg k hk).hgd (hG k hk) sep
      rw [e]; simp
    have ej := w2.one.1
    rw [List.append_assoc] at hd
    have hbar : isT ((if 0 < (ndOf t d).kids.length then mk [[119, 104, 101, 114, 101]] ++ N d [61] else []) ++ r) [124] = false ∧ StopIn CG ((if 0 < (ndOf t d).kids.length then mk [[119, 104, 101, 114, 101]] ++ N d [61] else []) ++ r) := by
      split
      · exact ⟨(is_mk (s := [119, 104, 101, 114, 101]) (by decide)).trans (by decide), stop_mk (s := [119, 104, 101, 114, 101]) (by decide) (by decide)⟩
      · exact ⟨no_bar hs, hs.mono (by decide)⟩
    have hne : ((g :: l).map fun k => N k sep).flatten ≠ [] := by rw [List.map_cons, List.flatten_cons, eg]; simp
    have d1 := drop_len hd hne
    have d2 := drop_app hd
    have hpos := List.length_pos_iff.2 hne
    have hfl := Nat.le_trans (flat_ge _ hgn) (drop_le hd)
    have hmm : ∀ s', measS (place ks 0) s' (q + 1) < n := fun s' => meas_lt hm (Nat.le_refl _) (by rw [place_len]; omega)
    have hlt : ∀ k ∈ g :: l, k < t.length := fun k hk => by
      have := (w1.lt k hk).2
      have := w2.le
      have := (List.getElem?_eq_some_iff.1 h.hj).1
      omega
    show bindP (if isP (place ks 0) q [124] = true then .ok ([], ⟨t.take a, q⟩) else _) _ = _
    rw [if_pos (by rw [is_pl, hd, List.map_cons, List.flatten_cons, eg]; exact isT_hd (by decide)), bindP_ok, place_len, guards_rd hsep hm hbar.2 hbar.1 (g :: l) (ks.length + 1) [] q a b w1 (fun k hk => ⟨hG k hk, hlt k hk, cg k hk⟩) (fun _ => by simp) (fun h => absurd rfl h) hd (Nat.le_refl _) hp (by omega), bindP_ok]
    refine (hw n (q + ((g :: l).map fun k => N k sep).flatten.length) b q r ([] ++ (g :: l)) rfl (ej ▸ w2) hs hmm (by omega) d1 d2 ej).trans ?_
    simp; omega
end
end Go.Proofs.YtikgokpbhldlnaaGreatDoor
end
section
/- What is shown of a tree is read as that tree again: declarations, and all of a node. -/
namespace Go.Proofs.YtikgokpbhldlnaaGreatDoor
open Go Go.Ab
section
variable {t : List Nd} {ks : List Tok} {en : Nat} {N N' : Nat → List UInt8 → List Tok} {j : Nat} {nd : Nd} {fs : List Nat}
theorem kd1 {s : List UInt8} (h : nameF s = 1) {r : List Tok} : kdT (mkT s :: r) = 1 := by rw [mkT_name h (by decide)]; rfl
theorem isVar_pl {p : Nat} : isVarP (place ks 0) p = decide (kdT (ks.drop p) = 1) := by unfold isVarP; rw [kd_pl]
theorem kd_ne {ts : List Tok} (h : kdT ts = 1 ∨ kdT ts = 2) : ts ≠ [] := by rintro rfl; rcases h with h | h <;> cases h
/-- { .. } -/
theorem at_decls (h : At1 t ks en N N' j nd fs) (ho : nd.op = 18) (sep : List UInt8) : isT (N' j sep) [123] = true ∧ ∀ a r, Forest t a (j + 1) [j] → RdS t ks en .decls a j (N' j sep) r := by
  obtain ⟨h0, hx⟩ := fields_nil h.fields (by omega)
  have hp := h.parts
  rw [h.st, step_part (by omega)]
  unfold partT
  rw [if_neg (by omega), if_neg (by omega), if_neg (by omega), if_neg (by omega), if_neg (by omega), if_pos ho, between_btwn]
  have hp : onlyF 19 (fs.map (opAt t)) 0 6000 = true := by rw [ho] at hp; simpa [partsF] using hp
  obtain ⟨hC, h2, h9⟩ := only_of hp
  refine ⟨isT_hd (by decide), ?_⟩
  rintro a r hF n ⟨T, q⟩ ht hd hp hm
  simp only [] at ht hd hp hm
  subst ht
  obtain ⟨n, rfl⟩ : ∃ m, n = m + 1 := ⟨n - 1, by omega⟩
  have hd : ks.drop q = mkT [123] :: (btwn (fun k => N k [61]) [59] fs ++ (mkT [125] :: r)) := by rw [hd]; simp [mk]
  have d1 := drop1 hd
  have hc : ∀ k ∈ fs, kdT (N k [61]) = 1 := fun k hk => (h.kid k hk).hc (hC k hk)
  have hfl := Nat.le_trans (btwn_ge (m := [59]) fs fun k hk => kd_ne (.inl (hc k hk))) (drop_le d1.1)
  show bindP (takeP (place ks 0) en [123] ⟨t.take a, q⟩) _ = _
  rw [take_b hd (by decide), place_len]
  rw [semis_rd (p0 := q + 1) (r := mkT [125] :: r) (T := fun k => N k [61]) (fun p hd => ⟨by rw [isVar_pl, hd, kd_mk]; decide, by rw [is_mk (by decide)]; decide⟩) fs (ks.length + 1) [] _ a j (h.forest hF) rfl d1.1 (Nat.le_refl _) d1.2 (fun k hk => kd_ne (.inl (hc k hk))) (fun k hk b r' hF' hr' => ((h.kid k hk).c (hC k hk) b r' hF' (by
      rcases hr' with rfl | ⟨r'', rfl⟩
      · exact stop_mk (by decide) (by decide)
      · exact stop_mk (by decide) (by decide))).next hm d1.2) (fun k hk p r' hd => by rw [isVar_pl, hd, kdT_app (kd_ne (.inl (hc k hk))), hc k hk]; rfl) (by omega), bindP_ok]
  have d2 := drop_app d1.1
  rw [take_b d2 (by decide), List.nil_append, put_rd (st := ⟨t.take j, _⟩) rfl h.hj ho hx h0 h.hk]
  simp [mk]; omega
theorem hdR_stop {cl : List (List UInt8)} {sep : List UInt8} {ts r : List Tok} (h : HdR sep ts) (h1 : sep ∈ cl) (h2 : [124] ∈ cl) (hk : markK sep = 6 ∨ markK sep = 7) : StopIn cl (ts ++ r) ∧ ts ≠ [] := by
  obtain ⟨s, x, rfl, h⟩ := h
  refine ⟨?_, by simp⟩
  rcases h with rfl | rfl
  · exact stop_mk h1 hk
  · exact stop_mk h2 (by decide)
/-- f .. = e -/
theorem at_clause (h : At1 t ks en N N' j nd fs) (ho : nd.op = 19) (sep : List UInt8) : kdT (N' j sep) = 1 ∧ ∀ a r, Forest t a (j + 1) [j] → StopIn CR r → RdS t ks en .clause a j (N' j sep) r := by
  have hf := h.fields
  have h0 := fields_num hf (by omega)
  have hp := h.parts
  have hn : nameF (bs nd.text) = 1 := by rw [ho] at hf; simpa [fieldsF, h0] using hf
  rw [h.st, step_part (by omega)]
  unfold partT
  rw [if_neg (by omega), if_pos ho]
  have hp : ((decide ((1 : Int) ≤ ((fs.map (opAt t)).length : Int)) && allF 112 ((cls (fs.map (opAt t))).take ((fs.map (opAt t)).length - 1)) 0 8) && decide ((fs.map (opAt t)).getD ((fs.map (opAt t)).length - 1) 0 = 15)) = true := by rw [ho] at hp; simpa [partsF] using hp
  simp only [Bool.and_eq_true, decide_eq_true_eq] at hp
  obtain ⟨⟨p1, p2⟩, p3⟩ := hp
  obtain ⟨l, e, rfl⟩ := snoc_of (l := fs) (by simp at p1; omega)
  have q2 : allF 112 (cls (l.map (opAt t))) 0 8 = true := by simpa [cls] using p2
  have q3 : (ndOf t e).op = 15 := by rw [← op_at]; simpa using p3
  obtain ⟨hP, l1, l8⟩ := all_p q2
  rw [init_of.1, init_of.2]
  have ce := h.kid e (by simp)
  refine ⟨kd1 hn, ?_⟩
  rintro a r hF hs n ⟨T, q⟩ ht hd hp hm
  simp only [] at ht hd hp hm
  subst ht
  obtain ⟨n, rfl⟩ : ∃ m, n = m + 1 := ⟨n - 1, by omega⟩
  have hd : ks.drop q = mkT (bs nd.text) :: (argsT t N l ++ (N e [61] ++ r)) := by rw [hd]; simp [mk]
  obtain ⟨b, w1, w2⟩ := (h.forest hF).split l [e] rfl
  have ej := w2.one.1
  obtain ⟨n1, n2⟩ := hdR_stop (cl := [[61], [124]]) (r := r) (ce.hr q3 [61] (.inl rfl)) (by decide) (by decide) (by decide)
  have d1 := drop1 hd
  have d2 := drop_app d1.1
  have d4 : q + 1 + (argsT t N l).length ≤ ks.length := by
    have := drop_len d2 n2; omega
  show bindP (nameP (place ks 0) en 1 ⟨t.take a, q⟩) _ = _
  rw [name_b hd hn (by decide)]
  rw [apats_rd hm d1.2 (fun k hk => h.kid k (by simp [hk])) hP w1 d1.1 (Nat.le_refl _) d1.2 (begins_no n1 (by decide) (by decide) (by decide)) (by simp; omega) (by omega), bindP_ok, List.nil_append]
  subst ej
  rw [rd_b ((ce.r q3 [61] (.inl rfl) b r w2 hs).next hm d1.2) d2 (by omega) d4, put_rd (st := ⟨t.take (e + 1), _⟩) rfl h.hj ho rfl h0 h.hk]
  simp [mk]; omega
/-- p -> e -/
theorem at_alt (h : At1 t ks en N N' j nd fs) (ho : nd.op = 14) (sep : List UInt8) : HdP (N' j sep) ∧ ∀ n p0 a r, Forest t a (j + 1) [j] → StopIn CR r → measS (place ks 0) .clause p0 < n → Rd t ks (altF (parseN (place ks 0) en n)) p0 a j (N' j sep) r := by
  obtain ⟨h0, hx⟩ := fields_nil h.fields (by omega)
  have hp := h.parts
  rw [h.st, step_part (by omega)]
  unfold partT
  rw [if_pos ho]
  have hp : ((decide (((fs.map (opAt t)).length : Int) = 2) && decide (((at0 (cls (fs.map (opAt t))) 0).toNat : Int) = 112)) && decide ((fs.map (opAt t)).getD 1 0 = 15)) = true := by rw [ho] at hp; simpa [partsF] using hp
  simp only [Bool.and_eq_true, decide_eq_true_eq] at hp
  obtain ⟨⟨p1, p2⟩, p3⟩ := hp
  obtain ⟨x, y, rfl⟩ := pair_of (l := fs) (by simp at p1; omega)
  have ex : isPt (ndOf t x).op := one_p (by simpa [cls, at0] using p2)
  have ey : (ndOf t y).op = 15 := by rw [← op_at]; simpa using p3
  have cx := h.kid x (by simp)
  have cy := h.kid y (by simp)
  simp only [List.getD_cons_zero, List.getD_cons_succ]
  refine ⟨(cx.hp ex).app, ?_⟩
  rintro n p0 a r hF hs hm ⟨T, q⟩ ht hd hq hp
  simp only [] at ht hd hp hq
  subst ht
  rw [List.append_assoc] at hd
  obtain ⟨w1, w2⟩ := (h.forest hF).cons
  have ej := w2.one.1
  obtain ⟨n1, n2⟩ := hdR_stop (cl := CP) (r := r) (cy.hr ey [45, 62] (.inr rfl)) (by decide) (by decide) (by decide)
  have d1 := drop_len hd (cx.hp ex).ne
  have d2 := drop_app hd
  unfold altF
  rw [rd_b ((cx.p ex a _ w1 n1).rd (p0 := q) (Nat.lt_of_le_of_lt (Nat.le_trans (by unfold measS; exact Nat.add_le_add_left (show 7 ≤ 9 by decide) _) (meas_mono hq)) hm)) hd (Nat.le_refl _) hp]
  subst ej
  rw [rd_b ((cy.r ey [45, 62] (.inr rfl) _ r w2 hs).rd (p0 := p0) hm) d2 (by omega) d1, put_rd (st := ⟨t.take (y + 1), _⟩) rfl h.hj ho hx h0 h.hk]
  simp; omega
/-- C t .. -/
theorem at_con (h : At1 t ks en N N' j nd fs) (ho : nd.op = 22) (sep : List UInt8) : kdT (N' j sep) = 2 ∧ ∀ n p0 a r, Forest t a (j + 1) [j] → StopIn CD r → measS (place ks 0) .clause p0 < n + 1 → Rd t ks (conP ks en n) p0 a j (N' j sep) r := by
  have hf := h.fields
  have h0 := fields_num hf (by omega)
  have hn := fields22 (.inr ho) hf
  have hp := h.parts
  rw [ho] at hp
  have hp : allF 116 (cls (fs.map (opAt t))) 0 8 = true := by simpa [partsF] using hp
  obtain ⟨hE, h2, h8⟩ := all_t hp
  rw [h.st, step_named (by omega)]
  unfold namedT
  obtain ⟨n1, n2, n3, n4, n5⟩ := nameF_two (s := bs nd.text) (by omega)
  rw [if_neg (by omega), if_neg (by rintro (q | q); exact n2 q; exact n3 q), if_neg n4, if_neg n5]
  have e : mkT (bs nd.text) = ⟨2, bs nd.text, 0, 0⟩ := mkT_name hn (by decide)
  refine ⟨by rw [show mk [bs nd.text] ++ argsT t N fs = mkT (bs nd.text) :: argsT t N fs from rfl, e]; rfl, ?_⟩
  rintro n p0 a r hF hs hm ⟨T, q⟩ ht hd hq hp
  simp only [] at ht hd hp hq
  subst ht
  have hd : ks.drop q = mkT (bs nd.text) :: (argsT t N fs ++ r) := by rw [hd]; simp [mk]
  have d1 := drop1 hd
  unfold conP
  rw [name_b hd hn (by decide)]
  rw [atypes_rd (s := .clause) (p := q) (Nat.lt_of_le_of_lt (meas_mono hq) hm) d1.2 h.kid hE (h.forest hF) d1.1 (Nat.le_refl _) d1.2 (typed_no hs (by decide) (by decide)) (by simp; omega) (by omega), bindP_ok, List.nil_append, put_rd (st := ⟨t.take j, _⟩) rfl h.hj ho rfl h0 h.hk]
  simp [mk]; omega
/-- The parts of a data declaration that stand behind the names. -/
def consT (N : Nat → List UInt8 → List Tok) : List Nat → List Tok
  | [] => []
  | c :: l => N c [61] ++ (if l = [] then [] else mkT [124] :: consT N l)
theorem cons_ge : ∀ l : List Nat, (∀ k ∈ l, N k [61] ≠ []) → l.length ≤ (consT N l).length
  | [], _ => Nat.zero_le _
  | c :: l, h => by
    have h1 := cons_ge l fun k hk => h k (List.mem_cons_of_mem _ hk)
    have := List.length_pos_iff.2 (h c (by simp))
    rw [consT, List.length_append, List.length_cons]
    split
    · rename_i e; subst e; simp; omega
    · rw [List.length_cons]; omega
theorem data_cons (m : List UInt8) : ∀ l : List Nat, (∀ k ∈ l, (ndOf t k).op = 22) → l ≠ [] → dataT t N m l = mkT m :: consT N l
  | [], _, h => absurd rfl h
  | [c], h, _ => by
    unfold dataT
    rw [if_pos (h c (by simp))]
    simp [dataT, consT, mk]
  | c :: u :: l, h, _ => by
    rw [dataT, if_pos (h c (by simp)), data_cons [124] (u :: l) (fun k hk => h k (by simp [hk])) (by simp)]
    show _ = mkT m :: (N c [61] ++ (if u :: l = [] then [] else mkT [124] :: consT N (u :: l)))
    rw [if_neg (by simp)]
    simp [mk]
theorem data_vars : ∀ (v c : List Nat), (∀ k ∈ v, (ndOf t k).op = 23) → dataT t N [61] (v ++ c) = (v.map fun k => N k [61]).flatten ++ dataT t N [61] c
  | [], _, _ => by simp
  | k :: v, c, h => by
    rw [List.cons_append, dataT, if_neg (by rw [h k (by simp)]; decide), data_vars v c (fun x hx => h x (by simp [hx]))]
    simp
theorem cons_rd {n p0 : Nat} {name : List UInt8} (hm : measS (place ks 0) .clause p0 < n + 1) {r : List Tok} (hr : StopIn CR r) (hj : t[j]? = some nd) (h1 : nd.op = 21) (h2 : bs nd.text = name) (h3 : nd.num = 0) : ∀ (l : List Nat) (f : Nat) (kids : List Nat) (q a : Nat), l ≠ [] → Forest t a j l → nd.kids = natI (kids ++ l) → (∀ k ∈ l, (ndOf t k).op = 22 ∧ RT t ks en N k) → ks.drop q = consT N l ++ r → p0 ≤ q → q ≤ ks.length → l.length ≤ f →
    conF (place ks 0) en (parseN (place ks 0) en n .atype) name f kids ⟨t.take a, q⟩ = .ok (j, ⟨t.take (j + 1), q + (consT N l).length⟩)
  | [], _, _, _, _, h, _, _, _, _, _, _, _ => absurd rfl h
  | c :: l, f, kids, q, a, _, hF, hk, hc, hd, hq, hp, hf => by
    obtain ⟨f, rfl⟩ : ∃ g, f = g + 1 := ⟨f - 1, by simp at hf; omega⟩
    simp only [List.length_cons] at hf
    obtain ⟨w1, w2⟩ := hF.cons
    obtain ⟨c1, c2⟩ := hc c (by simp)
    have hne := kd_ne (.inr (c2.hcn c1))
    rw [conF]
    by_cases hl : l = []
    · subst hl
      obtain rfl := w2.empty
      have hd : ks.drop q = N c [61] ++ r := by rw [hd]; simp [consT]
      have d2 := drop_app hd
      have hg := rd_b (f := fun c st => if isP (place ks 0) st.p [124] = true then conF (place ks 0) en (parseN (place ks 0) en n .atype) name f (kids ++ [c]) (adv st) else putP 21 name (kids ++ [c]) st) (c2.cn c1 n p0 a _ w1 (hr.mono (by decide)) hm) hd hq hp
      unfold conP at hg
      simp only [bindP_assoc] at hg
      rw [hg, if_neg (by rw [is_pl, d2, no_bar hr]; decide), put_rd (st := ⟨t.take (c + 1), _⟩) rfl hj h1 h2 h3 hk]
      simp [consT]
    · have hd : ks.drop q = N c [61] ++ (mkT [124] :: (consT N l ++ r)) := by rw [hd, consT, if_neg hl]; simp
      have d1 := drop_len hd hne
      have d2 := drop_app hd
      have d3 := drop1 d2
      have hg := rd_b (f := fun c st => if isP (place ks 0) st.p [124] = true then conF (place ks 0) en (parseN (place ks 0) en n .atype) name f (kids ++ [c]) (adv st) else putP 21 name (kids ++ [c]) st) (c2.cn c1 n p0 a _ w1 (stop_mk (by decide) (by decide)) hm) hd hq hp
      unfold conP at hg
      simp only [bindP_assoc] at hg
      rw [hg, if_pos (by rw [is_pl, d2]; exact isT_hd (by decide))]
      show conF (place ks 0) en (parseN (place ks 0) en n .atype) name f (kids ++ [c]) ⟨t.take (c + 1), q + (N c [61]).length + 1⟩ = _
      rw [cons_rd hm hr hj h1 h2 h3 l f (kids ++ [c]) _ (c + 1) hl w2 (by simpa using hk) (fun k hk => hc k (by simp [hk])) d3.1 (by omega) d3.2 (by omega), consT, if_neg hl]
      simp; omega
theorem takeWhile_all {α : Type} (p : α → Bool) : ∀ l : List α, ∀ x ∈ l.takeWhile p, p x = true
  | [], x, h => by simp at h
  | a :: l, x, h => by
    rw [List.takeWhile_cons] at h
    split at h
    · rename_i ha
      rcases List.mem_cons.1 h with rfl | h
      · exact ha
      · exact takeWhile_all p l x h
    · simp at h
/-- data T .. = .. -/
theorem at_data (h : At1 t ks en N N' j nd fs) (ho : nd.op = 21) (sep : List UInt8) : isT (N' j sep) [100, 97, 116, 97] = true ∧ ∀ a r, Forest t a (j + 1) [j] → StopIn CR r → RdS t ks en .data a j (N' j sep) r := by
  have hf := h.fields
  have h0 := fields_num hf (by omega)
  have hn := fields22 (.inl ho) hf
  have hp := h.parts
  rw [ho] at hp
  rw [h.st, step_named (by omega)]
  unfold namedT
  rw [if_pos ho]
  refine ⟨isT_hd (by decide), ?_⟩
  have hp : (decide (((fs.map (opAt t)).takeWhile (fun x => decide (x = 23))).length ≤ (8 : Int)) && onlyF 22 ((fs.map (opAt t)).drop ((fs.map (opAt t)).takeWhile (fun x => decide (x = 23))).length) 1 6000) = true := by simpa [partsF] using hp
  simp only [Bool.and_eq_true, decide_eq_true_eq] at hp
  obtain ⟨p1, p2⟩ := hp
  generalize hk : ((fs.map (opAt t)).takeWhile (fun x => decide (x = 23))).length = m at p1 p2
  have hv : ∀ k ∈ fs.take m, (ndOf t k).op = 23 := fun k hk' => by
    have e : (fs.take m).map (opAt t) = (fs.map (opAt t)).takeWhile (fun x => decide (x = 23)) := by
      rw [List.map_take, ← hk]
      obtain ⟨r, hr⟩ := List.takeWhile_prefix (fun x : Int => decide (x = 23)) (l := fs.map (opAt t))
      conv => lhs; rw [← hr]
      rw [List.take_append_of_le_length (by rw [hr]; exact Nat.le_refl _), hr, List.take_length]
    have := takeWhile_all _ _ _ (e ▸ List.mem_map_of_mem (f := opAt t) hk')
    rw [← op_at]
    exact of_decide_eq_true this
  rw [← List.map_drop] at p2
  obtain ⟨hC, c1, c2⟩ := only_of p2
  have hml : (fs.take m).length ≤ 8 := by rw [List.length_take]; omega
  have hfs := List.take_append_drop m fs
  generalize fs.take m = v at hv hml hfs
  generalize fs.drop m = c at hC c1 c2 hfs
  subst hfs
  clear p1 p2 hk
  have hne : c ≠ [] := by rintro rfl; simp at c1
  rw [data_vars v c hv, data_cons [61] c hC hne]
  have hkv : ∀ k ∈ v, RT t ks en N k := fun k hk => h.kid k (by simp [hk])
  have hkc : ∀ k ∈ c, RT t ks en N k := fun k hk => h.kid k (by simp [hk])
  rintro a r hF hs n ⟨T, q⟩ ht hd hp hm
  simp only [] at ht hd hp hm
  subst ht
  obtain ⟨n, rfl⟩ : ∃ m, n = m + 1 := ⟨n - 1, by omega⟩
  have hd : ks.drop q = mkT [100, 97, 116, 97] :: mkT (bs nd.text) :: ((v.map fun k => N k [61]).flatten ++ (mkT [61] :: (consT N c ++ r))) := by rw [hd]; simp [mk]
  obtain ⟨b, w1, w2⟩ := (h.forest hF).split v c rfl
  have d1 := drop1 hd
  have d2 := drop1 d1.1
  have d3 := drop_app d2.1
  have d4 := drop1 d3
  have hvn : ∀ k ∈ v, kdT (N k [61]) = 1 := fun k hk => (hkv k hk).hv (hv k hk)
  show bindP (nameP (place ks 0) en 2 ⟨t.take a, q + 1⟩) _ = _
  rw [name_b d1.1 hn (by decide)]
  rw [many_rd (p0 := q + 2) (r := mkT [61] :: (consT N c ++ r)) (T := fun k => N k [61]) v 9 [] _ a b w1 rfl d2.1 (Nat.le_refl _) d2.2 (fun k hk => kd_ne (.inl (hvn k hk))) (fun k hk b r' hF' => (hkv k hk).v (hv k hk) _ b r' hF') (fun k hk p r' hd => by rw [isVar_pl, hd, kdT_app (kd_ne (.inl (hvn k hk))), hvn k hk]; rfl) (fun p hd => by rw [isVar_pl, hd, kd_mk]; decide) (by simp; omega) (by omega), bindP_ok, take_b d3 (by decide), place_len]
  have hfl := Nat.le_trans (cons_ge c fun k hk => kd_ne (.inr ((hkc k hk).hcn (hC k hk)))) (drop_le d4.1)
  have hmm : measS (place ks 0) .clause (q + 1) < n + 1 := Nat.lt_succ_of_lt (meas_lt hm (Nat.le_refl _) (by rw [place_len]; exact d1.2))
  rw [cons_rd hmm hs h.hj ho rfl h0 c (ks.length + 1) ([] ++ v) _ b hne w2 h.hk (fun k hk => ⟨hC k hk, hkc k hk⟩) d4.1 (by omega) d4.2 (by omega)]
  simp [mk]; omega
end
end Go.Proofs.YtikgokpbhldlnaaGreatDoor
end
section
/- What is shown of a tree is read as that tree again: all of it. -/
namespace Go.Proofs.YtikgokpbhldlnaaGreatDoor
open Go Go.Ab
section
variable {t : List Nd} {ks : List Tok} {en : Nat} {N N' : Nat → List UInt8 → List Tok} {j : Nat} {nd : Nd} {fs : List Nat}
/-- What is asked of an expression. -/
structure ExOk (t : List Nd) (ks : List Tok) (en : Nat) (k : Nat) (op : Int) (ts : List Tok) : Prop where
  he : HdE ts
  e : ∀ a r lv, Forest t a (k + 1) [k] → StopIn CE r → (op = 13 → lv = 0) → RdS t ks en (.expr lv) a k ts r
  o : op ≠ 13 → ∀ a r, Forest t a (k + 1) [k] → StopOf op r → RdS t ks en .operand a k ts r
  ha : isA op → HdA ts
  a : isA op → ∀ a r, Forest t a (k + 1) [k] → RdS t ks en .atom a k ts r
theorem stopCE {r : List Tok} (h : StopIn CE r) : StopO r := h.o (by decide) (by decide)
theorem StopOf.a {op : Int} {r : List Tok} (h : StopOf op r) (ho : isA op ∨ op = 6) : StopO r := by
  unfold StopOf at h
  unfold isA at ho
  rwa [if_neg (by omega)] at h
theorem ExOk.ofA {k : Nat} {op : Int} {ts : List Tok} (ho : isA op) (h : HdA ts ∧ ∀ a r, Forest t a (k + 1) [k] → RdS t ks en .atom a k ts r) : ExOk t ks en k op ts :=
  ⟨.inl h.1, fun a r lv hF hs _ => expr_of (operand_of (h.2 a r hF) h.1 (stopCE hs)) hs lv, fun _ a r hF hs => operand_of (h.2 a r hF) h.1 (hs.a (.inl ho)), fun _ => h.1, fun _ => h.2⟩
theorem ExOk.of6 {k : Nat} {op : Int} {ts : List Tok} (ho : op = 6) (h : HdE ts ∧ ∀ a r, Forest t a (k + 1) [k] → StopO r → RdS t ks en .operand a k ts r) : ExOk t ks en k op ts :=
  ⟨h.1, fun a r lv hF hs _ => expr_of (h.2 a r hF (stopCE hs)) hs lv, fun _ a r hF hs => h.2 a r hF (hs.a (.inr ho)), fun q => by unfold isA at q; omega, fun q => by unfold isA at q; omega⟩
theorem ExOk.of7 {k : Nat} {op : Int} {ts : List Tok} (ho : op = 7 ∨ op = 8 ∨ op = 9 ∨ op = 10) (h : HdE ts ∧ ∀ a r, Forest t a (k + 1) [k] → StopIn CE r → RdS t ks en .operand a k ts r) : ExOk t ks en k op ts :=
  ⟨h.1, fun a r lv hF hs _ => expr_of (h.2 a r hF hs) hs lv, fun _ a r hF hs => h.2 a r hF (by unfold StopOf at hs; rwa [if_pos ho] at hs), fun q => by unfold isA at q; omega, fun q => by unfold isA at q; omega⟩
theorem ExOk.of13 {k : Nat} {op : Int} {ts : List Tok} (ho : op = 13) (h : HdE ts ∧ ∀ a r, Forest t a (k + 1) [k] → StopIn CE r → RdS t ks en (.expr 0) a k ts r) : ExOk t ks en k op ts :=
  ⟨h.1, fun a r lv hF hs hl => by rw [hl ho]; exact h.2 a r hF hs, fun q => absurd ho q, fun q => by unfold isA at q; omega, fun q => by unfold isA at q; omega⟩
theorem ex_of (h : At1 t ks en N N' j nd fs) (ho : isE nd.op) : ExOk t ks en j nd.op (N' j [61]) := by
  unfold isE at ho
  rcases (by omega : (nd.op = 1 ∨ nd.op = 2 ∨ nd.op = 3 ∨ nd.op = 4 ∨ nd.op = 5) ∨ (nd.op = 11 ∨ nd.op = 12) ∨ nd.op = 6 ∨ nd.op = 7 ∨ nd.op = 8 ∨ nd.op = 9 ∨ nd.op = 10 ∨ nd.op = 13) with q | q | q | q | q | q | q | q
  · exact .ofA (by unfold isA; omega) (at_leaf h q _)
  · exact .ofA (by unfold isA; omega) (at_brackets h q _)
  · exact .of6 q (at_app h q _)
  · exact .of7 (by omega) (at_lam h q _)
  · exact .of7 (by omega) (at_let h q _)
  · exact .of7 (by omega) (at_if h q _)
  · have := at_case h q [61]
    exact .of7 (by omega) ⟨this.1, fun a r hF _ => this.2 a r hF⟩
  · exact .of13 q (at_bin h q _)
theorem pt_of (h : At1 t ks en N N' j nd fs) (ho : isPt nd.op) : PtOk t ks en j (N' j [61]) := by
  unfold isPt at ho
  rcases (by omega : (25 ≤ nd.op ∧ nd.op ≤ 29) ∨ nd.op = 30 ∨ (nd.op = 31 ∨ nd.op = 32)) with q | q | q
  · exact at_pleaf h q _
  · exact at_pcon h q _
  · exact at_pbrackets h q _
theorem ty_of (h : At1 t ks en N N' j nd fs) (ho : isTy nd.op) : TyOk t ks en j (N' j [61]) := by
  rcases ho with q | q
  · exact at_var h q _
  · exact at_ty h q _
theorem rt_of (h : At1 t ks en N N' j nd fs) : RT t ks en N' j := by
  have e := h.ofj
  constructor <;> rw [e]
  · exact fun ho => (ex_of h ho).he
  · exact fun ho => (ex_of h ho).e
  · exact fun ho => (ex_of h ho).o
  · exact fun ho => (ex_of h (by unfold isA at ho; unfold isE; omega)).ha ho
  · exact fun ho => (ex_of h (by unfold isA at ho; unfold isE; omega)).a ho
  · exact fun ho => (pt_of h ho).hp
  · exact fun ho => (pt_of h ho).p
  · exact fun ho => (pt_of h ho).ap
  · exact fun ho => (pt_of h ho).ph
  · exact fun ho => (ty_of h ho).wh
  · exact fun ho => (ty_of h ho).hw
  · exact fun ho => (ty_of h ho).w
  · exact fun ho => (ty_of h ho).aty
  · exact fun ho => by rw [var_toks h ho]; exact kd1 (var_name h ho)
  · intro ho p0 a r hF st ht hd hq hp
    rw [var_toks h ho] at hd ⊢
    obtain rfl := h.none (by omega)
    obtain rfl := (h.forest hF).empty
    exact var_rd (T := st.t) (q := st.p) (r := r) h ho ht hd
  · exact fun ho sep hs => (at_rhs h ho sep hs).1
  · exact fun ho sep hs => (at_rhs h ho sep hs).2
  · exact fun ho => ⟨h.hj, (fields_nil h.fields (by omega)).2, (fields_nil h.fields (by omega)).1⟩
  · exact fun ho => (at_decls h ho _).1
  · exact fun ho => (at_decls h ho _).2
  · exact fun ho => (at_clause h ho _).1
  · exact fun ho => (at_clause h ho _).2
  · exact fun ho => (at_data h ho _).1
  · exact fun ho => (at_data h ho _).2
  · exact fun ho => (at_alt h ho _).1
  · exact fun ho => (at_alt h ho _).2
  · intro ho sep
    rw [h.st, step_part (by omega)]
    unfold partT
    rw [if_neg (by omega), if_neg (by omega), if_neg (by omega), if_neg (by omega), if_pos ho]
    exact ⟨_, rfl⟩
  · exact fun ho sep hs => at_plain h ho sep hs
  · intro ho sep
    rw [h.st, step_part (by omega)]
    unfold partT
    rw [if_neg (by omega), if_neg (by omega), if_neg (by omega), if_pos ho]
    exact ⟨_, rfl⟩
  · exact fun ho sep hs => at_guard h ho sep hs
  · exact fun ho => (at_con h ho _).1
  · exact fun ho => (at_con h ho _).2
theorem nd_some {j : Nat} (h : j < t.length) : t[j]? = some (ndOf t j) := by
  unfold ndOf; rw [List.getD_eq_getElem?_getD, List.getElem?_eq_getElem h]; rfl
theorem rt_all (hs : Sound t t.length) : ∀ (f j : Nat), j < f → j < t.length → RT t ks en (nodeT t f) j
  | 0, _, h, _ => absurd h (Nat.not_lt_zero _)
  | f + 1, j, hf, hj =>
    rt_of (N := nodeT t f) (nd := ndOf t j) (fs := kidsN (ndOf t j)) ⟨nd_some hj, hs.kids j hj, hs.good j hj, fun _ => rfl, fun k hk => by
      have := hs.lt j hj k hk
      exact rt_all hs f k (by omega) (by omega)⟩
/-- The whole text. -/
theorem program_rd (hs : Sound t t.length) (hl : 1 ≤ t.length) (ho : (ndOf t (t.length - 1)).op = 20) (hF : Forest t 0 t.length [t.length - 1]) (hks : ks = nodeT t t.length (t.length - 1) [61]) {n : Nat} (hn : ks.length * 16 + 10 ≤ n) :
    programF (place ks 0) en (parseN (place ks 0) en n) ⟨[], 0⟩ = .ok (t.length - 1, ⟨t, ks.length⟩) := by
  obtain ⟨L, hL⟩ : ∃ L, t.length = L + 1 := ⟨t.length - 1, by omega⟩
  rw [hL, Nat.add_sub_cancel] at hF ho ⊢
  have hj : t[L]? = some (ndOf t L) := nd_some (by omega)
  have hk := hs.kids L (by omega)
  have hg := hs.good L (by omega)
  have hkl := hs.lt L (by omega)
  generalize hfs : kidsN (ndOf t L) = fs at hk hg hkl
  obtain ⟨_, kids', nd', w1, w2, w3⟩ := hF.one
  rw [hj] at w2
  obtain rfl := Option.some.inj w2
  rw [hk] at w3
  obtain rfl := natI_inj w3
  unfold goodR at hg
  rw [Bool.and_eq_true, ho] at hg
  obtain ⟨h0, hx⟩ := fields_nil hg.2 (by omega)
  have hp : allF 100 (cls (fs.map (opAt t))) 0 6000 = true := by simpa [partsF] using hg.1
  obtain ⟨hD, _, _⟩ := all_d hp
  have hrt : ∀ k ∈ fs, RT t ks en (nodeT t L) k := fun k hk => rt_all hs L k (hkl k hk) (by have := hkl k hk; omega)
  have hks : ks = btwn (fun k => nodeT t L k [61]) [59] fs := by
    rw [hks, hL]
    show stepT t (nodeT t L) (ndOf t L) (kidsN (ndOf t L)) [61] = _
    rw [step_part (by omega), hfs]
    unfold partT
    rw [if_neg (by omega), if_neg (by omega), if_neg (by omega), if_neg (by omega), if_neg (by omega), if_neg (by omega), if_pos ho, between_btwn]
  have hB : ∀ k ∈ fs, ∀ p r', ks.drop p = nodeT t L k [61] ++ r' → (isP (place ks 0) p [100, 97, 116, 97] || isVarP (place ks 0) p) = true := fun k hk p r' hd => by
    rw [is_pl, isVar_pl, hd]
    rcases hD k hk with q | q
    · have := (hrt k hk).hdt q
      rw [isT_app (by intro e; rw [e] at this; cases this), this]; rfl
    · have := (hrt k hk).hc q
      rw [kdT_app (kd_ne (.inl this)), this]; simp
  have hT : ∀ k ∈ fs, nodeT t L k [61] ≠ [] := fun k hk => by
    rcases hD k hk with q | q
    · have := (hrt k hk).hdt q
      intro e; rw [e] at this; cases this
    · exact kd_ne (.inl ((hrt k hk).hc q))
  have hfl : fs.length ≤ ks.length := by
    have := btwn_ge (m := [59]) fs hT
    rw [← hks] at this; exact this
  have hmeas : ∀ s, rankS s ≤ 9 → measS (place ks 0) s 0 < n := fun s h => by
    unfold measS; rw [place_len]; omega
  unfold programF
  rw [place_len]
  rw [show (⟨[], 0⟩ : PS) = ⟨t.take 0, 0⟩ from rfl]
  rw [semis_rd (p0 := 0) (r := []) (T := fun k => nodeT t L k [61]) (fun p hd => ⟨by rw [is_pl, isVar_pl, hd]; rfl, rfl⟩) fs (ks.length + 1) [] ⟨t.take 0, 0⟩ 0 L w1 rfl (by rw [List.drop_zero, List.append_nil]; exact hks) (Nat.le_refl _) (Nat.zero_le _) hT (fun k hk b r' hF' hr' st ht hd hq hp => by
      have hs' : StopIn CR r' := by
        rcases hr' with rfl | ⟨r'', rfl⟩
        · exact .inl rfl
        · exact stop_mk (by decide) (by decide)
      unfold topF
      rcases hD k hk with q | q
      · have hdt := (hrt k hk).hdt q
        rw [if_pos (by rw [is_pl, hd, isT_app (hT k hk), hdt])]
        exact ((hrt k hk).dt q b r' hF' hs').rd (p0 := 0) (hmeas _ (by decide)) st ht hd hq hp
      · have hc := (hrt k hk).hc q
        rw [if_neg (by rw [is_pl, hd, isT_app (hT k hk), isT_low (by rw [hc]; decide)]; decide)]
        exact ((hrt k hk).c q b r' hF' hs').rd (p0 := 0) (hmeas _ (by decide)) st ht hd hq hp) hB (by omega), bindP_ok]
  rw [← hks]
  simp only [Nat.zero_add]
  rw [if_neg (Nat.lt_irrefl _), List.nil_append, put_rd (st := ⟨t.take L, _⟩) rfl hj ho hx h0 hk, List.take_of_length_le (by omega)]
/-- What is shown of a sound tree is read as that tree again. -/
theorem back {t : List Nd} (hc : checkF goodR t = 0) (hsm : Small t) (h8 : (joinT ((nodeT t t.length (t.length - 1) [61]).map tokText)).length ≤ 8000) : parseF (joinT ((nodeT t t.length (t.length - 1) [61]).map tokText)) = (t, 0, 0) := by
  obtain ⟨l1, l2, hs, _⟩ := check_sound hc
  have hok : AllOk (nodeT t t.length (t.length - 1) [61]) := node_ok hs hsm _ _ _ (by omega) (.inl rfl)
  unfold checkF at hc
  split at hc
  case isFalse => cases hc
  rename_i hc1
  split at hc
  case h_2 => cases hc
  rename_i free hfree
  split at hc
  case isFalse => cases hc
  rename_i hc2
  have hF := runs_forest t 0 [] free rfl (.nil 0) hfree
  rw [Nat.zero_add] at hF
  have hlast : free = [t.length - 1] := by
    match free, hc2.1, hF with
    | [x], _, hF => rw [hF.one.1]; simp
  subst hlast
  unfold parseF
  rw [scan_text hok h8]
  rw [if_neg (by simp)]
  rw [program_rd hs l1 (by rw [← op_at]; exact hc1.2.2) hF rfl (by rw [place_len]; exact Nat.le_refl _)]
  show (if 6000 < t.length ∨ 300 < depthOf (kssOf t) then _ else _) = _
  rw [if_neg (by have := hc2.2; omega)]
end
end Go.Proofs.YtikgokpbhldlnaaGreatDoor
end
