/- Parts of a proof: Fg Fh Fi. -/
import Derived.Test.YtikgokpbhldlnaaGreatDoorRb
set_option linter.unusedVariables false
set_option linter.unusedSimpArgs false
set_option linter.unusedSectionVars false
section
/- What is shown of a tree is read as that tree again: operands and operators. -/
namespace Go.Proofs.YtikgokpbhldlnaaGreatDoor
open Go Go.Ab

theorem pair_of {l : List Nat} (h : l.length = 2) : ∃ x y, l = [x, y] := by
  match l, h with
  | [x, y], _ => exact ⟨x, y, rfl⟩
theorem triple_of {l : List Nat} (h : l.length = 3) : ∃ x y z, l = [x, y, z] := by
  match l, h with
  | [x, y, z], _ => exact ⟨x, y, z, rfl⟩
theorem cons_of {l : List Nat} (h : 1 ≤ l.length) : ∃ x r, l = x :: r := by
  match l, h with
  | x :: r, _ => exact ⟨x, r, rfl⟩
theorem snoc_of {l : List Nat} (h : 1 ≤ l.length) : ∃ r x, l = r ++ [x] := by
  rcases List.eq_nil_or_concat l with rfl | ⟨r, x, rfl⟩
  · simp at h
  · exact ⟨r, x, List.concat_eq_append⟩
section
variable {t : List Nd} {ks : List Tok} {en : Nat} {N N' : Nat → List UInt8 → List Tok} {j : Nat} {nd : Nd} {fs : List Nat}
theorem init_of {r : List Nat} {x : Nat} : (r ++ [x]).take ((r ++ [x]).length - 1) = r ∧ (r ++ [x]).getD ((r ++ [x]).length - 1) 0 = x := by
  constructor <;> simp
theorem HdA.atomic {ts r : List Tok} {q : Nat} (h : HdA ts) (hd : ks.drop q = ts ++ r) : atomicP (place ks 0) q = true := by
  rw [atomic_pl, hd, atB_app h.ne, isT_app h.ne, h.1, h.2]; rfl
theorem HdP.begins {ts r : List Tok} {q : Nat} (h : HdP ts) (hd : ks.drop q = ts ++ r) : beginsP (place ks 0) q = true := by
  rw [begins_pl, hd, atB_app h.ne, isT_app h.ne]; exact h
theorem HdT.typed {ts r : List Tok} {q : Nat} (h : HdT ts) (hd : ks.drop q = ts ++ r) : typedP (place ks 0) q = true := by
  rw [typed_pl, hd, kdT_app h.ne, isT_app h.ne, isT_app h.ne]; exact h
theorem begins_no {r : List Tok} {cl : List (List UInt8)} (h : StopIn cl r) (h1 : [40] ∉ cl) (h2 : [91] ∉ cl) (h3 : [95] ∉ cl) : ∀ p, ks.drop p = r → beginsP (place ks 0) p = false := fun p hd => by
  rw [begins_pl, hd, (h.o h1 h2).at, h.is h3]; rfl
theorem typed_no {r : List Tok} {cl : List (List UInt8)} (h : StopIn cl r) (h1 : [40] ∉ cl) (h2 : [91] ∉ cl) : ∀ p, ks.drop p = r → typedP (place ks 0) p = false := fun p hd => by
  have := h.kd
  rw [typed_pl, hd, decide_eq_false (show ¬ kdT r = 2 by omega), decide_eq_false (show ¬ kdT r = 1 by omega), h.is h1, h.is h2]; rfl
/-- Patterns in a row. -/
theorem apats_rd {r : List Tok} {n : Nat} {s : Sym} {p : Nat} (hm : measS (place ks 0) s p < n + 1) (hl : p + 1 ≤ ks.length) {l kids : List Nat} {q a e : Nat} (h : ∀ k ∈ l, RT t ks en N k) (hP : ∀ k ∈ l, isPt (ndOf t k).op) (hF : Forest t a e l) (hd : ks.drop q = argsT t N l ++ r) (hq : p + 1 ≤ q) (hp : q ≤ ks.length) (hr : ∀ p, ks.drop p = r → beginsP (place ks 0) p = false) (h8 : kids.length + l.length ≤ 8) {m : Nat} (hf : l.length < m) :
    manyF (place ks 0) en (beginsP (place ks 0)) (parseN (place ks 0) en n .apat) m kids ⟨t.take a, q⟩ = .ok (kids ++ l, ⟨t.take e, q + (argsT t N l).length⟩) :=
  many_rd (p0 := p + 1) (T := fun k => closedT N k (wantedF t k)) l m kids ⟨t.take a, q⟩ a e hF rfl hd hq hp (fun k hk => (closed_apat (h k hk) (hP k hk)).1.ne) (fun k hk b r' hF' => ((closed_apat (h k hk) (hP k hk)).2 b r' hF').next hm hl) (fun k hk p r' hd => (closed_apat (h k hk) (hP k hk)).1.begins hd) hr h8 hf
theorem atypes_rd {r : List Tok} {n : Nat} {s : Sym} {p : Nat} (hm : measS (place ks 0) s p < n + 1) (hl : p + 1 ≤ ks.length) {l kids : List Nat} {q a e : Nat} (h : ∀ k ∈ l, RT t ks en N k) (hP : ∀ k ∈ l, isTy (ndOf t k).op) (hF : Forest t a e l) (hd : ks.drop q = argsT t N l ++ r) (hq : p + 1 ≤ q) (hp : q ≤ ks.length) (hr : ∀ p, ks.drop p = r → typedP (place ks 0) p = false) (h8 : kids.length + l.length ≤ 8) {m : Nat} (hf : l.length < m) :
    manyF (place ks 0) en (typedP (place ks 0)) (parseN (place ks 0) en n .atype) m kids ⟨t.take a, q⟩ = .ok (kids ++ l, ⟨t.take e, q + (argsT t N l).length⟩) :=
  many_rd (p0 := p + 1) (T := fun k => closedT N k (wantedF t k)) l m kids ⟨t.take a, q⟩ a e hF rfl hd hq hp (fun k hk => (closed_atype (h k hk) (hP k hk)).1.ne) (fun k hk b r' hF' => ((closed_atype (h k hk) (hP k hk)).2 b r' hF').next hm hl) (fun k hk p r' hd => (closed_atype (h k hk) (hP k hk)).1.typed hd) hr h8 hf
/-- f x .. -/
theorem at_app (h : At1 t ks en N N' j nd fs) (ho : nd.op = 6) (sep : List UInt8) : HdE (N' j sep) ∧ ∀ a r, Forest t a (j + 1) [j] → StopO r → RdS t ks en .operand a j (N' j sep) r := by
  obtain ⟨h0, hx⟩ := fields_nil h.fields (by omega)
  have hp := h.parts
  rw [h.st, step_expr (by omega)]
  unfold exprT
  rw [if_pos ho]
  have hp : allF 101 (cls (fs.map (opAt t))) 2 9 = true := by rw [ho] at hp; simpa [partsF] using hp
  obtain ⟨hE, h2, h9⟩ := all_e hp
  obtain ⟨f, l, rfl⟩ := cons_of (l := fs) (by omega)
  have hw : ∀ k ∈ f :: l, (reachF t k || decide ((ndOf t k).op = 6)) = false → isA (ndOf t k).op := fun k hk q => by
    rw [Bool.or_eq_false_iff] at q
    rcases reach_f q.1 (hE k hk) with q1 | q1
    · exact q1
    · exact absurd q1 (of_decide_eq_false q.2)
  have hc := fun k hk => closed_atom (h.kid k hk) (hE k hk) (hw k hk)
  obtain ⟨c1, c2⟩ := hc f (by simp)
  rw [List.map_cons, List.flatten_cons]
  refine ⟨.inl c1.app, ?_⟩
  rintro a r hF hs n ⟨T, q⟩ ht hd hp hm
  simp only [] at ht hd hp hm
  subst ht
  obtain ⟨n, rfl⟩ : ∃ m, n = m + 1 := ⟨n - 1, by omega⟩
  rw [List.append_assoc] at hd
  obtain ⟨w1, w2⟩ := (h.forest hF).cons
  have d1 := drop_len hd c1.ne
  have d2 := drop_app hd
  have hno : ∀ tx, tx ≠ [40] → tx ≠ [91] → ¬ isP (place ks 0) q tx = true := fun tx h1 h2 => by
    rw [is_pl, hd, isT_app c1.ne, c1.no h1 h2]; decide
  have hpos : q + 1 ≤ q + (closedT N f (reachF t f || decide ((ndOf t f).op = 6))).length := by have := List.length_pos_iff.2 c1.ne; omega
  show (if isP (place ks 0) q [92] = true then _ else _) = _
  rw [if_neg (hno _ (by decide) (by decide)), if_neg (hno _ (by decide) (by decide)), if_neg (hno _ (by decide) (by decide)), if_neg (hno _ (by decide) (by decide))]
  rw [rd_b ((c2 a _ w1).rd (p0 := q) (meas_eq hm (show 5 < 6 by decide))) hd (Nat.le_refl _) hp]
  rw [many_rd (p0 := q + 1) (r := r) (T := fun k => closedT N k (reachF t k || decide ((ndOf t k).op = 6))) l 9 [] _ (f + 1) j w2 rfl d2 hpos d1 (fun k hk => (hc k (by simp [hk])).1.ne) (fun k hk b r' hF' => ((hc k (by simp [hk])).2 b r' hF').next hm (by omega)) (fun k hk p r' hd => (hc k (by simp [hk])).1.atomic hd) (fun p hd => by rw [atomic_pl, hd, hs.at]; simp) (by simp at h9 ⊢; omega) (by simp at h9 ⊢; omega)]
  rw [bindP_ok, List.nil_append, if_neg (by simp at h2; omega), put_rd (st := ⟨t.take j, _⟩) rfl h.hj ho hx h0 h.hk]
  simp; omega
theorem isT_hd {s : List UInt8} {r : List Tok} (hk : 6 ≤ markK s) : isT (mkT s :: r) s = true := by rw [is_mk hk]; simp
/-- \ .. -> e -/
theorem at_lam (h : At1 t ks en N N' j nd fs) (ho : nd.op = 7) (sep : List UInt8) : HdE (N' j sep) ∧ ∀ a r, Forest t a (j + 1) [j] → StopIn CE r → RdS t ks en .operand a j (N' j sep) r := by
  obtain ⟨h0, hx⟩ := fields_nil h.fields (by omega)
  have hp := h.parts
  rw [h.st, step_expr (by omega)]
  unfold exprT
  rw [if_neg (by omega), if_neg (by omega), if_pos ho]
  have hp : ((decide ((2 : Int) ≤ ((fs.map (opAt t)).length : Int)) && allF 112 ((cls (fs.map (opAt t))).take ((fs.map (opAt t)).length - 1)) 1 8) && decide (((at0 (cls (fs.map (opAt t))) ((fs.map (opAt t)).length - 1)).toNat : Int) = 101)) = true := by rw [ho] at hp; simpa [partsF] using hp
  simp only [Bool.and_eq_true, decide_eq_true_eq] at hp
  obtain ⟨⟨p1, p2⟩, p3⟩ := hp
  obtain ⟨l, e, rfl⟩ := snoc_of (l := fs) (by simp at p1; omega)
  have q2 : allF 112 (cls (l.map (opAt t))) 1 8 = true := by simpa [cls] using p2
  have q3 : isE (ndOf t e).op := one_e (by simpa [cls, at0] using p3)
  obtain ⟨hP, l1, l8⟩ := all_p q2
  rw [init_of.1, init_of.2]
  obtain ⟨x, l, rfl⟩ := cons_of (l := l) (by omega)
  have c := closed_apat (h.kid x (by simp)) (hP x (by simp))
  have ce := h.kid e (by simp)
  refine ⟨.inr ⟨[92], by decide, isT_hd (by decide)⟩, ?_⟩
  rintro a r hF hs n ⟨T, q⟩ ht hd hp hm
  simp only [] at ht hd hp hm
  subst ht
  obtain ⟨n, rfl⟩ : ∃ m, n = m + 1 := ⟨n - 1, by omega⟩
  have hd : ks.drop q = mkT [92] :: (closedT N x (wantedF t x) ++ (argsT t N l ++ (mkT [45, 62] :: (N e [61] ++ r)))) := by rw [hd]; simp [argsT, mk]
  obtain ⟨b, w1, w2⟩ := (h.forest hF).split (x :: l) [e] rfl
  obtain ⟨w3, w4⟩ := w1.cons
  obtain rfl := w2.one.1
  have d1 := drop1 hd
  have d2 := drop_len d1.1 c.1.ne
  have d3 := drop_app d1.1
  have hm' := hm
  show (if isP (place ks 0) q [92] = true then bindP (parseN (place ks 0) en n .apat ⟨t.take a, q + 1⟩) _ else _) = _
  rw [if_pos (by rw [is_pl, hd]; exact isT_hd (by decide))]
  rw [rd_b ((c.2 a _ w3).next hm d1.2) d1.1 (Nat.le_refl _) d1.2]
  have d4 := drop_app d3
  have d5 := drop1 d4
  have d6 := drop_len d5.1 (ce.he q3).ne
  rw [apats_rd hm d1.2 (fun k hk => h.kid k (by simp [hk])) (fun k hk => hP k (by simp [hk])) w4 d3 (by omega) d2 (begins_no (cl := [[45, 62]]) (stop_mk (by decide) (by decide)) (by decide) (by decide) (by decide)) (by simp at l8 ⊢; omega) (by simp at l8 ⊢; omega), bindP_ok, take_b d4 (by decide)]
  rw [rd_b ((ce.e q3 b r 0 w2 hs (fun _ => rfl)).next hm d1.2) d5.1 (by omega) d5.2]
  rw [put_rd (st := ⟨t.take (e + 1), _⟩) rfl h.hj ho hx h0 (by rw [h.hk]; rfl)]
  simp [argsT, mk]; omega
/-- let .. in e -/
theorem at_let (h : At1 t ks en N N' j nd fs) (ho : nd.op = 8) (sep : List UInt8) : HdE (N' j sep) ∧ ∀ a r, Forest t a (j + 1) [j] → StopIn CE r → RdS t ks en .operand a j (N' j sep) r := by
  obtain ⟨h0, hx⟩ := fields_nil h.fields (by omega)
  have hp := h.parts
  rw [h.st, step_expr (by omega)]
  unfold exprT
  rw [if_neg (by omega), if_neg (by omega), if_neg (by omega), if_pos ho]
  have hp : ((decide (((fs.map (opAt t)).length : Int) = 2) && decide ((fs.map (opAt t)).getD 0 0 = 18)) && decide (((at0 (cls (fs.map (opAt t))) 1).toNat : Int) = 101)) = true := by rw [ho] at hp; simpa [partsF] using hp
  simp only [Bool.and_eq_true, decide_eq_true_eq] at hp
  obtain ⟨⟨p1, p2⟩, p3⟩ := hp
  obtain ⟨d, e, rfl⟩ := pair_of (l := fs) (by simp at p1; omega)
  have q2 : (ndOf t d).op = 18 := by rw [← op_at]; simpa using p2
  have q3 : isE (ndOf t e).op := one_e (by simpa [cls, at0] using p3)
  have cd := h.kid d (by simp)
  have ce := h.kid e (by simp)
  refine ⟨.inr ⟨[108, 101, 116], by decide, isT_hd (by decide)⟩, ?_⟩
  rintro a r hF hs n ⟨T, q⟩ ht hd hp hm
  simp only [] at ht hd hp hm
  subst ht
  obtain ⟨n, rfl⟩ : ∃ m, n = m + 1 := ⟨n - 1, by omega⟩
  have hd : ks.drop q = mkT [108, 101, 116] :: (N d [61] ++ (mkT [105, 110] :: (N e [61] ++ r))) := by rw [hd]; simp [mk]
  obtain ⟨w1, w2⟩ := (h.forest hF).cons
  obtain rfl := w2.one.1
  have d1 := drop1 hd
  have hdn : N d [61] ≠ [] := by intro q; have := cd.hd q2; rw [q] at this; cases this
  have d2 := drop_len d1.1 hdn
  have d3 := drop_app d1.1
  have d4 := drop1 d3
  show (if isP (place ks 0) q [92] = true then _ else if isP (place ks 0) q [108, 101, 116] = true then bindP (parseN (place ks 0) en n .decls ⟨t.take a, q + 1⟩) _ else _) = _
  rw [if_neg (by rw [is_pl, hd, is_mk (by decide)]; decide), if_pos (by rw [is_pl, hd]; exact isT_hd (by decide))]
  rw [rd_b ((cd.d q2 a _ w1).next hm d1.2) d1.1 (Nat.le_refl _) d1.2, take_b d3 (by decide)]
  rw [rd_b ((ce.e q3 _ r 0 w2 hs (fun _ => rfl)).next hm d1.2) d4.1 (by omega) d4.2]
  rw [put_rd (st := ⟨t.take (e + 1), _⟩) rfl h.hj ho hx h0 h.hk]
  simp [mk]; omega
/-- if a then b else c -/
theorem at_if (h : At1 t ks en N N' j nd fs) (ho : nd.op = 9) (sep : List UInt8) : HdE (N' j sep) ∧ ∀ a r, Forest t a (j + 1) [j] → StopIn CE r → RdS t ks en .operand a j (N' j sep) r := by
  obtain ⟨h0, hx⟩ := fields_nil h.fields (by omega)
  have hp := h.parts
  rw [h.st, step_expr (by omega)]
  unfold exprT
  rw [if_neg (by omega), if_neg (by omega), if_neg (by omega), if_neg (by omega), if_pos ho]
  have hp : allF 101 (cls (fs.map (opAt t))) 3 3 = true := by rw [ho] at hp; simpa [partsF] using hp
  obtain ⟨hE, h2, h9⟩ := all_e hp
  obtain ⟨x, y, z, rfl⟩ := triple_of (l := fs) (by omega)
  have cx := h.kid x (by simp)
  have cy := h.kid y (by simp)
  have cz := h.kid z (by simp)
  have ex := hE x (by simp)
  have ey := hE y (by simp)
  have ez := hE z (by simp)
  refine ⟨.inr ⟨[105, 102], by decide, isT_hd (by decide)⟩, ?_⟩
  rintro a r hF hs n ⟨T, q⟩ ht hd hp hm
  simp only [] at ht hd hp hm
  subst ht
  obtain ⟨n, rfl⟩ : ∃ m, n = m + 1 := ⟨n - 1, by omega⟩
  have hd : ks.drop q = mkT [105, 102] :: (N x [61] ++ (mkT [116, 104, 101, 110] :: (N y [61] ++ (mkT [101, 108, 115, 101] :: (N z [61] ++ r))))) := by rw [hd]; simp [mk, ifT]
  obtain ⟨w1, w2⟩ := (h.forest hF).cons
  obtain ⟨w4, w3⟩ := w2.cons
  obtain rfl := w3.one.1
  have d1 := drop1 hd
  have d2 := drop_len d1.1 (cx.he ex).ne
  have d3 := drop_app d1.1
  have d4 := drop1 d3
  have d5 := drop_len d4.1 (cy.he ey).ne
  have d6 := drop_app d4.1
  have d7 := drop1 d6
  show (if isP (place ks 0) q [92] = true then _ else if isP (place ks 0) q [108, 101, 116] = true then _ else if isP (place ks 0) q [105, 102] = true then bindP (parseN (place ks 0) en n (.expr 0) ⟨t.take a, q + 1⟩) _ else _) = _
  rw [if_neg (by rw [is_pl, hd, is_mk (by decide)]; decide), if_neg (by rw [is_pl, hd, is_mk (by decide)]; decide), if_pos (by rw [is_pl, hd]; exact isT_hd (by decide))]
  rw [rd_b ((cx.e ex a _ 0 w1 (stop_mk (by decide) (by decide)) (fun _ => rfl)).next hm d1.2) d1.1 (Nat.le_refl _) d1.2, take_b d3 (by decide)]
  rw [rd_b ((cy.e ey _ _ 0 w4 (stop_mk (by decide) (by decide)) (fun _ => rfl)).next hm d1.2) d4.1 (by omega) d4.2, take_b d6 (by decide)]
  rw [rd_b ((cz.e ez _ _ 0 w3 hs (fun _ => rfl)).next hm d1.2) d7.1 (by omega) d7.2]
  rw [put_rd (st := ⟨t.take (z + 1), _⟩) rfl h.hj ho hx h0 h.hk]
  simp [mk, ifT]; omega
/-- case e of { .. } -/
theorem at_case (h : At1 t ks en N N' j nd fs) (ho : nd.op = 10) (sep : List UInt8) : HdE (N' j sep) ∧ ∀ a r, Forest t a (j + 1) [j] → RdS t ks en .operand a j (N' j sep) r := by
  obtain ⟨h0, hx⟩ := fields_nil h.fields (by omega)
  have hp := h.parts
  rw [h.st, step_expr (by omega)]
  unfold exprT
  rw [if_neg (by omega), if_neg (by omega), if_neg (by omega), if_neg (by omega), if_neg (by omega), if_pos ho, between_btwn]
  have hp : ((decide ((2 : Int) ≤ ((fs.map (opAt t)).length : Int)) && decide (((at0 (cls (fs.map (opAt t))) 0).toNat : Int) = 101)) && onlyF 14 ((fs.map (opAt t)).drop 1) 1 6000) = true := by rw [ho] at hp; simpa [partsF] using hp
  simp only [Bool.and_eq_true, decide_eq_true_eq] at hp
  obtain ⟨⟨p1, p2⟩, p3⟩ := hp
  obtain ⟨x, l, rfl⟩ := cons_of (l := fs) (by simp at p1; omega)
  have ex : isE (ndOf t x).op := one_e (by simpa [cls, at0] using p2)
  obtain ⟨hA, l1, l2⟩ := only_of (l := l) (by simpa using p3)
  have cx := h.kid x (by simp)
  have ca := fun k hk => h.kid k (List.mem_cons_of_mem x hk)
  refine ⟨.inr ⟨[99, 97, 115, 101], by decide, isT_hd (by decide)⟩, ?_⟩
  rintro a r hF n ⟨T, q⟩ ht hd hp hm
  simp only [] at ht hd hp hm
  subst ht
  obtain ⟨n, rfl⟩ : ∃ m, n = m + 1 := ⟨n - 1, by omega⟩
  have hd : ks.drop q = mkT [99, 97, 115, 101] :: (N x [61] ++ (mkT [111, 102] :: mkT [123] :: (btwn (fun k => N k [61]) [59] l ++ (mkT [125] :: r)))) := by rw [hd]; simp [mk]
  obtain ⟨w1, w2⟩ := (h.forest hF).cons
  have d1 := drop1 hd
  have d2 := drop_len d1.1 (cx.he ex).ne
  have d3 := drop_app d1.1
  have d4 := drop1 d3
  have d5 := drop1 d4.1
  have hm2 := meas_lt (s' := .cases) (p' := q + 1) hm (Nat.le_refl _) (by rw [place_len]; exact d1.2)
  obtain ⟨n, rfl⟩ : ∃ m, n = m + 1 := ⟨n - 1, by omega⟩
  have hm3 : ∀ s', measS (place ks 0) s' (q + 2) < n := fun s' => meas_lt hm2 (Nat.le_refl _) (by rw [place_len]; have := List.length_pos_iff.2 (cx.he ex).ne; omega)
  have hal : ∀ k ∈ l, N k [61] ≠ [] := fun k hk => ((ca k hk).hal (hA k hk)).ne
  have hfl := Nat.le_trans (btwn_ge (m := [59]) l hal) (drop_le d5.1)
  show (if isP (place ks 0) q [92] = true then _ else if isP (place ks 0) q [108, 101, 116] = true then _ else if isP (place ks 0) q [105, 102] = true then _ else if isP (place ks 0) q [99, 97, 115, 101] = true then bindP (parseN (place ks 0) en n (.expr 0) ⟨t.take a, q + 1⟩) _ else _) = _
  rw [if_neg (by rw [is_pl, hd, is_mk (by decide)]; decide), if_neg (by rw [is_pl, hd, is_mk (by decide)]; decide), if_neg (by rw [is_pl, hd, is_mk (by decide)]; decide), if_pos (by rw [is_pl, hd]; exact isT_hd (by decide))]
  rw [rd_b ((cx.e ex a _ 0 w1 (stop_mk (by decide) (by decide)) (fun _ => rfl)).rd (p0 := q + 1) (meas_eq hm2 (show 7 < 9 by decide))) d1.1 (Nat.le_refl _) d1.2, take_b d3 (by decide), take_b d4.1 (by decide), place_len]
  rw [semis_rd (p0 := q + 2) (r := mkT [125] :: r) (T := fun k => N k [61]) (fun p hd => ⟨begins_no (cl := [[125]]) (stop_mk (by decide) (by decide)) (by decide) (by decide) (by decide) p hd, by rw [is_mk (by decide)]; decide⟩) l (ks.length + 1) [] _ (x + 1) j w2 rfl d5.1 (by simp only []; omega) d5.2 hal (fun k hk b r' hF' hr' => (ca k hk).al (hA k hk) n (q + 2) b r' hF' (by
      rcases hr' with rfl | ⟨r'', rfl⟩
      · exact stop_mk (by decide) (by decide)
      · exact stop_mk (by decide) (by decide)) (hm3 _)) (fun k hk p r' hd => ((ca k hk).hal (hA k hk)).begins hd) (by omega), bindP_ok]
  have d6 := drop_app d5.1
  rw [if_neg (by rw [List.nil_append]; omega), take_b d6 (by decide), List.nil_append, put_rd (st := ⟨t.take j, _⟩) rfl h.hj ho hx h0 h.hk]
  simp [mk]; omega
theorem opList_mem {s : List UInt8} (h : s ∈ opTexts) : ∃ o ∈ opList, o.1 = s := by
  obtain ⟨o, h1, h2⟩ := List.mem_map.1 h
  exact ⟨o, h1, h2⟩
theorem op_lv : ∀ o ∈ opList, ¬ o.2.1 < 0 := by decide +kernel
/-- x + y -/
theorem at_bin (h : At1 t ks en N N' j nd fs) (ho : nd.op = 13) (sep : List UInt8) : HdE (N' j sep) ∧ ∀ a r, Forest t a (j + 1) [j] → StopIn CE r → RdS t ks en (.expr 0) a j (N' j sep) r := by
  have h0 := fields_num h.fields (by omega)
  have hf := h.fields
  have hp := h.parts
  rw [h.st, step_expr (by omega)]
  unfold exprT
  rw [if_neg (by omega), if_pos ho]
  have hp : allF 101 (cls (fs.map (opAt t))) 2 2 = true := by rw [ho] at hp; simpa [partsF] using hp
  have hop : bs nd.text ∈ opTexts := by rw [ho] at hf; simpa [fieldsF, h0] using hf
  obtain ⟨o, o1, o2⟩ := opList_mem hop
  obtain ⟨hE, h2, h9⟩ := all_e hp
  obtain ⟨x, y, rfl⟩ := pair_of (l := fs) (by omega)
  obtain ⟨cx, cx2⟩ := closed_side (h.kid x (by simp)) (hE x (by simp))
  obtain ⟨cy, cy2⟩ := closed_side (h.kid y (by simp)) (hE y (by simp))
  simp only [List.getD_cons_zero, List.getD_cons_succ]
  refine ⟨by rw [List.append_assoc]; exact cx.app, ?_⟩
  rintro a r hF hs n ⟨T, q⟩ ht hd hp hm
  simp only [] at ht hd hp hm
  subst ht
  obtain ⟨n, rfl⟩ : ∃ m, n = m + 1 := ⟨n - 1, by omega⟩
  have hd : ks.drop q = closedT N x (reachF t x) ++ (mkT (bs nd.text) :: (closedT N y (reachF t y) ++ r)) := by rw [hd]; simp [mk]
  obtain ⟨w1, w2⟩ := (h.forest hF).cons
  obtain rfl := w2.one.1
  have d1 := drop_len hd cx.ne
  have d2 := drop_app hd
  have d3 := drop1 d2
  have d4 := drop_app d3.1
  have hx1 := List.length_pos_iff.2 cx.ne
  have hy := expr_of (cy2 _ r w2 (hs.o (by decide) (by decide))) hs
  show bindP (parseN (place ks 0) en n .operand ⟨t.take a, q⟩) _ = _
  rw [rd_b ((cx2 a _ w1 (.op hop)).rd (p0 := q) (meas_eq hm (show 6 < 7 by decide))) hd (Nat.le_refl _) hp, place_len, exprF, opP_some d2 o1 o2]
  show (if o.2.1 < 0 then _ else bindP (parseN (place ks 0) en n (.expr (if o.2.2 = 1 then o.2.1 else o.2.1 + 1)) ⟨t.take (x + 1), q + (closedT N x (reachF t x)).length + 1⟩) _) = _
  rw [if_neg (op_lv o o1), rd_b ((hy _).next hm (by omega)) d3.1 (by omega) d3.2, o2, put_b h.hj ho rfl h0 h.hk]
  have hno : opP (place ks 0) (q + (closedT N x (reachF t x)).length + 1 + (closedT N y (reachF t y)).length) = none := opP_none (by rw [d4]; exact hs.op)
  rw [if_neg (by simp only [hno]; rintro ⟨_, q⟩; cases q)]
  obtain ⟨m, hm⟩ : ∃ m, ks.length = m + 1 := ⟨ks.length - 1, by omega⟩
  rw [hm, exprF]
  simp only [hno]
  simp [mk]; omega
end
end Go.Proofs.YtikgokpbhldlnaaGreatDoor
end

section
/- What is shown of a tree is read as that tree again: patterns. -/
namespace Go.Proofs.YtikgokpbhldlnaaGreatDoor
open Go Go.Ab

section
variable {t : List Nd} {ks : List Tok} {en : Nat} {N N' : Nat → List UInt8 → List Tok} {j : Nat} {nd : Nd} {fs : List Nat}
theorem RdH.b {β : Type} {one : Nat → Pr Nat} {s : Sym} {a j n q : Nat} {ts r : List Tok} {f : Nat → PS → Out β} (h : RdH t ks one s a j ts r) (hd : ks.drop q = ts ++ r) (hp : q ≤ ks.length) (hm : measS (place ks 0) s q < n + 1) : bindP (one n ⟨t.take a, q⟩) f = f j ⟨t.take (j + 1), q + ts.length⟩ := by
  rw [h n ⟨t.take a, q⟩ rfl hd hp hm]; rfl
theorem headP_of {a k : Nat} {ts r : List Tok} (h : RdS t ks en .apat a k ts r) (h2 : ts ≠ []) (hk : kdT ts ≠ 2) : RdH t ks (headP ks en) .pat a k ts r := by
  intro n st ht hd hp hm
  unfold headP
  rw [if_neg (by rw [kd_pl, hd, kdT_app h2]; exact hk), h n st ht hd hp (meas_eq hm (by decide))]
theorem headW_of {a k : Nat} {ts r : List Tok} (h : RdS t ks en .atype a k ts r) (h2 : ts ≠ []) (hk : kdT ts ≠ 2) : RdH t ks (headW ks en) .whole a k ts r := by
  intro n st ht hd hp hm
  unfold headW
  rw [if_neg (by rw [kd_pl, hd, kdT_app h2]; exact hk), h n st ht hd hp (meas_eq hm (by decide))]
theorem pat_head {a k : Nat} {ts r : List Tok} (h : RdH t ks (headP ks en) .pat a k ts r) (hs : isT r [58] = false) : RdS t ks en .pat a k ts r := by
  intro n st ht hd hp hm
  obtain ⟨n, rfl⟩ : ∃ m, n = m + 1 := ⟨n - 1, by omega⟩
  show bindP (headP ks en n st) _ = _
  rw [h n st ht hd hp hm, bindP_ok, if_neg (by rw [is_pl, drop_app hd, hs]; decide)]
theorem whole_head {a k : Nat} {ts r : List Tok} (h : RdH t ks (headW ks en) .whole a k ts r) (hs : isT r [45, 62] = false) : RdS t ks en .whole a k ts r := by
  intro n st ht hd hp hm
  obtain ⟨n, rfl⟩ : ∃ m, n = m + 1 := ⟨n - 1, by omega⟩
  show bindP (headW ks en n st) _ = _
  rw [h n st ht hd hp hm, bindP_ok, if_neg (by rw [is_pl, drop_app hd, hs]; decide)]
theorem NoB.of {cl : List (List UInt8)} {r : List Tok} (h : StopIn cl r) (h1 : [40] ∉ cl) (h2 : [91] ∉ cl) (h3 : [95] ∉ cl) : NoB r := by
  unfold NoB; rw [(h.o h1 h2).at, h.is h3]; rfl
theorem NoB.op {s : List UInt8} {r : List Tok} (h : s ∈ opTexts) : NoB (mkT s :: r) := by
  have := op_marks s h
  unfold NoB
  rw [(StopO.op (r := r) h).at, is_mk (by rw [this.1]; decide), decide_eq_false (by rintro rfl; revert h; decide)]; rfl
theorem mk_kd7 {s : List UInt8} {r : List Tok} (h : markK s = 7 ∨ markK s = 6) : kdT (mkT s :: r) ≠ 2 := by
  rw [kd_mk]; omega

/-! ### Patterns -/
theorem leaf_apat {k : Tok} {a : Nat} {r : List Tok} (h : At1 t ks en N N' j nd []) (hF : Forest t a (j + 1) [j]) (hk : 1 ≤ k.kind ∧ k.kind ≤ 5) (h64 : k.kind = 5 → k.text.length ≤ 64) (h1 : ([25, 30, 27, 28, 29] : List Int).getD (k.kind - 1).toNat 0 = nd.op) (h2 : bs nd.text = k.text) (h3 : nd.num = k.num) : RdS t ks en .apat a j [k] r := by
  obtain rfl := (h.forest hF).empty
  intro n st ht hd hp hm
  obtain ⟨n, rfl⟩ : ∃ m, n = m + 1 := ⟨n - 1, by omega⟩
  have hlow : ∀ tx, isT ([k] ++ r) tx = false := fun tx => isT_low (by show k.kind ≤ 5; exact hk.2)
  show (if isP (place ks 0) st.p [95] = true then _ else if kindP (place ks 0) st.p = 5 ∧ _ then _ else if ((atomicP (place ks 0) st.p && !isP (place ks 0) st.p [40]) && !isP (place ks 0) st.p [91]) = true then _ else _) = _
  rw [if_neg (by rw [is_pl, hd, hlow]; decide), if_neg (by
    rw [kd_pl, hd, tx_pl (k := k) (r := r) (by rw [hd]; rfl)]
    rintro ⟨q1, q2⟩
    have := h64 q1
    omega), if_pos (by
    rw [atomic_pl, is_pl, is_pl, hd, hlow, hlow, hlow]
    unfold atB
    rw [show kdT ([k] ++ r) = k.kind from rfl, decide_eq_true hk.1, decide_eq_true hk.2]; rfl)]
  exact leaf_rd ht h.hj (by rw [hd]; rfl) h1 h2 h3 h.hk
/-- What is asked of a pattern. -/
structure PtOk (t : List Nd) (ks : List Tok) (en : Nat) (k : Nat) (ts : List Tok) : Prop where
  hp : HdP ts
  p : ∀ a r, Forest t a (k + 1) [k] → StopIn CP r → RdS t ks en .pat a k ts r
  ap : wantedF t k = false → ∀ a r, Forest t a (k + 1) [k] → RdS t ks en .apat a k ts r
  ph : sameF t k 30 [58] = false → ∀ a r, Forest t a (k + 1) [k] → NoB r → RdH t ks (headP ks en) .pat a k ts r
theorem PtOk.of {k : Nat} {ts : List Tok} (h : HdP ts) (hk : kdT ts ≠ 2) (ha : ∀ a r, Forest t a (k + 1) [k] → RdS t ks en .apat a k ts r) : PtOk t ks en k ts :=
  ⟨h, fun a r hF hs => pat_head (headP_of (ha a r hF) h.ne hk) (hs.is (by decide)), fun _ => ha, fun _ a r hF _ => headP_of (ha a r hF) h.ne hk⟩
theorem pt_leaf {k : Tok} (h : At1 t ks en N N' j nd []) (hk : 1 ≤ k.kind ∧ k.kind ≤ 5) (h2 : k.kind ≠ 2) (h64 : k.kind = 5 → k.text.length ≤ 64) (h1 : ([25, 30, 27, 28, 29] : List Int).getD (k.kind - 1).toNat 0 = nd.op) (e2 : bs nd.text = k.text) (h3 : nd.num = k.num) : PtOk t ks en j [k] :=
  .of (HdA.low hk).p h2 fun a r hF => leaf_apat h hF hk h64 h1 e2 h3
theorem at_pleaf (h : At1 t ks en N N' j nd fs) (ho : 25 ≤ nd.op ∧ nd.op ≤ 29) (sep : List UInt8) : PtOk t ks en j (N' j sep) := by
  obtain rfl := h.none (by omega)
  have hf := h.fields
  rw [h.st]
  rcases (by omega : nd.op = 25 ∨ nd.op = 26 ∨ nd.op = 27 ∨ nd.op = 28 ∨ nd.op = 29) with ho | ho | ho | ho | ho
  · rw [step_nm (by omega)]
    have h0 := fields_num hf (by omega)
    rw [ho] at hf
    have hn : nameF (bs nd.text) = 1 := by simpa [fieldsF, h0] using hf
    rw [nmT_name hn (by decide)]
    exact pt_leaf h (k15 _ 1 rfl (by decide)) (by show ¬ (1 : Int) = 2; decide) nofun (by rw [ho]; rfl) rfl h0
  · obtain ⟨h0, hx⟩ := fields_nil hf (by omega)
    have e : stepT t N nd [] sep = [mkT [95]] := by unfold stepT; rw [if_neg (by omega), if_pos ho]; rfl
    rw [e]
    refine .of rfl (mk_kd7 (.inl (by decide))) fun a r hF n st ht hd hp hm => ?_
    obtain rfl := (h.forest hF).empty
    obtain ⟨n, rfl⟩ : ∃ m, n = m + 1 := ⟨n - 1, by omega⟩
    have hd' : ks.drop st.p = mkT [95] :: r := hd
    show (if isP (place ks 0) st.p [95] = true then putP 26 [] [] (adv st) else _) = _
    rw [if_pos (by rw [is_pl, hd']; exact isT_hd (by decide)), put_rd (st := adv st) ht h.hj ho hx h0 h.hk]; rfl
  · rw [step_num (by omega)]
    have hn : bs nd.text = [] := by
      rw [ho] at hf
      have : (decide (bs nd.text = []) && decide (0 ≤ nd.num)) = true := hf
      simp only [Bool.and_eq_true, decide_eq_true_eq] at this; exact this.1
    exact pt_leaf h (k15 _ 3 rfl (by decide)) (by show ¬ (3 : Int) = 2; decide) nofun (by rw [ho]; rfl) hn rfl
  · rw [step_chr (by omega)]
    have hn : bs nd.text = [] := by
      rw [ho] at hf
      have : ((decide (bs nd.text = []) && decide (0 ≤ nd.num)) && decide (nd.num ≤ 255)) = true := hf
      simp only [Bool.and_eq_true, decide_eq_true_eq] at this; exact this.1.1
    exact pt_leaf h (k15 _ 4 rfl (by decide)) (by show ¬ (4 : Int) = 2; decide) nofun (by rw [ho]; rfl) hn rfl
  · rw [step_str (by omega)]
    have h0 := fields_num hf (by omega)
    rw [ho] at hf
    have hn : (((bs nd.text).length : Int) ≤ 64) := by simpa [fieldsF, h0] using hf
    exact pt_leaf h (k15 _ 5 rfl (by decide)) (by show ¬ (5 : Int) = 2; decide) (fun _ => by show (bs nd.text).length ≤ 64; omega) (by rw [ho]; rfl) rfl h0
theorem at_pbrackets (h : At1 t ks en N N' j nd fs) (ho : nd.op = 31 ∨ nd.op = 32) (sep : List UInt8) : PtOk t ks en j (N' j sep) := by
  obtain ⟨h0, hx⟩ := fields_nil h.fields (by omega)
  have hp := h.parts
  rw [h.st]
  rcases ho with ho | ho
  · have hp : allF 112 (cls (fs.map (opAt t))) 2 8 = true := by rw [ho] at hp; simpa [partsF] using hp
    obtain ⟨hE, h2, h8⟩ := all_p hp
    rw [step_tup (by omega)]
    refine .of HdA.mk40.p (mk_kd7 (.inl (by decide))) fun a r hF n st ht hd hq hm => ?_
    obtain ⟨n, rfl⟩ : ∃ m, n = m + 1 := ⟨n - 1, by omega⟩
    have hd' : ks.drop st.p = mkT [40] :: (btwn (fun k => N k [61]) [44] fs ++ mkT [41] :: r) := by rw [hd]; simp
    show (if isP (place ks 0) st.p [95] = true then _ else if kindP (place ks 0) st.p = 5 ∧ _ then _ else if ((atomicP (place ks 0) st.p && !isP (place ks 0) st.p [40]) && !isP (place ks 0) st.p [91]) = true then _ else _) = _
    rw [if_neg (by rw [is_pl, hd', is_mk (by decide)]; decide), if_neg (by rw [kd_pl, hd', kd_mk]; rintro ⟨q, _⟩; revert q; decide), if_neg (by rw [is_pl (tx := [40]), hd', is_mk (by decide)]; simp)]
    rw [tuple_rd ht (h.forest hF) (by omega) (by omega) hd' (fun k hk => ⟨((h.kid k hk).hp (hE k hk)).ne, ((h.kid k hk).hp (hE k hk)).no (by decide) (by decide) (by decide)⟩) (fun k hk b r' hF' ⟨s, r'', hs, e⟩ => ((h.kid k hk).p (hE k hk) b r' hF' (stop_sep hs e (by decide) (by decide) (by decide))).next hm (drop1 hd').2) h.hj ho hx h0 h.hk]
    simp
  · have hp : allF 112 (cls (fs.map (opAt t))) 0 6000 = true := by rw [ho] at hp; simpa [partsF] using hp
    obtain ⟨hE, h2, h8⟩ := all_p hp
    rw [step_lst (by omega)]
    refine .of HdA.mk91.p (mk_kd7 (.inl (by decide))) fun a r hF n st ht hd hq hm => ?_
    obtain ⟨n, rfl⟩ : ∃ m, n = m + 1 := ⟨n - 1, by omega⟩
    have hd' : ks.drop st.p = mkT [91] :: (btwn (fun k => N k [61]) [44] fs ++ mkT [93] :: r) := by rw [hd]; simp
    show (if isP (place ks 0) st.p [95] = true then _ else if kindP (place ks 0) st.p = 5 ∧ _ then _ else if ((atomicP (place ks 0) st.p && !isP (place ks 0) st.p [40]) && !isP (place ks 0) st.p [91]) = true then _ else _) = _
    rw [if_neg (by rw [is_pl, hd', is_mk (by decide)]; decide), if_neg (by rw [kd_pl, hd', kd_mk]; rintro ⟨q, _⟩; revert q; decide), if_neg (by rw [is_pl (tx := [91]), hd', is_mk (by decide)]; simp)]
    rw [list_rd ht (h.forest hF) hd' (fun k hk => ⟨((h.kid k hk).hp (hE k hk)).ne, ((h.kid k hk).hp (hE k hk)).no (by decide) (by decide) (by decide)⟩) (fun k hk b r' hF' ⟨s, r'', hs, e⟩ => ((h.kid k hk).p (hE k hk) b r' hF' (stop_sep hs e (by decide) (by decide) (by decide))).next hm (drop1 hd').2) h.hj ho hx h0 h.hk]
    simp
theorem closed_head {k : Nat} (h : RT t ks en N k) (he : isPt (ndOf t k).op) : HdP (closedT N k (sameF t k 30 [58])) ∧ ∀ a r, Forest t a (k + 1) [k] → NoB r → RdH t ks (headP ks en) .pat a k (closedT N k (sameF t k 30 [58])) r := by
  cases hw : sameF t k 30 [58] with
  | false => exact ⟨h.hp he, h.ph he hw⟩
  | true => exact ⟨HdA.mk40.p, fun a r hF _ => headP_of (paren_apat (h.p he a _ hF (stop_mk (by decide) (by decide))) (h.hp he)) (by rw [closed_t]; simp) (mk_kd7 (.inl (by decide)))⟩
theorem HdP.mk2 {s : List UInt8} {r : List Tok} (h : nameF s = 2) : HdP (mkT s :: r) := by
  rw [mkT_name h (by decide)]
  exact (HdA.low (k15 _ 2 rfl (by decide))).p
theorem at_pcon (h : At1 t ks en N N' j nd fs) (ho : nd.op = 30) (sep : List UInt8) : PtOk t ks en j (N' j sep) := by
  have h0 := fields_num h.fields (by omega)
  have hp := h.parts
  rw [ho] at hp
  obtain ⟨p1, p2⟩ := parts30 hp
  obtain ⟨hE, h2, h8⟩ := all_p p1
  rw [h.st, step_named (by omega)]
  rw [List.length_map] at p2
  unfold namedT
  rw [if_neg (by omega)]
  rcases p2 with (hn | ⟨hn, hl⟩) | ⟨hn, hl⟩
  · obtain ⟨n1, n2, n3, n4, n5⟩ := nameF_two (s := bs nd.text) (by omega)
    rw [if_neg (by rintro (q | q); exact n2 q; exact n3 q), if_neg n4, if_neg n5]
    have hH : ∀ a r, Forest t a (j + 1) [j] → NoB r → RdH t ks (headP ks en) .pat a j (mk [bs nd.text] ++ argsT t N fs) r := by
      rintro a r hF hs n ⟨T, q⟩ ht hd hq hm
      simp only [] at ht hd hq hm
      subst ht
      have hd : ks.drop q = mkT (bs nd.text) :: (argsT t N fs ++ r) := by rw [hd]; simp [mk]
      have d1 := drop1 hd
      unfold headP
      rw [if_pos (by rw [kd_pl, hd, mkT_name hn (by decide)]; rfl), name_b hd hn (by decide)]
      rw [apats_rd hm d1.2 h.kid hE (h.forest hF) d1.1 (Nat.le_refl _) d1.2 (fun p hd => by rw [begins_pl, hd]; exact hs) (by simp; omega) (by omega), bindP_ok, List.nil_append, put_rd (st := ⟨t.take j, _⟩) rfl h.hj ho rfl h0 h.hk]
      simp [mk]; omega
    refine ⟨HdP.mk2 hn, fun a r hF hs => pat_head (hH a r hF (.of hs (by decide) (by decide) (by decide))) (hs.is (by decide)), fun hw a r hF => ?_, fun _ => hH⟩
    have hl : fs = [] := by
      unfold wantedF at hw
      rw [h.ofj, decide_eq_true ho, h.hk] at hw
      cases fs with
      | nil => rfl
      | cons x l => simp [natI] at hw
    subst hl
    have e : mk [bs nd.text] ++ argsT t N [] = [(⟨2, bs nd.text, 0, 0⟩ : Tok)] := by
      show [mkT (bs nd.text)] = _
      rw [mkT_name hn (by decide)]
    rw [e]
    exact leaf_apat h hF (k15 _ 2 rfl (by decide)) nofun (by rw [ho]; rfl) rfl h0
  · obtain rfl : fs = [] := List.eq_nil_of_length_eq_zero (by omega)
    rw [hn, if_neg (by decide), if_neg (by decide), if_pos (by decide)]
    refine .of HdA.mk40.p (mk_kd7 (.inl (by decide))) fun a r hF n st ht hd hq hm => ?_
    obtain rfl := (h.forest hF).empty
    obtain ⟨n, rfl⟩ : ∃ m, n = m + 1 := ⟨n - 1, by omega⟩
    have hd' : ks.drop st.p = mkT [40] :: mkT [41] :: r := hd
    show (if isP (place ks 0) st.p [95] = true then _ else if kindP (place ks 0) st.p = 5 ∧ _ then _ else if ((atomicP (place ks 0) st.p && !isP (place ks 0) st.p [40]) && !isP (place ks 0) st.p [91]) = true then _ else _) = _
    rw [if_neg (by rw [is_pl, hd', is_mk (by decide)]; decide), if_neg (by rw [kd_pl, hd', kd_mk]; rintro ⟨q, _⟩; revert q; decide), if_neg (by rw [is_pl (tx := [40]), hd', is_mk (by decide)]; simp)]
    exact unit_rd ht h.hj hd' ho hn h0 h.hk
  · obtain ⟨x, y, rfl⟩ := pair_of (l := fs) (by omega)
    rw [hn, if_pos (.inl rfl), ho]
    simp only [List.getD_cons_zero, List.getD_cons_succ]
    obtain ⟨c1, c2⟩ := closed_head (h.kid x (by simp)) (hE x (by simp))
    have cy := h.kid y (by simp)
    have ey := hE y (by simp)
    refine ⟨by rw [List.append_assoc]; exact c1.app, ?_, ?_, ?_⟩
    · rintro a r hF hs n ⟨T, q⟩ ht hd hq hm
      simp only [] at ht hd hq hm
      subst ht
      obtain ⟨n, rfl⟩ : ∃ m, n = m + 1 := ⟨n - 1, by omega⟩
      have hd : ks.drop q = closedT N x (sameF t x 30 [58]) ++ (mkT [58] :: (N y [61] ++ r)) := by rw [hd]; simp [mk]
      obtain ⟨w1, w2⟩ := (h.forest hF).cons
      obtain rfl := w2.one.1
      have d1 := drop_len hd c1.ne
      have d2 := drop_app hd
      have d3 := drop1 d2
      have hx1 := List.length_pos_iff.2 c1.ne
      show bindP (headP ks en n ⟨t.take a, q⟩) _ = _
      rw [(c2 a _ w1 (.op (by decide))).b hd hq hm, if_pos (by rw [is_pl, d2]; exact isT_hd (by decide))]
      show bindP (parseN (place ks 0) en n .pat ⟨t.take (x + 1), q + (closedT N x (sameF t x 30 [58])).length + 1⟩) _ = _
      rw [rd_b ((cy.p ey _ r w2 hs).next hm (by omega)) d3.1 (by omega) d3.2, put_rd (st := ⟨t.take (y + 1), _⟩) rfl h.hj ho hn h0 h.hk]
      simp [mk]; omega
    · intro hw
      unfold wantedF at hw
      rw [h.ofj, decide_eq_true ho, h.hk] at hw
      simp [natI] at hw
    · intro hw
      unfold sameF at hw
      rw [h.ofj, decide_eq_true ho, hn] at hw
      cases hw
end
end Go.Proofs.YtikgokpbhldlnaaGreatDoor
end

section
/- What is shown of a tree is read as that tree again: types. -/
namespace Go.Proofs.YtikgokpbhldlnaaGreatDoor
open Go Go.Ab

section
variable {t : List Nd} {ks : List Tok} {en : Nat} {N N' : Nat → List UInt8 → List Tok} {j : Nat} {nd : Nd} {fs : List Nat}
/-- What is asked of a type. -/
structure TyOk (t : List Nd) (ks : List Tok) (en : Nat) (k : Nat) (ts : List Tok) : Prop where
  hw : HdT ts
  w : ∀ a r, Forest t a (k + 1) [k] → StopIn CW r → RdS t ks en .whole a k ts r
  aty : wantedF t k = false → ∀ a r, Forest t a (k + 1) [k] → RdS t ks en .atype a k ts r
  wh : sameF t k 24 [45, 62] = false → ∀ a r, Forest t a (k + 1) [k] → StopIn CT r → RdH t ks (headW ks en) .whole a k ts r
theorem TyOk.of {k : Nat} {ts : List Tok} (h : HdT ts) (hk : kdT ts ≠ 2) (ha : ∀ a r, Forest t a (k + 1) [k] → RdS t ks en .atype a k ts r) : TyOk t ks en k ts :=
  ⟨h, fun a r hF hs => whole_head (headW_of (ha a r hF) h.ne hk) (hs.is (by decide)), fun _ => ha, fun _ a r hF _ => headW_of (ha a r hF) h.ne hk⟩
theorem var_rd (h : At1 t ks en N N' j nd fs) (ho : nd.op = 23) {T : List Nd} {q : Nat} {r : List Tok} (hT : T = t.take j) (hd : ks.drop q = mkT (bs nd.text) :: r) : varF (place ks 0) en ⟨T, q⟩ = .ok (j, ⟨t.take (j + 1), q + 1⟩) := by
  subst hT
  obtain rfl := h.none (by omega)
  have hf := h.fields
  have h0 := fields_num hf (by omega)
  rw [ho] at hf
  have hn : nameF (bs nd.text) = 1 := by simpa [fieldsF, h0] using hf
  unfold varF
  rw [name_b hd hn (by decide), put_rd (st := ⟨t.take j, _⟩) rfl h.hj ho rfl h0 h.hk]
theorem var_name (h : At1 t ks en N N' j nd fs) (ho : nd.op = 23) : nameF (bs nd.text) = 1 := by
  have hf := h.fields
  have h0 := fields_num hf (by omega)
  rw [ho] at hf
  simpa [fieldsF, h0] using hf
theorem var_toks (h : At1 t ks en N N' j nd fs) (ho : nd.op = 23) (sep : List UInt8) : N' j sep = [mkT (bs nd.text)] := by
  rw [h.st, step_nm (by omega), nmT_name (var_name h ho) (by decide), mkT_name (var_name h ho) (by decide)]
theorem at_var (h : At1 t ks en N N' j nd fs) (ho : nd.op = 23) (sep : List UInt8) : TyOk t ks en j (N' j sep) := by
  have hn := var_name h ho
  obtain rfl := h.none (by omega)
  rw [var_toks h ho]
  have e : mkT (bs nd.text) = ⟨1, bs nd.text, 0, 0⟩ := mkT_name hn (by decide)
  refine .of (by rw [e]; exact .low (.inl rfl)) (by rw [e]; show ¬ (1 : Int) = 2; decide) fun a r hF => ?_
  rintro n ⟨T, q⟩ ht hd hp hm
  simp only [] at ht hd hp hm
  obtain ⟨n, rfl⟩ : ∃ m, n = m + 1 := ⟨n - 1, by omega⟩
  obtain rfl := (h.forest hF).empty
  have hd : ks.drop q = mkT (bs nd.text) :: r := hd
  have hkd : kindP (place ks 0) q = 1 := by rw [kd_pl, hd, e]; rfl
  show (if kindP (place ks 0) q = 2 then _ else if isVarP (place ks 0) q = true then varF (place ks 0) en ⟨T, q⟩ else _) = _
  rw [if_neg (by rw [hkd]; decide), if_pos (by unfold isVarP; rw [hkd]; rfl), var_rd h ho ht hd]; rfl
theorem closed_headW {k : Nat} (h : RT t ks en N k) (he : isTy (ndOf t k).op) : HdT (closedT N k (sameF t k 24 [45, 62])) ∧ ∀ a r, Forest t a (k + 1) [k] → StopIn CT r → RdH t ks (headW ks en) .whole a k (closedT N k (sameF t k 24 [45, 62])) r := by
  cases hw : sameF t k 24 [45, 62] with
  | false => exact ⟨h.hw he, h.wh he hw⟩
  | true => exact ⟨.mk40, fun a r hF _ => headW_of (paren_atype (h.w he a _ hF (stop_mk (by decide) (by decide))) (h.hw he)) (by rw [closed_t]; simp) (mk_kd7 (.inl (by decide)))⟩
theorem natI_length {l : List Nat} : (natI l).length = l.length := by simp [natI]
theorem at_ty (h : At1 t ks en N N' j nd fs) (ho : nd.op = 24) (sep : List UInt8) : TyOk t ks en j (N' j sep) := by
  have h0 := fields_num h.fields (by omega)
  have hp := h.parts
  rw [ho] at hp
  obtain ⟨p1, p2⟩ := parts24 hp
  obtain ⟨hE, h2, h8⟩ := all_t p1
  rw [h.st, step_named (by omega)]
  rw [List.length_map] at p2
  unfold namedT
  rw [if_neg (by omega)]
  rcases p2 with (((hn | ⟨hn, hl⟩) | ⟨hn, hl⟩) | ⟨hn, hl⟩) | ⟨hl, hn⟩
  · obtain ⟨n1, n2, n3, n4, n5⟩ := nameF_two (s := bs nd.text) (by omega)
    rw [if_neg (by rintro (q | q); exact n2 q; exact n3 q), if_neg n4, if_neg n5]
    have e : mkT (bs nd.text) = ⟨2, bs nd.text, 0, 0⟩ := mkT_name hn (by decide)
    have hH : ∀ a r, Forest t a (j + 1) [j] → StopIn CT r → RdH t ks (headW ks en) .whole a j (mk [bs nd.text] ++ argsT t N fs) r := by
      rintro a r hF hs n ⟨T, q⟩ ht hd hq hm
      simp only [] at ht hd hq hm
      subst ht
      have hd : ks.drop q = mkT (bs nd.text) :: (argsT t N fs ++ r) := by rw [hd]; simp [mk]
      have d1 := drop1 hd
      unfold headW
      rw [if_pos (by rw [kd_pl, hd, e]; rfl), name_b hd hn (by decide)]
      rw [atypes_rd hm d1.2 h.kid hE (h.forest hF) d1.1 (Nat.le_refl _) d1.2 (typed_no hs (by decide) (by decide)) (by simp; omega) (by omega), bindP_ok, List.nil_append, put_rd (st := ⟨t.take j, _⟩) rfl h.hj ho rfl h0 h.hk]
      simp [mk]; omega
    refine ⟨by rw [show mk [bs nd.text] ++ argsT t N fs = mkT (bs nd.text) :: argsT t N fs from rfl, e]; exact .low (.inr rfl), fun a r hF hs => whole_head (hH a r hF (hs.mono (by decide))) (hs.is (by decide)), fun hw a r hF => ?_, fun _ => hH⟩
    have hl : fs = [] := by
      unfold wantedF at hw
      rw [h.ofj, decide_eq_true ho, h.hk, hn] at hw
      cases fs with
      | nil => rfl
      | cons x l => simp [natI] at hw
    subst hl
    obtain rfl := (h.forest hF).empty
    rintro n ⟨T, q⟩ ht hd hp hm
    simp only [] at ht hd hp hm
    subst ht
    obtain ⟨n, rfl⟩ : ∃ m, n = m + 1 := ⟨n - 1, by omega⟩
    have hd : ks.drop q = mkT (bs nd.text) :: r := hd
    show (if kindP (place ks 0) q = 2 then bindP (nameP (place ks 0) en 2 ⟨t.take a, q⟩) _ else _) = _
    rw [if_pos (by rw [kd_pl, hd, e]; rfl), name_b hd hn (by decide), put_rd (st := ⟨t.take a, _⟩) rfl h.hj ho rfl h0 h.hk]; rfl
  · obtain rfl : fs = [] := List.eq_nil_of_length_eq_zero (by omega)
    rw [hn, if_neg (by decide), if_neg (by decide), if_pos (by decide)]
    refine .of .mk40 (mk_kd7 (.inl (by decide))) fun a r hF => ?_
    obtain rfl := (h.forest hF).empty
    rintro n ⟨T, q⟩ ht hd hp hm
    simp only [] at ht hd hp hm
    subst ht
    obtain ⟨n, rfl⟩ : ∃ m, n = m + 1 := ⟨n - 1, by omega⟩
    have hd : ks.drop q = mkT [40] :: mkT [41] :: r := hd
    have d1 := drop1 hd
    show (if kindP (place ks 0) q = 2 then _ else if isVarP (place ks 0) q = true then _ else if isP (place ks 0) q [91] = true then _ else bindP (takeP (place ks 0) en [40] ⟨t.take a, q⟩) _) = _
    rw [if_neg (by rw [kd_pl, hd, kd_mk]; decide), if_neg (by unfold isVarP; rw [kd_pl, hd, kd_mk]; decide), if_neg (by rw [is_pl, hd, is_mk (by decide)]; decide), take_b hd (by decide), if_pos (by rw [is_pl, d1.1]; exact isT_hd (by decide))]
    exact put_rd (st := ⟨t.take a, q + 2⟩) rfl h.hj ho hn h0 h.hk
  · obtain ⟨x, l, rfl⟩ := cons_of (l := fs) (by omega)
    obtain rfl : l = [] := List.eq_nil_of_length_eq_zero (by simp at hl; omega)
    rw [hn, if_neg (by decide), if_pos rfl]
    simp only [List.getD_cons_zero]
    have cx := h.kid x (by simp)
    have ex := hE x (by simp)
    refine .of .mk91 (mk_kd7 (.inl (by decide))) fun a r hF => ?_
    obtain rfl := (h.forest hF).one.1
    rintro n ⟨T, q⟩ ht hd hp hm
    simp only [] at ht hd hp hm
    subst ht
    obtain ⟨n, rfl⟩ : ∃ m, n = m + 1 := ⟨n - 1, by omega⟩
    have hd : ks.drop q = mkT [91] :: (N x [61] ++ mkT [93] :: r) := by rw [hd]; simp [mk]
    have d1 := drop1 hd
    have d2 := drop_len d1.1 (cx.hw ex).ne
    have d3 := drop_app d1.1
    show (if kindP (place ks 0) q = 2 then _ else if isVarP (place ks 0) q = true then _ else if isP (place ks 0) q [91] = true then bindP (parseN (place ks 0) en n .whole ⟨t.take a, q + 1⟩) _ else _) = _
    rw [if_neg (by rw [kd_pl, hd, kd_mk]; decide), if_neg (by unfold isVarP; rw [kd_pl, hd, kd_mk]; decide), if_pos (by rw [is_pl, hd]; exact isT_hd (by decide))]
    rw [rd_b ((cx.w ex a _ (h.forest hF) (stop_mk (by decide) (by decide))).next hm d1.2) d1.1 (Nat.le_refl _) d1.2, take_b d3 (by decide), put_rd (st := ⟨t.take (x + 1), _⟩) rfl h.hj ho hn h0 h.hk]
    simp [mk]; omega
  · obtain ⟨x, y, rfl⟩ := pair_of (l := fs) (by omega)
    rw [hn, if_pos (.inr rfl), ho]
    simp only [List.getD_cons_zero, List.getD_cons_succ]
    obtain ⟨c1, c2⟩ := closed_headW (h.kid x (by simp)) (hE x (by simp))
    have cy := h.kid y (by simp)
    have ey := hE y (by simp)
    refine ⟨by rw [List.append_assoc]; exact c1.app, ?_, ?_, ?_⟩
    · rintro a r hF hs n ⟨T, q⟩ ht hd hq hm
      simp only [] at ht hd hq hm
      subst ht
      obtain ⟨n, rfl⟩ : ∃ m, n = m + 1 := ⟨n - 1, by omega⟩
      have hd : ks.drop q = closedT N x (sameF t x 24 [45, 62]) ++ (mkT [45, 62] :: (N y [61] ++ r)) := by rw [hd]; simp [mk]
      obtain ⟨w1, w2⟩ := (h.forest hF).cons
      obtain rfl := w2.one.1
      have d1 := drop_len hd c1.ne
      have d2 := drop_app hd
      have d3 := drop1 d2
      have hx1 := List.length_pos_iff.2 c1.ne
      show bindP (headW ks en n ⟨t.take a, q⟩) _ = _
      rw [(c2 a _ w1 (stop_mk (by decide) (by decide))).b hd hq hm, if_pos (by rw [is_pl, d2]; exact isT_hd (by decide))]
      show bindP (parseN (place ks 0) en n .whole ⟨t.take (x + 1), q + (closedT N x (sameF t x 24 [45, 62])).length + 1⟩) _ = _
      rw [rd_b ((cy.w ey _ r w2 hs).next hm (by omega)) d3.1 (by omega) d3.2, put_rd (st := ⟨t.take (y + 1), _⟩) rfl h.hj ho hn h0 h.hk]
      simp [mk]; omega
    · intro hw
      unfold wantedF at hw
      rw [h.ofj, decide_eq_true ho, hn] at hw
      simp at hw
    · intro hw
      unfold sameF at hw
      rw [h.ofj, decide_eq_true ho, hn] at hw
      cases hw
  · obtain ⟨m, hm⟩ : ∃ m, fs.length = m + 2 := ⟨fs.length - 2, by omega⟩
    have hn' : bs nd.text = tupleName fs.length := by
      rw [hn]; unfold tupleName
      rw [show ((fs.length : Int) - 1).toNat = fs.length - 1 by omega]
    have hs1 : bs nd.text = 40 :: 44 :: (List.replicate m 44 ++ [41]) := by
      rw [hn', hm]; unfold tupleName
      rw [show m + 2 - 1 = m + 1 by omega, List.replicate_succ]; rfl
    rw [if_neg (by rw [hs1]; simp), if_neg (by rw [hs1]; simp), if_pos (by rw [hs1]; rfl), between_btwn]
    refine .of .mk40 (mk_kd7 (.inl (by decide))) fun a r hF => ?_
    rintro n ⟨T, q⟩ ht hd hp hm
    simp only [] at ht hd hp hm
    subst ht
    obtain ⟨n, rfl⟩ : ∃ m, n = m + 1 := ⟨n - 1, by omega⟩
    have hd : ks.drop q = mkT [40] :: (btwn (fun k => N k [61]) [44] fs ++ mkT [41] :: r) := by rw [hd]; simp [mk]
    have d1 := drop1 hd
    have hhead : isT (btwn (fun k => N k [61]) [44] fs ++ mkT [41] :: r) [41] = false := by
      match fs, hm, h.kid, hE with
      | k :: u :: fs, _, hk, hE =>
        have w := (hk k (by simp)).hw (hE k (by simp))
        rw [btwn, List.append_assoc, isT_app w.ne, w.no (by decide) (by decide)]
        simp
    show (if kindP (place ks 0) q = 2 then _ else if isVarP (place ks 0) q = true then _ else if isP (place ks 0) q [91] = true then _ else bindP (takeP (place ks 0) en [40] ⟨t.take a, q⟩) _) = _
    rw [if_neg (by rw [kd_pl, hd, kd_mk]; decide), if_neg (by unfold isVarP; rw [kd_pl, hd, kd_mk]; decide), if_neg (by rw [is_pl, hd, is_mk (by decide)]; decide), take_b hd (by decide), if_neg (by rw [is_pl, d1.1, hhead]; decide)]
    rw [commasP_rd (p0 := q + 1) (st := ⟨t.take a, q + 1⟩) (T := fun k => N k [61]) (by decide) (by decide) (h.forest hF) (by rintro rfl; simp at hl) rfl d1.1 (Nat.le_refl _) d1.2 (fun k hk => ((h.kid k hk).hw (hE k hk)).ne) (fun k hk b r' hF' ⟨s, r'', hs, e⟩ => ((h.kid k hk).w (hE k hk) b r' hF' (stop_sep hs e (by decide) (by decide) (by decide))).next hm d1.2) (.inr (by omega)), bindP_ok]
    rw [if_neg (by omega), put_rd (st := ⟨t.take j, _⟩) rfl h.hj ho hn' h0 h.hk]
    simp [mk]; omega
end
end Go.Proofs.YtikgokpbhldlnaaGreatDoor
end
