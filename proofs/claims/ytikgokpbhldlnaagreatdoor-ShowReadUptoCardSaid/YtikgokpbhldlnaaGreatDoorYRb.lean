/- Parts of a proof: Fc Fd Fe Ff. -/
import Derived.Test.YtikgokpbhldlnaaGreatDoorYRa
import Derived.Test.YtikgokpbhldlnaaGreatDoorYQg
set_option linter.unusedVariables false
set_option linter.unusedSimpArgs false
set_option linter.unusedSectionVars false
section
/- Trees as they lie; lists of what is read. -/
namespace Go.Proofs.YtikgokpbhldlnaaGreatDoor
open Go Go.Ab
/-! ### Trees, as they lie -/
/-- From i to e: a forest with these roots. -/
inductive Forest (t : List Nd) : Nat → Nat → List Nat → Prop where
  | nil (i : Nat) : Forest t i i []
  | snoc {i a j : Nat} {r kids : List Nat} {nd : Nd} (h : Forest t i a r) (k : Forest t a j kids) (hj : t[j]? = some nd) (hk : nd.kids = natI kids) : Forest t i (j + 1) (r ++ [j])
theorem Forest.le {t : List Nd} {i e : Nat} {ks : List Nat} (h : Forest t i e ks) : i ≤ e := by
  induction h with
  | nil => exact Nat.le_refl _
  | snoc _ _ _ _ h1 h2 => omega
theorem Forest.empty {t : List Nd} {i e : Nat} (h : Forest t i e []) : i = e := by
  generalize hk : ([] : List Nat) = ks at h
  cases h with
  | nil => rfl
  | snoc => simp at hk
theorem Forest.split {t : List Nd} {i e : Nat} {ks : List Nat} (h : Forest t i e ks) : ∀ r s, ks = r ++ s → ∃ a, Forest t i a r ∧ Forest t a e s := by
  induction h with
  | nil i =>
    intro r s e
    obtain ⟨rfl, rfl⟩ := List.nil_eq_append_iff.1 e
    exact ⟨i, .nil i, .nil i⟩
  | snoc h k hj hk ih1 ih2 =>
    rename_i i a j r0 kids nd
    intro r s e
    rcases List.eq_nil_or_concat s with rfl | ⟨s', z, rfl⟩
    · rw [List.append_nil] at e
      subst e
      exact ⟨j + 1, .snoc h k hj hk, .nil _⟩
    · rw [List.concat_eq_append, ← List.append_assoc] at e
      obtain ⟨e1, e2⟩ := List.append_inj' e rfl
      obtain rfl : j = z := by simpa using e2
      obtain ⟨b, w1, w2⟩ := ih1 r s' e1
      rw [List.concat_eq_append]
      exact ⟨b, w1, .snoc w2 k hj hk⟩
theorem Forest.one {t : List Nd} {i e j : Nat} (h : Forest t i e [j]) : e = j + 1 ∧ ∃ kids nd, Forest t i j kids ∧ t[j]? = some nd ∧ nd.kids = natI kids := by
  generalize hk : [j] = ks at h
  cases h with
  | nil => cases hk
  | snoc h k hj hk' =>
    rename_i a j' r kids nd
    have : r = [] ∧ j' = j := by
      cases r with
      | nil => simpa using hk.symm
      | cons x r => simp at hk
    obtain ⟨rfl, rfl⟩ := this
    obtain rfl := h.empty
    exact ⟨rfl, kids, nd, k, hj, hk'⟩
theorem Forest.cons {t : List Nd} {i e j : Nat} {ks : List Nat} (h : Forest t i e (j :: ks)) : Forest t i (j + 1) [j] ∧ Forest t (j + 1) e ks := by
  obtain ⟨a, h1, h2⟩ := h.split [j] ks rfl
  obtain rfl := h1.one.1
  exact ⟨h1, h2⟩
theorem Forest.lt {t : List Nd} {i e : Nat} {ks : List Nat} (h : Forest t i e ks) : ∀ k ∈ ks, i ≤ k ∧ k < e := by
  induction h with
  | nil => nofun
  | snoc h k hj hk ih1 ih2 =>
    intro x hx
    have := h.le
    have := k.le
    rcases List.mem_append.1 hx with q | q
    · have := ih1 x q; omega
    · obtain rfl := List.mem_singleton.1 q
      omega
theorem runs_forest {good : List Int → Nd → Bool} {t : List Nd} : ∀ (x : List Nd) (i : Nat) (free out : List Nat), t.drop i = x → Forest t 0 i free → runs good t x i free = some out → Forest t 0 (i + x.length) out
  | [], i, free, out, _, hf, h => by
    rw [runs] at h
    obtain rfl := Option.some.inj h
    exact hf
  | nd :: x, i, free, out, hd, hf, h => by
    rw [runs] at h
    split at h
    · rename_i hc
      simp only [Bool.and_eq_true, decide_eq_true_eq] at hc
      obtain ⟨⟨⟨c1, c2⟩, _⟩, _⟩ := hc
      obtain ⟨a, w1, w2⟩ := hf.split (free.take (free.length - nd.kids.length)) (free.drop (free.length - nd.kids.length)) (List.take_append_drop _ _).symm
      obtain ⟨hi, e1, e2⟩ := drop_cons hd
      have hj : t[i]? = some nd := by
        rw [List.getElem?_eq_getElem hi]
        rw [List.drop_eq_getElem_cons hi] at hd
        exact congrArg some (List.cons.inj hd).1
      have := runs_forest x (i + 1) _ out e2 (.snoc w1 w2 hj c2) h
      rw [List.length_cons]
      rwa [show i + (x.length + 1) = i + 1 + x.length from by omega]
    · cases h
/-! ### Tokens that come -/
def kdT : List Tok → Int
  | [] => 0
  | k :: _ => k.kind
def isT (ts : List Tok) (tx : List UInt8) : Bool := match ts with
  | [] => false
  | k :: _ => decide (6 ≤ k.kind) && decide (k.text = tx)
section
variable {ks : List Tok} {p : Nat}
theorem pl_some {k : Tok} {r : List Tok} (h : ks.drop p = k :: r) : ∃ q, (place ks 0)[p]? = some (placed k q) := by
  obtain ⟨q, e⟩ := place_get ks 0 p
  have hp : ks[p]? = some k := by
    have := congrArg (·[0]?) h
    simpa using this
  exact ⟨q, by rw [e, hp]; rfl⟩
theorem pl_none (h : ks.drop p = []) : (place ks 0)[p]? = none := by
  obtain ⟨q, e⟩ := place_get ks 0 p
  have hp : ks[p]? = none := List.getElem?_eq_none (by have := congrArg List.length h; rw [List.length_drop] at this; simp at this; omega)
  rw [e, hp]; rfl
theorem kd_pl : kindP (place ks 0) p = kdT (ks.drop p) := by
  unfold kindP
  cases h : ks.drop p with
  | nil => rw [pl_none h]; rfl
  | cons k r => obtain ⟨q, e⟩ := pl_some h; rw [e]; rfl
theorem is_pl {tx : List UInt8} : isP (place ks 0) p tx = isT (ks.drop p) tx := by
  unfold isP
  cases h : ks.drop p with
  | nil => rw [pl_none h]; rfl
  | cons k r => obtain ⟨q, e⟩ := pl_some h; rw [e]; rfl
theorem tx_pl {k : Tok} {r : List Tok} (h : ks.drop p = k :: r) : textP (place ks 0) p = k.text := by
  unfold textP
  obtain ⟨q, e⟩ := pl_some h; rw [e]; rfl
theorem drop_len {ts r : List Tok} (h : ks.drop p = ts ++ r) (hn : ts ≠ []) : p + ts.length ≤ ks.length := by
  have h1 := congrArg List.length h
  rw [List.length_drop, List.length_append] at h1
  have := List.length_pos_iff.2 hn
  omega
theorem drop_app {ts r : List Tok} (h : ks.drop p = ts ++ r) : ks.drop (p + ts.length) = r := by
  rw [← List.drop_drop, h, List.drop_left]
end
/-- What may stand behind: the end, or one of these marks and words. -/
def StopIn (cl : List (List UInt8)) (r : List Tok) : Prop := r = [] ∨ ∃ k r', r = k :: r' ∧ (k.kind = 6 ∨ k.kind = 7) ∧ k.text ∈ cl
theorem StopIn.mono {cl cl' : List (List UInt8)} {r : List Tok} (h : StopIn cl r) (hc : ∀ x ∈ cl, x ∈ cl') : StopIn cl' r := by
  rcases h with h | ⟨k, r', e, h1, h2⟩
  · exact .inl h
  · exact .inr ⟨k, r', e, h1, hc _ h2⟩
theorem StopIn.is {cl : List (List UInt8)} {r : List Tok} (h : StopIn cl r) {tx : List UInt8} (ht : tx ∉ cl) : isT r tx = false := by
  rcases h with rfl | ⟨k, r', rfl, h1, h2⟩
  · rfl
  · show (decide (6 ≤ k.kind) && decide (k.text = tx)) = false
    rw [decide_eq_false (p := k.text = tx) (fun e => ht (e ▸ h2)), Bool.and_false]
theorem StopIn.kd {cl : List (List UInt8)} {r : List Tok} (h : StopIn cl r) : kdT r = 0 ∨ kdT r = 6 ∨ kdT r = 7 := by
  rcases h with rfl | ⟨k, r', rfl, h1, h2⟩
  · exact .inl rfl
  · exact .inr h1
theorem stop_mk {cl : List (List UInt8)} {s : List UInt8} {r : List Tok} (h : s ∈ cl) (hk : markK s = 6 ∨ markK s = 7) : StopIn cl (mkT s :: r) := .inr ⟨_, _, rfl, hk, h⟩
theorem is_mk {s tx : List UInt8} {r : List Tok} (hk : 6 ≤ markK s) : isT (mkT s :: r) tx = decide (s = tx) := by
  show (decide (6 ≤ markK s) && decide (s = tx)) = _
  rw [decide_eq_true hk, Bool.true_and]
/-! ### Tokens with marks between -/
def btwn (N : Nat → List Tok) (m : List UInt8) : List Nat → List Tok
  | [] => []
  | [k] => N k
  | k :: r => N k ++ mkT m :: btwn N m r
theorem flat_btwn (N : Nat → List Tok) (m : List UInt8) : ∀ r : List Nat, r ≠ [] → (r.map fun k => mkT m :: N k).flatten = mkT m :: btwn N m r
  | [], h => absurd rfl h
  | [k], _ => by simp [btwn]
  | k :: u :: r, _ => by
    rw [List.map_cons, List.flatten_cons, flat_btwn N m (u :: r) (by simp)]; simp [btwn]
theorem between_btwn (N : Nat → List UInt8 → List Tok) (m : List UInt8) (l : List Nat) : betweenT N m l = btwn (fun k => N k [61]) m l := by
  unfold betweenT
  cases l with
  | nil => rfl
  | cons k r =>
    rw [List.mapIdx_cons, List.flatten_cons]
    have : (r.mapIdx fun i j => (if i + 1 = 0 then [] else mk [m]) ++ N j [61]) = r.map fun j => mkT m :: N j [61] := by
      apply List.ext_getElem?
      intro i
      rw [List.getElem?_mapIdx, List.getElem?_map]
      cases r[i]? <;> simp [mk]
    rw [this]
    cases r with
    | nil => simp [btwn]
    | cons u r => rw [flat_btwn (fun k => N k [61]) m (u :: r) (by simp)]; simp [btwn]
/-! ### Reading lists -/
section
variable {t : List Nd} {ks : List Tok} {en : Nat}
/-- A parser reads a node's tokens. -/
def Rd (t : List Nd) (ks : List Tok) (one : Pr Nat) (p0 a j : Nat) (ts r : List Tok) : Prop :=
  ∀ st, st.t = t.take a → ks.drop st.p = ts ++ r → p0 ≤ st.p → st.p ≤ ks.length → one st = .ok (j, ⟨t.take (j + 1), st.p + ts.length⟩)
theorem many_rd {B : Nat → Bool} {one : Pr Nat} {p0 : Nat} {T : Nat → List Tok} {r : List Tok} : ∀ (fs : List Nat) (f : Nat) (kids : List Nat) (st : PS) (a e : Nat), Forest t a e fs → st.t = t.take a → ks.drop st.p = (fs.map T).flatten ++ r → p0 ≤ st.p → st.p ≤ ks.length → (∀ k ∈ fs, T k ≠ []) →
    (∀ k ∈ fs, ∀ b r', Forest t b (k + 1) [k] → Rd t ks one p0 b k (T k) r') → (∀ k ∈ fs, ∀ p r', ks.drop p = T k ++ r' → B p = true) → (∀ p, ks.drop p = r → B p = false) → kids.length + fs.length ≤ 8 → fs.length < f →
    manyF (place ks 0) en B one f kids st = .ok (kids ++ fs, ⟨t.take e, st.p + (fs.map T).flatten.length⟩)
  | [], f, kids, st, a, e, hF, ht, hd, _, _, _, _, _, hr, _, hf => by
    obtain ⟨f, rfl⟩ : ∃ g, f = g + 1 := ⟨f - 1, by simp at hf; omega⟩
    obtain rfl := hF.empty
    rw [manyF, if_neg (by rw [hr st.p (by simpa using hd)]; decide)]
    simp [← ht]
  | k :: fs, f, kids, st, a, e, hF, ht, hd, hq, hp, hT, h1, hB, hr, h8, hf => by
    obtain ⟨f, rfl⟩ : ∃ g, f = g + 1 := ⟨f - 1, by simp at hf; omega⟩
    obtain ⟨w1, w2⟩ := hF.cons
    have hd' : ks.drop st.p = T k ++ ((fs.map T).flatten ++ r) := by rw [hd]; simp
    simp only [List.length_cons] at h8 hf
    have hp2 := drop_len hd' (hT k (by simp))
    rw [manyF, if_pos (hB k (by simp) _ _ hd'), if_neg (by omega), h1 k (by simp) a _ w1 st ht hd' hq hp]
    show manyF (place ks 0) en B one f (kids ++ [k]) ⟨t.take (k + 1), st.p + (T k).length⟩ = _
    rw [many_rd fs f (kids ++ [k]) ⟨t.take (k + 1), st.p + (T k).length⟩ (k + 1) e w2 rfl (drop_app hd') (by simp only []; omega) hp2 (fun x hx => hT x (List.mem_cons_of_mem _ hx)) (fun x hx => h1 x (List.mem_cons_of_mem _ hx)) (fun x hx => hB x (List.mem_cons_of_mem _ hx)) hr (by simp; omega) (by omega)]
    simp; omega
theorem commas_rd {one : Pr Nat} {p0 most : Nat} {T : Nat → List Tok} {fin : List UInt8} {r : List Tok} (hk : 6 ≤ markK fin) (hfin : fin ≠ [44]) : ∀ (fs : List Nat) (f : Nat) (kids : List Nat) (st : PS) (a e : Nat), Forest t a e fs → fs ≠ [] → st.t = t.take a → ks.drop st.p = mkT [44] :: btwn T [44] fs ++ mkT fin :: r → p0 ≤ st.p + 1 → st.p ≤ ks.length → (∀ k ∈ fs, T k ≠ []) →
    (∀ k ∈ fs, ∀ b r', Forest t b (k + 1) [k] → (∃ s r'', (s = [44] ∨ s = fin) ∧ r' = mkT s :: r'') → Rd t ks one p0 b k (T k) r') → (most = 0 ∧ kids ≠ [] ∨ kids.length + fs.length ≤ most) → fs.length < f →
    commasF (place ks 0) en one fin most f kids st = .ok (kids ++ fs, ⟨t.take e, st.p + (btwn T [44] fs).length + 2⟩)
  | [], _, _, _, _, _, _, hne, _, _, _, _, _, _, _, _ => absurd rfl hne
  | [k], f, kids, st, a, e, hF, _, ht, hd, hq, hp, hT, h1, h8, hf => by
    obtain ⟨f, rfl⟩ : ∃ g, f = g + 2 := ⟨f - 2, by simp at hf; omega⟩
    have hd1 : ks.drop st.p = [mkT [44]] ++ (T k ++ mkT fin :: r) := by rw [hd]; simp [btwn]
    have hd2 := drop_app hd1
    have hp1 := drop_len hd1 (by simp)
    simp only [List.length_singleton] at hd2 hp1
    have hp2 := drop_len hd2 (hT k (by simp))
    have hd3 := drop_app hd2
    obtain ⟨rfl, _⟩ := hF.one
    have hm : ¬ kids.length = most := by
      rcases h8 with ⟨e1, e2⟩ | h8
      · have := List.length_pos_iff.2 e2; omega
      · simp at h8; omega
    rw [commasF, if_pos (by rw [is_pl, hd1]; rfl), if_neg hm, h1 k (by simp) a _ hF ⟨fin, r, .inr rfl, rfl⟩ (adv st) ht hd2 hq hp1]
    show commasF (place ks 0) en one fin most (f + 1) (kids ++ [k]) ⟨t.take (k + 1), st.p + 1 + (T k).length⟩ = _
    rw [commasF, if_neg (by rw [is_pl, hd3, is_mk hk]; simpa using hfin)]
    unfold takeP
    rw [if_pos (by rw [is_pl, hd3, is_mk hk]; simp)]
    show Except.ok (kids ++ [k], (⟨t.take (k + 1), st.p + 1 + (T k).length + 1⟩ : PS)) = _
    simp [btwn]; omega
  | k :: u :: fs, f, kids, st, a, e, hF, _, ht, hd, hq, hp, hT, h1, h8, hf => by
    obtain ⟨f, rfl⟩ : ∃ g, f = g + 1 := ⟨f - 1, by simp at hf; omega⟩
    obtain ⟨w1, w2⟩ := hF.cons
    have hd1 : ks.drop st.p = [mkT [44]] ++ (T k ++ (mkT [44] :: btwn T [44] (u :: fs) ++ mkT fin :: r)) := by rw [hd]; simp [btwn]
    have hd2 := drop_app hd1
    have hp1 := drop_len hd1 (by simp)
    simp only [List.length_singleton] at hd2 hp1
    have hp2 := drop_len hd2 (hT k (by simp))
    have hd3 := drop_app hd2
    have hm : ¬ kids.length = most := by
      rcases h8 with ⟨e1, e2⟩ | h8
      · have := List.length_pos_iff.2 e2; omega
      · simp at h8; omega
    simp only [List.length_cons] at hf
    rw [commasF, if_pos (by rw [is_pl, hd1]; rfl), if_neg hm, h1 k (by simp) a _ w1 ⟨[44], _, .inl rfl, rfl⟩ (adv st) ht hd2 hq hp1]
    show commasF (place ks 0) en one fin most f (kids ++ [k]) ⟨t.take (k + 1), st.p + 1 + (T k).length⟩ = _
    rw [commas_rd hk hfin (u :: fs) f (kids ++ [k]) ⟨t.take (k + 1), st.p + 1 + (T k).length⟩ (k + 1) e w2 (by simp) rfl hd3 (by simp only []; omega) hp2 (fun x hx => hT x (List.mem_cons_of_mem _ hx)) (fun x hx => h1 x (List.mem_cons_of_mem _ hx)) (by
      rcases h8 with ⟨e1, e2⟩ | h8
      · exact .inl ⟨e1, by simp⟩
      · exact .inr (by simp at h8 ⊢; omega)) (by simp; omega)]
    simp [btwn]; omega
theorem btwn_ge {T : Nat → List Tok} {m : List UInt8} : ∀ fs : List Nat, (∀ k ∈ fs, T k ≠ []) → fs.length ≤ (btwn T m fs).length
  | [], _ => Nat.zero_le _
  | [k], h => by
    have := List.length_pos_iff.2 (h k (by simp))
    simp only [btwn, List.length_singleton]; omega
  | k :: u :: r, h => by
    have h1 := btwn_ge (m := m) (u :: r) fun x hx => h x (List.mem_cons_of_mem _ hx)
    have := List.length_pos_iff.2 (h k (by simp))
    simp only [btwn, List.length_append, List.length_cons] at h1 ⊢; omega
theorem flat_ge {T : Nat → List Tok} : ∀ fs : List Nat, (∀ k ∈ fs, T k ≠ []) → fs.length ≤ ((fs.map T).flatten).length
  | [], _ => Nat.zero_le _
  | k :: r, h => by
    have h1 := flat_ge r fun x hx => h x (List.mem_cons_of_mem _ hx)
    have := List.length_pos_iff.2 (h k (by simp))
    simp only [List.map_cons, List.flatten_cons, List.length_append, List.length_cons] at h1 ⊢; omega
theorem drop_le {q : Nat} {ts r : List Tok} (h : ks.drop q = ts ++ r) : ts.length ≤ ks.length := by
  have := congrArg List.length h
  rw [List.length_drop, List.length_append] at this; omega
/-- All of a list with commas, from its first part on. -/
theorem commasP_rd {one : Pr Nat} {p0 most : Nat} {T : Nat → List Tok} {fin : List UInt8} {r : List Tok} (hk : 6 ≤ markK fin) (hfin : fin ≠ [44]) {fs : List Nat} {st : PS} {a e : Nat} (hF : Forest t a e fs) (hne : fs ≠ []) (ht : st.t = t.take a) (hd : ks.drop st.p = btwn T [44] fs ++ mkT fin :: r) (hq : p0 ≤ st.p) (hp : st.p ≤ ks.length) (hT : ∀ k ∈ fs, T k ≠ [])
    (h1 : ∀ k ∈ fs, ∀ b r', Forest t b (k + 1) [k] → (∃ s r'', (s = [44] ∨ s = fin) ∧ r' = mkT s :: r'') → Rd t ks one p0 b k (T k) r') (h8 : most = 0 ∨ fs.length ≤ most) :
    commasP (place ks 0) en one fin most st = .ok (fs, ⟨t.take e, st.p + (btwn T [44] fs).length + 1⟩) := by
  have hfl := Nat.le_trans (btwn_ge (m := [44]) fs hT) (drop_le hd)
  unfold commasP
  rw [place_len]
  match fs, hne with
  | [k], _ =>
    obtain ⟨rfl, _⟩ := hF.one
    have hd1 : ks.drop st.p = T k ++ mkT fin :: r := by rw [hd]; simp [btwn]
    have hd2 := drop_app hd1
    rw [h1 k (by simp) a _ hF ⟨fin, r, .inr rfl, rfl⟩ st ht hd1 hq hp]
    show commasF (place ks 0) en one fin most (ks.length + 1) [k] ⟨t.take (k + 1), st.p + (T k).length⟩ = _
    rw [commasF, if_neg (by rw [is_pl, hd2, is_mk hk]; simpa using hfin)]
    unfold takeP
    rw [if_pos (by rw [is_pl, hd2, is_mk hk]; simp)]
    show Except.ok ([k], (⟨t.take (k + 1), st.p + (T k).length + 1⟩ : PS)) = _
    simp [btwn]
  | k :: u :: fs, _ =>
    obtain ⟨w1, w2⟩ := hF.cons
    have hd1 : ks.drop st.p = T k ++ (mkT [44] :: btwn T [44] (u :: fs) ++ mkT fin :: r) := by rw [hd]; simp [btwn]
    have hd2 := drop_app hd1
    have hp2 := drop_len hd1 (hT k (by simp))
    rw [h1 k (by simp) a _ w1 ⟨[44], _, .inl rfl, rfl⟩ st ht hd1 hq hp]
    show commasF (place ks 0) en one fin most (ks.length + 1) [k] ⟨t.take (k + 1), st.p + (T k).length⟩ = _
    rw [commas_rd hk hfin (u :: fs) (ks.length + 1) [k] ⟨t.take (k + 1), st.p + (T k).length⟩ (k + 1) e w2 (by simp) rfl hd2 (by simp only []; omega) hp2 (fun x hx => hT x (List.mem_cons_of_mem _ hx)) (fun x hx => h1 x (List.mem_cons_of_mem _ hx)) (by
      rcases h8 with h8 | h8
      · exact .inl ⟨h8, by simp⟩
      · exact .inr (by simp at h8 ⊢; omega)) (by simp at hfl ⊢; omega)]
    simp [btwn]; omega
theorem semis_rd {B : Nat → Bool} {one : Pr Nat} {p0 : Nat} {T : Nat → List Tok} {r : List Tok} (hr : ∀ p, ks.drop p = r → B p = false ∧ isT r [59] = false) : ∀ (fs : List Nat) (f : Nat) (kids : List Nat) (st : PS) (a e : Nat), Forest t a e fs → st.t = t.take a → ks.drop st.p = btwn T [59] fs ++ r → p0 ≤ st.p → st.p ≤ ks.length → (∀ k ∈ fs, T k ≠ []) →
    (∀ k ∈ fs, ∀ b r', Forest t b (k + 1) [k] → (r' = r ∨ ∃ r'', r' = mkT [59] :: r'') → Rd t ks one p0 b k (T k) r') → (∀ k ∈ fs, ∀ p r', ks.drop p = T k ++ r' → B p = true) → fs.length < f →
    semisF (place ks 0) B one f kids st = .ok (kids ++ fs, ⟨t.take e, st.p + (btwn T [59] fs).length⟩)
  | [], f, kids, st, a, e, hF, ht, hd, _, _, _, _, _, hf => by
    obtain ⟨f, rfl⟩ : ∃ g, f = g + 1 := ⟨f - 1, by simp at hf; omega⟩
    obtain rfl := hF.empty
    have hd' : ks.drop st.p = r := by simpa [btwn] using hd
    obtain ⟨w1, w2⟩ := hr _ hd'
    rw [semisF, if_neg (by rw [w1]; decide)]
    show (if isP (place ks 0) st.p [59] = true then _ else Except.ok (kids, st)) = _
    rw [if_neg (by rw [is_pl, hd', w2]; decide)]
    simp [btwn, ← ht]
  | [k], f, kids, st, a, e, hF, ht, hd, hq, hp, hT, h1, hB, hf => by
    obtain ⟨f, rfl⟩ : ∃ g, f = g + 1 := ⟨f - 1, by simp at hf; omega⟩
    obtain ⟨rfl, _⟩ := hF.one
    have hd1 : ks.drop st.p = T k ++ r := by rw [hd]; simp [btwn]
    have hd2 := drop_app hd1
    obtain ⟨w1, w2⟩ := hr _ hd2
    rw [semisF, if_pos (hB k (by simp) _ _ hd1), h1 k (by simp) a _ hF (.inl rfl) st ht hd1 hq hp]
    show (if isP (place ks 0) (st.p + (T k).length) [59] = true then _ else Except.ok (kids ++ [k], (⟨t.take (k + 1), st.p + (T k).length⟩ : PS))) = _
    rw [if_neg (by rw [is_pl, hd2, w2]; decide)]
    simp [btwn]
  | k :: u :: fs, f, kids, st, a, e, hF, ht, hd, hq, hp, hT, h1, hB, hf => by
    obtain ⟨f, rfl⟩ : ∃ g, f = g + 1 := ⟨f - 1, by simp at hf; omega⟩
    obtain ⟨w1, w2⟩ := hF.cons
    have hd1 : ks.drop st.p = T k ++ (mkT [59] :: (btwn T [59] (u :: fs) ++ r)) := by rw [hd]; simp [btwn]
    have hd2 := drop_app hd1
    have hd3 : ks.drop (st.p + (T k).length + 1) = btwn T [59] (u :: fs) ++ r := drop_app (ts := [mkT [59]]) hd2
    have hp2 := drop_len (ts := [mkT [59]]) hd2 (by simp)
    simp only [List.length_singleton] at hp2
    simp only [List.length_cons] at hf
    rw [semisF, if_pos (hB k (by simp) _ _ hd1), h1 k (by simp) a _ w1 (.inr ⟨_, rfl⟩) st ht hd1 hq hp]
    show (if isP (place ks 0) (st.p + (T k).length) [59] = true then semisF (place ks 0) B one f (kids ++ [k]) ⟨t.take (k + 1), st.p + (T k).length + 1⟩ else _) = _
    rw [if_pos (by rw [is_pl, hd2]; rfl)]
    rw [semis_rd hr (u :: fs) f (kids ++ [k]) ⟨t.take (k + 1), st.p + (T k).length + 1⟩ (k + 1) e w2 rfl hd3 (by simp only []; omega) hp2 (fun x hx => hT x (List.mem_cons_of_mem _ hx)) (fun x hx => h1 x (List.mem_cons_of_mem _ hx)) (fun x hx => hB x (List.mem_cons_of_mem _ hx)) (by simp; omega)]
    simp [btwn]; omega
end
end Go.Proofs.YtikgokpbhldlnaaGreatDoor
end
section
/- What is shown of a tree is read as that tree again: the ground. -/
namespace Go.Proofs.YtikgokpbhldlnaaGreatDoor
open Go Go.Ab
def CE : List (List UInt8) := [[41], [93], [125], [44], [59], [116, 104, 101, 110], [101, 108, 115, 101], [111, 102], [105, 110], [119, 104, 101, 114, 101], [61], [45, 62], [124]]
def CP : List (List UInt8) := [[41], [93], [44], [45, 62], [124]]
def CW : List (List UInt8) := [[41], [93], [44]]
def CR : List (List UInt8) := [[59], [125]]
/-- No atom comes. -/
def StopO (r : List Tok) : Prop := r = [] ∨ ∃ k r', r = k :: r' ∧ 6 ≤ k.kind ∧ k.text ≠ [40] ∧ k.text ≠ [91]
/-- An atom begins. -/
def atB (ts : List Tok) : Bool := ((decide (1 ≤ kdT ts) && decide (kdT ts ≤ 5)) || isT ts [40]) || isT ts [91]
def HdA (ts : List Tok) : Prop := atB ts = true ∧ isT ts [95] = false
def HdP (ts : List Tok) : Prop := (atB ts || isT ts [95]) = true
def words4 : List (List UInt8) := [[92], [108, 101, 116], [105, 102], [99, 97, 115, 101]]
def HdE (ts : List Tok) : Prop := HdA ts ∨ ∃ w ∈ words4, isT ts w = true
def HdT (ts : List Tok) : Prop := (((decide (kdT ts = 2) || decide (kdT ts = 1)) || isT ts [40]) || isT ts [91]) = true
theorem isT_cons {k : Tok} {r : List Tok} {tx : List UInt8} : isT (k :: r) tx = (decide (6 ≤ k.kind) && decide (k.text = tx)) := rfl
theorem isT_eq {ts : List Tok} {w tx : List UInt8} (h : isT ts w = true) (hn : tx ≠ w) : isT ts tx = false := by
  cases ts with
  | nil => cases h
  | cons k r =>
    rw [isT_cons, Bool.and_eq_true] at h
    rw [isT_cons, decide_eq_false (p := k.text = tx) (fun e => hn (e ▸ of_decide_eq_true h.2)), Bool.and_false]
theorem isT_low {ts : List Tok} {tx : List UInt8} (h : kdT ts ≤ 5) : isT ts tx = false := by
  cases ts with
  | nil => rfl
  | cons k r =>
    have h : k.kind ≤ 5 := h
    rw [isT_cons, decide_eq_false (by omega)]; rfl
theorem atB_no {ts : List Tok} (h : atB ts = true) {tx : List UInt8} (h1 : tx ≠ [40]) (h2 : tx ≠ [91]) : isT ts tx = false := by
  unfold atB at h
  simp only [Bool.or_eq_true, Bool.and_eq_true, decide_eq_true_eq] at h
  rcases h with (h | h) | h
  · exact isT_low h.2
  · exact isT_eq h h1
  · exact isT_eq h h2
theorem HdA.no {ts : List Tok} (h : HdA ts) {tx : List UInt8} (h1 : tx ≠ [40]) (h2 : tx ≠ [91]) : isT ts tx = false := atB_no h.1 h1 h2
theorem HdP.no {ts : List Tok} (h : HdP ts) {tx : List UInt8} (h1 : tx ≠ [40]) (h2 : tx ≠ [91]) (h3 : tx ≠ [95]) : isT ts tx = false := by
  unfold HdP at h
  rw [Bool.or_eq_true] at h
  rcases h with h | h
  · exact atB_no h h1 h2
  · exact isT_eq h h3
theorem HdE.no {ts : List Tok} (h : HdE ts) {tx : List UInt8} (h1 : tx ≠ [40]) (h2 : tx ≠ [91]) (h3 : tx ∉ words4) : isT ts tx = false := by
  rcases h with h | ⟨w, hw, h⟩
  · exact h.no h1 h2
  · exact isT_eq h fun e => h3 (e ▸ hw)
theorem HdT.no {ts : List Tok} (h : HdT ts) {tx : List UInt8} (h1 : tx ≠ [40]) (h2 : tx ≠ [91]) : isT ts tx = false := by
  unfold HdT at h
  simp only [Bool.or_eq_true, decide_eq_true_eq] at h
  rcases h with ((h | h) | h) | h
  · exact isT_low (by omega)
  · exact isT_low (by omega)
  · exact isT_eq h h1
  · exact isT_eq h h2
theorem kdT_app {ts r : List Tok} (h : ts ≠ []) : kdT (ts ++ r) = kdT ts := by
  cases ts with
  | nil => exact absurd rfl h
  | cons k x => rfl
theorem isT_app {ts r : List Tok} {tx : List UInt8} (h : ts ≠ []) : isT (ts ++ r) tx = isT ts tx := by
  cases ts with
  | nil => exact absurd rfl h
  | cons k x => rfl
theorem atB_app {ts r : List Tok} (h : ts ≠ []) : atB (ts ++ r) = atB ts := by
  unfold atB; rw [kdT_app h, isT_app h, isT_app h]
theorem HdA.ne {ts : List Tok} (h : HdA ts) : ts ≠ [] := by rintro rfl; cases h.1
theorem HdP.ne {ts : List Tok} (h : HdP ts) : ts ≠ [] := by rintro rfl; cases h
theorem HdT.ne {ts : List Tok} (h : HdT ts) : ts ≠ [] := by rintro rfl; cases h
theorem HdE.ne {ts : List Tok} (h : HdE ts) : ts ≠ [] := by
  rintro rfl
  rcases h with h | ⟨_, _, h⟩
  · cases h.1
  · cases h
theorem HdA.app {ts r : List Tok} (h : HdA ts) : HdA (ts ++ r) := by unfold HdA; rw [atB_app h.ne, isT_app h.ne]; exact h
theorem HdP.app {ts r : List Tok} (h : HdP ts) : HdP (ts ++ r) := by
  have hn := h.ne
  unfold HdP at h ⊢; rw [atB_app hn, isT_app hn]; exact h
theorem HdT.app {ts r : List Tok} (h : HdT ts) : HdT (ts ++ r) := by
  have hn := h.ne
  unfold HdT at h ⊢; rw [kdT_app hn, isT_app hn, isT_app hn]; exact h
theorem HdE.app {ts r : List Tok} (h : HdE ts) : HdE (ts ++ r) := by
  have hn := h.ne
  rcases h with h | ⟨w, hw, h⟩
  · exact .inl h.app
  · exact .inr ⟨w, hw, by rw [isT_app hn]; exact h⟩
theorem HdA.p {ts : List Tok} (h : HdA ts) : HdP ts := by unfold HdP; rw [h.1]; rfl
theorem HdA.mk40 {r : List Tok} : HdA (mkT [40] :: r) := ⟨rfl, rfl⟩
theorem HdA.mk91 {r : List Tok} : HdA (mkT [91] :: r) := ⟨rfl, rfl⟩
theorem HdA.low {k : Tok} {r : List Tok} (h : 1 ≤ k.kind ∧ k.kind ≤ 5) : HdA (k :: r) := by
  refine ⟨?_, isT_low h.2⟩
  unfold atB
  rw [show kdT (k :: r) = k.kind from rfl, decide_eq_true h.1, decide_eq_true h.2]; rfl
theorem HdT.mk40 {r : List Tok} : HdT (mkT [40] :: r) := rfl
theorem HdT.mk91 {r : List Tok} : HdT (mkT [91] :: r) := rfl
theorem HdT.low {k : Tok} {r : List Tok} (h : k.kind = 1 ∨ k.kind = 2) : HdT (k :: r) := by
  unfold HdT
  rw [show kdT (k :: r) = k.kind from rfl]
  rcases h with h | h <;> rw [h] <;> rfl
theorem StopO.at {r : List Tok} (h : StopO r) : atB r = false := by
  rcases h with rfl | ⟨k, r', rfl, h1, h2, h3⟩
  · rfl
  · unfold atB
    rw [show kdT (k :: r') = k.kind from rfl, isT_cons, isT_cons, decide_eq_false (show ¬ k.kind ≤ 5 by omega), decide_eq_false h2, decide_eq_false h3]; simp
theorem StopIn.o {cl : List (List UInt8)} {r : List Tok} (h : StopIn cl r) (h1 : [40] ∉ cl) (h2 : [91] ∉ cl) : StopO r := by
  rcases h with h | ⟨k, r', e, h3, h4⟩
  · exact .inl h
  · exact .inr ⟨k, r', e, by omega, fun q => h1 (q ▸ h4), fun q => h2 (q ▸ h4)⟩
theorem op_marks : ∀ s ∈ opTexts, markK s = 8 ∧ s ≠ [40] ∧ s ≠ [91] := by decide +kernel
theorem StopO.op {s : List UInt8} {r : List Tok} (h : s ∈ opTexts) : StopO (mkT s :: r) := .inr ⟨_, _, rfl, by rw [show (mkT s).kind = markK s from rfl, (op_marks s h).1]; decide, (op_marks s h).2.1, (op_marks s h).2.2⟩
theorem marks_no_name : ∀ s ∈ markTexts, nameF s = 0 := by decide +kernel
theorem mkT_name {s : List UInt8} {k : Int} (h : nameF s = k) (hk : k ≠ 0) : mkT s = ⟨k, s, 0, 0⟩ := by
  unfold mkT markK
  rw [if_neg (fun q => hk (by rw [← h, marks_no_name s q])), if_neg (by omega), h]
section
variable {t : List Nd} {ks : List Tok} {en : Nat}
/-- A rule reads a node's tokens. -/
def RdS (t : List Nd) (ks : List Tok) (en : Nat) (s : Sym) (a j : Nat) (ts r : List Tok) : Prop :=
  ∀ n st, st.t = t.take a → ks.drop st.p = ts ++ r → st.p ≤ ks.length → measS (place ks 0) s st.p < n → parseN (place ks 0) en n s st = .ok (j, ⟨t.take (j + 1), st.p + ts.length⟩)
theorem meas_mono {l : List Tok} {s : Sym} {p q : Nat} (h : p ≤ q) : measS l s q ≤ measS l s p := by unfold measS; omega
theorem RdS.rd {s : Sym} {a j : Nat} {ts r : List Tok} (h : RdS t ks en s a j ts r) {n p0 : Nat} (hm : measS (place ks 0) s p0 < n) : Rd t ks (parseN (place ks 0) en n s) p0 a j ts r :=
  fun st ht hd hq hp => h n st ht hd hp (Nat.lt_of_le_of_lt (meas_mono hq) hm)
theorem RdS.next {s s' : Sym} {a j : Nat} {ts r : List Tok} (h : RdS t ks en s' a j ts r) {n p : Nat} (hm : measS (place ks 0) s p < n + 1) (hl : p + 1 ≤ ks.length) : Rd t ks (parseN (place ks 0) en n s') (p + 1) a j ts r :=
  h.rd (meas_lt hm (Nat.le_refl _) (by rw [place_len]; exact hl))
theorem put_rd {st : PS} {j : Nat} {nd : Nd} {op : Int} {tx : List UInt8} {kids : List Nat} (ht : st.t = t.take j) (hj : t[j]? = some nd) (h1 : nd.op = op) (h2 : bs nd.text = tx) (h3 : nd.num = 0) (h4 : nd.kids = natI kids) : putP op tx kids st = .ok (j, ⟨t.take (j + 1), st.p⟩) := by
  have hl := (List.getElem?_eq_some_iff.1 hj).1
  unfold putP
  have hlen : st.t.length = j := by rw [ht, List.length_take]; omega
  have hnd : (⟨op, ofL tx, 0, ik kids⟩ : Nd) = nd := by
    cases nd
    simp only [] at h1 h2 h3 h4
    subst h1; subst h3; subst h4; subst h2
    rw [ofL_bs]; rfl
  rw [hlen, hnd, ht, List.take_add_one, hj]; rfl
theorem leaf_rd {st : PS} {j : Nat} {nd : Nd} {ops : List Int} {k : Tok} {r : List Tok} (ht : st.t = t.take j) (hj : t[j]? = some nd) (hd : ks.drop st.p = k :: r) (h1 : ops.getD (k.kind - 1).toNat 0 = nd.op) (h2 : bs nd.text = k.text) (h3 : nd.num = k.num) (h4 : nd.kids = []) : leafP (place ks 0) ops st = .ok (j, ⟨t.take (j + 1), st.p + 1⟩) := by
  have hl := (List.getElem?_eq_some_iff.1 hj).1
  obtain ⟨q, e⟩ := pl_some hd
  have hlen : st.t.length = j := by rw [ht, List.length_take]; omega
  have hnd : (⟨ops.getD (k.kind - 1).toNat 0, ofL k.text, k.num, []⟩ : Nd) = nd := by
    cases nd
    simp only [] at h1 h2 h3 h4
    subst h3; subst h4
    rw [h1, ← h2, ofL_bs]
  unfold leafP
  rw [e]
  show Except.ok (st.t.length, (⟨st.t ++ [⟨ops.getD (k.kind - 1).toNat 0, ofL k.text, k.num, []⟩], st.p + 1⟩ : PS)) = _
  rw [hlen, hnd, ht, List.take_add_one, hj]; rfl
theorem take_rd {st : PS} {tx : List UInt8} {r : List Tok} (hd : ks.drop st.p = mkT tx :: r) (hk : 6 ≤ markK tx) : takeP (place ks 0) en tx st = .ok ((), ⟨st.t, st.p + 1⟩) := by
  unfold takeP
  rw [if_pos (by rw [is_pl, hd, is_mk hk]; simp)]; rfl
theorem name_rd {st : PS} {k : Tok} {r : List Tok} {kd : Int} (hd : ks.drop st.p = k :: r) (hk : k.kind = kd) : nameP (place ks 0) en kd st = .ok (k.text, ⟨st.t, st.p + 1⟩) := by
  unfold nameP
  rw [if_pos (by rw [kd_pl, hd]; exact hk), tx_pl hd]; rfl
theorem atomic_pl {p : Nat} : atomicP (place ks 0) p = ((atB (ks.drop p) || isT (ks.drop p) [95]) && !isT (ks.drop p) [95]) := by
  unfold atomicP beginsP atB
  rw [kd_pl, is_pl, is_pl, is_pl]
theorem begins_pl {p : Nat} : beginsP (place ks 0) p = (atB (ks.drop p) || isT (ks.drop p) [95]) := by
  unfold beginsP atB
  rw [kd_pl, is_pl, is_pl, is_pl]
theorem typed_pl {p : Nat} : typedP (place ks 0) p = (((decide (kdT (ks.drop p) = 2) || decide (kdT (ks.drop p) = 1)) || isT (ks.drop p) [40]) || isT (ks.drop p) [91]) := by
  unfold typedP isVarP
  rw [kd_pl, is_pl, is_pl]
theorem opP_none {p : Nat} (h : kdT (ks.drop p) ≠ 8) : opP (place ks 0) p = none := by
  unfold opP
  rw [List.find?_eq_none]
  intro o _
  rw [kd_pl, decide_eq_false h]; simp
theorem op_uniq : ∀ o ∈ opList, opList.find? (fun q => decide (o.1 = q.1)) = some o := by decide +kernel
theorem opP_some {p : Nat} {s : List UInt8} {r : List Tok} (h : ks.drop p = mkT s :: r) {o : List UInt8 × Int × Int} (ho : o ∈ opList) (hs : o.1 = s) : opP (place ks 0) p = some o := by
  have hm : s ∈ opTexts := by rw [← hs]; exact List.mem_map_of_mem ho
  unfold opP
  rw [← op_uniq o ho]
  congr 1
  funext q
  rw [kd_pl, is_pl, h, is_mk (by rw [(op_marks s hm).1]; decide), show kdT (mkT s :: r) = markK s from rfl, (op_marks s hm).1, hs]; simp
/-! ### Brackets -/
/-- ( .. ) -/
theorem paren_rd {one : Pr Nat} {x y z : Int} {a k : Nat} {ts r : List Tok} {st : PS} (ht : st.t = t.take a) (hd : ks.drop st.p = mkT [40] :: (ts ++ mkT [41] :: r)) (hn : isT ts [41] = false) (hne : ts ≠ []) (h1 : Rd t ks one (st.p + 1) a k ts (mkT [41] :: r)) : bracketsP (place ks 0) en one x y z st = .ok (k, ⟨t.take (k + 1), st.p + (ts.length + 2)⟩) := by
  have hp1 := drop_len (ts := [mkT [40]]) hd (by simp)
  simp only [List.length_singleton] at hp1
  have hd2 : ks.drop (st.p + 1) = ts ++ mkT [41] :: r := drop_app (ts := [mkT [40]]) hd
  have hd3 := drop_app hd2
  unfold bracketsP
  rw [if_neg (by rw [is_pl, hd, is_mk (by decide)]; decide), take_rd hd (by decide)]
  show (if isP (place ks 0) (st.p + 1) [41] = true then _ else _) = _
  rw [if_neg (by rw [is_pl, hd2, isT_app hne, hn]; decide)]
  unfold commasP
  rw [h1 ⟨st.t, st.p + 1⟩ ht hd2 (Nat.le_refl _) hp1]
  show bindP (commasF (place ks 0) en one [41] 8 ((place ks 0).length + 1) [k] ⟨t.take (k + 1), st.p + 1 + ts.length⟩) _ = _
  rw [commasF, if_neg (by rw [is_pl, hd3, is_mk (by decide)]; decide), take_rd (st := ⟨t.take (k + 1), st.p + 1 + ts.length⟩) hd3 (by decide)]
  show Except.ok (([k] : List Nat).getD 0 0, (⟨t.take (k + 1), st.p + 1 + ts.length + 1⟩ : PS)) = _
  simp; omega
/-- ( ) -/
theorem unit_rd {one : Pr Nat} {x y z : Int} {j : Nat} {nd : Nd} {r : List Tok} {st : PS} (ht : st.t = t.take j) (hj : t[j]? = some nd) (hd : ks.drop st.p = mkT [40] :: mkT [41] :: r) (h1 : nd.op = z) (h2 : bs nd.text = [40, 41]) (h3 : nd.num = 0) (h4 : nd.kids = natI []) : bracketsP (place ks 0) en one x y z st = .ok (j, ⟨t.take (j + 1), st.p + 2⟩) := by
  have hd2 : ks.drop (st.p + 1) = mkT [41] :: r := drop_app (ts := [mkT [40]]) hd
  unfold bracketsP
  rw [if_neg (by rw [is_pl, hd, is_mk (by decide)]; decide), take_rd hd (by decide)]
  show (if isP (place ks 0) (st.p + 1) [41] = true then putP z [40, 41] [] (adv ⟨st.t, st.p + 1⟩) else _) = _
  rw [if_pos (by rw [is_pl, hd2]; rfl), put_rd (st := adv ⟨st.t, st.p + 1⟩) ht hj h1 h2 h3 h4]; rfl
/-- ( .. , .. ) -/
theorem tuple_rd {one : Pr Nat} {x y z : Int} {a j : Nat} {nd : Nd} {T : Nat → List Tok} {fs : List Nat} {r : List Tok} {st : PS} (ht : st.t = t.take a) (hF : Forest t a j fs) (h2 : 2 ≤ fs.length) (h8 : fs.length ≤ 8) (hd : ks.drop st.p = mkT [40] :: (btwn T [44] fs ++ mkT [41] :: r)) (hn : ∀ k ∈ fs, T k ≠ [] ∧ isT (T k) [41] = false)
    (h1 : ∀ k ∈ fs, ∀ b r', Forest t b (k + 1) [k] → (∃ s r'', (s = [44] ∨ s = [41]) ∧ r' = mkT s :: r'') → Rd t ks one (st.p + 1) b k (T k) r')
    (hj : t[j]? = some nd) (e1 : nd.op = y) (e2 : bs nd.text = []) (e3 : nd.num = 0) (e4 : nd.kids = natI fs) : bracketsP (place ks 0) en one x y z st = .ok (j, ⟨t.take (j + 1), st.p + ((btwn T [44] fs).length + 2)⟩) := by
  have hp1 := drop_len (ts := [mkT [40]]) hd (by simp)
  simp only [List.length_singleton] at hp1
  have hd2 : ks.drop (st.p + 1) = btwn T [44] fs ++ mkT [41] :: r := drop_app (ts := [mkT [40]]) hd
  have hhead : isT (btwn T [44] fs ++ mkT [41] :: r) [41] = false := by
    match fs, h2 with
    | k :: u :: fs, _ =>
      obtain ⟨w1, w2⟩ := hn k (by simp)
      rw [btwn, List.append_assoc, isT_app w1, w2]
      simp
  unfold bracketsP
  rw [if_neg (by rw [is_pl, hd, is_mk (by decide)]; decide), take_rd hd (by decide)]
  show (if isP (place ks 0) (st.p + 1) [41] = true then _ else _) = _
  rw [if_neg (by rw [is_pl, hd2, hhead]; decide)]
  rw [commasP_rd (st := ⟨st.t, st.p + 1⟩) (by decide) (by decide) hF (by rintro rfl; simp at h2) ht hd2 (Nat.le_refl _) hp1 (fun k hk => (hn k hk).1) h1 (.inr h8)]
  show (if fs.length = 1 then _ else putP y [] fs ⟨t.take j, st.p + 1 + (btwn T [44] fs).length + 1⟩) = _
  rw [if_neg (by omega), put_rd (st := ⟨t.take j, st.p + 1 + (btwn T [44] fs).length + 1⟩) rfl hj e1 e2 e3 e4]
  simp; omega
/-- [ .. , .. ] -/
theorem list_rd {one : Pr Nat} {x y z : Int} {a j : Nat} {nd : Nd} {T : Nat → List Tok} {fs : List Nat} {r : List Tok} {st : PS} (ht : st.t = t.take a) (hF : Forest t a j fs) (hd : ks.drop st.p = mkT [91] :: (btwn T [44] fs ++ mkT [93] :: r)) (hn : ∀ k ∈ fs, T k ≠ [] ∧ isT (T k) [93] = false)
    (h1 : ∀ k ∈ fs, ∀ b r', Forest t b (k + 1) [k] → (∃ s r'', (s = [44] ∨ s = [93]) ∧ r' = mkT s :: r'') → Rd t ks one (st.p + 1) b k (T k) r')
    (hj : t[j]? = some nd) (e1 : nd.op = x) (e2 : bs nd.text = []) (e3 : nd.num = 0) (e4 : nd.kids = natI fs) : bracketsP (place ks 0) en one x y z st = .ok (j, ⟨t.take (j + 1), st.p + ((btwn T [44] fs).length + 2)⟩) := by
  have hp1 := drop_len (ts := [mkT [91]]) hd (by simp)
  simp only [List.length_singleton] at hp1
  have hd2 : ks.drop (st.p + 1) = btwn T [44] fs ++ mkT [93] :: r := drop_app (ts := [mkT [91]]) hd
  unfold bracketsP
  rw [if_pos (by rw [is_pl, hd]; rfl)]
  cases fs with
  | nil =>
    obtain rfl := hF.empty
    rw [if_pos (by rw [is_pl, hd2]; rfl), put_rd (st := adv (adv st)) ht hj e1 e2 e3 e4]; rfl
  | cons k fs =>
    have hhead : isT (btwn T [44] (k :: fs) ++ mkT [93] :: r) [93] = false := by
      obtain ⟨w1, w2⟩ := hn k (by simp)
      cases fs with
      | nil => rw [btwn, isT_app w1, w2]
      | cons u fs =>
        rw [btwn, List.append_assoc, isT_app w1, w2]
        simp
    rw [if_neg (by rw [is_pl, hd2, hhead]; decide)]
    rw [commasP_rd (st := adv st) (by decide) (by decide) hF (by simp) ht hd2 (Nat.le_refl _) hp1 (fun k hk => (hn k hk).1) h1 (.inl rfl)]
    show putP x [] (k :: fs) ⟨t.take j, st.p + 1 + (btwn T [44] (k :: fs)).length + 1⟩ = _
    rw [put_rd (st := ⟨t.take j, st.p + 1 + (btwn T [44] (k :: fs)).length + 1⟩) rfl hj e1 e2 e3 e4]
    simp; omega
end
end Go.Proofs.YtikgokpbhldlnaaGreatDoor
end
section
/- What is shown of a tree is read as that tree again: what is asked of a node; brackets; from rule to rule. -/
namespace Go.Proofs.YtikgokpbhldlnaaGreatDoor
open Go Go.Ab
theorem bindP_ok {α β : Type} {a : α} {st : PS} {f : α → PS → Out β} : bindP (.ok (a, st)) f = f a st := rfl
section
variable {t : List Nd} {ks : List Tok} {en : Nat}
theorem drop1 {q : Nat} {k : Tok} {r : List Tok} (h : ks.drop q = k :: r) : ks.drop (q + 1) = r ∧ q + 1 ≤ ks.length :=
  ⟨drop_app (ts := [k]) h, drop_len (ts := [k]) h (by simp)⟩
theorem take_b {β : Type} {T : List Nd} {q : Nat} {tx : List UInt8} {r : List Tok} {f : Unit → PS → Out β} (hd : ks.drop q = mkT tx :: r) (hk : 6 ≤ markK tx) : bindP (takeP (place ks 0) en tx ⟨T, q⟩) f = f () ⟨T, q + 1⟩ := by
  rw [take_rd (st := ⟨T, q⟩) hd hk]; rfl
theorem name_b {β : Type} {T : List Nd} {q : Nat} {s : List UInt8} {r : List Tok} {kd : Int} {f : List UInt8 → PS → Out β} (hd : ks.drop q = mkT s :: r) (hk : nameF s = kd) (h0 : kd ≠ 0) : bindP (nameP (place ks 0) en kd ⟨T, q⟩) f = f s ⟨T, q + 1⟩ := by
  rw [mkT_name hk h0] at hd
  rw [name_rd (st := ⟨T, q⟩) hd rfl]; rfl
theorem rd_b {β : Type} {one : Pr Nat} {p0 a j q : Nat} {ts r : List Tok} {f : Nat → PS → Out β} (h : Rd t ks one p0 a j ts r) (hd : ks.drop q = ts ++ r) (hq : p0 ≤ q) (hp : q ≤ ks.length) : bindP (one ⟨t.take a, q⟩) f = f j ⟨t.take (j + 1), q + ts.length⟩ := by
  rw [h ⟨t.take a, q⟩ rfl hd hq hp]; rfl
theorem put_b {β : Type} {j q : Nat} {nd : Nd} {op : Int} {tx : List UInt8} {kids : List Nat} {f : Nat → PS → Out β} (hj : t[j]? = some nd) (h1 : nd.op = op) (h2 : bs nd.text = tx) (h3 : nd.num = 0) (h4 : nd.kids = natI kids) : bindP (putP op tx kids ⟨t.take j, q⟩) f = f j ⟨t.take (j + 1), q⟩ := by
  rw [put_rd (st := ⟨t.take j, q⟩) rfl hj h1 h2 h3 h4]; rfl
theorem natI_inj {l r : List Nat} (h : natI l = natI r) : l = r := by
  have := congrArg (List.map Int.toNat) h
  simpa [natI, Function.comp_def] using this
theorem op_at {j : Nat} : opAt t j = (ndOf t j).op := by
  unfold opAt ndOf
  rw [List.getD_eq_getElem?_getD]
  cases t[j]? <;> rfl
theorem nd_of {j : Nat} {nd : Nd} (h : t[j]? = some nd) : ndOf t j = nd := by
  unfold ndOf; rw [List.getD_eq_getElem?_getD, h]; rfl
end
/-! ### What is asked of a node -/
def StopOf (op : Int) (r : List Tok) : Prop := if op = 7 ∨ op = 8 ∨ op = 9 ∨ op = 10 then StopIn CE r else StopO r
def CG : List (List UInt8) := [[59], [125], [124], [119, 104, 101, 114, 101]]
def CD : List (List UInt8) := [[124], [59], [125]]
section
variable (t : List Nd) (ks : List Tok) (en : Nat)
def plainP (n : Nat) (sep : List UInt8) : Pr Nat := fun st => bindP (takeP (place ks 0) en sep st) fun _ st => bindP (parseN (place ks 0) en n (.expr 0) st) fun e st => putP 17 [] [e] st
def guardP (n : Nat) (sep : List UInt8) : Pr Nat := fun st => bindP (takeP (place ks 0) en [124] st) fun _ st => bindP (parseN (place ks 0) en n (.expr 0) st) fun a st => bindP (takeP (place ks 0) en sep st) fun _ st => bindP (parseN (place ks 0) en n (.expr 0) st) fun b st => putP 16 [] [a, b] st
def conP (n : Nat) : Pr Nat := fun st => bindP (nameP (place ks 0) en 2 st) fun con st => bindP (manyF (place ks 0) en (typedP (place ks 0)) (parseN (place ks 0) en n .atype) 9 [] st) fun ks st => putP 22 con ks st
def isE (op : Int) : Prop := 1 ≤ op ∧ op ≤ 13
def isA (op : Int) : Prop := (1 ≤ op ∧ op ≤ 5) ∨ op = 11 ∨ op = 12
def isPt (op : Int) : Prop := 25 ≤ op ∧ op ≤ 32
def isTy (op : Int) : Prop := op = 23 ∨ op = 24
def headP (n : Nat) : Pr Nat := fun st => if kindP (place ks 0) st.p = 2 then bindP (nameP (place ks 0) en 2 st) fun con st => bindP (manyF (place ks 0) en (beginsP (place ks 0)) (parseN (place ks 0) en n .apat) 9 [] st) fun kids st => putP 30 con kids st else parseN (place ks 0) en n .apat st
def headW (n : Nat) : Pr Nat := fun st => if kindP (place ks 0) st.p = 2 then bindP (nameP (place ks 0) en 2 st) fun con st => bindP (manyF (place ks 0) en (typedP (place ks 0)) (parseN (place ks 0) en n .atype) 9 [] st) fun kids st => putP 24 con kids st else parseN (place ks 0) en n .atype st
/-- The head of a rule reads a node's tokens. -/
def RdH (one : Nat → Pr Nat) (s : Sym) (a j : Nat) (ts r : List Tok) : Prop :=
  ∀ n st, st.t = t.take a → ks.drop st.p = ts ++ r → st.p ≤ ks.length → measS (place ks 0) s st.p < n + 1 → one n st = .ok (j, ⟨t.take (j + 1), st.p + ts.length⟩)
def NoB (r : List Tok) : Prop := (atB r || isT r [95]) = false
def CT : List (List UInt8) := [[41], [93], [44], [45, 62]]
def HdR (sep : List UInt8) (ts : List Tok) : Prop := ∃ s r, ts = mkT s :: r ∧ (s = sep ∨ s = [124])
structure RT (N : Nat → List UInt8 → List Tok) (k : Nat) : Prop where
  he : isE (ndOf t k).op → HdE (N k [61])
  e : isE (ndOf t k).op → ∀ a r lv, Forest t a (k + 1) [k] → StopIn CE r → ((ndOf t k).op = 13 → lv = 0) → RdS t ks en (.expr lv) a k (N k [61]) r
  o : isE (ndOf t k).op → (ndOf t k).op ≠ 13 → ∀ a r, Forest t a (k + 1) [k] → StopOf (ndOf t k).op r → RdS t ks en .operand a k (N k [61]) r
  ha : isA (ndOf t k).op → HdA (N k [61])
  a : isA (ndOf t k).op → ∀ a r, Forest t a (k + 1) [k] → RdS t ks en .atom a k (N k [61]) r
  hp : isPt (ndOf t k).op → HdP (N k [61])
  p : isPt (ndOf t k).op → ∀ a r, Forest t a (k + 1) [k] → StopIn CP r → RdS t ks en .pat a k (N k [61]) r
  ap : isPt (ndOf t k).op → wantedF t k = false → ∀ a r, Forest t a (k + 1) [k] → RdS t ks en .apat a k (N k [61]) r
  ph : isPt (ndOf t k).op → sameF t k 30 [58] = false → ∀ a r, Forest t a (k + 1) [k] → NoB r → RdH t ks (headP ks en) .pat a k (N k [61]) r
  wh : isTy (ndOf t k).op → sameF t k 24 [45, 62] = false → ∀ a r, Forest t a (k + 1) [k] → StopIn CT r → RdH t ks (headW ks en) .whole a k (N k [61]) r
  hw : isTy (ndOf t k).op → HdT (N k [61])
  w : isTy (ndOf t k).op → ∀ a r, Forest t a (k + 1) [k] → StopIn CW r → RdS t ks en .whole a k (N k [61]) r
  aty : isTy (ndOf t k).op → wantedF t k = false → ∀ a r, Forest t a (k + 1) [k] → RdS t ks en .atype a k (N k [61]) r
  hv : (ndOf t k).op = 23 → kdT (N k [61]) = 1
  v : (ndOf t k).op = 23 → ∀ p0 a r, Forest t a (k + 1) [k] → Rd t ks (varF (place ks 0) en) p0 a k (N k [61]) r
  hr : (ndOf t k).op = 15 → ∀ sep, sep = [61] ∨ sep = [45, 62] → HdR sep (N k sep)
  r : (ndOf t k).op = 15 → ∀ sep, sep = [61] ∨ sep = [45, 62] → ∀ a r, Forest t a (k + 1) [k] → StopIn CR r → RdS t ks en (.rhs sep) a k (N k sep) r
  d0 : (ndOf t k).op = 18 → t[k]? = some (ndOf t k) ∧ bs (ndOf t k).text = [] ∧ (ndOf t k).num = 0
  hd : (ndOf t k).op = 18 → isT (N k [61]) [123] = true
  d : (ndOf t k).op = 18 → ∀ a r, Forest t a (k + 1) [k] → RdS t ks en .decls a k (N k [61]) r
  hc : (ndOf t k).op = 19 → kdT (N k [61]) = 1
  c : (ndOf t k).op = 19 → ∀ a r, Forest t a (k + 1) [k] → StopIn CR r → RdS t ks en .clause a k (N k [61]) r
  hdt : (ndOf t k).op = 21 → isT (N k [61]) [100, 97, 116, 97] = true
  dt : (ndOf t k).op = 21 → ∀ a r, Forest t a (k + 1) [k] → StopIn CR r → RdS t ks en .data a k (N k [61]) r
  hal : (ndOf t k).op = 14 → HdP (N k [61])
  al : (ndOf t k).op = 14 → ∀ n p0 a r, Forest t a (k + 1) [k] → StopIn CR r → measS (place ks 0) .clause p0 < n → Rd t ks (altF (parseN (place ks 0) en n)) p0 a k (N k [61]) r
  hpl : (ndOf t k).op = 17 → ∀ sep, ∃ ts, N k sep = mkT sep :: ts
  pl : (ndOf t k).op = 17 → ∀ sep, sep = [61] ∨ sep = [45, 62] → ∀ n p0 a r, Forest t a (k + 1) [k] → StopIn CG r → measS (place ks 0) .clause p0 < n + 1 → Rd t ks (plainP ks en n sep) p0 a k (N k sep) r
  hgd : (ndOf t k).op = 16 → ∀ sep, ∃ ts, N k sep = mkT [124] :: ts
  gd : (ndOf t k).op = 16 → ∀ sep, sep = [61] ∨ sep = [45, 62] → ∀ n p0 a r, Forest t a (k + 1) [k] → StopIn CG r → measS (place ks 0) .clause p0 < n + 1 → Rd t ks (guardP ks en n sep) p0 a k (N k sep) r
  hcn : (ndOf t k).op = 22 → kdT (N k [61]) = 2
  cn : (ndOf t k).op = 22 → ∀ n p0 a r, Forest t a (k + 1) [k] → StopIn CD r → measS (place ks 0) .clause p0 < n + 1 → Rd t ks (conP ks en n) p0 a k (N k [61]) r
/-- A node and its parts. -/
structure At1 (N N' : Nat → List UInt8 → List Tok) (j : Nat) (nd : Nd) (fs : List Nat) : Prop where
  hj : t[j]? = some nd
  hk : nd.kids = natI fs
  good : goodR (fs.map (opAt t)) nd = true
  st : ∀ sep, N' j sep = stepT t N nd fs sep
  kid : ∀ k ∈ fs, RT t ks en N k
end
section
variable {t : List Nd} {ks : List Tok} {en : Nat} {N N' : Nat → List UInt8 → List Tok} {j : Nat} {nd : Nd} {fs : List Nat}
theorem At1.forest (h : At1 t ks en N N' j nd fs) {a : Nat} (hF : Forest t a (j + 1) [j]) : Forest t a j fs := by
  obtain ⟨_, kids, nd', w1, w2, w3⟩ := hF.one
  rw [h.hj] at w2
  obtain rfl := Option.some.inj w2
  rw [h.hk] at w3
  rwa [natI_inj w3]
theorem cls_all {l : List Nat} {c : UInt8} {lo hi : Int} (h : allF c (cls (l.map (opAt t))) lo hi = true) : (∀ k ∈ l, classF (ndOf t k).op = c) ∧ lo ≤ (l.length : Int) ∧ (l.length : Int) ≤ hi := by
  obtain ⟨h1, h2, h3⟩ := allF_len h
  simp only [cls, List.length_map] at h2 h3
  refine ⟨fun k hk => ?_, h2, h3⟩
  rw [← op_at]
  exact h1 _ (List.mem_map_of_mem (List.mem_map_of_mem hk))
theorem class_e {op : Int} (h : classF op = 101) : isE op := by
  unfold classF at h
  unfold isE
  repeat' split at h
  all_goals first | assumption | cases h
theorem class_p {op : Int} (h : classF op = 112) : isPt op := by
  unfold classF at h
  unfold isPt
  repeat' split at h
  all_goals first | assumption | cases h
theorem class_t {op : Int} (h : classF op = 116) : isTy op := by
  unfold classF at h
  unfold isTy
  repeat' split at h
  all_goals first | assumption | cases h
theorem class_d {op : Int} (h : classF op = 100) : op = 21 ∨ op = 19 := by
  unfold classF at h
  repeat' split at h
  all_goals first | assumption | cases h
theorem all_e {l : List Nat} {lo hi : Int} (h : allF 101 (cls (l.map (opAt t))) lo hi = true) : (∀ k ∈ l, isE (ndOf t k).op) ∧ lo ≤ (l.length : Int) ∧ (l.length : Int) ≤ hi := ⟨fun k hk => class_e ((cls_all h).1 k hk), (cls_all h).2⟩
theorem all_p {l : List Nat} {lo hi : Int} (h : allF 112 (cls (l.map (opAt t))) lo hi = true) : (∀ k ∈ l, isPt (ndOf t k).op) ∧ lo ≤ (l.length : Int) ∧ (l.length : Int) ≤ hi := ⟨fun k hk => class_p ((cls_all h).1 k hk), (cls_all h).2⟩
theorem all_t {l : List Nat} {lo hi : Int} (h : allF 116 (cls (l.map (opAt t))) lo hi = true) : (∀ k ∈ l, isTy (ndOf t k).op) ∧ lo ≤ (l.length : Int) ∧ (l.length : Int) ≤ hi := ⟨fun k hk => class_t ((cls_all h).1 k hk), (cls_all h).2⟩
theorem all_d {l : List Nat} {lo hi : Int} (h : allF 100 (cls (l.map (opAt t))) lo hi = true) : (∀ k ∈ l, (ndOf t k).op = 21 ∨ (ndOf t k).op = 19) ∧ lo ≤ (l.length : Int) ∧ (l.length : Int) ≤ hi := ⟨fun k hk => class_d ((cls_all h).1 k hk), (cls_all h).2⟩
theorem only_of {l : List Nat} {op lo hi : Int} (h : onlyF op (l.map (opAt t)) lo hi = true) : (∀ k ∈ l, (ndOf t k).op = op) ∧ lo ≤ (l.length : Int) ∧ (l.length : Int) ≤ hi := by
  obtain ⟨h1, h2, h3⟩ := onlyF_len h
  simp only [List.length_map] at h2 h3
  refine ⟨fun k hk => ?_, h2, h3⟩
  have := h1 _ (List.mem_map_of_mem (f := opAt t) hk)
  rwa [op_at] at this
theorem one_e {k : Nat} (h : ((classF (opAt t k)).toNat : Int) = 101) : isE (ndOf t k).op := by
  rw [op_at] at h
  exact class_e (UInt8.toNat_inj.1 (by show _ = 101; omega))
theorem one_p {k : Nat} (h : ((classF (opAt t k)).toNat : Int) = 112) : isPt (ndOf t k).op := by
  rw [op_at] at h
  exact class_p (UInt8.toNat_inj.1 (by show _ = 112; omega))
theorem kd_mk {s : List UInt8} {r : List Tok} : kdT (mkT s :: r) = markK s := rfl
/-! ### From rule to rule -/
theorem StopIn.op {r : List Tok} (h : StopIn CE r) : kdT r ≠ 8 := by
  have := h.kd; omega
theorem expr_of {a k : Nat} {ts r : List Tok} (h : RdS t ks en .operand a k ts r) (hs : StopIn CE r) (lv : Int) : RdS t ks en (.expr lv) a k ts r := by
  intro n st ht hd hp hm
  obtain ⟨n, rfl⟩ : ∃ m, n = m + 1 := ⟨n - 1, by omega⟩
  show bindP (parseN (place ks 0) en n .operand st) _ = _
  rw [h n st ht hd hp (meas_eq hm (show 6 < 7 by decide)), bindP_ok, exprF, opP_none (by rw [drop_app hd]; exact hs.op)]
theorem operand_of {a k : Nat} {ts r : List Tok} (h : RdS t ks en .atom a k ts r) (hh : HdA ts) (hs : StopO r) : RdS t ks en .operand a k ts r := by
  intro n st ht hd hp hm
  obtain ⟨n, rfl⟩ : ∃ m, n = m + 1 := ⟨n - 1, by omega⟩
  have hno : ∀ tx, tx ≠ [40] → tx ≠ [91] → ¬ isP (place ks 0) st.p tx = true := fun tx h1 h2 => by
    rw [is_pl, hd, isT_app hh.ne, hh.no h1 h2]; decide
  show (if isP (place ks 0) st.p [92] = true then _ else _) = _
  rw [if_neg (hno _ (by decide) (by decide)), if_neg (hno _ (by decide) (by decide)), if_neg (hno _ (by decide) (by decide)), if_neg (hno _ (by decide) (by decide))]
  rw [h n st ht hd hp (meas_eq hm (by decide)), bindP_ok, manyF, if_neg (by
    rw [atomic_pl, drop_app hd, hs.at]; simp), bindP_ok]
  rfl
theorem paren_atom {a k : Nat} {ts r : List Tok} (h : RdS t ks en (.expr 0) a k ts (mkT [41] :: r)) (hh : HdE ts) : RdS t ks en .atom a k (mkT [40] :: (ts ++ [mkT [41]])) r := by
  intro n st ht hd hp hm
  obtain ⟨n, rfl⟩ : ∃ m, n = m + 1 := ⟨n - 1, by omega⟩
  have hd' : ks.drop st.p = mkT [40] :: (ts ++ mkT [41] :: r) := by rw [hd]; simp
  have h1 := drop1 hd'
  show (if ((atomicP (place ks 0) st.p && !isP (place ks 0) st.p [40]) && !isP (place ks 0) st.p [91]) = true then _ else _) = _
  rw [if_neg (by rw [is_pl (tx := [40]), hd', is_mk (by decide)]; simp)]
  rw [paren_rd ht hd' (hh.no (by decide) (by decide) (by decide)) hh.ne (h.next hm h1.2)]
  simp
theorem paren_apat {a k : Nat} {ts r : List Tok} (h : RdS t ks en .pat a k ts (mkT [41] :: r)) (hh : HdP ts) : RdS t ks en .apat a k (mkT [40] :: (ts ++ [mkT [41]])) r := by
  intro n st ht hd hp hm
  obtain ⟨n, rfl⟩ : ∃ m, n = m + 1 := ⟨n - 1, by omega⟩
  have hd' : ks.drop st.p = mkT [40] :: (ts ++ mkT [41] :: r) := by rw [hd]; simp
  have h1 := drop1 hd'
  show (if isP (place ks 0) st.p [95] = true then _ else if kindP (place ks 0) st.p = 5 ∧ _ then _ else if ((atomicP (place ks 0) st.p && !isP (place ks 0) st.p [40]) && !isP (place ks 0) st.p [91]) = true then _ else _) = _
  rw [if_neg (by rw [is_pl, hd', is_mk (by decide)]; decide), if_neg (by rw [kd_pl, hd', kd_mk]; rintro ⟨q, _⟩; revert q; decide), if_neg (by rw [is_pl (tx := [40]), hd', is_mk (by decide)]; simp)]
  rw [paren_rd ht hd' (hh.no (by decide) (by decide) (by decide)) hh.ne (h.next hm h1.2)]
  simp
theorem paren_atype {a k : Nat} {ts r : List Tok} (h : RdS t ks en .whole a k ts (mkT [41] :: r)) (hh : HdT ts) : RdS t ks en .atype a k (mkT [40] :: (ts ++ [mkT [41]])) r := by
  rintro n ⟨T, q⟩ ht hd hp hm
  simp only [] at ht hd hp hm
  subst ht
  obtain ⟨n, rfl⟩ : ∃ m, n = m + 1 := ⟨n - 1, by omega⟩
  have hd' : ks.drop q = mkT [40] :: (ts ++ mkT [41] :: r) := by rw [hd]; simp
  have h1 := drop1 hd'
  have h2 := drop_len h1.1 hh.ne
  have h3 := drop_app h1.1
  show (if kindP (place ks 0) q = 2 then _ else if isVarP (place ks 0) q = true then _ else if isP (place ks 0) q [91] = true then _ else bindP (takeP (place ks 0) en [40] ⟨t.take a, q⟩) _) = _
  rw [if_neg (by rw [kd_pl, hd', kd_mk]; decide), if_neg (by unfold isVarP; rw [kd_pl, hd', kd_mk]; decide), if_neg (by rw [is_pl, hd', is_mk (by decide)]; decide), take_b hd' (by decide)]
  rw [if_neg (by rw [is_pl, h1.1, isT_app hh.ne, hh.no (by decide) (by decide)]; decide)]
  unfold commasP
  rw [rd_b (h.next hm h1.2) h1.1 (Nat.le_refl _) h1.2, commasF, if_neg (by rw [is_pl, h3, is_mk (by decide)]; decide), take_b h3 (by decide), bindP_ok]
  show Except.ok (k, (⟨t.take (k + 1), q + 1 + ts.length + 1⟩ : PS)) = _
  simp; omega
end
end Go.Proofs.YtikgokpbhldlnaaGreatDoor
end
section
/- What is shown of a tree is read as that tree again: expressions. -/
namespace Go.Proofs.YtikgokpbhldlnaaGreatDoor
open Go Go.Ab
section
variable {t : List Nd} {ks : List Tok} {en : Nat} {N N' : Nat → List UInt8 → List Tok} {j : Nat} {nd : Nd} {fs : List Nat}
theorem fields_nil {op num : Int} {s : List UInt8} (h : fieldsF op num s = true) (ho : 6 ≤ op ∧ op ≤ 12 ∨ 14 ≤ op ∧ op ≤ 18 ∨ op = 20 ∨ op = 26 ∨ op = 31 ∨ op = 32) : num = 0 ∧ s = [] := by
  unfold fieldsF at h
  rw [if_neg (by omega), if_neg (by omega)] at h
  by_cases h0 : num = 0
  · rw [if_neg (by omega), if_neg (by omega), if_neg (by omega), if_neg (by omega), if_neg (by omega), if_neg (by omega), if_neg (by omega)] at h
    exact ⟨h0, of_decide_eq_true h⟩
  · rw [if_pos h0] at h; cases h
theorem fields_num {op num : Int} {s : List UInt8} (h : fieldsF op num s = true) (ho : op ≠ 3 ∧ op ≠ 27 ∧ op ≠ 4 ∧ op ≠ 28) : num = 0 := by
  unfold fieldsF at h
  rw [if_neg (by omega), if_neg (by omega)] at h
  by_cases h0 : num = 0
  · exact h0
  · rw [if_pos h0] at h; cases h
theorem At1.parts (h : At1 t ks en N N' j nd fs) : partsF nd.op (fs.map (opAt t)) (bs nd.text) = true := by
  have := h.good
  unfold goodR at this
  rw [Bool.and_eq_true] at this
  exact this.1
theorem At1.fields (h : At1 t ks en N N' j nd fs) : fieldsF nd.op nd.num (bs nd.text) = true := by
  have := h.good
  unfold goodR at this
  rw [Bool.and_eq_true] at this
  exact this.2
theorem At1.ofj (h : At1 t ks en N N' j nd fs) : ndOf t j = nd := nd_of h.hj
theorem closed_t {k : Nat} : closedT N k true = mkT [40] :: (N k [61] ++ [mkT [41]]) := rfl
theorem closed_atom {k : Nat} (h : RT t ks en N k) (he : isE (ndOf t k).op) {w : Bool} (hw : w = false → isA (ndOf t k).op) : HdA (closedT N k w) ∧ ∀ a r, Forest t a (k + 1) [k] → RdS t ks en .atom a k (closedT N k w) r := by
  cases w with
  | false => exact ⟨h.ha (hw rfl), h.a (hw rfl)⟩
  | true => exact ⟨.mk40, fun a r hF => paren_atom (h.e he a _ 0 hF (stop_mk (by decide) (by decide)) (fun _ => rfl)) (h.he he)⟩
theorem closed_apat {k : Nat} (h : RT t ks en N k) (he : isPt (ndOf t k).op) : HdP (closedT N k (wantedF t k)) ∧ ∀ a r, Forest t a (k + 1) [k] → RdS t ks en .apat a k (closedT N k (wantedF t k)) r := by
  cases hw : wantedF t k with
  | false => exact ⟨h.hp he, h.ap he hw⟩
  | true => exact ⟨HdA.mk40.p, fun a r hF => paren_apat (h.p he a _ hF (stop_mk (by decide) (by decide))) (h.hp he)⟩
theorem closed_atype {k : Nat} (h : RT t ks en N k) (he : isTy (ndOf t k).op) : HdT (closedT N k (wantedF t k)) ∧ ∀ a r, Forest t a (k + 1) [k] → RdS t ks en .atype a k (closedT N k (wantedF t k)) r := by
  cases hw : wantedF t k with
  | false => exact ⟨h.hw he, h.aty he hw⟩
  | true => exact ⟨.mk40, fun a r hF => paren_atype (h.w he a _ hF (stop_mk (by decide) (by decide))) (h.hw he)⟩
theorem reach_f {k : Nat} (h : reachF t k = false) (he : isE (ndOf t k).op) : isA (ndOf t k).op ∨ (ndOf t k).op = 6 := by
  unfold reachF at h
  have h := of_decide_eq_false h
  unfold isE at he
  unfold isA
  omega
theorem closed_side {k : Nat} (h : RT t ks en N k) (he : isE (ndOf t k).op) : HdE (closedT N k (reachF t k)) ∧ ∀ a r, Forest t a (k + 1) [k] → StopO r → RdS t ks en .operand a k (closedT N k (reachF t k)) r := by
  cases hw : reachF t k with
  | true =>
    obtain ⟨w1, w2⟩ := closed_atom h he (w := true) nofun
    exact ⟨.inl w1, fun a r hF hs => operand_of (w2 a r hF) w1 hs⟩
  | false =>
    refine ⟨h.he he, fun a r hF hs => h.o he (fun q => ?_) a r hF ?_⟩
    · rcases reach_f hw he with q1 | q1
      · unfold isA at q1; omega
      · omega
    · unfold StopOf
      rw [if_neg]
      · exact hs
      · rcases reach_f hw he with q1 | q1
        · unfold isA at q1; omega
        · omega
/-! ### Leaves -/
theorem step_nm (h : nd.op = 1 ∨ nd.op = 2 ∨ nd.op = 25 ∨ nd.op = 23) {sep : List UInt8} : stepT t N nd fs sep = nmT (bs nd.text) := by
  unfold stepT; rw [if_pos h]
theorem step_num (h : nd.op = 3 ∨ nd.op = 27) {sep : List UInt8} : stepT t N nd fs sep = [⟨3, [], nd.num, 0⟩] := by
  unfold stepT; rw [if_neg (by omega), if_neg (by omega), if_pos h]
theorem step_chr (h : nd.op = 4 ∨ nd.op = 28) {sep : List UInt8} : stepT t N nd fs sep = [⟨4, [], nd.num, 0⟩] := by
  unfold stepT; rw [if_neg (by omega), if_neg (by omega), if_neg (by omega), if_pos h]
theorem step_str (h : nd.op = 5 ∨ nd.op = 29) {sep : List UInt8} : stepT t N nd fs sep = [⟨5, bs nd.text, 0, 0⟩] := by
  unfold stepT; rw [if_neg (by omega), if_neg (by omega), if_neg (by omega), if_neg (by omega), if_pos h]
theorem step_tup (h : nd.op = 11 ∨ nd.op = 31) {sep : List UInt8} : stepT t N nd fs sep = mkT [40] :: (btwn (fun k => N k [61]) [44] fs ++ [mkT [41]]) := by
  unfold stepT; rw [if_neg (by omega), if_neg (by omega), if_neg (by omega), if_neg (by omega), if_neg (by omega), if_pos h, between_btwn]; rfl
theorem step_lst (h : nd.op = 12 ∨ nd.op = 32) {sep : List UInt8} : stepT t N nd fs sep = mkT [91] :: (btwn (fun k => N k [61]) [44] fs ++ [mkT [93]]) := by
  unfold stepT; rw [if_neg (by omega), if_neg (by omega), if_neg (by omega), if_neg (by omega), if_neg (by omega), if_neg (by omega), if_pos h, between_btwn]; rfl
theorem step_named (h : nd.op = 30 ∨ nd.op = 24 ∨ nd.op = 22 ∨ nd.op = 21) {sep : List UInt8} : stepT t N nd fs sep = namedT t N nd.op (bs nd.text) fs := by
  unfold stepT; rw [if_neg (by omega), if_neg (by omega), if_neg (by omega), if_neg (by omega), if_neg (by omega), if_neg (by omega), if_neg (by omega), if_pos h]
theorem step_expr (h : nd.op = 6 ∨ nd.op = 7 ∨ nd.op = 8 ∨ nd.op = 9 ∨ nd.op = 10 ∨ nd.op = 13) {sep : List UInt8} : stepT t N nd fs sep = exprT t N nd.op (bs nd.text) fs := by
  unfold stepT; rw [if_neg (by omega), if_neg (by omega), if_neg (by omega), if_neg (by omega), if_neg (by omega), if_neg (by omega), if_neg (by omega), if_neg (by omega), if_pos h]
theorem step_part (h : 14 ≤ nd.op ∧ nd.op ≤ 20) {sep : List UInt8} : stepT t N nd fs sep = partT t N nd.op (bs nd.text) fs sep := by
  unfold stepT; rw [if_neg (by omega), if_neg (by omega), if_neg (by omega), if_neg (by omega), if_neg (by omega), if_neg (by omega), if_neg (by omega), if_neg (by omega), if_neg (by omega)]
theorem k15 (k : Tok) (c : Int) (h : k.kind = c) (hc : 1 ≤ c ∧ c ≤ 5) : 1 ≤ k.kind ∧ k.kind ≤ 5 := by rw [h]; exact hc
theorem leaf_atom {k : Tok} {a : Nat} {r : List Tok} (h : At1 t ks en N N' j nd []) (hF : Forest t a (j + 1) [j]) (hk : 1 ≤ k.kind ∧ k.kind ≤ 5) (h1 : ([1, 2, 3, 4, 5] : List Int).getD (k.kind - 1).toNat 0 = nd.op) (h2 : bs nd.text = k.text) (h3 : nd.num = k.num) : RdS t ks en .atom a j [k] r := by
  obtain rfl := (h.forest hF).empty
  intro n st ht hd hp hm
  obtain ⟨n, rfl⟩ : ∃ m, n = m + 1 := ⟨n - 1, by omega⟩
  show (if ((atomicP (place ks 0) st.p && !isP (place ks 0) st.p [40]) && !isP (place ks 0) st.p [91]) = true then _ else _) = _
  have hlow : ∀ tx, isT ([k] ++ r) tx = false := fun tx => isT_low (by show k.kind ≤ 5; exact hk.2)
  rw [if_pos (by
    rw [atomic_pl, is_pl, is_pl, hd, hlow, hlow, hlow]
    unfold atB
    rw [show kdT ([k] ++ r) = k.kind from rfl, decide_eq_true hk.1, decide_eq_true hk.2]; rfl)]
  exact leaf_rd ht h.hj (by rw [hd]; rfl) h1 h2 h3 h.hk
theorem nmT_name {s : List UInt8} {c : Int} (h : nameF s = c) (h0 : c ≠ 0) : nmT s = [⟨c, s, 0, 0⟩] := by
  unfold nmT
  rw [if_neg (by rintro rfl; exact h0 (by rw [← h]; decide))]
  show [mkT s] = _
  rw [mkT_name h h0]
theorem At1.none (h : At1 t ks en N N' j nd fs) (ho : nd.op = 1 ∨ nd.op = 2 ∨ nd.op = 3 ∨ nd.op = 4 ∨ nd.op = 5 ∨ nd.op = 23 ∨ nd.op = 25 ∨ nd.op = 26 ∨ nd.op = 27 ∨ nd.op = 28 ∨ nd.op = 29) : fs = [] := by
  have hp := h.parts
  unfold partsF at hp
  rw [if_pos ho] at hp
  have := of_decide_eq_true hp
  rw [List.length_map] at this
  exact List.eq_nil_of_length_eq_zero (by omega)
theorem at_leaf (h : At1 t ks en N N' j nd fs) (ho : nd.op = 1 ∨ nd.op = 2 ∨ nd.op = 3 ∨ nd.op = 4 ∨ nd.op = 5) (sep : List UInt8) : HdA (N' j sep) ∧ ∀ a r, Forest t a (j + 1) [j] → RdS t ks en .atom a j (N' j sep) r := by
  obtain rfl := h.none (by omega)
  have hf := h.fields
  rw [h.st]
  rcases ho with ho | ho | ho | ho | ho
  · rw [step_nm (by omega)]
    have h0 := fields_num hf (by omega)
    rw [ho] at hf
    have hn : nameF (bs nd.text) = 1 := by simpa [fieldsF, h0] using hf
    rw [nmT_name hn (by decide)]
    exact ⟨.low (k15 _ 1 rfl (by decide)), fun a r hF => leaf_atom h hF (k15 _ 1 rfl (by decide)) (by rw [ho]; rfl) rfl h0⟩
  · rw [step_nm (by omega)]
    have h0 := fields_num hf (by omega)
    rw [ho] at hf
    have hn : nameF (bs nd.text) = 2 ∨ bs nd.text = [40, 41] := by simpa [fieldsF, h0] using hf
    rcases hn with hn | hn
    · rw [nmT_name hn (by decide)]
      exact ⟨.low (k15 _ 2 rfl (by decide)), fun a r hF => leaf_atom h hF (k15 _ 2 rfl (by decide)) (by rw [ho]; rfl) rfl h0⟩
    · rw [hn]
      refine ⟨.mk40, fun a r hF n st ht hd hp hm => ?_⟩
      obtain rfl := (h.forest hF).empty
      obtain ⟨n, rfl⟩ : ∃ m, n = m + 1 := ⟨n - 1, by omega⟩
      have hd' : ks.drop st.p = mkT [40] :: mkT [41] :: r := hd
      show (if ((atomicP (place ks 0) st.p && !isP (place ks 0) st.p [40]) && !isP (place ks 0) st.p [91]) = true then _ else _) = _
      rw [if_neg (by rw [is_pl (tx := [40]), hd', is_mk (by decide)]; simp)]
      exact unit_rd ht h.hj hd' ho hn h0 h.hk
  · rw [step_num (by omega)]
    have hn : bs nd.text = [] := by
      rw [ho] at hf
      have : (decide (bs nd.text = []) && decide (0 ≤ nd.num)) = true := hf
      simp only [Bool.and_eq_true, decide_eq_true_eq] at this; exact this.1
    exact ⟨.low (k15 _ 3 rfl (by decide)), fun a r hF => leaf_atom h hF (k15 _ 3 rfl (by decide)) (by rw [ho]; rfl) hn rfl⟩
  · rw [step_chr (by omega)]
    have hn : bs nd.text = [] := by
      rw [ho] at hf
      have : ((decide (bs nd.text = []) && decide (0 ≤ nd.num)) && decide (nd.num ≤ 255)) = true := hf
      simp only [Bool.and_eq_true, decide_eq_true_eq] at this; exact this.1.1
    exact ⟨.low (k15 _ 4 rfl (by decide)), fun a r hF => leaf_atom h hF (k15 _ 4 rfl (by decide)) (by rw [ho]; rfl) hn rfl⟩
  · rw [step_str (by omega)]
    have h0 := fields_num hf (by omega)
    exact ⟨.low (k15 _ 5 rfl (by decide)), fun a r hF => leaf_atom h hF (k15 _ 5 rfl (by decide)) (by rw [ho]; rfl) rfl h0⟩
/-! ### Brackets -/
theorem stop_sep {s : List UInt8} {r r' : List Tok} {cl : List (List UInt8)} {fin : List UInt8} (h : s = [44] ∨ s = fin) (e : r' = mkT s :: r) (h1 : [44] ∈ cl) (h2 : fin ∈ cl) (hk : markK fin = 6 ∨ markK fin = 7) : StopIn cl r' := by
  subst e
  rcases h with rfl | rfl
  · exact stop_mk h1 (by decide)
  · exact stop_mk h2 hk
theorem at_brackets (h : At1 t ks en N N' j nd fs) (ho : nd.op = 11 ∨ nd.op = 12) (sep : List UInt8) : HdA (N' j sep) ∧ ∀ a r, Forest t a (j + 1) [j] → RdS t ks en .atom a j (N' j sep) r := by
  obtain ⟨h0, hx⟩ := fields_nil h.fields (by omega)
  have hp := h.parts
  rw [h.st]
  rcases ho with ho | ho
  · have hp : allF 101 (cls (fs.map (opAt t))) 2 8 = true := by rw [ho] at hp; simpa [partsF] using hp
    obtain ⟨hE, h2, h8⟩ := all_e hp
    rw [step_tup (by omega)]
    refine ⟨.mk40, fun a r hF n st ht hd hq hm => ?_⟩
    obtain ⟨n, rfl⟩ : ∃ m, n = m + 1 := ⟨n - 1, by omega⟩
    have hd' : ks.drop st.p = mkT [40] :: (btwn (fun k => N k [61]) [44] fs ++ mkT [41] :: r) := by rw [hd]; simp
    show (if ((atomicP (place ks 0) st.p && !isP (place ks 0) st.p [40]) && !isP (place ks 0) st.p [91]) = true then _ else _) = _
    rw [if_neg (by rw [is_pl (tx := [40]), hd', is_mk (by decide)]; simp)]
    rw [tuple_rd ht (h.forest hF) (by omega) (by omega) hd' (fun k hk => ⟨((h.kid k hk).he (hE k hk)).ne, ((h.kid k hk).he (hE k hk)).no (by decide) (by decide) (by decide)⟩) (fun k hk b r' hF' ⟨s, r'', hs, e⟩ => ((h.kid k hk).e (hE k hk) b r' 0 hF' (stop_sep hs e (by decide) (by decide) (by decide)) (fun _ => rfl)).next hm (drop1 hd').2) h.hj ho hx h0 h.hk]
    simp
  · have hp : allF 101 (cls (fs.map (opAt t))) 0 6000 = true := by rw [ho] at hp; simpa [partsF] using hp
    obtain ⟨hE, h2, h8⟩ := all_e hp
    rw [step_lst (by omega)]
    refine ⟨.mk91, fun a r hF n st ht hd hq hm => ?_⟩
    obtain ⟨n, rfl⟩ : ∃ m, n = m + 1 := ⟨n - 1, by omega⟩
    have hd' : ks.drop st.p = mkT [91] :: (btwn (fun k => N k [61]) [44] fs ++ mkT [93] :: r) := by rw [hd]; simp
    show (if ((atomicP (place ks 0) st.p && !isP (place ks 0) st.p [40]) && !isP (place ks 0) st.p [91]) = true then _ else _) = _
    rw [if_neg (by rw [is_pl (tx := [91]), hd', is_mk (by decide)]; simp)]
    rw [list_rd ht (h.forest hF) hd' (fun k hk => ⟨((h.kid k hk).he (hE k hk)).ne, ((h.kid k hk).he (hE k hk)).no (by decide) (by decide) (by decide)⟩) (fun k hk b r' hF' ⟨s, r'', hs, e⟩ => ((h.kid k hk).e (hE k hk) b r' 0 hF' (stop_sep hs e (by decide) (by decide) (by decide)) (fun _ => rfl)).next hm (drop1 hd').2) h.hj ho hx h0 h.hk]
    simp
end
end Go.Proofs.YtikgokpbhldlnaaGreatDoor
end
