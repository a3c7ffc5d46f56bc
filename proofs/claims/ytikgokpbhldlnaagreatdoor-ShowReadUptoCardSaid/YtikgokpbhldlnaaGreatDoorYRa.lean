/- Parts of a proof: Fa Fb. -/
import Derived.Test.YtikgokpbhldlnaaGreatDoorYQc
set_option linter.unusedVariables false
set_option linter.unusedSimpArgs false
set_option linter.unusedSectionVars false
section
/- Tokens that are written and read again. -/
namespace Go.Proofs.YtikgokpbhldlnaaGreatDoor
open Go Go.Ab
/-- What stands behind a token that was written. -/
def Stop (r : List UInt8) : Prop := r = [] ∨ ∃ r', r = 32 :: r'
theorem tw_app {p : UInt8 → Bool} {s r : List UInt8} (h : ∀ c ∈ s, p c = true) (hr : Stop r) (hp : p 32 = false) : (s ++ r).takeWhile p = s := by
  rw [List.takeWhile_append_of_pos h]
  rcases hr with rfl | ⟨r', rfl⟩
  · simp
  · rw [List.takeWhile_cons_of_neg (by rw [hp]; decide), List.append_nil]
theorem at_cons {x y : List UInt8} {a : Nat} {c : UInt8} (hd : x.drop a = c :: y) : at0 x a = c ∧ a < x.length ∧ x.drop (a + 1) = y := by
  have h1 : a < x.length := by
    rcases Nat.lt_or_ge a x.length with h | h
    · exact h
    · rw [List.drop_eq_nil_of_le h] at hd; cases hd
  refine ⟨?_, h1, ?_⟩
  · have := at0_drop x a 0
    rw [hd] at this
    rw [Nat.add_zero] at this
    rw [← this]; rfl
  · rw [List.drop_eq_getElem_cons h1] at hd
    exact (List.cons.inj hd).2
theorem cut_app {x s y : List UInt8} {a : Nat} (hd : x.drop a = s ++ y) : (x.take (a + s.length)).drop a = s := by
  rw [take_drop_add, hd, List.take_left]
theorem tw_len {p : UInt8 → Bool} {x s r : List UInt8} {a : Nat} (hd : x.drop a = s ++ r) (h : ∀ c ∈ s, p c = true) (hr : Stop r) (hp : p 32 = false) : twL p x a = s.length := by
  unfold twL
  rw [hd, tw_app h hr hp]
theorem digit_not : ∀ n : Fin 256, digitB (UInt8.ofNat n) = true → (smallB (UInt8.ofNat n) || largeB (UInt8.ofNat n)) = false := by decide +kernel
theorem sym_not : ∀ n : Fin 256, symB (UInt8.ofNat n) = true → (smallB (UInt8.ofNat n) || largeB (UInt8.ofNat n)) = false ∧ digitB (UInt8.ofNat n) = false ∧ ¬ (UInt8.ofNat n = 39 ∨ UInt8.ofNat n = 34) ∧ ¬ UInt8.ofNat n ∈ [(40 : UInt8), 41, 91, 93, 123, 125, 44, 59] := by decide +kernel
theorem inner_not : ∀ n : Fin 256, innerB (UInt8.ofNat n) = true → digitB (UInt8.ofNat n) = false → ¬ UInt8.ofNat n = 39 → (smallB (UInt8.ofNat n) || largeB (UInt8.ofNat n)) = true := by decide +kernel
theorem byU {P : UInt8 → Prop} (h : ∀ n : Fin 256, P (UInt8.ofNat n)) (c : UInt8) : P c := by
  have := h ⟨c.toNat, c.toNat_lt⟩
  simpa using this
theorem tw_mem {p : UInt8 → Bool} {d : UInt8} : ∀ {l : List UInt8}, d ∈ l.takeWhile p → p d = true
  | [], h => by cases h
  | c :: l, h => by
    by_cases hc : p c = true
    · rw [List.takeWhile_cons_of_pos hc] at h
      rcases List.mem_cons.1 h with rfl | h
      · exact hc
      · exact tw_mem h
    · rw [List.takeWhile_cons_of_neg hc] at h; cases h
theorem name_scan {x s r : List UInt8} {a : Nat} (hd : x.drop a = s ++ r) (hr : Stop r) (h0 : nameF s ≠ 0) : tokenF x a = (⟨nameF s, s, 0, a⟩, s.length) := by
  have hb : badName s = false := by
    cases hh : badName s with
    | false => rfl
    | true => unfold nameF at h0; rw [if_pos hh] at h0; exact absurd rfl h0
  unfold badName at hb
  simp only [Bool.or_eq_false_iff, decide_eq_false_iff_not] at hb
  obtain ⟨⟨⟨⟨h1, _⟩, h3⟩, h4⟩, h5⟩ := hb
  cases s with
  | nil => exact absurd rfl h1
  | cons c s' =>
    have hall : ∀ d ∈ c :: s', innerB d = true := by
      have hle := (List.takeWhile_prefix (l := c :: s') innerB).length_le
      have he : (c :: s').takeWhile innerB = c :: s' := (List.takeWhile_prefix _).eq_of_length (by omega)
      intro d hd'
      rw [← he] at hd'
      exact tw_mem hd'
    have hd2 : x.drop a = c :: (s' ++ r) := hd
    obtain ⟨q1, q2, q3⟩ := at_cons hd2
    have hc : (smallB c || largeB c) = true := byU (P := fun c => innerB c = true → digitB c = false → ¬ c = 39 → (smallB c || largeB c) = true) inner_not c (hall c (by simp)) h3 (fun e => h4 (by rw [show (c :: s').headD 0 = c from rfl, e]; rfl))
    unfold tokenF
    simp only [q1]
    rw [if_pos hc, tw_len q3 (fun d hd => hall d (by simp [hd])) hr (by decide)]
    rw [show a + 1 + s'.length = a + (c :: s').length from by simp; omega, cut_app hd, if_neg h0]
    congr 1; omega
theorem op_chars : ∀ s ∈ opTexts, s ≠ [] ∧ (∀ c ∈ s, symB c = true) ∧ ¬ s ∈ isMarkL := by decide +kernel
theorem mark_chars : ∀ s ∈ isMarkL, (∃ c, s = [c] ∧ c ∈ [(40 : UInt8), 41, 91, 93, 123, 125, 44, 59]) ∨ s = [95] ∨ (s ≠ [] ∧ ∀ c ∈ s, symB c = true) := by
  intro s hs
  simp only [isMarkL, List.mem_cons, List.not_mem_nil, or_false] at hs
  rcases hs with rfl | rfl | rfl | rfl | rfl | rfl | rfl | rfl | rfl | rfl | rfl | rfl | rfl
  all_goals first | exact .inl ⟨_, rfl, by decide⟩ | exact .inr (.inl rfl) | exact .inr (.inr (by decide))
theorem sym_scan {x s r : List UInt8} {a : Nat} (hd : x.drop a = s ++ r) (hr : Stop r) (hn : s ≠ []) (hs : ∀ c ∈ s, symB c = true) : tokenF x a = if s ∈ isMarkL then (⟨7, s, 0, a⟩, s.length) else if s ∈ opTexts then (⟨8, s, 0, a⟩, s.length) else (tok0, 0) := by
  cases s with
  | nil => exact absurd rfl hn
  | cons c s' =>
    have hd2 : x.drop a = c :: (s' ++ r) := hd
    obtain ⟨q1, q2, q3⟩ := at_cons hd2
    have hsc := hs c (by simp)
    obtain ⟨w1, w2, w3, w4⟩ := byU (P := fun c => symB c = true → (smallB c || largeB c) = false ∧ digitB c = false ∧ ¬ (c = 39 ∨ c = 34) ∧ ¬ c ∈ [(40 : UInt8), 41, 91, 93, 123, 125, 44, 59]) sym_not c hsc
    unfold tokenF
    simp only [q1]
    rw [if_neg (by rw [w1]; decide), if_neg (by rw [w2]; decide), if_neg w3, if_neg w4, if_pos hsc, tw_len q3 (fun d hd => hs d (by simp [hd])) hr (by decide)]
    rw [show a + 1 + s'.length = a + (c :: s').length from by simp; omega, cut_app hd, am_marks, am_ops]
    rw [show a + (c :: s').length - a = (c :: s').length from by omega]
    by_cases h1 : c :: s' ∈ isMarkL
    · rw [if_pos (decide_eq_true h1), if_pos h1]
    · rw [if_neg (by rw [decide_eq_false h1]; decide), if_neg h1]
      by_cases h2 : c :: s' ∈ opTexts
      · rw [if_pos (decide_eq_true h2), if_pos h2]
      · rw [if_neg (by rw [decide_eq_false h2]; decide), if_neg h2]
theorem one_scan {x r : List UInt8} {a : Nat} {c : UInt8} (hd : x.drop a = c :: r) (hc : c ∈ [(40 : UInt8), 41, 91, 93, 123, 125, 44, 59]) : tokenF x a = (⟨7, [c], 0, a⟩, 1) := by
  obtain ⟨q1, q2, q3⟩ := at_cons hd
  have hcut : (x.take (a + 1)).drop a = [c] := cut_app (s := [c]) hd
  have h1 : (smallB c || largeB c) = false ∧ digitB c = false ∧ ¬ (c = 39 ∨ c = 34) := by
    simp only [List.mem_cons, List.not_mem_nil, or_false] at hc
    rcases hc with rfl | rfl | rfl | rfl | rfl | rfl | rfl | rfl <;> decide
  unfold tokenF
  simp only [q1]
  rw [if_neg (by rw [h1.1]; decide), if_neg (by rw [h1.2.1]; decide), if_neg h1.2.2, if_pos hc, hcut]
/-! ### Numbers -/
theorem numL_app : ∀ (l : List UInt8) (c : UInt8) (v : Nat), numL (l ++ [c]) v = (numL l v).bind fun w => numL [c] w
  | [], _, _ => rfl
  | d :: l, c, v => by
    rw [List.cons_append, numL, numL]
    split
    · rfl
    · exact numL_app l c _
theorem num_dec : ∀ u : Nat, u ≤ 9223372036854775807 → numL (Lib.decDigits u) 0 = some u ∧ (∀ c ∈ Lib.decDigits u, digitB c = true) ∧ Lib.decDigits u ≠ [] := by
  intro u
  induction u using Nat.strongRecOn with
  | _ u ih =>
    intro hu
    by_cases h : u < 10
    · rw [Lib.decDigits_one h]
      have : ∀ n : Fin 10, numL [UInt8.ofNat (48 + n)] 0 = some n.val ∧ (∀ c ∈ [UInt8.ofNat (48 + n)], digitB c = true) := by decide +kernel
      exact ⟨(this ⟨u, h⟩).1, (this ⟨u, h⟩).2, by simp⟩
    · rw [Lib.decDigits, dif_neg h]
      obtain ⟨w1, w2, w3⟩ := ih (u / 10) (by omega) (by omega)
      have hm : u % 10 < 10 := Nat.mod_lt _ (by decide)
      have hdg : ∀ n : Fin 10, (UInt8.ofNat (48 + n)).toNat = 48 + n.val ∧ digitB (UInt8.ofNat (48 + n)) = true := by decide +kernel
      obtain ⟨e1, e2⟩ := hdg ⟨u % 10, hm⟩
      simp only [] at e1 e2
      refine ⟨?_, ?_, by simp⟩
      · rw [numL_app, w1, Option.bind_some, numL, e1, if_neg (by omega), numL]
        congr 1; omega
      · intro c hc
        rcases List.mem_append.1 hc with q | q
        · exact w2 c q
        · obtain rfl := List.mem_singleton.1 q
          exact e2
theorem num_scan {x r : List UInt8} {a u : Nat} (hd : x.drop a = Lib.decDigits u ++ r) (hr : Stop r) (hu : u ≤ 9223372036854775807) : tokenF x a = (⟨3, [], u, a⟩, (Lib.decDigits u).length) := by
  obtain ⟨w1, w2, w3⟩ := num_dec u hu
  have hw := tw_app w2 hr (by decide)
  cases hs : Lib.decDigits u with
  | nil => exact absurd hs w3
  | cons c s' =>
    rw [hs] at hd w2 w1 hw
    have hd2 : x.drop a = c :: (s' ++ r) := hd
    obtain ⟨q1, q2, q3⟩ := at_cons hd2
    have hc := w2 c (by simp)
    have hn := byU (P := fun c => digitB c = true → (smallB c || largeB c) = false) digit_not c hc
    unfold tokenF
    simp only [q1]
    rw [if_neg (by rw [hn]; decide), if_pos hc]
    unfold numberF twL
    rw [hd, hw, w1]
/-! ### Quotes -/
theorem hex_dig : ∀ n : Fin 16, hexF (digs.getD n 0) = n.val := by decide +kernel
theorem esc_head : ∀ n : Fin 256, (escT n).length ≠ 0 ∧ (escT n).headD 0 ≠ 39 ∧ (escT n).headD 0 ≠ 34 := by decide +kernel
theorem esc_written {x y : List UInt8} {p c : Nat} (hc : c < 256) (hd : x.drop p = escT c ++ y) : writtenF x p = ((c : Int), (((escT c).length : Nat) : Int)) := by
  unfold escT at hd ⊢
  split at hd
  · rename_i h
    subst h
    obtain ⟨q1, q2, q3⟩ := at_cons (c := 92) hd
    obtain ⟨r1, r2, r3⟩ := at_cons (c := 110) q3
    unfold writtenF
    rw [if_neg (by rw [q1, decide_eq_false (show ¬ (x.length : Int) ≤ (p : Int) by omega)]; decide), if_neg (by rw [q1]; simp), if_neg (by omega), if_pos r1]; rfl
  rename_i h1
  rw [if_neg h1]
  split at hd
  · rename_i h
    subst h
    obtain ⟨q1, q2, q3⟩ := at_cons (c := 92) hd
    obtain ⟨r1, r2, r3⟩ := at_cons (c := 116) q3
    unfold writtenF
    rw [if_neg (by rw [q1, decide_eq_false (show ¬ (x.length : Int) ≤ (p : Int) by omega)]; decide), if_neg (by rw [q1]; simp), if_neg (by omega), if_neg (by rw [r1]; decide), if_pos r1]; rfl
  rename_i h2
  rw [if_neg h2]
  split at hd
  · rename_i h
    rw [if_pos h]
    obtain ⟨q1, q2, q3⟩ := at_cons (c := 92) hd
    obtain ⟨r1, r2, r3⟩ := at_cons (c := UInt8.ofNat c) q3
    unfold writtenF
    rw [if_neg (by rw [q1, decide_eq_false (show ¬ (x.length : Int) ≤ (p : Int) by omega)]; decide), if_neg (by rw [q1]; simp), if_neg (by omega), r1]
    rcases h with rfl | rfl | rfl <;> rfl
  rename_i h3
  rw [if_neg h3]
  split at hd
  · rename_i h
    rw [if_pos h]
    obtain ⟨q1, q2, q3⟩ := at_cons (c := UInt8.ofNat c) hd
    have hto : (UInt8.ofNat c).toNat = c := UInt8.toNat_ofNat_of_lt' (by simpa using hc)
    unfold writtenF
    rw [q1, hto, if_neg (by simp only [Bool.or_eq_true, decide_eq_true_eq, not_or]; omega), if_pos (fun e => h3 (.inl (by rw [← hto, e]; rfl)))]; rfl
  · rename_i h
    rw [if_neg h]
    have hd16 : c / 16 < 16 := by omega
    have hm16 : c % 16 < 16 := Nat.mod_lt _ (by decide)
    obtain ⟨q1, q2, q3⟩ := at_cons (c := 92) hd
    obtain ⟨r1, r2, r3⟩ := at_cons (c := 120) q3
    obtain ⟨s1, s2, s3⟩ := at_cons (c := digs.getD (c / 16) 0) r3
    obtain ⟨t1, t2, t3⟩ := at_cons (c := digs.getD (c % 16) 0) s3
    have e1 := hex_dig ⟨c / 16, hd16⟩
    have e2 := hex_dig ⟨c % 16, hm16⟩
    simp only [] at e1 e2
    unfold writtenF
    rw [if_neg (by rw [q1, decide_eq_false (show ¬ (x.length : Int) ≤ (p : Int) by omega)]; decide), if_neg (by rw [q1]; simp), if_neg (by omega), if_neg (by rw [r1]; decide), if_neg (by rw [r1]; decide), if_neg (by rw [r1]; decide)]
    rw [show p + 2 = p + 1 + 1 from rfl, show p + 3 = p + 1 + 1 + 1 from rfl, s1, t1, e1, e2, if_pos ⟨r1, by omega, by omega, by omega⟩]
    simp only [List.length_cons, List.length_nil, Prod.mk.injEq]
    omega
theorem quo_scan {x y : List UInt8} {q : UInt8} (hq : q = 39 ∨ q = 34) : ∀ (b : List UInt8) (f n : Nat) (acc : List UInt8), b.length < f → x.drop n = quoteT b ++ (q :: y) → quoL x q f n acc = some (acc ++ b, n + (quoteT b).length)
  | [], f, n, acc, hf, hd => by
    obtain ⟨f, rfl⟩ : ∃ g, f = g + 1 := ⟨f - 1, by simp at hf; omega⟩
    have hd2 : x.drop n = q :: y := hd
    obtain ⟨q1, q2, q3⟩ := at_cons hd2
    rw [quoL, if_neg (by rw [q1]; simp)]
    simp [quoteT]
  | c :: b, f, n, acc, hf, hd => by
    obtain ⟨f, rfl⟩ : ∃ g, f = g + 1 := ⟨f - 1, by simp at hf; omega⟩
    have hqc : quoteT (c :: b) = escT c.toNat ++ quoteT b := by simp [quoteT]
    rw [hqc, List.append_assoc] at hd
    have hw := esc_written c.toNat_lt hd
    obtain ⟨e1, e2, e3⟩ := esc_head ⟨c.toNat, c.toNat_lt⟩
    simp only [] at e1 e2 e3
    have hd' := hd
    cases hs : escT c.toNat with
    | nil => rw [hs] at e1; exact absurd rfl e1
    | cons z zs =>
      rw [hs] at hd' e2 e3
      obtain ⟨q1, q2, q3⟩ := at_cons (c := z) hd'
      have hz : z ≠ q := by
        rcases hq with rfl | rfl
        · exact e2
        · exact e3
      rw [quoL, if_pos (by rw [q1, decide_eq_true (show (n : Int) < (x.length : Int) by omega), decide_eq_false (fun e => hz (UInt8.toNat.inj e))]; rfl), hw, if_neg (by simp only []; omega)]
      simp only []
      have hd3 : x.drop (n + ((escT c.toNat).length : Int).toNat) = quoteT b ++ (q :: y) := by
        rw [Int.toNat_natCast, ← List.drop_drop, hd, List.drop_left]
      rw [quo_scan hq b f _ _ (by simp at hf; omega) hd3, hqc]
      simp only [Int.toNat_natCast, UInt8.ofNat_toNat, List.append_assoc, List.cons_append, List.nil_append, List.length_append, Option.some.injEq, Prod.mk.injEq]
      exact ⟨trivial, by omega⟩
/-! ### Any token -/
def placed (k : Tok) (a : Nat) : Tok := ⟨k.kind, k.text, k.num, a⟩
theorem quote_scan {x r b : List UInt8} {a : Nat} {q : UInt8} (hq : q = 39 ∨ q = 34) (hd : x.drop a = q :: (quoteT b ++ (q :: r))) (hb : q = 39 → b.length = 1) : tokenF x a = (if q = 39 then ⟨4, [], ((b.headD 0).toNat : Int), a⟩ else ⟨5, b, 0, a⟩, (quoteT b).length + 2) := by
  obtain ⟨q1, q2, q3⟩ := at_cons hd
  have h1 : (smallB q || largeB q) = false ∧ digitB q = false := by rcases hq with rfl | rfl <;> decide
  have hbl : b.length ≤ (quoteT b).length := by
    have : ∀ b : List UInt8, b.length ≤ (quoteT b).length := by
      intro b
      induction b with
      | nil => simp
      | cons c b ih =>
        have e1 := (esc_head ⟨c.toNat, c.toNat_lt⟩).1
        simp only [] at e1
        rw [show quoteT (c :: b) = escT c.toNat ++ quoteT b from by simp [quoteT], List.length_append, List.length_cons]
        omega
    exact this b
  have hlen : a + 1 + (quoteT b).length < x.length := by
    have := congrArg List.length q3
    rw [List.length_drop] at this
    simp at this; omega
  unfold tokenF
  simp only [q1]
  rw [if_neg (by rw [h1.1]; decide), if_neg (by rw [h1.2]; decide), if_pos hq]
  unfold quotedF
  rw [q1, quo_scan hq b x.length (a + 1) [] (by omega) q3]
  simp only [List.nil_append]
  rw [if_neg (by
    intro h
    rcases h with h | ⟨h, h'⟩
    · omega
    · exact h' (hb h))]
  split
  · rw [show a + 1 + (quoteT b).length + 1 - a = (quoteT b).length + 2 from by omega]
  · rw [show a + 1 + (quoteT b).length + 1 - a = (quoteT b).length + 2 from by omega]
theorem tok_scan {x r : List UInt8} {k : Tok} {a : Nat} (hk : TokOk k) (hd : x.drop a = tokText k ++ r) (hr : Stop r) : tokenF x a = (placed k a, (tokText k).length) ∧ (tokText k).length ≠ 0 := by
  cases hk with
  | int n p h h2 =>
    have ht : tokText ⟨3, [], n, p⟩ = Lib.decDigits n.toNat := rfl
    rw [ht] at hd ⊢
    have := num_scan hd hr (u := n.toNat) (by omega)
    rw [this]
    refine ⟨?_, ?_⟩
    · unfold placed
      simp only [Prod.mk.injEq, and_true]
      rw [show ((n.toNat : Nat) : Int) = n from by omega]
    · have := (num_dec n.toNat (by omega)).2.2
      exact fun e => this (List.length_eq_zero_iff.1 e)
  | chr n p h h2 =>
    have ht : tokText ⟨4, [], n, p⟩ = 39 :: (quoteT [UInt8.ofNat n.toNat] ++ [39]) := by
      have hto : (UInt8.ofNat n.toNat).toNat = n.toNat := UInt8.toNat_ofNat_of_lt' (by simp; omega)
      show [39] ++ escT n.toNat ++ [39] = _
      simp [quoteT, hto]
    rw [ht] at hd ⊢
    have hd2 : x.drop a = 39 :: (quoteT [UInt8.ofNat n.toNat] ++ (39 :: r)) := by rw [hd]; simp
    rw [quote_scan (.inl rfl) hd2 (fun _ => rfl), if_pos rfl]
    refine ⟨?_, by simp⟩
    have hto : ((([UInt8.ofNat n.toNat] : List UInt8).headD 0).toNat : Int) = n := by
      show ((UInt8.ofNat n.toNat).toNat : Int) = n
      rw [UInt8.toNat_ofNat_of_lt' (by simp; omega)]; omega
    rw [hto]
    unfold placed
    simp only [List.length_cons, List.length_append, List.length_nil, Prod.mk.injEq, true_and]
  | str s p h =>
    have ht : tokText ⟨5, s, 0, p⟩ = 34 :: (quoteT s ++ [34]) := rfl
    rw [ht] at hd ⊢
    have hd2 : x.drop a = 34 :: (quoteT s ++ (34 :: r)) := by rw [hd]; simp
    rw [quote_scan (.inr rfl) hd2 (fun e => by cases e), if_neg (by decide)]
    refine ⟨?_, by simp⟩
    unfold placed
    simp only [List.length_cons, List.length_append, List.length_nil, Prod.mk.injEq, true_and]
  | mark s p h =>
    have ht : tokText ⟨7, s, 0, p⟩ = s := rfl
    rw [ht] at hd ⊢
    rcases mark_chars s h with ⟨c, rfl, hc⟩ | rfl | ⟨h1, h2⟩
    · exact ⟨one_scan hd hc, by simp⟩
    · refine ⟨?_, by simp⟩
      rw [name_scan hd hr (by decide)]; rfl
    · refine ⟨?_, fun e => h1 (List.length_eq_zero_iff.1 e)⟩
      rw [sym_scan hd hr h1 h2, if_pos h]; rfl
  | op s p h =>
    have ht : tokText ⟨8, s, 0, p⟩ = s := rfl
    rw [ht] at hd ⊢
    obtain ⟨h1, h2, h3⟩ := op_chars s h
    refine ⟨?_, fun e => h1 (List.length_eq_zero_iff.1 e)⟩
    rw [sym_scan hd hr h1 h2, if_neg h3, if_pos h]; rfl
  | name s k p h h2 =>
    have ht : tokText ⟨k, s, 0, p⟩ = s := by
      unfold tokText
      rcases h with rfl | rfl | rfl <;> rfl
    rw [ht] at hd ⊢
    have h0 : nameF s ≠ 0 := by omega
    refine ⟨?_, fun e => ?_⟩
    · rw [name_scan hd hr h0, h2]; rfl
    · have := List.length_eq_zero_iff.1 e
      subst this
      exact h0 (by decide)
end Go.Proofs.YtikgokpbhldlnaaGreatDoor
end
section
/- Tokens that are written with a blank between are read again. -/
namespace Go.Proofs.YtikgokpbhldlnaaGreatDoor
open Go Go.Ab
/-- How a token's text begins. -/
def HeadOk (c : UInt8) (s : List UInt8) : Prop := ¬ c ∈ [(32 : UInt8), 9, 10, 13] ∧ (c = 45 → s = [] ∨ ∃ d s', s = d :: s' ∧ d ≠ 45) ∧ (c = 123 → s = [])
theorem letter_head : ∀ n : Fin 256, (smallB (UInt8.ofNat n) || largeB (UInt8.ofNat n)) = true ∨ digitB (UInt8.ofNat n) = true → ¬ UInt8.ofNat n ∈ [(32 : UInt8), 9, 10, 13] ∧ UInt8.ofNat n ≠ 45 ∧ UInt8.ofNat n ≠ 123 := by decide +kernel
theorem head_of {c : UInt8} (s : List UInt8) (h : (smallB c || largeB c) = true ∨ digitB c = true) : HeadOk c s := by
  obtain ⟨h1, h2, h3⟩ := byU (P := fun c => (smallB c || largeB c) = true ∨ digitB c = true → ¬ c ∈ [(32 : UInt8), 9, 10, 13] ∧ c ≠ 45 ∧ c ≠ 123) letter_head c h
  exact ⟨h1, fun e => absurd e h2, fun e => absurd e h3⟩
theorem sign_head : ∀ s ∈ isMarkL ++ opTexts, ∃ c s', s = c :: s' ∧ HeadOk c s' := by
  intro s hs
  have h : ∀ s ∈ isMarkL ++ opTexts, s ≠ [] ∧ ¬ s.headD 0 ∈ [(32 : UInt8), 9, 10, 13] ∧ (s.headD 0 = 45 → s.tail = [] ∨ s.tail.headD 45 ≠ 45) ∧ (s.headD 0 = 123 → s.tail = []) := by decide +kernel
  obtain ⟨h1, h2, h3, h4⟩ := h s hs
  cases s with
  | nil => exact absurd rfl h1
  | cons c s' =>
    refine ⟨c, s', rfl, h2, fun e => ?_, fun e => h4 e⟩
    rcases h3 e with q | q
    · exact .inl q
    · right
      cases s' with
      | nil => exact absurd rfl q
      | cons d s'' => exact ⟨d, s'', rfl, q⟩
theorem name_head {s : List UInt8} (h0 : nameF s ≠ 0) : ∃ c s', s = c :: s' ∧ (smallB c || largeB c) = true := by
  have hb : badName s = false := by
    cases hh : badName s with
    | false => rfl
    | true => unfold nameF at h0; rw [if_pos hh] at h0; exact absurd rfl h0
  unfold badName at hb
  simp only [Bool.or_eq_false_iff, decide_eq_false_iff_not] at hb
  obtain ⟨⟨⟨⟨h1, _⟩, h3⟩, h4⟩, h5⟩ := hb
  cases s with
  | nil => exact absurd rfl h1
  | cons c s' =>
    refine ⟨c, s', rfl, ?_⟩
    have hle := (List.takeWhile_prefix (l := c :: s') innerB).length_le
    have he : (c :: s').takeWhile innerB = c :: s' := (List.takeWhile_prefix _).eq_of_length (by omega)
    have hc : innerB c = true := tw_mem (l := c :: s') (by rw [he]; simp)
    exact byU (P := fun c => innerB c = true → digitB c = false → ¬ c = 39 → (smallB c || largeB c) = true) inner_not c hc h3 (fun e => h4 (by rw [show (c :: s').headD 0 = c from rfl, e]; rfl))
theorem tok_head {k : Tok} (hk : TokOk k) : ∃ c s, tokText k = c :: s ∧ HeadOk c s := by
  cases hk with
  | int n p h h2 =>
    obtain ⟨_, w2, w3⟩ := num_dec n.toNat (by omega)
    show ∃ c s, Lib.decDigits n.toNat = c :: s ∧ _
    cases hs : Lib.decDigits n.toNat with
    | nil => exact absurd hs w3
    | cons c s => exact ⟨c, s, rfl, head_of s (.inr (w2 c (by rw [hs]; simp)))⟩
  | chr n p h h2 => exact ⟨39, _, rfl, (by decide), (fun e => by cases e), (fun e => by cases e)⟩
  | str s p h => exact ⟨34, _, rfl, (by decide), (fun e => by cases e), (fun e => by cases e)⟩
  | mark s p h => exact sign_head s (List.mem_append_left _ h)
  | op s p h => exact sign_head s (List.mem_append_right _ h)
  | name s k p h h2 =>
    have ht : tokText ⟨k, s, 0, p⟩ = s := by
      unfold tokText
      rcases h with rfl | rfl | rfl <;> rfl
    obtain ⟨c, s', e, hc⟩ := name_head (s := s) (by omega)
    exact ⟨c, s', by rw [ht, e], head_of s' (.inl hc)⟩
theorem tok_plain {x r : List UInt8} {k : Tok} {a : Nat} (hk : TokOk k) (hd : x.drop a = tokText k ++ r) (hr : Stop r) : a < x.length ∧ ¬ at0 x a ∈ [(32 : UInt8), 9, 10, 13] ∧ commentF x a = a := by
  obtain ⟨c, s, e, h1, h2, h3⟩ := tok_head hk
  rw [e] at hd
  have hd2 : x.drop a = c :: (s ++ r) := hd
  obtain ⟨q1, q2, q3⟩ := at_cons hd2
  refine ⟨q2, by rw [q1]; exact h1, ?_⟩
  have hdash : twL dash x a ≤ 1 := by
    unfold twL
    rw [hd2]
    by_cases hc : dash c = true
    · have hc45 : c = 45 := by
        unfold dash at hc
        exact (toNat_eq c 45 (by decide)).1 (of_decide_eq_true hc)
      rw [List.takeWhile_cons_of_pos hc]
      have : (s ++ r).takeWhile dash = [] := by
        rcases h2 hc45 with rfl | ⟨d, s', rfl, hd45⟩
        · rw [List.nil_append]
          rcases hr with rfl | ⟨r', rfl⟩
          · rfl
          · rw [List.takeWhile_cons_of_neg (by decide)]
        · rw [List.cons_append, List.takeWhile_cons_of_neg]
          unfold dash
          intro q
          exact hd45 ((toNat_eq d 45 (by decide)).1 (of_decide_eq_true q))
      rw [this]; simp
    · rw [List.takeWhile_cons_of_neg hc]; simp
  unfold commentF
  simp only []
  rw [if_neg (by rw [decide_eq_false (by omega)]; simp)]
  rw [if_pos]
  by_cases hc : c = 123
  · have hs := h3 hc
    subst hs
    rw [List.nil_append] at q3
    rcases hr with rfl | ⟨r', rfl⟩
    · have : x.length ≤ a + 1 := by
        have := congrArg List.length q3
        rw [List.length_drop] at this
        simp at this; omega
      rw [decide_eq_true (by omega)]; rfl
    · obtain ⟨w1, _, _⟩ := at_cons q3
      rw [w1, decide_eq_false (p := ((32 : UInt8).toNat : Int) = 45) (by decide)]; simp
  · rw [q1, decide_eq_false (p := (c.toNat : Int) = 123) (fun q => hc ((toNat_eq c 123 (by decide)).1 q))]; simp
/-- Texts with a blank between. -/
def j2 : List (List UInt8) → List UInt8
  | [] => []
  | [s] => s
  | s :: r => s ++ 32 :: j2 r
theorem flat_j2 : ∀ r : List (List UInt8), r ≠ [] → (r.map fun s => (32 : UInt8) :: s).flatten = 32 :: j2 r
  | [], h => absurd rfl h
  | [s], _ => by simp [j2]
  | s :: u :: r, _ => by
    rw [List.map_cons, List.flatten_cons, flat_j2 (u :: r) (by simp)]; simp [j2]
theorem join_j2 (l : List (List UInt8)) : joinT l = j2 l := by
  unfold joinT
  cases l with
  | nil => rfl
  | cons s r =>
    rw [List.mapIdx_cons, List.flatten_cons]
    have : (r.mapIdx fun i s => (if i + 1 = 0 then [] else [32]) ++ s) = r.map fun s => (32 : UInt8) :: s := by
      apply List.ext_getElem?
      intro i
      rw [List.getElem?_mapIdx, List.getElem?_map]
      cases r[i]? <;> simp
    rw [this]
    cases r with
    | nil => simp [j2]
    | cons u r => rw [flat_j2 (u :: r) (by simp)]; simp [j2]
def place : List Tok → Nat → List Tok
  | [], _ => []
  | k :: r, a => placed k a :: place r (a + (tokText k).length + 1)
theorem loop_step {x r : List UInt8} {k : Tok} {a f : Nat} {acc : List Tok} (hk : TokOk k) (hd : x.drop a = tokText k ++ r) (hr : Stop r) : loopT x (f + 1) a acc = loopT x f (a + (tokText k).length) (acc ++ [placed k a]) := by
  obtain ⟨h1, h2, h3⟩ := tok_plain hk hd hr
  obtain ⟨h4, h5⟩ := tok_scan hk hd hr
  rw [loopT, if_neg (by omega), if_neg h2, h3, if_neg (by omega), if_neg (by omega), h4, if_neg h5]
theorem loop_join {x : List UInt8} : ∀ (ks : List Tok) (f a : Nat) (acc : List Tok), AllOk ks → x.drop a = j2 (ks.map tokText) → x.length ≤ a + f → loopT x f a acc = (acc ++ place ks a, 0, 0)
  | [], f, a, acc, _, hd, hl => by
    have : x.length ≤ a := by
      have := congrArg List.length hd
      rw [List.length_drop] at this
      simp [j2] at this; omega
    cases f with
    | zero => rw [loopT]; simp [place]
    | succ f => rw [loopT, if_pos this]; simp [place]
  | [k], f, a, acc, hk, hd, hl => by
    have hd' : x.drop a = tokText k ++ [] := by rw [hd]; simp [j2]
    have hkk := hk k (by simp)
    have hp := tok_plain hkk hd' (.inl rfl)
    obtain ⟨f, rfl⟩ : ∃ g, f = g + 1 := ⟨f - 1, by omega⟩
    rw [loop_step hkk hd' (.inl rfl)]
    have hne := (tok_scan hkk hd' (.inl rfl)).2
    rw [loop_join [] f _ _ AllOk.nil (by rw [← List.drop_drop, hd', List.drop_left]; rfl) (by omega)]
    simp [place]
  | k :: k2 :: r, f, a, acc, hk, hd, hl => by
    have hd' : x.drop a = tokText k ++ 32 :: j2 ((k2 :: r).map tokText) := by rw [hd]; simp [j2]
    have hkk := hk k (by simp)
    have hs : Stop (32 :: j2 ((k2 :: r).map tokText)) := .inr ⟨_, rfl⟩
    have hp := tok_plain hkk hd' hs
    have hne := (tok_scan hkk hd' hs).2
    have hd2 : x.drop (a + (tokText k).length) = 32 :: j2 ((k2 :: r).map tokText) := by rw [← List.drop_drop, hd', List.drop_left]
    obtain ⟨w1, w2, w3⟩ := at_cons hd2
    obtain ⟨f, rfl⟩ : ∃ g, f = g + 2 := ⟨f - 2, by omega⟩
    rw [loop_step hkk hd' hs, loopT, if_neg (by omega), w1, if_pos (by decide)]
    rw [loop_join (k2 :: r) f _ _ (fun q hq => hk q (List.mem_cons_of_mem _ hq)) w3 (by omega)]
    simp [place]
theorem scan_text {ks : List Tok} (hk : AllOk ks) (hl : (joinT (ks.map tokText)).length ≤ 8000) : tokensF (joinT (ks.map tokText)) = (place ks 0, 0, 0) := by
  unfold tokensF
  rw [if_neg (by omega), loop_join ks _ 0 [] hk (by rw [List.drop_zero, join_j2]) (by omega)]
  rfl
theorem place_get : ∀ (ks : List Tok) (a p : Nat), ∃ q, (place ks a)[p]? = (ks[p]?).map fun k => placed k q
  | [], a, p => ⟨0, by simp [place]⟩
  | k :: r, a, 0 => ⟨a, by simp [place]⟩
  | k :: r, a, p + 1 => by
    obtain ⟨q, h⟩ := place_get r (a + (tokText k).length + 1) p
    exact ⟨q, by simpa [place] using h⟩
theorem place_len : ∀ (ks : List Tok) (a : Nat), (place ks a).length = ks.length
  | [], _ => rfl
  | k :: r, a => by rw [place, List.length_cons, place_len r, List.length_cons]
end Go.Proofs.YtikgokpbhldlnaaGreatDoor
end
