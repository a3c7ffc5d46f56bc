/- Parts of a proof: Th Ti Tj Tk Tl Tm. -/
import Derived.Test.YtikgokpbhldlnaaGreatDoorYMe
import Derived.Test.YtikgokpbhldlnaaGreatDoorYMc
set_option linter.unusedVariables false
set_option linter.unusedSimpArgs false
set_option linter.unusedSectionVars false
section
namespace Go.Proofs.YtikgokpbhldlnaaGreatDoor
open Go Go.Ab
attribute [local irreducible] Wp WpO Qt OpT Ct Ent
/-! ## The reference's scanner: bytes, words, names -/
theorem inc_v {i : Nat} (h : i < 4611686018427387904) : (IntKind.i64.wrap ((i : Int) + 1)) = ((i + 1 : Nat) : Int) := by rw [wrap_id (by omega) (by omega)]; rfl
theorem inc_e {i : Nat} (h : i < 4611686018427387904) : some (AV.v (.int .i64 (IntKind.i64.wrap ((i : Int) + 1)))) = some (AV.v (.int .i64 ((i + 1 : Nat) : Int))) := by rw [inc_v h]
theorem u8eq {a b : UInt8} : (decide ((a.toNat : Int) = (b.toNat : Int))) = decide (a = b) := by
  have : ((a.toNat : Int) = (b.toNat : Int)) ↔ a = b := by rw [Int.natCast_inj]; exact UInt8.toNat_inj
  simp [this]
def symB (c : UInt8) : Bool := decide (c ∈ [(33 : UInt8), 35, 36, 37, 38, 42, 43, 46, 47, 60, 61, 62, 63, 64, 92, 94, 124, 45, 126, 58])
/-! ### Is it one of the words? -/
def amHit (l ws : List UInt8) (i : Nat) : Bool :=
  ((decide (ws.getD i 0 = 32) && decide (l.length + 1 < ws.length - i)) && decide ((ws.drop (i + 1)).take l.length = l)) && decide (ws.getD (i + 1 + l.length) 0 = 32)
def amF (l ws : List UInt8) : Bool := (List.range ws.length).any (amHit l ws) && (decide (0 < l.length) && !decide ((32 : UInt8) ∈ l))
theorem u8eq' {a : UInt8} {n : Nat} (hn : n < 256) : (decide ((a.toNat : Int) = (n : Int))) = decide (a = UInt8.ofNat n) := by
  rw [← u8eq]; congr 1; rw [UInt8.toNat_ofNat_of_lt' (by simpa using hn)]
def chkWords (ws : List UInt8) (keys : List (List UInt8)) : Bool :=
  (List.range ws.length).all fun i => (List.range ws.length).all fun n => !(amHit ((ws.drop (i + 1)).take n) ws i && (decide (0 < ((ws.drop (i + 1)).take n).length) && !decide ((32 : UInt8) ∈ (ws.drop (i + 1)).take n))) || decide ((ws.drop (i + 1)).take n ∈ keys)
theorem am_words {ws : List UInt8} {keys : List (List UInt8)} (h1 : chkWords ws keys = true) (h2 : (keys.all fun k => amF k ws) = true) (l : List UInt8) : amF l ws = decide (l ∈ keys) := by
  rw [Bool.eq_iff_iff, decide_eq_true_eq]
  constructor
  · intro h
    unfold amF at h
    rw [Bool.and_eq_true, List.any_eq_true] at h
    obtain ⟨⟨i, hi, hh⟩, h3⟩ := h
    have hh0 := hh
    unfold amHit at hh
    simp only [Bool.and_eq_true, decide_eq_true_eq] at hh
    obtain ⟨⟨⟨_, q2⟩, q3⟩, _⟩ := hh
    unfold chkWords at h1
    rw [List.all_eq_true] at h1
    have h4 := h1 i hi
    rw [List.all_eq_true] at h4
    have h5 := h4 l.length (List.mem_range.2 (by omega))
    rw [q3, hh0, h3] at h5
    simpa using h5
  · intro h
    rw [List.all_eq_true] at h2
    exact h2 l h
def opsT : List UInt8 := [32, 36, 32, 124, 124, 32, 38, 38, 32, 61, 61, 32, 47, 61, 32, 60, 32, 60, 61, 32, 62, 32, 62, 61, 32, 58, 32, 43, 32, 45, 32, 42, 32, 46, 32]
def opTexts : List (List UInt8) := opList.map (·.1)
theorem am_ops (l : List UInt8) : amF l opsT = decide (l ∈ opTexts) := am_words (by decide +kernel) (by decide +kernel) l
end Go.Proofs.YtikgokpbhldlnaaGreatDoor
end
section
namespace Go.Proofs.YtikgokpbhldlnaaGreatDoor
open Go Go.Ab
attribute [local irreducible] Wp WpO Qt OpT Ct Ent
/-! ## The reference's scanner: runs, comments, numbers, texts -/
def at0 (l : List UInt8) (i : Nat) : UInt8 := l.getD i 0
theorem at0_some {l : List UInt8} {i : Nat} (h : i < l.length) : l[i]? = some (at0 l i) := by unfold at0; rw [List.getD, List.getElem?_eq_getElem h]; rfl
/-- How long a run of p is from place n on. -/
def twL (p : UInt8 → Bool) (l : List UInt8) (n : Nat) : Nat := ((l.drop n).takeWhile p).length
theorem twL_step {p : UInt8 → Bool} {l : List UInt8} {n : Nat} (h : n < l.length) (hp : p (at0 l n) = true) : twL p l n = twL p l (n + 1) + 1 := by
  unfold twL
  have h1 := List.drop_eq_getElem_cons h
  have h2 : l[n] = at0 l n := by have := at0_some h; rw [List.getElem?_eq_getElem h] at this; exact Option.some.inj this
  rw [h1, List.takeWhile_cons_of_pos (by rw [h2]; exact hp)]; rfl
theorem twL_stop {p : UInt8 → Bool} {l : List UInt8} {n : Nat} (h : n < l.length → p (at0 l n) = false) : twL p l n = 0 := by
  unfold twL
  rcases Nat.lt_or_ge n l.length with hl | hl
  · have h1 := List.drop_eq_getElem_cons hl
    have h2 : l[n] = at0 l n := by have := at0_some hl; rw [List.getElem?_eq_getElem hl] at this; exact Option.some.inj this
    rw [h1, List.takeWhile_cons_of_neg (by rw [h2, h hl]; decide)]; rfl
  · rw [List.drop_eq_nil_of_le hl]; rfl
theorem twL_le (p : UInt8 → Bool) (l : List UInt8) (n : Nat) (h : n ≤ l.length) : n + twL p l n ≤ l.length := by
  unfold twL
  have := List.IsPrefix.length_le (List.takeWhile_prefix p (l := l.drop n))
  rw [List.length_drop] at this; omega
theorem lt_len {i n : Nat} (h : decide ((i : Int) < (n : Int)) = true) : i < n := by have := of_decide_eq_true h; omega
theorem nat_add {a b : Nat} (h : a + b < 9223372036854775808) : IntKind.i64.wrap ((a : Int) + (b : Int)) = ((a + b : Nat) : Int) := by rw [wrap_id (by omega) (by omega)]; omega
/-- Nested comments: where they end. -/
def nestF (l : List UInt8) : Nat → Nat → Nat → Int
  | _, 0, n => n
  | 0, _ + 1, _ => -1
  | f + 1, d + 1, n =>
    if l.length ≤ n + 1 then -1 else
    if at0 l n = 123 ∧ at0 l (n + 1) = 45 then nestF l f (d + 2) (n + 2) else
    if at0 l n = 45 ∧ at0 l (n + 1) = 125 then nestF l f d (n + 2) else nestF l f (d + 1) (n + 1)
def dash (c : UInt8) : Bool := decide ((c.toNat : Int) = 45)
def noNl (c : UInt8) : Bool := !decide ((c.toNat : Int) = 10)
def commentF (l : List UInt8) (a : Nat) : Int :=
  let n := a + twL dash l a
  if (decide (((a + 2 : Nat) : Int) ≤ (n : Int)) && (decide ((n : Int) = (l.length : Int)) || !symB (at0 l n))) = true then ((n + twL noNl l n : Nat) : Int) else
  if ((decide ((l.length : Int) ≤ ((a + 1 : Nat) : Int)) || !decide (((at0 l a).toNat : Int) = 123)) || !decide (((at0 l (a + 1)).toNat : Int) = 45)) = true then (a : Int) else nestF l l.length 1 (a + 2)
end Go.Proofs.YtikgokpbhldlnaaGreatDoor
end
section
namespace Go.Proofs.YtikgokpbhldlnaaGreatDoor
open Go Go.Ab
attribute [local irreducible] Wp WpO Qt OpT Ct Ent
theorem u8_id {i : Int} (h1 : 0 ≤ i) (h2 : i < 256) : IntKind.u8.wrap i = i := by
  unfold IntKind.wrap
  simp [IntKind.bits, IntKind.signed]
  omega
/-- A digit's number. -/
def hexF (c : UInt8) : Int :=
  if digitB c = true then (c.toNat : Int) - 48 else
  if (decide ((97 : Int) ≤ (c.toNat : Int)) && decide ((c.toNat : Int) ≤ 102)) = true then (c.toNat : Int) - 97 + 10 else
  if (decide ((65 : Int) ≤ (c.toNat : Int)) && decide ((c.toNat : Int) ≤ 70)) = true then (c.toNat : Int) - 65 + 10 else -1
theorem hexF_le (c : UInt8) : hexF c ≤ 15 := by
  unfold hexF digitB
  simp only [Bool.and_eq_true, decide_eq_true_eq]
  repeat' split
  all_goals omega
/-- The byte that is written at a place, and how many bytes write it. -/
def writtenF (l : List UInt8) (p : Nat) : Int × Int :=
  if ((decide ((l.length : Int) ≤ (p : Int)) || decide (((at0 l p).toNat : Int) < 32)) || decide ((126 : Int) < ((at0 l p).toNat : Int))) = true then (0, 0) else
  if ¬ at0 l p = 92 then ((at0 l p).toNat, 1) else
  if l.length ≤ p + 1 then (0, 0) else
  if at0 l (p + 1) = 110 then (10, 2) else
  if at0 l (p + 1) = 116 then (9, 2) else
  if at0 l (p + 1) = 92 ∨ at0 l (p + 1) = 39 ∨ at0 l (p + 1) = 34 then ((at0 l (p + 1)).toNat, 2) else
  if at0 l (p + 1) = 120 ∧ p + 3 < l.length ∧ 0 ≤ hexF (at0 l (p + 2)) ∧ 0 ≤ hexF (at0 l (p + 3)) then (16 * hexF (at0 l (p + 2)) + hexF (at0 l (p + 3)), 4) else (0, 0)
theorem writtenF_le (l : List UInt8) (p : Nat) : 0 ≤ (writtenF l p).1 ∧ (writtenF l p).1 < 256 ∧ 0 ≤ (writtenF l p).2 ∧ ((writtenF l p).2 = 0 ∨ (p : Int) + (writtenF l p).2 ≤ l.length) := by
  have h1 := (at0 l p).toNat_lt
  have h2 := (at0 l (p + 1)).toNat_lt
  have h3 := hexF_le (at0 l (p + 2))
  have h4 := hexF_le (at0 l (p + 3))
  unfold writtenF
  split
  · simp
  rename_i h
  have hp : p < l.length := by
    simp only [Bool.or_eq_true, decide_eq_true_eq, not_or] at h; omega
  repeat' split
  all_goals simp only []
  all_goals refine ⟨by omega, by omega, by omega, ?_⟩
  all_goals first | (left; rfl) | (right; omega)
end Go.Proofs.YtikgokpbhldlnaaGreatDoor
end
section
namespace Go.Proofs.YtikgokpbhldlnaaGreatDoor
open Go Go.Ab
attribute [local irreducible] Wp WpO Qt OpT Ct Ent
structure Tok where
  kind : Int
  text : List UInt8
  num : Int
  pos : Int
def tok0 : Tok := ⟨0, [], 0, 0⟩
def tokRow (k : Tok) : List Value := [.int .i64 k.kind, .string (ofL k.text), .int .i64 k.num, .int .i64 k.pos]
/-! ### Numbers -/
def numL : List UInt8 → Nat → Option Nat
  | [], v => some v
  | c :: r, v => if (9223372036854775807 - (c.toNat - 48)) / 10 < v then none else numL r (10 * v + (c.toNat - 48))
def numberF (l : List UInt8) (a : Nat) : Tok × Nat :=
  match numL ((l.drop a).takeWhile digitB) 0 with
  | some v => (⟨3, [], v, a⟩, twL digitB l a)
  | none => (tok0, 0)
/-! ### Characters and texts -/
def quoL (l : List UInt8) (q : UInt8) : Nat → Nat → List UInt8 → Option (List UInt8 × Nat)
  | 0, n, acc => some (acc, n)
  | f + 1, n, acc =>
    if (decide ((n : Int) < (l.length : Int)) && !decide ((at0 l n).toNat = q.toNat)) = true then
      if (writtenF l n).2 = 0 then none else quoL l q f (n + (writtenF l n).2.toNat) (acc ++ [UInt8.ofNat (writtenF l n).1.toNat])
    else some (acc, n)
def quotedF (l : List UInt8) (a : Nat) : Tok × Nat :=
  match quoL l (at0 l a) l.length (a + 1) [] with
  | none => (tok0, 0)
  | some (b, n) =>
    if l.length ≤ n ∨ at0 l a = 39 ∧ b.length ≠ 1 then (tok0, 0) else
    if at0 l a = 39 then (⟨4, [], (b.headD 0).toNat, a⟩, n + 1 - a) else (⟨5, b, 0, a⟩, n + 1 - a)
def marksT : List UInt8 := [32, 40, 32, 41, 32, 91, 32, 93, 32, 123, 32, 125, 32, 44, 32, 59, 32, 95, 32, 61, 32, 124, 32, 45, 62, 32, 92, 32]
def tokenF (l : List UInt8) (a : Nat) : Tok × Nat :=
  let c := at0 l a
  if (smallB c || largeB c) = true then
    let n := a + 1 + twL innerB l (a + 1)
    let k := nameF ((l.take n).drop a)
    if k = 0 then (tok0, 0) else (⟨k, (l.take n).drop a, 0, a⟩, n - a)
  else if digitB c = true then numberF l a
  else if c = 39 ∨ c = 34 then quotedF l a
  else if c ∈ [(40 : UInt8), 41, 91, 93, 123, 125, 44, 59] then (⟨7, (l.take (a + 1)).drop a, 0, a⟩, 1)
  else if symB c = true then
    let n := a + 1 + twL symB l (a + 1)
    if amF ((l.take n).drop a) marksT = true then (⟨7, (l.take n).drop a, 0, a⟩, n - a) else
    if amF ((l.take n).drop a) opsT = true then (⟨8, (l.take n).drop a, 0, a⟩, n - a) else (tok0, 0)
  else (tok0, 0)
def loopT (l : List UInt8) : Nat → Nat → List Tok → List Tok × Int × Int
  | 0, _, acc => (acc, 0, 0)
  | f + 1, a, acc =>
    if l.length ≤ a then (acc, 0, 0) else
    if at0 l a ∈ [(32 : UInt8), 9, 10, 13] then loopT l f (a + 1) acc else
    if commentF l a < 0 then ([], a, 8) else
    if (a : Int) < commentF l a then loopT l f (commentF l a).toNat acc else
    if (tokenF l a).2 = 0 then ([], a, 8) else loopT l f (a + (tokenF l a).2) (acc ++ [(tokenF l a).1])
def tokensF (l : List UInt8) : List Tok × Int × Int := if 8000 < l.length then ([], 0, 11) else loopT l l.length 0 []
theorem quoL_le {l : List UInt8} {q : UInt8} : ∀ (f n : Nat) (acc : List UInt8) (b : List UInt8) (k : Nat), quoL l q f n acc = some (b, k) → n ≤ l.length → n ≤ k ∧ k ≤ l.length ∧ b.length + n ≤ k + acc.length
  | 0, n, acc, b, k, h, hn => by simp only [quoL, Option.some.injEq, Prod.mk.injEq] at h; obtain ⟨rfl, rfl⟩ := h; omega
  | f + 1, n, acc, b, k, h, hn => by
    rw [quoL] at h
    split at h
    · split at h
      · cases h
      · rename_i h0
        have hw := writtenF_le l n
        have := quoL_le f _ _ b k h (by omega)
        simp at this; omega
    · simp only [Option.some.injEq, Prod.mk.injEq] at h; obtain ⟨rfl, rfl⟩ := h; omega
theorem ofNat_toNat {i : Int} (h0 : 0 ≤ i) (h1 : i < 256) : ((UInt8.ofNat i.toNat).toNat : Int) = i := by
  rw [UInt8.toNat_ofNat_of_lt' (by show i.toNat < 256; omega)]; omega
end Go.Proofs.YtikgokpbhldlnaaGreatDoor
end
section
namespace Go.Proofs.YtikgokpbhldlnaaGreatDoor
open Go Go.Ab
attribute [local irreducible] Wp WpO Qt OpT Ct Ent
theorem quotedF_le {l : List UInt8} {a : Nat} (ha : a < l.length) : a + (quotedF l a).2 ≤ l.length := by
  unfold quotedF
  split
  · simp; omega
  · rename_i b n hb
    have := quoL_le _ _ _ _ _ hb (by omega)
    repeat' split
    all_goals simp only []
    all_goals omega
theorem tokenF_le {l : List UInt8} {a : Nat} (ha : a < l.length) : a + (tokenF l a).2 ≤ l.length := by
  have h1 := twL_le innerB l (a + 1) ha
  have h2 := twL_le symB l (a + 1) ha
  have h3 := twL_le digitB l a (by omega)
  have h4 := quotedF_le ha
  unfold tokenF
  simp only []
  repeat' split
  all_goals first | omega | skip
  · unfold numberF; split <;> simp only [] <;> omega
theorem nestF_le {l : List UInt8} : ∀ (f d n : Nat), n ≤ l.length → nestF l f d n ≤ l.length
  | f, 0, n, h => by cases f <;> (simp only [nestF]; omega)
  | 0, d + 1, n, h => by simp only [nestF]; omega
  | f + 1, d + 1, n, h => by
    rw [nestF]
    repeat' split
    · omega
    · exact nestF_le f _ _ (by omega)
    · exact nestF_le f _ _ (by omega)
    · exact nestF_le f _ _ (by omega)
theorem commentF_le {l : List UInt8} {a : Nat} (ha : a ≤ l.length) : commentF l a ≤ l.length := by
  have h1 := twL_le dash l a ha
  have h2 := twL_le noNl l (a + twL dash l a) h1
  unfold commentF
  simp only []
  split
  · omega
  · split
    · omega
    · rename_i h
      refine nestF_le _ _ _ ?_
      simp only [Bool.or_eq_true, decide_eq_true_eq, not_or] at h
      omega
end Go.Proofs.YtikgokpbhldlnaaGreatDoor
end
section
namespace Go.Proofs.YtikgokpbhldlnaaGreatDoor
open Go Go.Ab
attribute [local irreducible] Wp WpO Qt OpT Ct Ent
end Go.Proofs.YtikgokpbhldlnaaGreatDoor
end
