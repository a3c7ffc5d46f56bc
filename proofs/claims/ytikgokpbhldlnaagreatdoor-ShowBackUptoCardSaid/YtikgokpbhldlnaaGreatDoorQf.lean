/- Parts of a proof: Ea Eb Ec Ed. -/
import Derived.Test.YtikgokpbhldlnaaGreatDoorQd
import Derived.Test.YtikgokpbhldlnaaGreatDoorMh
set_option linter.unusedVariables false
set_option linter.unusedSimpArgs false
set_option linter.unusedSectionVars false
section
/- The plain law of the parser: what it lays is sound. -/
namespace Go.Proofs.YtikgokpbhldlnaaGreatDoor
open Go Go.Ab

/-- What is known of a text's tokens. -/
structure TokOkP (l : List Tok) : Prop where
  v : ∀ k ∈ l, k.kind = 1 → nameF k.text = 1 ∧ k.num = 0
  c : ∀ k ∈ l, k.kind = 2 → nameF k.text = 2 ∧ k.num = 0
  i : ∀ k ∈ l, k.kind = 3 → k.text = [] ∧ 0 ≤ k.num
  h : ∀ k ∈ l, k.kind = 4 → k.text = [] ∧ 0 ≤ k.num ∧ k.num ≤ 255
  s : ∀ k ∈ l, k.kind = 5 → k.num = 0
  tl : ∀ k ∈ l, k.text.length ≤ 8000
  nl : ∀ k ∈ l, k.num ≤ 9223372036854775807
/-- Sound, and of a size. -/
def goodS (ops : List Int) (nd : Nd) : Bool := goodF ops nd && (decide ((bs nd.text).length ≤ 8000) && decide (nd.num ≤ 9223372036854775807))
theorem runs_append {good : List Int → Nd → Bool} {t : List Nd} : ∀ (x y : List Nd) (i : Nat) (free : List Nat), runs good t (x ++ y) i free = (runs good t x i free).bind fun f => runs good t y (i + x.length) f
  | [], y, i, free => by simp [runs]
  | nd :: x, y, i, free => by
    rw [List.cons_append, runs, runs]
    split
    · rw [runs_append x y (i + 1)]
      congr 1; funext f; rw [List.length_cons]; congr 1; omega
    · rfl
theorem opAt_pre {u t : List Nd} {j : Nat} (h : j < u.length) (hp : u <+: t) : opAt t j = opAt u j := by
  obtain ⟨r, rfl⟩ := hp
  unfold opAt
  rw [List.getElem?_append_left h]
theorem ik_eq (l : List Nat) : ik l = natI l := rfl
/-- From a to b, a forest with these roots. -/
structure Seg (a b : PS) (roots : List Nat) : Prop where
  ex : ∃ seg, b.t = a.t ++ seg ∧ roots.length ≤ seg.length ∧ ∀ t free, b.t <+: t → t.length ≤ 6000 → runs goodS t seg a.t.length free = some (free ++ roots)
  lt : ∀ r ∈ roots, r < b.t.length
theorem Seg.pre {a b : PS} {r : List Nat} (h : Seg a b r) : a.t <+: b.t := by
  obtain ⟨seg, h1, _⟩ := h.ex
  rw [h1]; exact List.prefix_append _ _
theorem Seg.refl (a : PS) : Seg a a [] := ⟨⟨[], by simp, by simp, fun t free _ _ => by simp [runs]⟩, nofun⟩
theorem Seg.same {a b b' : PS} {r : List Nat} (h : Seg a b r) (e : b'.t = b.t) : Seg a b' r := ⟨by rw [e]; exact h.ex, by rw [e]; exact h.lt⟩
theorem Seg.same' {a a' b : PS} {r : List Nat} (h : Seg a b r) (e : a'.t = a.t) : Seg a' b r := ⟨by rw [e]; exact h.ex, h.lt⟩
theorem Seg.trans {a b c : PS} {r s : List Nat} (h : Seg a b r) (k : Seg b c s) : Seg a c (r ++ s) := by
  have hp := k.pre
  obtain ⟨x, h1, h2, h3⟩ := h.ex
  obtain ⟨y, k1, k2, k3⟩ := k.ex
  refine ⟨⟨x ++ y, by rw [k1, h1, List.append_assoc], by simp; omega, fun t free ht hl => ?_⟩, fun q hq => ?_⟩
  · rw [runs_append, h3 t free (hp.trans ht) hl, Option.bind_some, show a.t.length + x.length = b.t.length from by rw [h1]; simp, k3 t _ ht hl, List.append_assoc]
  · rcases List.mem_append.1 hq with q1 | q1
    · have := h.lt q q1; have := hp.length_le; omega
    · exact k.lt q q1
theorem Seg.put {a b : PS} {r kids : List Nat} (h : Seg a b (r ++ kids)) {op num : Int} {tx : ByteArray} (hg : kids.length ≤ 6000 → goodS (kids.map (opAt b.t)) ⟨op, tx, num, ik kids⟩ = true) (h20 : op ≠ 20) {p : Nat} : Seg a ⟨b.t ++ [⟨op, tx, num, ik kids⟩], p⟩ (r ++ [b.t.length]) := by
  obtain ⟨x, h1, h2, h3⟩ := h.ex
  have hb : b.t.length = a.t.length + x.length := by rw [h1]; simp
  refine ⟨⟨x ++ [⟨op, tx, num, ik kids⟩], by rw [h1, List.append_assoc], by simp at h2 ⊢; omega, fun t free ht hl => ?_⟩, fun q hq => ?_⟩
  · have ht' : b.t <+: t := (List.prefix_append _ _).trans ht
    have hkl : (ik kids).length = kids.length := by simp [ik]
    have hlen : b.t.length ≤ t.length := ht'.length_le
    rw [runs_append, h3 t free ht' hl, Option.bind_some]
    have hd : (free ++ (r ++ kids)).drop ((free ++ (r ++ kids)).length - kids.length) = kids := by
      rw [← List.append_assoc, List.length_append, Nat.add_sub_cancel, List.drop_left]
    have htk : (free ++ (r ++ kids)).take ((free ++ (r ++ kids)).length - kids.length) = free ++ r := by
      rw [← List.append_assoc, List.length_append, Nat.add_sub_cancel, List.take_left]
    rw [runs_yes (by rw [hkl]; simp; omega) (by rw [hkl, hd]; rfl) (fun q => h20 q.1) (by
      rw [hkl, hd]
      have : kids.map (opAt t) = kids.map (opAt b.t) := List.map_congr_left fun j hj => opAt_pre (h.lt j (List.mem_append_right _ hj)) ht'
      rw [this]
      exact hg (by simp at h2; omega))]
    rw [hkl, htk, ← hb]; simp [runs]
  · rcases List.mem_append.1 hq with q1 | q1
    · have := h.lt q (List.mem_append_left _ q1); simp; omega
    · obtain rfl : q = b.t.length := by simpa using q1
      simp
theorem opAt_last {t : List Nd} {nd : Nd} : opAt (t ++ [nd]) t.length = nd.op := by unfold opAt; simp
/-- A list of nodes, each of the class. -/
structure Lst (C : Int → Bool) (a b : PS) (ks : List Nat) : Prop where
  seg : Seg a b ks
  cls : ∀ k ∈ ks, C (opAt b.t k) = true
theorem Lst.nil {C : Int → Bool} (a : PS) : Lst C a a [] := ⟨Seg.refl a, nofun⟩
theorem Lst.same {C : Int → Bool} {a b b' : PS} {ks : List Nat} (h : Lst C a b ks) (e : b'.t = b.t) : Lst C a b' ks := ⟨h.seg.same e, by rw [e]; exact h.cls⟩
theorem cls_pre {C : Int → Bool} {b c : PS} {ks : List Nat} (h : ∀ k ∈ ks, C (opAt b.t k) = true) (hl : ∀ k ∈ ks, k < b.t.length) (hp : b.t <+: c.t) : ∀ k ∈ ks, C (opAt c.t k) = true := fun k hk => by
  rw [opAt_pre (hl k hk) hp]; exact h k hk
theorem Lst.app {C : Int → Bool} {a b c : PS} {ks ls : List Nat} (h : Lst C a b ks) (k : Lst C b c ls) : Lst C a c (ks ++ ls) :=
  ⟨h.seg.trans k.seg, fun q hq => by
    rcases List.mem_append.1 hq with q1 | q1
    · exact cls_pre h.cls h.seg.lt k.seg.pre q q1
    · exact k.cls q q1⟩
theorem Lst.imp {C D : Int → Bool} {a b : PS} {ks : List Nat} (h : Lst C a b ks) (hi : ∀ o, C o = true → D o = true) : Lst D a b ks := ⟨h.seg, fun k hk => hi _ (h.cls k hk)⟩
/-- A parser of a node of the class. -/
def OneC (l : List Tok) (C : Int → Bool) (one : Pr Nat) : Prop := ∀ st a st', st.p ≤ l.length → one st = .ok (a, st') → Lst C st st' [a]

theorem whole_of {set : List UInt8} {ops : List Int} {lo hi : Int} (h : ∀ o ∈ ops, letterF o ∈ set) (h1 : lo ≤ ops.length) (h2 : ops.length ≤ hi) : wholeF set (ops.map letterF) lo hi = true := by
  rw [wholeF_eq]
  simp only [Bool.and_eq_true, List.all_eq_true, decide_eq_true_eq, List.length_map]
  exact ⟨fun c hc => by obtain ⟨o, ho, rfl⟩ := List.mem_map.1 hc; exact h o ho, h1, h2⟩
theorem run_last {set : List UInt8} {ops : List Int} {o : Int} {x : UInt8} {lo hi : Int} (hx : x ∉ set) (h : ∀ o ∈ ops, letterF o ∈ set) (ho : letterF o = x) (h1 : lo ≤ ops.length) (h2 : ops.length ≤ hi) : (runOk set ((ops ++ [o]).map letterF) lo hi && decide (runR set ((ops ++ [o]).map letterF) = [x])) = true := by
  rw [runR_one hx]
  simp only [List.map_append, List.map_cons, List.map_nil, List.length_append, List.length_map, List.length_cons, List.length_nil, Bool.and_eq_true, List.all_eq_true, decide_eq_true_eq]
  refine ⟨⟨fun c hc => ?_, by omega, by omega⟩, by simp [ho]⟩
  rw [show ops.length + (0 + 1) - 1 = (ops.map letterF).length from by simp, List.take_left] at hc
  obtain ⟨q, hq, rfl⟩ := List.mem_map.1 hc
  exact h q hq
theorem good_of {op num : Int} {tx : ByteArray} {kids : List Nat} {ops : List Int} (hl : ops.length = kids.length) (h1 : shapedF op (ops.map letterF) = true) (h2 : namedF op (bs tx) kids.length = true) (h3 : numberedF op num = true) (h4 : (bs tx).length ≤ 8000) (h5 : num ≤ 9223372036854775807) : goodS ops ⟨op, tx, num, ik kids⟩ = true := by
  unfold goodS goodF
  simp only [Bool.and_eq_true, decide_eq_true_eq]
  refine ⟨⟨⟨h1, ?_⟩, h3⟩, h4, h5⟩
  rw [show ((⟨op, tx, num, ik kids⟩ : Nd).kids.length : Int) = kids.length from by simp [ik]]
  exact h2
def cE (o : Int) : Bool := decide (letterF o = 101)
def cP (o : Int) : Bool := decide (letterF o = 112)
def cT (o : Int) : Bool := decide (letterF o ∈ [(118 : UInt8), 116])
def cO (x : Int) (o : Int) : Bool := decide (o = x)
def clsS : Sym → Int → Bool
  | .expr _ | .operand | .cases | .atom => cE
  | .pat | .apat => cP
  | .whole | .atype => cT
  | .clause => cO 19 | .rhs _ => cO 15 | .decls => cO 18 | .data => cO 21
section
variable {l : List Tok} {en : Nat} {C : Int → Bool} {a0 : PS}
theorem many_seg {B : Nat → Bool} {one : Pr Nat} (h1 : OneC l C one) (hO : One l one) : ∀ (f : Nat) (kids : List Nat) (st : PS) (ks : List Nat) (st' : PS), st.p ≤ l.length → Lst C a0 st kids → kids.length ≤ 8 → manyF l en B one f kids st = .ok (ks, st') → Lst C a0 st' ks ∧ ks.length ≤ 8 ∧ kids.length ≤ ks.length
  | 0, kids, st, ks, st', hp, hi, h8, h => by
    rw [manyF] at h
    obtain ⟨rfl, rfl⟩ := ok_inj h
    exact ⟨hi, h8, Nat.le_refl _⟩
  | f + 1, kids, st, ks, st', hp, hi, h8, h => by
    rw [manyF] at h
    split at h
    · split at h
      · cases h
      · rename_i hn
        obtain ⟨a, st1, e1, e2⟩ := bind_ok h
        obtain ⟨r1, r2, r3⟩ := many_seg h1 hO f _ st1 ks st' (hO st a st1 hp e1).1.e (hi.app (h1 st a st1 hp e1)) (by simp; omega) e2
        exact ⟨r1, r2, by simp at r3; omega⟩
    · obtain ⟨rfl, rfl⟩ := ok_inj h
      exact ⟨hi, h8, Nat.le_refl _⟩
theorem commasF_seg {one : Pr Nat} (h1 : OneC l C one) (hO : One l one) {fin : List UInt8} {most : Nat} : ∀ (f : Nat) (kids : List Nat) (st : PS) (ks : List Nat) (st' : PS), st.p ≤ l.length → Lst C a0 st kids → (most ≠ 0 → kids.length ≤ most) → commasF l en one fin most f kids st = .ok (ks, st') → Lst C a0 st' ks ∧ (most ≠ 0 → ks.length ≤ most) ∧ kids.length ≤ ks.length
  | 0, kids, st, ks, st', hp, hi, h8, h => by
    rw [commasF] at h
    obtain ⟨rfl, rfl⟩ := ok_inj h
    exact ⟨hi, h8, Nat.le_refl _⟩
  | f + 1, kids, st, ks, st', hp, hi, h8, h => by
    rw [commasF] at h
    split at h
    · rename_i hb
      split at h
      · cases h
      · rename_i hn
        obtain ⟨a, st1, e1, e2⟩ := bind_ok h
        have ga := adv_gr (isP_lt hb)
        obtain ⟨r1, r2, r3⟩ := commasF_seg h1 hO f _ st1 ks st' (hO _ a st1 ga.e e1).1.e (Lst.app (b := adv st) (hi.same rfl) (h1 _ a st1 ga.e e1)) (fun q => by have := h8 q; simp; omega) e2
        exact ⟨r1, r2, by simp at r3; omega⟩
    · obtain ⟨u, st1, e1, e2⟩ := bind_ok h
      obtain ⟨rfl, rfl⟩ := ok_inj e2
      have : st1.t = st.t := by
        unfold takeP at e1
        split at e1
        · obtain ⟨_, rfl⟩ := ok_inj e1; rfl
        · cases e1
      exact ⟨hi.same this, h8, Nat.le_refl _⟩
theorem commas_seg {one : Pr Nat} (h1 : OneC l C one) (hO : One l one) {fin : List UInt8} {most : Nat} {st : PS} {ks : List Nat} {st' : PS} (hp : st.p ≤ l.length) (h : commasP l en one fin most st = .ok (ks, st')) : Lst C st st' ks ∧ (most ≠ 0 → ks.length ≤ most) ∧ 1 ≤ ks.length := by
  unfold commasP at h
  obtain ⟨a, st1, e1, e2⟩ := bind_ok h
  exact commasF_seg h1 hO _ _ st1 ks st' (hO st a st1 hp e1).1.e (h1 st a st1 hp e1) (fun q => Nat.pos_of_ne_zero q) e2
theorem semis_seg {B : Nat → Bool} {one : Pr Nat} (h1 : OneC l C one) (hO : One l one) : ∀ (f : Nat) (kids : List Nat) (st : PS) (ks : List Nat) (st' : PS), st.p ≤ l.length → Lst C a0 st kids → semisF l B one f kids st = .ok (ks, st') → Lst C a0 st' ks
  | 0, kids, st, ks, st', hp, hi, h => by
    rw [semisF] at h
    obtain ⟨rfl, rfl⟩ := ok_inj h
    exact hi
  | f + 1, kids, st, ks, st', hp, hi, h => by
    rw [semisF] at h
    obtain ⟨k1, st1, e1, e2⟩ := bind_ok h
    have h2 : st1.p ≤ l.length ∧ Lst C a0 st1 k1 := by
      split at e1
      · obtain ⟨a, st2, q1, q2⟩ := bind_ok e1
        obtain ⟨rfl, rfl⟩ := ok_inj q2
        exact ⟨(hO st a st2 hp q1).1.e, hi.app (h1 st a st2 hp q1)⟩
      · obtain ⟨rfl, rfl⟩ := ok_inj e1
        exact ⟨hp, hi⟩
    split at e2
    · rename_i hb
      exact semis_seg h1 hO f k1 (adv st1) ks st' (adv_gr (isP_lt hb)).e (h2.2.same rfl) e2
    · obtain ⟨rfl, rfl⟩ := ok_inj e2
      exact h2.2
theorem take_t {tx : List UInt8} {st st' : PS} {u : Unit} (h : takeP l en tx st = .ok (u, st')) : st'.t = st.t := by
  unfold takeP at h
  split at h
  · obtain ⟨_, rfl⟩ := ok_inj h; rfl
  · cases h
theorem name_t {k : Int} {st st' : PS} {nm : List UInt8} (h : nameP l en k st = .ok (nm, st')) : st'.t = st.t := by
  unfold nameP at h
  split at h
  · obtain ⟨_, rfl⟩ := ok_inj h; rfl
  · cases h
theorem pname_tok {k : Int} {st st' : PS} {nm : List UInt8} (hk : k ≠ 0) (h : nameP l en k st = .ok (nm, st')) : ∃ q ∈ l, q.kind = k ∧ q.text = nm := by
  unfold nameP at h
  split at h
  · rename_i hi
    obtain ⟨rfl, _⟩ := ok_inj h
    have hlt := kindP_lt (l := l) (p := st.p) (by rw [hi]; exact hk)
    refine ⟨l[st.p], List.getElem_mem hlt, ?_, ?_⟩
    · unfold kindP at hi; rw [List.getElem?_eq_getElem hlt] at hi; exact hi
    · unfold textP; rw [List.getElem?_eq_getElem hlt]
  · cases h
/-- One node is laid over the roots behind r. -/
theorem Lst.put {a b : PS} {r kids : List Nat} (h : Seg a b (r ++ kids)) {op : Int} {tx : List UInt8} {k : Nat} {st' : PS} (e : putP op tx kids b = .ok (k, st')) (h1 : kids.length ≤ 6000 → shapedF op ((kids.map (opAt b.t)).map letterF) = true) (h2 : namedF op tx kids.length = true) (h3 : numberedF op 0 = true) (h20 : op ≠ 20) (h4 : tx.length ≤ 8000) : Seg a st' (r ++ [k]) ∧ opAt st'.t k = op := by
  unfold putP at e
  obtain ⟨rfl, rfl⟩ := ok_inj e
  exact ⟨h.put (fun q => good_of (by simp) (h1 q) (by rw [bs_ofL]; exact h2) h3 (by rw [bs_ofL]; exact h4) (by decide)) h20, opAt_last⟩
end
end Go.Proofs.YtikgokpbhldlnaaGreatDoor
end

section
/- The plain law of the parser: each rule lays what is sound. -/
namespace Go.Proofs.YtikgokpbhldlnaaGreatDoor
open Go Go.Ab

theorem all_of {C : Int → Bool} {set : List UInt8} {t : List Nd} {ks : List Nat} (h : ∀ k ∈ ks, C (opAt t k) = true) (hC : ∀ o, C o = true → letterF o ∈ set) : ∀ o ∈ ks.map (opAt t), letterF o ∈ set := fun o ho => by
  obtain ⟨k, hk, rfl⟩ := List.mem_map.1 ho
  exact hC _ (h k hk)
theorem cE_mem (o : Int) (h : cE o = true) : letterF o ∈ [(101 : UInt8)] := by rw [of_decide_eq_true h]; simp
theorem cP_mem (o : Int) (h : cP o = true) : letterF o ∈ [(112 : UInt8)] := by rw [of_decide_eq_true h]; simp
theorem cT_mem (o : Int) (h : cT o = true) : letterF o ∈ [(118 : UInt8), 116] := of_decide_eq_true h
theorem cO_eq {x o : Int} (h : cO x o = true) : o = x := of_decide_eq_true h
theorem shE {op : Int} {t : List Nd} {ks : List Nat} {lo hi : Int} (hs : ∀ l, wholeF [101] l lo hi = true → shapedF op l = true) (h : ∀ k ∈ ks, cE (opAt t k) = true) (h1 : lo ≤ ks.length) (h2 : ks.length ≤ hi) : shapedF op ((ks.map (opAt t)).map letterF) = true :=
  hs _ (whole_of (all_of h cE_mem) (by simpa using h1) (by simpa using h2))
theorem shP {op : Int} {t : List Nd} {ks : List Nat} {lo hi : Int} (hs : ∀ l, wholeF [112] l lo hi = true → shapedF op l = true) (h : ∀ k ∈ ks, cP (opAt t k) = true) (h1 : lo ≤ ks.length) (h2 : ks.length ≤ hi) : shapedF op ((ks.map (opAt t)).map letterF) = true :=
  hs _ (whole_of (all_of h cP_mem) (by simpa using h1) (by simpa using h2))
theorem shT {op : Int} {t : List Nd} {ks : List Nat} {lo hi : Int} (hs : ∀ l, wholeF [118, 116] l lo hi = true → shapedF op l = true) (h : ∀ k ∈ ks, cT (opAt t k) = true) (h1 : lo ≤ ks.length) (h2 : ks.length ≤ hi) : shapedF op ((ks.map (opAt t)).map letterF) = true :=
  hs _ (whole_of (all_of h cT_mem) (by simpa using h1) (by simpa using h2))
theorem two_let {t : List Nd} {a b : Nat} {x y : UInt8} (ha : letterF (opAt t a) = x) (hb : letterF (opAt t b) = y) : (([a, b].map (opAt t)).map letterF) = [x, y] := by simp [ha, hb]
section
variable {l : List Tok} {en : Nat} {C : Int → Bool} {a0 : PS}
theorem cls2 {C D : Int → Bool} {a b c : PS} {x y : Nat} (h : Lst C a b [x]) (k : Lst D b c [y]) : Seg a c [x, y] ∧ C (opAt c.t x) = true ∧ D (opAt c.t y) = true :=
  ⟨h.seg.trans k.seg, cls_pre h.cls h.seg.lt k.seg.pre x (by simp), k.cls y (by simp)⟩
theorem put1 {a b : PS} {kids : List Nat} {C : Int → Bool} (h : Seg a b kids) {op : Int} {tx : List UInt8} {k : Nat} {st' : PS} (e : putP op tx kids b = .ok (k, st')) (h1 : kids.length ≤ 6000 → shapedF op ((kids.map (opAt b.t)).map letterF) = true) (h2 : namedF op tx kids.length = true) (h3 : numberedF op 0 = true) (h20 : op ≠ 20) (hC : C op = true) (h4 : tx.length ≤ 8000 := by decide) : Lst C a st' [k] := by
  obtain ⟨r1, r2⟩ := Lst.put (r := []) (by simpa using h) e h1 h2 h3 h20 h4
  exact ⟨by simpa using r1, fun q hq => by obtain rfl : q = k := by simpa using hq
                                           rw [r2]; exact hC⟩
theorem leaf_seg (ht : TokOkP l) {ops : List Int} (ho : ops = [1, 2, 3, 4, 5] ∧ C = cE ∨ ops = [25, 30, 27, 28, 29] ∧ C = cP) {st : PS} (h5 : ops = [25, 30, 27, 28, 29] → ¬ (kindP l st.p = 5 ∧ 64 < (textP l st.p).length)) (hk : ∃ k, l[st.p]? = some k ∧ 1 ≤ k.kind ∧ k.kind ≤ 5) {a : Nat} {st' : PS} (h : leafP l ops st = .ok (a, st')) : Lst C st st' [a] := by
  obtain ⟨k, hk, hk1, hk2⟩ := hk
  unfold leafP at h
  rw [hk] at h
  obtain ⟨rfl, rfl⟩ := ok_inj h
  have hm := List.mem_of_getElem? hk
  have hkp : kindP l st.p = k.kind := by unfold kindP; rw [hk]
  have htp : textP l st.p = k.text := by unfold textP; rw [hk]
  have key : goodS [] ⟨ops.getD (k.kind - 1).toNat 0, ofL k.text, k.num, ik []⟩ = true ∧ ops.getD (k.kind - 1).toNat 0 ≠ 20 ∧ C (ops.getD (k.kind - 1).toNat 0) = true := by
    have hcases : k.kind = 1 ∨ k.kind = 2 ∨ k.kind = 3 ∨ k.kind = 4 ∨ k.kind = 5 := by omega
    rcases ho with ⟨rfl, rfl⟩ | ⟨rfl, rfl⟩
    · rcases hcases with e | e | e | e | e <;> rw [e]
      · have := ht.v k hm e
        exact ⟨good_of rfl rfl (by rw [bs_ofL]; exact decide_eq_true this.1) (by rw [this.2]; rfl) (by rw [bs_ofL]; exact ht.tl k hm) (ht.nl k hm), by decide, by decide⟩
      · have := ht.c k hm e
        exact ⟨good_of rfl rfl (by rw [bs_ofL]; show (decide (nameF k.text = 2) || decide (k.text = [40, 41])) = true; rw [decide_eq_true this.1]; rfl) (by rw [this.2]; rfl) (by rw [bs_ofL]; exact ht.tl k hm) (ht.nl k hm), by decide, by decide⟩
      · have := ht.i k hm e
        exact ⟨good_of rfl rfl (by rw [bs_ofL]; exact decide_eq_true this.1) (decide_eq_true this.2) (by rw [bs_ofL]; exact ht.tl k hm) (ht.nl k hm), by decide, by decide⟩
      · have := ht.h k hm e
        exact ⟨good_of rfl rfl (by rw [bs_ofL]; exact decide_eq_true this.1) (by show (decide (0 ≤ k.num) && decide (k.num ≤ 255)) = true; rw [decide_eq_true this.2.1, decide_eq_true this.2.2]; rfl) (by rw [bs_ofL]; exact ht.tl k hm) (ht.nl k hm), by decide, by decide⟩
      · have := ht.s k hm e
        exact ⟨good_of rfl rfl rfl (by rw [this]; rfl) (by rw [bs_ofL]; exact ht.tl k hm) (ht.nl k hm), by decide, by decide⟩
    · rcases hcases with e | e | e | e | e <;> rw [e]
      · have := ht.v k hm e
        exact ⟨good_of rfl rfl (by rw [bs_ofL]; exact decide_eq_true this.1) (by rw [this.2]; rfl) (by rw [bs_ofL]; exact ht.tl k hm) (ht.nl k hm), by decide, by decide⟩
      · have := ht.c k hm e
        exact ⟨good_of rfl rfl (by rw [bs_ofL]; show ((decide (nameF k.text = 2) || (decide (k.text = [40, 41]) && decide ((([] : List Nat).length : Int) = 0))) || (decide (k.text = [58]) && decide ((([] : List Nat).length : Int) = 2))) = true; rw [decide_eq_true this.1]; rfl) (by rw [this.2]; rfl) (by rw [bs_ofL]; exact ht.tl k hm) (ht.nl k hm), by decide, by decide⟩
      · have := ht.i k hm e
        exact ⟨good_of rfl rfl (by rw [bs_ofL]; exact decide_eq_true this.1) (decide_eq_true this.2) (by rw [bs_ofL]; exact ht.tl k hm) (ht.nl k hm), by decide, by decide⟩
      · have := ht.h k hm e
        exact ⟨good_of rfl rfl (by rw [bs_ofL]; exact decide_eq_true this.1) (by show (decide (0 ≤ k.num) && decide (k.num ≤ 255)) = true; rw [decide_eq_true this.2.1, decide_eq_true this.2.2]; rfl) (by rw [bs_ofL]; exact ht.tl k hm) (ht.nl k hm), by decide, by decide⟩
      · have := ht.s k hm e
        have h64 : ¬ 64 < k.text.length := fun q => h5 rfl ⟨by rw [hkp, e], by rw [htp]; exact q⟩
        exact ⟨good_of rfl rfl (by rw [bs_ofL]; show decide ((k.text.length : Int) ≤ 64) = true; exact decide_eq_true (by omega)) (by rw [this]; rfl) (by rw [bs_ofL]; exact ht.tl k hm) (ht.nl k hm), by decide, by decide⟩
  have hs := Seg.put (a := st) (b := st) (r := []) (kids := []) (Seg.refl st) (op := ops.getD (k.kind - 1).toNat 0) (num := k.num) (tx := ofL k.text) (fun _ => key.1) key.2.1 (p := st.p + 1)
  exact ⟨hs, fun q hq => by
    obtain rfl : q = st.t.length := by simpa using hq
    rw [show ((⟨st.t ++ [⟨ops.getD (k.kind - 1).toNat 0, ofL k.text, k.num, []⟩], st.p + 1⟩ : PS).t) = st.t ++ [⟨ops.getD (k.kind - 1).toNat 0, ofL k.text, k.num, []⟩] from rfl, opAt_last]
    exact key.2.2⟩
theorem begin_tokP {p : Nat} (h : ((atomicP l p && !isP l p [40]) && !isP l p [91]) = true) : ∃ k, l[p]? = some k ∧ 1 ≤ k.kind ∧ k.kind ≤ 5 := by
  simp only [atomicP, beginsP, Bool.and_eq_true, Bool.or_eq_true, Bool.not_eq_true', decide_eq_true_eq] at h
  obtain ⟨⟨⟨h1, h2⟩, h3⟩, h4⟩ := h
  rw [h2, h3, h4] at h1
  simp only [Bool.false_eq_true, or_false] at h1
  have hlt := kindP_lt (l := l) (p := p) (by omega)
  refine ⟨l[p], List.getElem?_eq_getElem hlt, ?_⟩
  unfold kindP at h1
  rw [List.getElem?_eq_getElem hlt] at h1
  exact h1
/-- What brackets may lay. -/
structure BrOk (C : Int → Bool) (x y z : Int) : Prop where
  x1 : ∀ (t : List Nd) (ks : List Nat), (∀ k ∈ ks, C (opAt t k) = true) → ks.length ≤ 6000 → shapedF x ((ks.map (opAt t)).map letterF) = true
  x2 : ∀ k : Int, namedF x [] k = true
  y1 : ∀ (t : List Nd) (ks : List Nat), (∀ k ∈ ks, C (opAt t k) = true) → 2 ≤ ks.length → ks.length ≤ 8 → shapedF y ((ks.map (opAt t)).map letterF) = true
  y2 : ∀ k : Int, namedF y [] k = true
  z1 : shapedF z [] = true
  z2 : namedF z [40, 41] 0 = true
  n : numberedF x 0 = true ∧ numberedF y 0 = true ∧ numberedF z 0 = true
  d : x ≠ 20 ∧ y ≠ 20 ∧ z ≠ 20
  c : C x = true ∧ C y = true ∧ C z = true
theorem brE : BrOk cE 12 11 2 := ⟨fun t ks h h6 => shE (lo := 0) (hi := 6000) (fun _ q => q) h (by omega) (by omega), fun _ => rfl, fun t ks h h2 h8 => shE (lo := 2) (hi := 8) (fun _ q => q) h (by omega) (by omega), fun _ => rfl, rfl, rfl, ⟨rfl, rfl, rfl⟩, by decide, by decide⟩
theorem brP : BrOk cP 32 31 30 := ⟨fun t ks h h6 => shP (lo := 0) (hi := 6000) (fun _ q => q) h (by omega) (by omega), fun _ => rfl, fun t ks h h2 h8 => shP (lo := 2) (hi := 8) (fun _ q => q) h (by omega) (by omega), fun _ => rfl, rfl, rfl, ⟨rfl, rfl, rfl⟩, by decide, by decide⟩
theorem brackets_seg {one : Pr Nat} (h1 : OneC l C one) (hO : One l one) {x y z : Int} (hb : BrOk C x y z) : OneC l C (bracketsP l en one x y z) := fun st a st' hp h => by
  unfold bracketsP at h
  split at h
  · rename_i hi
    have g1 := adv_gr (isP_lt hi)
    split at h
    · have := put1 (C := C) (Seg.refl (adv (adv st))) h (fun _ => hb.x1 _ [] nofun (by simp)) (hb.x2 _) hb.n.1 hb.d.1 hb.c.1
      exact ⟨this.seg.same' rfl, this.cls⟩
    · obtain ⟨ks, s1, e1, e2⟩ := bind_ok h
      obtain ⟨r1, _, _⟩ := commas_seg h1 hO g1.e e1
      have := put1 (C := C) r1.seg e2 (fun q => hb.x1 _ _ r1.cls q) (hb.x2 _) hb.n.1 hb.d.1 hb.c.1
      exact ⟨this.seg.same' rfl, this.cls⟩
  · obtain ⟨u, s1, e1, e2⟩ := bind_ok h
    have g1 := take_gr e1
    have ht := take_t e1
    split at e2
    · have := put1 (C := C) (Seg.refl (adv s1)) e2 (fun _ => hb.z1) hb.z2 hb.n.2.2 hb.d.2.2 hb.c.2.2
      exact ⟨this.seg.same' ht.symm, this.cls⟩
    · obtain ⟨ks, s2, e3, e4⟩ := bind_ok e2
      obtain ⟨r1, r2, r3⟩ := commas_seg h1 hO g1.e e3
      split at e4
      · rename_i hk
        obtain ⟨rfl, rfl⟩ := ok_inj e4
        obtain ⟨w, rfl⟩ := List.length_eq_one_iff.1 hk
        exact ⟨r1.seg.same' ht.symm, r1.cls⟩
      · have := put1 (C := C) r1.seg e4 (fun _ => hb.y1 _ _ r1.cls (by omega) (r2 (by decide))) (hb.y2 _) hb.n.2.1 hb.d.2.1 hb.c.2.1
        exact ⟨this.seg.same' ht.symm, this.cls⟩
theorem opP_text {p : Nat} {o : List UInt8 × Int × Int} (h : opP l p = some o) : opList.any (fun q => decide (q.1 = o.1)) = true := by
  unfold opP at h
  rw [List.any_eq_true]
  exact ⟨o, List.mem_of_find?_eq_some h, decide_eq_true rfl⟩
theorem opP_len {p : Nat} {o : List UInt8 × Int × Int} (h : opP l p = some o) : o.1.length ≤ 8000 := by
  unfold opP at h
  have : ∀ o ∈ opList, o.1.length ≤ 8000 := by decide
  exact this o (List.mem_of_find?_eq_some h)
theorem expr_seg {E : Int → Pr Nat} (h1 : ∀ v, OneC l cE (E v)) (hO : ∀ v, One l (E v)) {lv : Int} : ∀ (f a : Nat) (st : PS) (b : Nat) (st' : PS), st.p ≤ l.length → Lst cE a0 st [a] → exprF l en E lv f a st = .ok (b, st') → Lst cE a0 st' [b]
  | 0, a, st, b, st', hp, ha, h => by
    rw [exprF] at h
    obtain ⟨rfl, rfl⟩ := ok_inj h
    exact ha
  | f + 1, a, st, b, st', hp, ha, h => by
    rw [exprF] at h
    split at h
    · obtain ⟨rfl, rfl⟩ := ok_inj h
      exact ha
    · rename_i o ho
      split at h
      · obtain ⟨rfl, rfl⟩ := ok_inj h
        exact ha
      · have hlt : st.p < l.length := by
          unfold opP at ho
          have := List.find?_some ho
          rw [Bool.and_eq_true] at this
          exact isP_lt this.2
        have g0 := adv_gr hlt
        obtain ⟨x, s1, e1, e2⟩ := bind_ok h
        obtain ⟨g1, _⟩ := hO _ _ _ _ g0.e e1
        have r1 := h1 _ _ _ _ g0.e e1
        obtain ⟨c, s2, e3, e4⟩ := bind_ok e2
        obtain ⟨g2, g3⟩ := put_gr g1.e e3
        obtain ⟨q1, q2, q3⟩ := cls2 (ha.same (b' := adv st) rfl) r1
        have r2 := put1 (C := cE) q1 e3 (fun _ => by
          rw [two_let (of_decide_eq_true q2) (of_decide_eq_true q3)]; rfl) (opP_text ho) rfl (by decide) (by decide) (opP_len ho)
        split at e4
        · cases e4
        · exact expr_seg h1 hO f c s2 b st' g2.e r2 e4
theorem guard_seg {E : Pr Nat} (h1 : OneC l cE E) (hO : One l E) {sep : List UInt8} : ∀ (f : Nat) (kids : List Nat) (st : PS) (ks : List Nat) (st' : PS), st.p ≤ l.length → Lst (cO 16) a0 st kids → guardF l en E sep f kids st = .ok (ks, st') → Lst (cO 16) a0 st' ks ∧ kids.length ≤ ks.length
  | 0, kids, st, ks, st', hp, hi, h => by
    rw [guardF] at h
    obtain ⟨rfl, rfl⟩ := ok_inj h
    exact ⟨hi, Nat.le_refl _⟩
  | f + 1, kids, st, ks, st', hp, hi, h => by
    rw [guardF] at h
    split at h
    · obtain ⟨_, s1, e1, h⟩ := bind_ok h
      obtain ⟨a, s2, e2, h⟩ := bind_ok h
      obtain ⟨_, s3, e3, h⟩ := bind_ok h
      obtain ⟨b, s4, e4, h⟩ := bind_ok h
      obtain ⟨g, s5, e5, h⟩ := bind_ok h
      have g1 := take_gr e1
      obtain ⟨g2, _⟩ := hO _ _ _ g1.e e2
      have g3 := take_gr e3
      obtain ⟨g4, _⟩ := hO _ _ _ g3.e e4
      obtain ⟨g5, q5⟩ := put_gr g4.e e5
      have r2 := h1 _ _ _ g1.e e2
      have r4 := h1 _ _ _ g3.e e4
      obtain ⟨q1, q2, q3⟩ := cls2 (r2.same (take_t e3)) r4
      have r5 := put1 (C := cO 16) q1 e5 (fun _ => by
          rw [two_let (of_decide_eq_true q2) (of_decide_eq_true q3)]; rfl) rfl rfl (by decide) (by decide)
      have r6 : Lst (cO 16) st s5 [g] := ⟨r5.seg.same' (take_t e1).symm, r5.cls⟩
      obtain ⟨w1, w2⟩ := guard_seg h1 hO f _ s5 ks st' g5.e (hi.app r6) h
      exact ⟨w1, by simp at w2; omega⟩
    · obtain ⟨rfl, rfl⟩ := ok_inj h
      exact ⟨hi, Nat.le_refl _⟩
theorem var_seg (ht : TokOkP l) : OneC l (cO 23) (varF l en) := fun st a st' hp h => by
  unfold varF at h
  obtain ⟨nm, s1, e1, h⟩ := bind_ok h
  obtain ⟨q, hq, hq1, hq2⟩ := pname_tok (by decide) e1
  have := (ht.v q hq hq1).1
  rw [hq2] at this
  have r := put1 (C := cO 23) (Seg.refl s1) h (fun _ => rfl) (by exact decide_eq_true this) rfl (by decide) (by decide) (by rw [← hq2]; exact ht.tl q hq)
  exact ⟨r.seg.same' (name_t e1).symm, r.cls⟩
theorem alt_seg {rec : Sym → Pr Nat} (h1 : ∀ s, OneC l (clsS s) (rec s)) (hO : ∀ s, One l (rec s)) : OneC l (cO 14) (altF rec) := fun st a st' hp h => by
  unfold altF at h
  obtain ⟨x, s1, e1, h⟩ := bind_ok h
  obtain ⟨y, s2, e2, h⟩ := bind_ok h
  have g1 := (hO _ _ _ _ hp e1).1
  obtain ⟨q1, q2, q3⟩ := cls2 (h1 _ _ _ _ hp e1) (h1 _ _ _ _ g1.e e2)
  exact put1 (C := cO 14) q1 h (fun _ => by
    rw [two_let (of_decide_eq_true q2) (show letterF _ = 114 by rw [cO_eq q3]; rfl)]; rfl) rfl rfl (by decide) (by decide)
theorem con_seg {atype : Pr Nat} (ht : TokOkP l) (h1 : OneC l cT atype) (hO : One l atype) {name : List UInt8} (hn : nameF name = 2) (hnl : name.length ≤ 8000) {vs : List Nat} (hvs : vs.length ≤ 8) : ∀ (f : Nat) (cs : List Nat) (st : PS) (a : Nat) (st' : PS), st.p ≤ l.length → Seg a0 st (vs ++ cs) → (∀ v ∈ vs, cO 23 (opAt st.t v) = true) → (∀ c ∈ cs, cO 22 (opAt st.t c) = true) → conF l en atype name f (vs ++ cs) st = .ok (a, st') → Lst (cO 21) a0 st' [a]
  | 0, cs, st, a, st', _, _, _, _, h => by rw [conF] at h; cases h
  | f + 1, cs, st, a, st', hp, hi, hv, hc, h => by
    rw [conF] at h
    obtain ⟨con, s1, e1, h⟩ := bind_ok h
    obtain ⟨ks, s2, e2, h⟩ := bind_ok h
    obtain ⟨c, s3, e3, h⟩ := bind_ok h
    have g1 := name_gr (by decide) e1
    obtain ⟨m, _, g2, _⟩ := many_gr hO _ _ _ _ _ g1.e (fun k hk => by cases hk) e2
    obtain ⟨g3, q3⟩ := put_gr g2.e e3
    obtain ⟨q, hq, hq1, hq2⟩ := pname_tok (by decide) e1
    have hcon := (ht.c q hq hq1).1
    rw [hq2] at hcon
    obtain ⟨r1, r2, _⟩ := many_seg h1 hO _ _ _ _ _ g1.e (Lst.nil s1) (by simp) e2
    have r3 := put1 (C := cO 22) r1.seg e3 (fun _ => shT (lo := 0) (hi := 8) (fun _ q => q) r1.cls (by omega) (by omega)) (by exact decide_eq_true hcon) rfl (by decide) (by decide) (by rw [← hq2]; exact ht.tl q hq)
    have r4 : Seg st s3 [c] := r3.seg.same' (name_t e1).symm
    have hseg : Seg a0 s3 (vs ++ (cs ++ [c])) := by rw [← List.append_assoc]; exact hi.trans r4
    have hv3 : ∀ v ∈ vs, cO 23 (opAt s3.t v) = true := cls_pre hv (fun v h => hi.lt v (List.mem_append_left _ h)) r4.pre
    have hc3 : ∀ x ∈ cs ++ [c], cO 22 (opAt s3.t x) = true := fun x hx => by
      rcases List.mem_append.1 hx with q1 | q1
      · exact cls_pre hc (fun v h => hi.lt v (List.mem_append_right _ h)) r4.pre x q1
      · exact r3.cls x q1
    rw [List.append_assoc] at h
    split at h
    · rename_i hb
      exact con_seg ht h1 hO hn hnl hvs f (cs ++ [c]) (adv s3) a st' (adv_gr (isP_lt hb)).e (hseg.same rfl) hv3 hc3 h
    · refine put1 (C := cO 21) hseg h (fun h6 => ?_) (by exact decide_eq_true hn) rfl (by decide) (by decide) hnl
      show (runOk [118] _ 0 8 && wholeF [107] (runR [118] _) 1 6000) = true
      have e1 : ∀ v ∈ vs, letterF (opAt s3.t v) = 118 := fun v h => by rw [cO_eq (hv3 v h)]; rfl
      have e2 : ∀ v ∈ cs ++ [c], letterF (opAt s3.t v) = 107 := fun v h => by rw [cO_eq (hc3 v h)]; rfl
      have hL : (((vs ++ (cs ++ [c])).map (opAt s3.t)).map letterF) = List.replicate vs.length 118 ++ List.replicate (cs.length + 1) 107 := by
        rw [List.map_append, List.map_append]
        congr 1
        · rw [List.eq_replicate_iff]
          exact ⟨by simp, fun b hb => by
            simp only [List.map_map, List.mem_map, Function.comp_apply] at hb
            obtain ⟨v, hv, rfl⟩ := hb; exact e1 v hv⟩
        · rw [List.eq_replicate_iff]
          exact ⟨by simp, fun b hb => by
            simp only [List.map_map, List.mem_map, Function.comp_apply] at hb
            obtain ⟨v, hv, rfl⟩ := hb; exact e2 v hv⟩
      have hrun : runR [118] (List.replicate vs.length 118 ++ List.replicate (cs.length + 1) 107) = List.replicate (cs.length + 1) 107 := by
        unfold runR
        rw [List.dropWhile_append_of_pos (fun x hx => by rw [List.eq_of_mem_replicate hx]; decide), List.replicate_succ, List.dropWhile_cons_of_neg (by decide)]
      rw [hL]
      unfold runOk
      rw [hrun, wholeF_eq]
      simp only [List.length_append, List.length_cons, List.length_nil] at h6
      simp only [Bool.and_eq_true, decide_eq_true_eq, List.length_append, List.length_replicate, List.all_eq_true]
      exact ⟨⟨by omega, by omega⟩, fun x hx => by rw [List.eq_of_mem_replicate hx]; simp, by omega, by omega⟩
end
end Go.Proofs.YtikgokpbhldlnaaGreatDoor
end

section
/- The plain law of the parser: all that it answers is sound. -/
namespace Go.Proofs.YtikgokpbhldlnaaGreatDoor
open Go Go.Ab
section
variable {l : List Tok} {en : Nat} {C : Int → Bool} {a0 : PS}
theorem Lst.from {a a' b : PS} {ks : List Nat} (h : Lst C a' b ks) (e : a'.t = a.t) : Lst C a b ks := ⟨h.seg.same' e.symm, h.cls⟩
theorem tuple_named {n : Nat} (h : 2 ≤ n) : namedF 24 (tupleName n) (n : Int) = true := by
  show tyNames (nameF (tupleName n)) (tupleName n) (n : Int) = true
  unfold tyNames
  have e1 : tupleName n = [40] ++ List.replicate ((n : Int) - 1).toNat 44 ++ [41] := by rw [show ((n : Int) - 1).toNat = n - 1 from by omega]; rfl
  rw [decide_eq_true (show (2 : Int) ≤ (n : Int) by omega), decide_eq_true e1]; simp
theorem con_named {nm : List UInt8} (h : nameF nm = 2) (k : Int) : namedF 24 nm k = true ∧ namedF 30 nm k = true := by
  constructor
  · show tyNames (nameF nm) nm k = true
    unfold tyNames
    rw [h]; rfl
  · show ((decide (nameF nm = 2) || _) || _) = true
    rw [h]; rfl
theorem body_seg (ht : TokOkP l) {rec : Sym → Pr Nat} (h1 : ∀ s, OneC l (clsS s) (rec s)) (hO : ∀ s, One l (rec s)) : ∀ s, OneC l (clsS s) (body l en rec s)
  | .expr lv => fun st a st' hp h => by
    simp only [body] at h
    obtain ⟨x, s1, e1, h⟩ := bind_ok h
    exact expr_seg (fun v => h1 (.expr v)) (fun v => hO (.expr v)) _ _ _ _ _ (hO _ _ _ _ hp e1).1.e (h1 .operand _ _ _ hp e1) h
  | .operand => fun st a st' hp h => by
    simp only [body] at h
    split at h
    · rename_i hb
      have g0 := adv_gr (isP_lt hb)
      obtain ⟨x, s1, e1, h⟩ := bind_ok h
      obtain ⟨ks, s2, e2, h⟩ := bind_ok h
      obtain ⟨_, s3, e3, h⟩ := bind_ok h
      obtain ⟨y, s4, e4, h⟩ := bind_ok h
      obtain ⟨g1, q1⟩ := hO _ _ _ _ g0.e e1
      obtain ⟨m, _, g2, _⟩ := many_gr (hO .apat) _ _ _ _ _ g1.e (Ins.one q1) e2
      have g3 := take_gr e3
      obtain ⟨r2, r3, r4⟩ := many_seg (h1 .apat) (hO .apat) _ _ _ _ _ g1.e (h1 .apat _ _ _ g0.e e1) (by simp) e2
      have r5 := h1 (.expr 0) _ _ _ g3.e e4
      have hs : Seg (adv st) s4 (ks ++ [y]) := (r2.seg.same (take_t e3)).trans r5.seg
      have hcl := cls_pre (c := s4) r2.cls r2.seg.lt (by rw [← take_t e3]; exact r5.seg.pre)
      refine (put1 (C := cE) hs h (fun _ => ?_) rfl rfl (by decide) (by decide)).from rfl
      rw [List.map_append]
      simp only [List.length_cons, List.length_nil] at r4
      exact run_last (x := 101) (o := opAt s4.t y) (by decide) (all_of hcl cP_mem) (of_decide_eq_true (r5.cls y (by simp))) (by simp; omega) (by simp; omega)
    split at h
    · rename_i hb
      have g0 := adv_gr (isP_lt hb)
      obtain ⟨x, s1, e1, h⟩ := bind_ok h
      obtain ⟨_, s2, e2, h⟩ := bind_ok h
      obtain ⟨y, s3, e3, h⟩ := bind_ok h
      have g2 := take_gr e2
      obtain ⟨q1, q2, q3⟩ := cls2 ((h1 .decls _ _ _ g0.e e1).same (take_t e2)) (h1 (.expr 0) _ _ _ g2.e e3)
      exact (put1 (C := cE) q1 h (fun _ => by rw [two_let (show letterF _ = 100 by rw [cO_eq q2]; rfl) (of_decide_eq_true q3)]; rfl) rfl rfl (by decide) (by decide)).from rfl
    split at h
    · rename_i hb
      have g0 := adv_gr (isP_lt hb)
      obtain ⟨x, s1, e1, h⟩ := bind_ok h
      obtain ⟨_, s2, e2, h⟩ := bind_ok h
      obtain ⟨y, s3, e3, h⟩ := bind_ok h
      obtain ⟨_, s4, e4, h⟩ := bind_ok h
      obtain ⟨z, s5, e5, h⟩ := bind_ok h
      have g2 := take_gr e2
      have g4 := take_gr e4
      have r1 := ((h1 (.expr 0) _ _ _ g0.e e1).same (take_t e2)).app (h1 (.expr 0) _ _ _ g2.e e3)
      have r2 := (r1.same (take_t e4)).app (h1 (.expr 0) _ _ _ g4.e e5)
      refine (put1 (C := cE) r2.seg h (fun _ => ?_) rfl rfl (by decide) (by decide)).from rfl
      have a1 := of_decide_eq_true (r2.cls x (by simp))
      have a2 := of_decide_eq_true (r2.cls y (by simp))
      have a3 := of_decide_eq_true (r2.cls z (by simp))
      show decide _ = true
      simp [a1, a2, a3]
    split at h
    · rename_i hb
      have g0 := adv_gr (isP_lt hb)
      exact (h1 .cases _ _ _ g0.e h).from rfl
    · obtain ⟨x, s1, e1, h⟩ := bind_ok h
      obtain ⟨ks, s2, e2, h⟩ := bind_ok h
      obtain ⟨g1, q1⟩ := hO _ _ _ _ hp e1
      obtain ⟨r2, r3, r4⟩ := many_seg (h1 .atom) (hO .atom) _ _ _ _ _ g1.e (Lst.nil s1) (by simp) e2
      have r5 := (h1 .atom _ _ _ hp e1).app r2
      split at h
      · rename_i hk
        obtain ⟨rfl, rfl⟩ := ok_inj h
        obtain rfl := List.length_eq_zero_iff.1 hk
        exact r5
      · rename_i hk
        exact put1 (C := cE) r5.seg h (fun _ => shE (lo := 2) (hi := 9) (fun _ q => q) r5.cls (by simp; omega) (by simp; omega)) rfl rfl (by decide) (by decide)
  | .cases => fun st a st' hp h => by
    simp only [body] at h
    obtain ⟨x, s1, e1, h⟩ := bind_ok h
    obtain ⟨_, s2, e2, h⟩ := bind_ok h
    obtain ⟨_, s3, e3, h⟩ := bind_ok h
    obtain ⟨ks, s4, e4, h⟩ := bind_ok h
    have g3 := take_gr e3
    have r4 := semis_seg (alt_seg h1 hO) (alt_gr hO) _ _ _ _ _ g3.e (Lst.nil s3) e4
    have r1 := h1 (.expr 0) _ _ _ hp e1
    split at h
    · cases h
    · rename_i hk
      obtain ⟨_, s5, e5, h⟩ := bind_ok h
      have t5 := take_t e5
      have r1' : Seg st s3 [x] := r1.seg.same ((take_t e3).trans (take_t e2))
      have hs : Seg st s5 ([x] ++ ks) := (r1'.trans r4.seg).same t5
      have hx : cE (opAt s5.t x) = true := by
        rw [t5]
        exact cls_pre (b := s1) r1.cls r1.seg.lt (by rw [← take_t e2, ← take_t e3]; exact r4.seg.pre) x (by simp)
      refine put1 (C := cE) hs h (fun h6 => ?_) rfl rfl (by decide) (by decide)
      have hx' := of_decide_eq_true hx
      show (preF [101] _ && wholeF [97] (List.drop 1 _) 1 6000) = true
      have hl : (([x] ++ ks).map (opAt s5.t)).map letterF = 101 :: (ks.map (opAt s5.t)).map letterF := by simp [hx']
      rw [hl]
      simp only [List.length_append, List.length_cons, List.length_nil] at h6
      have hw : wholeF [97] ((ks.map (opAt s5.t)).map letterF) 1 6000 = true := whole_of (all_of (C := cO 14) (fun k hk => by rw [t5]; exact r4.cls k hk) (fun o ho => by rw [cO_eq ho]; decide)) (by simp; omega) (by simp; omega)
      rw [show List.drop 1 (101 :: (ks.map (opAt s5.t)).map letterF) = (ks.map (opAt s5.t)).map letterF from rfl, hw]
      simp [preF]
  | .atom => fun st a st' hp h => by
    simp only [body] at h
    split at h
    · rename_i hb
      exact leaf_seg ht (.inl ⟨rfl, rfl⟩) (fun q => by cases q) (begin_tokP hb) h
    · exact brackets_seg (h1 (.expr 0)) (hO (.expr 0)) brE _ _ _ hp h
  | .pat => fun st a st' hp h => by
    simp only [body] at h
    obtain ⟨x, s1, e1, h⟩ := bind_ok h
    have g1 : s1.p ≤ l.length ∧ Lst cP st s1 [x] := by
      split at e1
      · obtain ⟨con, t1, f1, e1⟩ := bind_ok e1
        obtain ⟨ks, t2, f2, e1⟩ := bind_ok e1
        have k1 := name_gr (by decide) f1
        obtain ⟨m, _, k2, _⟩ := many_gr (hO .apat) _ _ _ _ _ k1.e (fun k hk => by cases hk) f2
        obtain ⟨k3, q3⟩ := put_gr k2.e e1
        obtain ⟨q, hq, hq1, hq2⟩ := pname_tok (by decide) f1
        have hcon := (ht.c q hq hq1).1
        rw [hq2] at hcon
        obtain ⟨r1, r2, _⟩ := many_seg (h1 .apat) (hO .apat) _ _ _ _ _ k1.e (Lst.nil t1) (by simp) f2
        exact ⟨k3.e, (put1 (C := cP) r1.seg e1 (fun _ => shP (lo := 0) (hi := 8) (fun _ q => q) r1.cls (by omega) (by omega)) (con_named hcon _).2 rfl (by decide) (by decide) (by rw [← hq2]; exact ht.tl q hq)).from (name_t f1)⟩
      · exact ⟨(hO .apat _ _ _ hp e1).1.e, h1 .apat _ _ _ hp e1⟩
    split at h
    · rename_i hb
      have ga := adv_gr (isP_lt hb)
      obtain ⟨y, s2, e2, h⟩ := bind_ok h
      obtain ⟨q1, q2, q3⟩ := cls2 (g1.2.same (b' := adv s1) rfl) (h1 .pat _ _ _ ga.e e2)
      refine put1 (C := cP) q1 h (fun _ => ?_) rfl rfl (by decide) (by decide)
      exact shP (lo := 0) (hi := 8) (fun _ q => q) (fun k hk => by
        rcases List.mem_cons.1 hk with rfl | hk
        · exact q2
        · obtain rfl : k = y := by simpa using hk
          exact q3) (by simp) (by simp)
    · obtain ⟨rfl, rfl⟩ := ok_inj h
      exact g1.2
  | .apat => fun st a st' hp h => by
    simp only [body] at h
    split at h
    · exact (put1 (C := cP) (Seg.refl (adv st)) h (fun _ => rfl) rfl rfl (by decide) (by decide)).from rfl
    split at h
    · cases h
    rename_i h64
    split at h
    · rename_i hb
      exact leaf_seg ht (.inr ⟨rfl, rfl⟩) (fun _ => h64) (begin_tokP hb) h
    · exact brackets_seg (h1 .pat) (hO .pat) brP _ _ _ hp h
  | .whole => fun st a st' hp h => by
    simp only [body] at h
    obtain ⟨x, s1, e1, h⟩ := bind_ok h
    have g1 : s1.p ≤ l.length ∧ Lst cT st s1 [x] := by
      split at e1
      · obtain ⟨con, t1, f1, e1⟩ := bind_ok e1
        obtain ⟨ks, t2, f2, e1⟩ := bind_ok e1
        have k1 := name_gr (by decide) f1
        obtain ⟨m, _, k2, _⟩ := many_gr (hO .atype) _ _ _ _ _ k1.e (fun k hk => by cases hk) f2
        obtain ⟨k3, q3⟩ := put_gr k2.e e1
        obtain ⟨q, hq, hq1, hq2⟩ := pname_tok (by decide) f1
        have hcon := (ht.c q hq hq1).1
        rw [hq2] at hcon
        obtain ⟨r1, r2, _⟩ := many_seg (h1 .atype) (hO .atype) _ _ _ _ _ k1.e (Lst.nil t1) (by simp) f2
        exact ⟨k3.e, (put1 (C := cT) r1.seg e1 (fun _ => shT (lo := 0) (hi := 8) (fun _ q => q) r1.cls (by omega) (by omega)) (con_named hcon _).1 rfl (by decide) (by decide) (by rw [← hq2]; exact ht.tl q hq)).from (name_t f1)⟩
      · exact ⟨(hO .atype _ _ _ hp e1).1.e, h1 .atype _ _ _ hp e1⟩
    split at h
    · rename_i hb
      have ga := adv_gr (isP_lt hb)
      obtain ⟨y, s2, e2, h⟩ := bind_ok h
      obtain ⟨q1, q2, q3⟩ := cls2 (g1.2.same (b' := adv s1) rfl) (h1 .whole _ _ _ ga.e e2)
      refine put1 (C := cT) q1 h (fun _ => ?_) rfl rfl (by decide) (by decide)
      exact shT (lo := 0) (hi := 8) (fun _ q => q) (fun k hk => by
        rcases List.mem_cons.1 hk with rfl | hk
        · exact q2
        · obtain rfl : k = y := by simpa using hk
          exact q3) (by simp) (by simp)
    · obtain ⟨rfl, rfl⟩ := ok_inj h
      exact g1.2
  | .atype => fun st a st' hp h => by
    simp only [body] at h
    split at h
    · obtain ⟨nm, s1, e1, h⟩ := bind_ok h
      obtain ⟨q, hq, hq1, hq2⟩ := pname_tok (by decide) e1
      have hcon := (ht.c q hq hq1).1
      rw [hq2] at hcon
      exact (put1 (C := cT) (Seg.refl s1) h (fun _ => rfl) (con_named hcon _).1 rfl (by decide) (by decide) (by rw [← hq2]; exact ht.tl q hq)).from (name_t e1)
    split at h
    · exact (var_seg ht _ _ _ hp h).imp fun o ho => by rw [cO_eq ho]; decide
    split at h
    · rename_i hb
      have g0 := adv_gr (isP_lt hb)
      obtain ⟨x, s1, e1, h⟩ := bind_ok h
      obtain ⟨_, s2, e2, h⟩ := bind_ok h
      have r1 := (h1 .whole _ _ _ g0.e e1).same (take_t e2)
      exact (put1 (C := cT) r1.seg h (fun _ => shT (lo := 0) (hi := 8) (fun _ q => q) r1.cls (by simp) (by simp)) rfl rfl (by decide) (by decide)).from rfl
    · obtain ⟨_, s1, e1, h⟩ := bind_ok h
      have g1 := take_gr e1
      split at h
      · exact (put1 (C := cT) (Seg.refl (adv s1)) h (fun _ => rfl) rfl rfl (by decide) (by decide)).from (by have q := take_t e1; exact q)
      · obtain ⟨ks, s2, e2, h⟩ := bind_ok h
        obtain ⟨r1, r2, r3⟩ := commas_seg (h1 .whole) (hO .whole) g1.e e2
        split at h
        · rename_i hk
          obtain ⟨rfl, rfl⟩ := ok_inj h
          obtain ⟨w, rfl⟩ := List.length_eq_one_iff.1 hk
          exact r1.from (take_t e1)
        · have r2' := r2 (by decide)
          exact (put1 (C := cT) r1.seg h (fun _ => shT (lo := 0) (hi := 8) (fun _ q => q) r1.cls (by omega) (by omega)) (tuple_named (by omega)) rfl (by decide) (by decide) (by unfold tupleName; simp; omega)).from (take_t e1)
  | .clause => fun st a st' hp h => by
    simp only [body] at h
    obtain ⟨nm, s1, e1, h⟩ := bind_ok h
    obtain ⟨ks, s2, e2, h⟩ := bind_ok h
    obtain ⟨r, s3, e3, h⟩ := bind_ok h
    have g1 := name_gr (by decide) e1
    obtain ⟨m, _, g2, _⟩ := many_gr (hO .apat) _ _ _ _ _ g1.e (fun k hk => by cases hk) e2
    obtain ⟨q, hq, hq1, hq2⟩ := pname_tok (by decide) e1
    have hv := (ht.v q hq hq1).1
    rw [hq2] at hv
    obtain ⟨r1, r2, _⟩ := many_seg (h1 .apat) (hO .apat) _ _ _ _ _ g1.e (Lst.nil s1) (by simp) e2
    have r5 := h1 (.rhs [61]) _ _ _ g2.e e3
    have hcl := cls_pre (c := s3) r1.cls r1.seg.lt r5.seg.pre
    refine (put1 (C := cO 19) (r1.seg.trans r5.seg) h (fun _ => ?_) (by exact decide_eq_true hv) rfl (by decide) (by decide) (by rw [← hq2]; exact ht.tl q hq)).from (name_t e1)
    rw [List.map_append]
    exact run_last (x := 114) (o := opAt s3.t r) (by decide) (all_of hcl cP_mem) (by rw [cO_eq (r5.cls r (by simp))]; rfl) (by simp) (by simp; omega)
  | .rhs sep => fun st a st' hp h => by
    simp only [body] at h
    obtain ⟨ks, s1, e1, h⟩ := bind_ok h
    obtain ⟨ks2, s2, e2, h⟩ := bind_ok h
    obtain ⟨d, s3, e3, h⟩ := bind_ok h
    have hmid : s2.p ≤ l.length ∧ ((∃ g, ks2 = [g] ∧ Lst (cO 17) st s2 [g]) ∨ (1 ≤ ks2.length ∧ Lst (cO 16) st s2 ks2)) := by
      split at e1
      · rename_i hb
        obtain ⟨rfl, rfl⟩ := ok_inj e1
        obtain ⟨m, _, g2, _⟩ := guard_gr (hO (.expr 0)) _ _ _ _ _ hp (fun k hk => by cases hk) e2
        refine ⟨g2.e, .inr ?_⟩
        have w := guard_seg (h1 (.expr 0)) (hO (.expr 0)) _ _ _ _ _ hp (Lst.nil _) e2
        refine ⟨?_, w.1⟩
        rw [guardF, if_pos (by unfold guardB; rfl)] at e2
        obtain ⟨_, t1, f1, e2⟩ := bind_ok e2
        have k1 := take_gr f1
        obtain ⟨x, t2, f2, e2⟩ := bind_ok e2
        obtain ⟨k2, _⟩ := hO _ _ _ _ k1.e f2
        obtain ⟨_, t3, f3, e2⟩ := bind_ok e2
        have k3 := take_gr f3
        obtain ⟨y, t4, f4, e2⟩ := bind_ok e2
        obtain ⟨k4, _⟩ := hO _ _ _ _ k3.e f4
        obtain ⟨g, t5, f5, e2⟩ := bind_ok e2
        obtain ⟨k5, q5⟩ := put_gr k4.e f5
        obtain ⟨m2, w1, _⟩ := guard_gr (hO (.expr 0)) _ _ _ _ _ k5.e (Ins.one q5) e2
        rw [w1]; simp
      · obtain ⟨_, t1, f1, e1⟩ := bind_ok e1
        obtain ⟨x, t2, f2, e1⟩ := bind_ok e1
        obtain ⟨g, t3, f3, e1⟩ := bind_ok e1
        obtain ⟨rfl, rfl⟩ := ok_inj e1
        have k1 := take_gr f1
        obtain ⟨k2, _⟩ := hO _ _ _ _ k1.e f2
        obtain ⟨k3, q3⟩ := put_gr k2.e f3
        have r2 := h1 (.expr 0) _ _ _ k1.e f2
        have r3 := put1 (C := cO 17) r2.seg f3 (fun _ => by
          show decide _ = true
          have := of_decide_eq_true (r2.cls x (by simp))
          simp [this]) rfl rfl (by decide) (by decide)
        have r3' := r3.from (take_t f1)
        have hop := cO_eq (r3.cls g (by simp))
        rw [guardF, if_neg] at e2
        · obtain ⟨rfl, rfl⟩ := ok_inj e2
          exact ⟨k3.e, .inl ⟨g, rfl, r3'⟩⟩
        · unfold guardB
          have hgl := r3.seg.lt g (by simp)
          have : (t3.t.getD (([g] : List Nat).getD 0 0) ⟨0, ⟨#[]⟩, 0, []⟩).op = 17 := by
            rw [← hop]
            show (t3.t.getD g _).op = _
            unfold opAt
            rw [List.getD_eq_getElem?_getD, List.getElem?_eq_getElem hgl]; rfl
          rw [this]; simp
    obtain ⟨hp2, hmid⟩ := hmid
    have hd : Lst (cO 18) s2 s3 [d] := by
      split at e3
      · rename_i hb
        exact (h1 .decls _ _ _ (adv_gr (isP_lt hb)).e e3).from rfl
      · exact put1 (C := cO 18) (Seg.refl s2) e3 (fun _ => rfl) rfl rfl (by decide) (by decide)
    have hdo : letterF (opAt s3.t d) = 100 := by rw [cO_eq (hd.cls d (by simp))]; rfl
    rcases hmid with ⟨g, rfl, hg⟩ | ⟨h2, hg⟩
    · obtain ⟨q1, q2, q3⟩ := cls2 hg hd
      exact put1 (C := cO 15) q1 h (fun _ => by rw [two_let (show letterF _ = 108 by rw [cO_eq q2]; rfl) hdo]; rfl) rfl rfl (by decide) (by decide)
    · have hcl := cls_pre (c := s3) hg.cls hg.seg.lt hd.seg.pre
      refine put1 (C := cO 15) (hg.seg.trans hd.seg) h (fun h6 => ?_) rfl rfl (by decide) (by decide)
      simp only [List.length_append, List.length_cons, List.length_nil] at h6
      show (decide _ || (sufF [100] _ && wholeF [103] (List.take _ _) 1 6000)) = true
      rw [List.map_append, List.map_append, show (([d].map (opAt s3.t)).map letterF) = [100] from by simp [hdo]]
      have hw : wholeF [103] ((ks2.map (opAt s3.t)).map letterF) 1 6000 = true := whole_of (all_of (C := cO 16) hcl (fun o ho => by rw [cO_eq ho]; decide)) (by simp; omega) (by simp; omega)
      have hsuf : sufF [100] ((ks2.map (opAt s3.t)).map letterF ++ [100]) = true := by
        unfold sufF
        simp
      have htk : (((ks2.map (opAt s3.t)).map letterF ++ [100]).take (((ks2.map (opAt s3.t)).map letterF ++ [100]).length - 1)) = (ks2.map (opAt s3.t)).map letterF := by
        rw [List.length_append, List.length_singleton, Nat.add_sub_cancel, List.take_left]
      rw [htk, hw, hsuf]; simp
  | .decls => fun st a st' hp h => by
    simp only [body] at h
    obtain ⟨_, s1, e1, h⟩ := bind_ok h
    obtain ⟨ks, s2, e2, h⟩ := bind_ok h
    obtain ⟨_, s3, e3, h⟩ := bind_ok h
    have g1 := take_gr e1
    have r2 := (semis_seg (h1 .clause) (hO .clause) _ _ _ _ _ g1.e (Lst.nil s1) e2).same (take_t e3)
    exact (put1 (C := cO 18) r2.seg h (fun h6 => whole_of (all_of r2.cls (fun o ho => by rw [cO_eq ho]; decide)) (by simp) (by simp; omega)) rfl rfl (by decide) (by decide)).from (take_t e1)
  | .data => fun st a st' hp h => by
    simp only [body] at h
    obtain ⟨nm, s1, e1, h⟩ := bind_ok h
    obtain ⟨ks, s2, e2, h⟩ := bind_ok h
    obtain ⟨_, s3, e3, h⟩ := bind_ok h
    have g1 := name_gr (by decide) e1
    obtain ⟨q, hq, hq1, hq2⟩ := pname_tok (by decide) e1
    have hcon := (ht.c q hq hq1).1
    rw [hq2] at hcon
    obtain ⟨r2, r3, _⟩ := many_seg (var_seg ht) var_gr _ _ _ _ _ g1.e (Lst.nil s1) (by simp) e2
    have g3 := take_gr e3
    have r2' := r2.same (take_t e3)
    exact (con_seg ht (h1 .atype) (hO .atype) hcon (by rw [← hq2]; exact ht.tl q hq) r3 _ [] s3 a st' g3.e (by simpa using r2'.seg) r2'.cls nofun (by simpa using h)).from (by have q := name_t e1; exact q)
theorem parse_seg (ht : TokOkP l) : ∀ (n : Nat) (s : Sym), OneC l (clsS s) (parseN l en n s)
  | 0, _ => fun _ _ _ _ h => by cases h
  | n + 1, s => body_seg ht (parse_seg ht n) (parse_gr n) s
def topC (o : Int) : Bool := cO 19 o || cO 21 o
theorem top_seg (ht : TokOkP l) (n : Nat) : OneC l topC (topF l (parseN l en n)) := fun st a st' hp h => by
  unfold topF at h
  split at h
  · exact (parse_seg ht n .data _ _ _ hp h).imp fun o ho => by unfold topC; rw [show cO 21 o = true from ho]; simp
  · exact (parse_seg ht n .clause _ _ _ hp h).imp fun o ho => by unfold topC; rw [show cO 19 o = true from ho]; simp
theorem topF_gr (n : Nat) : One l (topF l (parseN l en n)) := fun st a st' hp e => by
  unfold topF at e
  split at e
  · exact parse_gr n .data _ _ _ hp e
  · exact parse_gr n .clause _ _ _ hp e
/-- The whole is sound, but for its size. -/
theorem program_sound (ht : TokOkP l) {n a : Nat} {st' : PS} (h : programF l en (parseN l en n) ⟨[], 0⟩ = .ok (a, st')) (h6 : st'.t.length ≤ 6000) : 1 ≤ st'.t.length ∧ opAt st'.t (st'.t.length - 1) = 20 ∧ ∃ r, runs goodS st'.t st'.t 0 [] = some [r] := by
  unfold programF at h
  obtain ⟨ks, s1, e1, h⟩ := bind_ok h
  have r1 := semis_seg (top_seg ht n) (topF_gr n) _ _ _ _ _ (Nat.zero_le _) (Lst.nil ⟨[], 0⟩) e1
  split at h
  · cases h
  · unfold putP at h
    obtain ⟨rfl, rfl⟩ := ok_inj h
    obtain ⟨seg, q1, q2, q3⟩ := r1.seg.ex
    simp only [List.nil_append] at q1
    subst q1
    refine ⟨by simp, ?_, s1.t.length, ?_⟩
    · show opAt (s1.t ++ [_]) ((s1.t ++ [_]).length - 1) = 20
      rw [show (s1.t ++ [(⟨20, ofL [], 0, ik ks⟩ : Nd)]).length - 1 = s1.t.length from by simp, opAt_last]
    · have hkl : (ik ks).length = ks.length := by simp [ik]
      show runs goodS (s1.t ++ [⟨20, ofL [], 0, ik ks⟩]) (s1.t ++ [⟨20, ofL [], 0, ik ks⟩]) 0 [] = _
      have h3 := q3 (s1.t ++ [⟨20, ofL [], 0, ik ks⟩]) [] (List.prefix_append _ _) h6
      simp only [List.length_nil, List.nil_append] at h3
      simp only [List.length_append, List.length_cons, List.length_nil] at h6
      rw [runs_append, h3, Option.bind_some, runs_yes (by rw [hkl]; exact Nat.le_refl _) (by rw [hkl, Nat.sub_self]; rfl) (by simp) (by
        rw [hkl, Nat.sub_self]
        have hk6 : ks.length ≤ 6000 := by omega
        refine good_of (by simp) ?_ rfl rfl (by decide) (by decide)
        refine whole_of (set := [99, 113]) ?_ (by simp) (by simp; omega)
        intro o ho
        obtain ⟨k, hk, rfl⟩ := List.mem_map.1 ho
        rw [List.drop_zero] at hk
        rw [opAt_pre (r1.seg.lt k hk) (List.prefix_append _ _)]
        have := r1.cls k hk
        unfold topC at this
        rw [Bool.or_eq_true] at this
        rcases this with q | q <;> rw [cO_eq q] <;> decide)]
      rw [hkl]; simp [runs]
end
end Go.Proofs.YtikgokpbhldlnaaGreatDoor
end

section
/- What is known of the tokens of a text. -/
namespace Go.Proofs.YtikgokpbhldlnaaGreatDoor
open Go Go.Ab

structure TokP (n : Nat) (k : Tok) : Prop where
  v : k.kind = 1 → nameF k.text = 1 ∧ k.num = 0
  c : k.kind = 2 → nameF k.text = 2 ∧ k.num = 0
  i : k.kind = 3 → k.text = [] ∧ 0 ≤ k.num
  h : k.kind = 4 → k.text = [] ∧ 0 ≤ k.num ∧ k.num ≤ 255
  s : k.kind = 5 → k.num = 0
  tl : k.text.length ≤ n
  nl : k.num ≤ 9223372036854775807
  kl : 1 ≤ k.kind ∧ k.kind ≤ 8
theorem numL_le : ∀ (m : List UInt8) (v w : Nat), v ≤ 9223372036854775807 → numL m v = some w → w ≤ 9223372036854775807
  | [], v, w, hv, h => by
    rw [numL] at h
    obtain rfl := Option.some.inj h; exact hv
  | c :: r, v, w, hv, h => by
    rw [numL] at h
    split at h
    · cases h
    · refine numL_le r _ w ?_ h
      have := c.toNat_lt
      omega
theorem pnameF_vals (t : List UInt8) : nameF t = 0 ∨ nameF t = 1 ∨ nameF t = 2 ∨ nameF t = 6 ∨ nameF t = 7 := by
  unfold nameF
  repeat' split
  all_goals simp
theorem cut_len (l : List UInt8) (n a : Nat) : ((l.take n).drop a).length ≤ l.length := by
  rw [List.length_drop, List.length_take]; omega
theorem tokenF_ok {l : List UInt8} {a : Nat} (ha : a < l.length) (h : (tokenF l a).2 ≠ 0) : TokP l.length (tokenF l a).1 := by
  unfold tokenF at h ⊢
  simp only [] at h ⊢
  split
  · rename_i h1
    rw [if_pos h1] at h
    split
    · rename_i h2; rw [if_pos h2] at h; exact absurd rfl h
    · rename_i h2
      have hv := pnameF_vals ((l.take (a + 1 + twL innerB l (a + 1))).drop a)
      exact ⟨fun e => ⟨e, rfl⟩, fun e => ⟨e, rfl⟩, (fun e => by simp only [] at e; omega), (fun e => by simp only [] at e; omega), fun _ => rfl, cut_len _ _ _, (by show (0 : Int) ≤ 9223372036854775807; decide), by simp only []; omega⟩
  rename_i h1
  rw [if_neg h1] at h
  split
  · rename_i h2
    rw [if_pos h2] at h
    unfold numberF at h ⊢
    split
    · rename_i v hv
      rw [hv] at h
      have := numL_le _ _ _ (by decide) hv
      exact ⟨(fun e => by cases e), (fun e => by cases e), fun _ => ⟨rfl, by simp only []; omega⟩, (fun e => by cases e), (fun e => by cases e), by simp, by simp only []; omega, by simp⟩
    · rename_i hv; rw [hv] at h; exact absurd rfl h
  rename_i h2
  rw [if_neg h2] at h
  split
  · rename_i h3
    rw [if_pos h3] at h
    unfold quotedF at h ⊢
    split
    · rename_i hq; rw [hq] at h; exact absurd rfl h
    · rename_i b n hq
      rw [hq] at h
      simp only [] at h
      have hle := quoL_le _ _ _ _ _ hq (by omega)
      split
      · rename_i h4; rw [if_pos h4] at h; exact absurd rfl h
      · rename_i h4
        rw [if_neg h4] at h
        split
        · have := (b.headD 0).toNat_lt
          exact ⟨(fun e => by cases e), (fun e => by cases e), (fun e => by cases e), fun _ => ⟨rfl, by simp only []; omega, by simp only []; omega⟩, (fun e => by cases e), by simp, by simp only []; omega, by simp⟩
        · exact ⟨(fun e => by cases e), (fun e => by cases e), (fun e => by cases e), (fun e => by cases e), fun _ => rfl, by simp only [List.length_nil] at hle ⊢; omega, (by show (0 : Int) ≤ 9223372036854775807; decide), by simp⟩
  rename_i h3
  rw [if_neg h3] at h
  split
  · exact ⟨(fun e => by cases e), (fun e => by cases e), (fun e => by cases e), (fun e => by cases e), (fun e => by cases e), cut_len _ _ _, (by show (0 : Int) ≤ 9223372036854775807; decide), by simp⟩
  rename_i h4
  rw [if_neg h4] at h
  split
  · rename_i h5
    rw [if_pos h5] at h
    split
    · exact ⟨(fun e => by cases e), (fun e => by cases e), (fun e => by cases e), (fun e => by cases e), (fun e => by cases e), cut_len _ _ _, (by show (0 : Int) ≤ 9223372036854775807; decide), by simp⟩
    · rename_i h6
      rw [if_neg h6] at h
      split
      · exact ⟨(fun e => by cases e), (fun e => by cases e), (fun e => by cases e), (fun e => by cases e), (fun e => by cases e), cut_len _ _ _, (by show (0 : Int) ≤ 9223372036854775807; decide), by simp⟩
      · rename_i h7; rw [if_neg h7] at h; exact absurd rfl h
  · rename_i h5; rw [if_neg h5] at h; exact absurd rfl h
theorem loopT_ok {l : List UInt8} : ∀ (f a : Nat) (acc : List Tok), a ≤ l.length → acc.length ≤ a → (∀ k ∈ acc, TokP l.length k) → (loopT l f a acc).1.length ≤ l.length ∧ ∀ k ∈ (loopT l f a acc).1, TokP l.length k
  | 0, a, acc, h1, h2, h3 => by rw [loopT]; exact ⟨by simp only []; omega, h3⟩
  | f + 1, a, acc, h1, h2, h3 => by
    rw [loopT]
    split
    · exact ⟨by simp only []; omega, h3⟩
    rename_i hlt
    split
    · exact loopT_ok f _ acc (by omega) (by omega) h3
    split
    · exact ⟨by simp, by simp⟩
    rename_i h5
    have hc := commentF_le (l := l) (a := a) h1
    split
    · exact loopT_ok f _ acc (by omega) (by omega) h3
    split
    · exact ⟨by simp, by simp⟩
    · rename_i h7
      have ht := tokenF_le (l := l) (a := a) (by omega)
      refine loopT_ok f _ _ ht (by simp; omega) fun k hk => ?_
      rcases List.mem_append.1 hk with q | q
      · exact h3 k q
      · obtain rfl : k = _ := by simpa using q
        exact tokenF_ok (by omega) h7
theorem tokens_len (l : List UInt8) : (tokensF l).1.length ≤ 8000 ∧ ∀ k ∈ (tokensF l).1, TokP 8000 k := by
  unfold tokensF
  split
  · exact ⟨by simp, by simp⟩
  · rename_i h
    obtain ⟨h1, h2⟩ := loopT_ok (l := l) l.length 0 [] (Nat.zero_le _) (by simp) (by simp)
    refine ⟨by omega, fun k hk => ?_⟩
    have := h2 k hk
    exact ⟨this.v, this.c, this.i, this.h, this.s, by have := this.tl; omega, this.nl, this.kl⟩
theorem tokens_ok (l : List UInt8) : TokOkP (tokensF l).1 :=
  ⟨fun k hk => ((tokens_len l).2 k hk).v, fun k hk => ((tokens_len l).2 k hk).c, fun k hk => ((tokens_len l).2 k hk).i, fun k hk => ((tokens_len l).2 k hk).h, fun k hk => ((tokens_len l).2 k hk).s, fun k hk => ((tokens_len l).2 k hk).tl, fun k hk => ((tokens_len l).2 k hk).nl⟩
/-! ### What a run over the nodes says of the parts -/
theorem runs_kids {good : List Int → Nd → Bool} {t : List Nd} : ∀ (x : List Nd) (i : Nat) (free out : List Nat), (∀ j ∈ free, j < i) → runs good t x i free = some out → ∀ (j : Nat) (nd : Nd), x[j]? = some nd → ∃ fs : List Nat, nd.kids = natI fs ∧ (∀ k ∈ fs, k < i + j) ∧ fs.length ≤ free.length + j
  | [], _, _, _, _, _, j, nd, hj => by simp at hj
  | nd0 :: x, i, free, out, hf, h, j, nd, hj => by
    rw [runs] at h
    split at h
    · rename_i hc
      simp only [Bool.and_eq_true, decide_eq_true_eq] at hc
      obtain ⟨⟨⟨c1, c2⟩, _⟩, _⟩ := hc
      cases j with
      | zero =>
        obtain rfl : nd0 = nd := by simpa using hj
        exact ⟨_, c2, fun k hk => by have := hf k (List.mem_of_mem_drop hk); omega, by rw [List.length_drop]; omega⟩
      | succ j =>
        obtain ⟨fs, q1, q2, q3⟩ := runs_kids x (i + 1) _ out (fun k hk => by
          rcases List.mem_append.1 hk with q | q
          · have := hf k (List.mem_of_mem_take q); omega
          · obtain rfl : k = i := by simpa using q
            omega) h j nd (by simpa using hj)
        exact ⟨fs, q1, fun k hk => by have := q2 k hk; omega, by
          simp only [List.length_append, List.length_take, List.length_cons, List.length_nil] at q3; omega⟩
    · cases h
theorem runs_imp {good good' : List Int → Nd → Bool} (hi : ∀ ops nd, good ops nd = true → good' ops nd = true) {t : List Nd} : ∀ (x : List Nd) (i : Nat) (free out : List Nat), runs good t x i free = some out → runs good' t x i free = some out
  | [], _, _, _, h => h
  | nd :: x, i, free, out, h => by
    rw [runs] at h ⊢
    split at h
    · rename_i hc
      rw [Bool.and_eq_true] at hc
      rw [if_pos (by rw [Bool.and_eq_true]; exact ⟨hc.1, decide_eq_true (hi _ _ (of_decide_eq_true hc.2))⟩)]
      exact runs_imp hi x _ _ out h
    · cases h
theorem runs_good {good : List Int → Nd → Bool} {t : List Nd} : ∀ (x : List Nd) (i : Nat) (free out : List Nat), runs good t x i free = some out → ∀ nd ∈ x, ∃ ops, good ops nd = true
  | [], _, _, _, _, _, h => by cases h
  | nd :: x, i, free, out, h, nd', hm => by
    rw [runs] at h
    split at h
    · rename_i hc
      rw [Bool.and_eq_true] at hc
      rcases List.mem_cons.1 hm with rfl | hm
      · exact ⟨_, of_decide_eq_true hc.2⟩
      · exact runs_good x _ _ out h nd' hm
    · cases h
theorem kss_of {t : List Nd} (h : ∀ (j : Nat) (nd : Nd), t[j]? = some nd → ∃ fs : List Nat, nd.kids = natI fs ∧ (∀ k ∈ fs, k < j) ∧ fs.length ≤ j) : t.map Nd.kids = (kssOf t).map (fun l => l.map Int.ofNat) ∧ (∀ (i : Nat) (ks : List Nat), (kssOf t)[i]? = some ks → ∀ j ∈ ks, j < i) ∧ ∀ nd ∈ t, nd.kids.length ≤ t.length := by
  refine ⟨?_, ?_, ?_⟩
  · unfold kssOf
    rw [List.map_map]
    refine List.map_congr_left fun nd hnd => ?_
    obtain ⟨j, hj⟩ := List.getElem?_of_mem hnd
    obtain ⟨fs, e, _⟩ := h j nd hj
    rw [Function.comp_apply, e]
    simp [natI]
  · intro i ks hi j hj
    unfold kssOf at hi
    rw [List.getElem?_map] at hi
    cases hq : t[i]? with
    | none => rw [hq] at hi; cases hi
    | some nd =>
      rw [hq] at hi
      obtain rfl := Option.some.inj hi
      obtain ⟨fs, e, h2, _⟩ := h i nd hq
      replace hj : j ∈ List.map Int.toNat nd.kids := hj
      rw [e] at hj
      simp only [natI, List.map_map, List.mem_map, Function.comp_apply] at hj
      obtain ⟨x, hx, rfl⟩ := hj
      simpa using h2 x hx
  · intro nd hnd
    obtain ⟨j, hj⟩ := List.getElem?_of_mem hnd
    obtain ⟨fs, e, _, h3⟩ := h j nd hj
    have := (List.getElem?_eq_some_iff.1 hj).1
    rw [e]; simp [natI]; omega
end Go.Proofs.YtikgokpbhldlnaaGreatDoor
end
