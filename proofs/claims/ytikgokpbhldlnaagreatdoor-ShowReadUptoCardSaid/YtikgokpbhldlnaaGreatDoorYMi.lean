/- Parts of a proof: Sa Sb Sc Sd Se Sf. -/
import Derived.Test.YtikgokpbhldlnaaGreatDoorYMh
set_option linter.unusedVariables false
set_option linter.unusedSimpArgs false
set_option linter.unusedSectionVars false
section
namespace Go.Proofs.YtikgokpbhldlnaaGreatDoor
open Go Go.Ab
/-! ## What a node's tokens are -/
def markTexts : List (List UInt8) := [[40], [41], [91], [93], [123], [125], [44], [59], [61], [124], [45, 62], [92]]
def markK (s : List UInt8) : Int := if s ∈ markTexts then 7 else if nameF s = 0 then 8 else nameF s
def mkT (s : List UInt8) : Tok := ⟨markK s, s, 0, 0⟩
def mk (l : List (List UInt8)) : List Tok := l.map mkT
section
variable (t : List Nd) (N : Nat → List UInt8 → List Tok)
def ndOf (j : Nat) : Nd := t.getD j ⟨0, .empty, 0, []⟩
def closedT (j : Nat) (w : Bool) : List Tok := if w = true then mk [[40]] ++ N j [61] ++ mk [[41]] else N j [61]
def betweenT (m : List UInt8) (l : List Nat) : List Tok := (l.mapIdx fun i j => (if i = 0 then [] else mk [m]) ++ N j [61]).flatten
def wantedF (j : Nat) : Bool :=
  (decide ((ndOf t j).op = 30) && decide (0 < ((ndOf t j).kids.length : Int))) || (decide ((ndOf t j).op = 24) && (decide (bs (ndOf t j).text = [45, 62]) || (decide (0 < ((ndOf t j).kids.length : Int)) && decide (nameF (bs (ndOf t j).text) = 2))))
def argsT (l : List Nat) : List Tok := (l.map fun j => closedT N j (wantedF t j)).flatten
def reachF (j : Nat) : Bool := decide ((ndOf t j).op = 7 ∨ (ndOf t j).op = 8 ∨ (ndOf t j).op = 9 ∨ (ndOf t j).op = 10 ∨ (ndOf t j).op = 13)
def nmT (s : List UInt8) : List Tok := if s = [40, 41] then mk [[40], [41]] else mk [s]
/-- The parts of a data declaration; the first constructor stands behind =. -/
def dataT : List UInt8 → List Nat → List Tok
  | _, [] => []
  | m, j :: r => if (ndOf t j).op = 22 then mk [m] ++ N j [61] ++ dataT [124] r else N j [61] ++ dataT m r
def sameF (j : Nat) (op : Int) (s : List UInt8) : Bool := decide ((ndOf t j).op = op) && decide (bs (ndOf t j).text = s)
def namedT (op : Int) (s : List UInt8) (fs : List Nat) : List Tok :=
  if op = 21 then mk [[100, 97, 116, 97], s] ++ dataT t N [61] fs else
  if s = [58] ∨ s = [45, 62] then closedT N (fs.getD 0 0) (sameF t (fs.getD 0 0) op s) ++ mk [s] ++ N (fs.getD 1 0) [61] else
  if s = [91, 93] then mk [[91]] ++ N (fs.getD 0 0) [61] ++ mk [[93]] else
  if s.headD 0 = 40 then mk [[40]] ++ betweenT N [44] fs ++ mk [[41]] else mk [s] ++ argsT t N fs
def ifT : List (List UInt8) → List Nat → List Tok
  | w :: ws, j :: js => mk [w] ++ N j [61] ++ ifT ws js
  | _, _ => []
def exprT (op : Int) (s : List UInt8) (fs : List Nat) : List Tok :=
  if op = 6 then (fs.map fun j => closedT N j (reachF t j || decide ((ndOf t j).op = 6))).flatten else
  if op = 13 then closedT N (fs.getD 0 0) (reachF t (fs.getD 0 0)) ++ mk [s] ++ closedT N (fs.getD 1 0) (reachF t (fs.getD 1 0)) else
  if op = 7 then mk [[92]] ++ argsT t N (fs.take (fs.length - 1)) ++ mk [[45, 62]] ++ N (fs.getD (fs.length - 1) 0) [61] else
  if op = 8 then mk [[108, 101, 116]] ++ N (fs.getD 0 0) [61] ++ mk [[105, 110]] ++ N (fs.getD 1 0) [61] else
  if op = 9 then ifT N [[105, 102], [116, 104, 101, 110], [101, 108, 115, 101]] fs else
  if op = 10 then mk [[99, 97, 115, 101]] ++ N (fs.getD 0 0) [61] ++ mk [[111, 102], [123]] ++ betweenT N [59] (fs.drop 1) ++ mk [[125]] else []
def partT (op : Int) (s : List UInt8) (fs : List Nat) (sep : List UInt8) : List Tok :=
  if op = 14 then N (fs.getD 0 0) [61] ++ N (fs.getD 1 0) [45, 62] else
  if op = 19 then mk [s] ++ argsT t N (fs.take (fs.length - 1)) ++ N (fs.getD (fs.length - 1) 0) [61] else
  if op = 15 then ((fs.take (fs.length - 1)).map fun j => N j sep).flatten ++ (if 0 < (ndOf t (fs.getD (fs.length - 1) 0)).kids.length then mk [[119, 104, 101, 114, 101]] ++ N (fs.getD (fs.length - 1) 0) [61] else []) else
  if op = 16 then mk [[124]] ++ N (fs.getD 0 0) [61] ++ mk [sep] ++ N (fs.getD 1 0) [61] else
  if op = 17 then mk [sep] ++ N (fs.getD 0 0) [61] else
  if op = 18 then mk [[123]] ++ betweenT N [59] fs ++ mk [[125]] else
  if op = 20 then betweenT N [59] fs else []
def stepT (nd : Nd) (fs : List Nat) (sep : List UInt8) : List Tok :=
  if nd.op = 1 ∨ nd.op = 2 ∨ nd.op = 25 ∨ nd.op = 23 then nmT (bs nd.text) else
  if nd.op = 26 then mk [[95]] else
  if nd.op = 3 ∨ nd.op = 27 then [⟨3, [], nd.num, 0⟩] else
  if nd.op = 4 ∨ nd.op = 28 then [⟨4, [], nd.num, 0⟩] else
  if nd.op = 5 ∨ nd.op = 29 then [⟨5, bs nd.text, 0, 0⟩] else
  if nd.op = 11 ∨ nd.op = 31 then mk [[40]] ++ betweenT N [44] fs ++ mk [[41]] else
  if nd.op = 12 ∨ nd.op = 32 then mk [[91]] ++ betweenT N [44] fs ++ mk [[93]] else
  if nd.op = 30 ∨ nd.op = 24 ∨ nd.op = 22 ∨ nd.op = 21 then namedT t N nd.op (bs nd.text) fs else
  if nd.op = 6 ∨ nd.op = 7 ∨ nd.op = 8 ∨ nd.op = 9 ∨ nd.op = 10 ∨ nd.op = 13 then exprT t N nd.op (bs nd.text) fs else
  partT t N nd.op (bs nd.text) fs sep
end
def kidsN (nd : Nd) : List Nat := nd.kids.map Int.toNat
def nodeT (t : List Nd) : Nat → Nat → List UInt8 → List Tok
  | 0, _, _ => []
  | f + 1, i, sep => stepT t (nodeT t f) (ndOf t i) (kidsN (ndOf t i)) sep
end Go.Proofs.YtikgokpbhldlnaaGreatDoor
end
section
namespace Go.Proofs.YtikgokpbhldlnaaGreatDoor
open Go Go.Ab
attribute [local irreducible] Wp WpO Qt OpT Ct Ent
/-! ## The writer in memory, and what lays marks -/
/-- The writer at bw: the tree's nodes, and the tokens so far. -/
@[reducible] def wm (bw : Nat) (nv : Value) (x : Option Addr × Nat) (ts : List Tok) (L : List Assn) : List Assn :=
  ptA bw 61 [nv, .slice x.1 ts.length x.2] :: ownA 48 4 x.1 x.2 (ts.map tokRow) :: L
def strRows (l : List (List UInt8)) : List (List Value) := l.map fun s => [.string (ofL s)]
theorem mk_snoc (l : List (List UInt8)) (s : List UInt8) : mk (l ++ [s]) = mk l ++ [mkT s] := by simp [mk]
set_option maxHeartbeats 2000000 in
theorem mark_ct (bw : Nat) (nv : Value) (x : Option Addr × Nat) (ts : List Tok) (strs : List (List UInt8)) (a1 : Option Addr) (c1 : Nat) (L : List Assn) (hS : Sl L a1 c1 1 (strRows strs)) (hl : ∀ s ∈ strs, s.length < 1073741824) (hb : ts.length + strs.length ≤ 16777216) :
    Ct Tryz.prog 116 #[.pointer (some ⟨bw, 0, none⟩), .slice a1 strs.length c1] (wm bw nv x ts L) (ret fun _ L' => ∃ x', L' = wm bw nv x' (ts ++ mk strs) L) := by
  refine Ct.body Tryz.func116 rfl Tryz.ntmps116 Tryz.results116 rfl ?_
  refine pur ?_
  refine Wp.loopI (α := Nat × Option Addr × Nat) (0, x) (fun y => [(0, .v (.pointer (some ⟨bw, 0, none⟩))), (7, .v (.slice a1 strs.length c1)), (8, .v (.int .i64 strs.length)), (9, .v (.int .i64 y.1))]) (fun y => wm bw nv y.2 (ts ++ mk (strs.take y.1)) L) (fun y => strs.length - y.1) (fun y => y.1 ≤ strs.length) (Nat.zero_le _) ⟨rfl, rfl, rfl, rfl, trivial⟩ (by simp only [List.take_zero, mk, List.map_nil, List.append_nil]; exact LeL.refl _) ?_
  rintro ⟨i, x⟩ hi
  simp only [] at hi
  show Wp _ _ _ _ [_, _, _, (9, .v (.int .i64 i))] _ (wm bw nv x (ts ++ mk (strs.take i)) L)
  refine pur ?_
  refine Wp.branch rfl (fun h => ?_) (fun h => ?_)
  · have hix := lt_len h
    have hg := List.getElem?_eq_getElem hix
    have hsl := hl _ (List.getElem_mem hix)
    generalize strs[i] = s at hg hsl
    obtain ⟨b, o, rfl, _, hE⟩ := hS.at (i := i) (r := [.string (ofL s)]) (by simp [strRows, hg])
    have hlen : (ts ++ mk (strs.take i)).length = ts.length + i := by simp [mk]; omega
    have e1 : (ts ++ mk (strs.take i)).map tokRow ++ [tokRow (mkT s)] = (ts ++ mk (strs.take (i + 1))).map tokRow := by
      rw [List.take_add_one, hg, Option.toList_some, mk_snoc]; simp
    refine pur ?_
    refine S.idx i rfl rfl rfl rfl hix ?_
    refine pur ?_
    refine WpO.callq Tryz.call82 rfl rfl (name_ct (ofL s) _ hsl) Keeps.none ?_
    refine pur ?_
    have hv : (((((((((((decide (bs (ofL s) = [40]) || decide (bs (ofL s) = [41])) || decide (bs (ofL s) = [91])) || decide (bs (ofL s) = [93])) || decide (bs (ofL s) = [123])) || decide (bs (ofL s) = [125])) || decide (bs (ofL s) = [44])) || decide (bs (ofL s) = [59])) || decide (bs (ofL s) = [61])) || decide (bs (ofL s) = [124])) || decide (bs (ofL s) = [45, 62])) || decide (bs (ofL s) = [92])) = decide (s ∈ markTexts) := by
      rw [bs_ofL, Bool.eq_iff_iff]; simp [markTexts, or_assoc]
    refine Wp.branch rfl (fun h1 => ?_) (fun h1 => ?_)
    · have h1' : s ∈ markTexts := of_decide_eq_true (hv.symm.trans h1)
      have hk : markK s = 7 := by unfold markK; rw [if_pos h1']
      refine pur ?_
      refine S.build rfl rfl rfl ?_
      refine WpO.buildSlice rfl rfl rfl rfl rfl rfl rfl (fun _ => Keeps.none) fun bs1 => ?_
      refine WpO.appendLit 1 [tokRow (mkT s)] rfl rfl rfl rfl (List.length_map ..).symm rfl rfl (by unfold mkT; rw [hk]; rfl) rfl rfl rfl rfl (by simp [mk]; omega) (fun _ _ => Keeps.none) fun a2 k2 => ?_
      rw [e1, List.length_map]
      refine pur ?_
      exact Round.mk (i + 1, a2, k2) (by simp only []; omega) hix ⟨rfl, rfl, rfl, inc_e (by omega), trivial⟩ (LeL.refl _)
    have h1' : ¬ s ∈ markTexts := of_decide_eq_false (hv.symm.trans h1)
    refine pur ?_
    refine Wp.branch rfl (fun h2 => ?_) (fun h2 => ?_)
    · have h2' : nameF s = 0 := of_decide_eq_true h2
      have hk : markK s = 8 := by unfold markK; rw [if_neg h1', if_pos h2']
      refine pur ?_
      refine S.build rfl rfl rfl ?_
      refine WpO.buildSlice rfl rfl rfl rfl rfl rfl rfl (fun _ => Keeps.none) fun bs1 => ?_
      refine WpO.appendLit 1 [tokRow (mkT s)] rfl rfl rfl rfl (List.length_map ..).symm rfl rfl (by unfold mkT; rw [hk]; rfl) rfl rfl rfl rfl (by simp [mk]; omega) (fun _ _ => Keeps.none) fun a2 k2 => ?_
      rw [e1, List.length_map]
      refine pur ?_
      exact Round.mk (i + 1, a2, k2) (by simp only []; omega) hix ⟨rfl, rfl, rfl, inc_e (by omega), trivial⟩ (LeL.refl _)
    · have h2' : ¬ nameF s = 0 := of_decide_eq_false h2
      have hk : markK s = nameF s := by unfold markK; rw [if_neg h1', if_neg h2']
      refine pur ?_
      refine S.build rfl rfl rfl ?_
      refine WpO.buildSlice rfl rfl rfl rfl rfl rfl rfl (fun _ => Keeps.none) fun bs1 => ?_
      refine WpO.appendLit 1 [tokRow (mkT s)] rfl rfl rfl rfl (List.length_map ..).symm rfl rfl (by unfold mkT; rw [hk]; rfl) rfl rfl rfl rfl (by simp [mk]; omega) (fun _ _ => Keeps.none) fun a2 k2 => ?_
      rw [e1, List.length_map]
      refine pur ?_
      exact Round.mk (i + 1, a2, k2) (by simp only []; omega) hix ⟨rfl, rfl, rfl, inc_e (by omega), trivial⟩ (LeL.refl _)
  · have hin : strs.length ≤ i := by have := of_decide_eq_false h; omega
    refine pur ?_
    refine RetN 0 rfl ⟨x, ?_⟩
    rw [List.take_of_length_le hin]; rfl
attribute [local semireducible] Ct in
theorem Ct.post {P : Program} {f : FuncId} {args : Array Value} {L : List Assn} {R R' : Ending → List Assn → Prop} (h : Ct P f args L R) (hR : ∀ e L', R e L' → ∃ L'', LeL L' L'' ∧ R' e L'') : Ct P f args L R' :=
  fun w hw => (h w hw).mono fun e w' ⟨h0, L', h1, h2⟩ => by
    obtain ⟨L'', h3, h4⟩ := hR e L' h1
    exact ⟨h0, L'', h4, h3 _ h2⟩
theorem LeL.third {A B C : Assn} {L : List Assn} : LeL (A :: B :: C :: L) (B :: C :: A :: L) := fun _ s => Sat.cons_mono (fun _ s => s.swap) s.swap
theorem LeL.first {A B C : Assn} {L : List Assn} : LeL (B :: C :: A :: L) (A :: B :: C :: L) := fun _ s => Sat.swap (Sat.cons_mono (fun _ s => s.swap) s)
theorem ofL_one (s : ByteArray) : strRows [bs s] = [[.string s]] := by simp [strRows, ofL_bs]
/-- A mark of one text, in a row of its own. -/
theorem mark1_ct (bw : Nat) (nv : Value) (x : Option Addr × Nat) (ts : List Tok) (s : ByteArray) (b : Nat) (L : List Assn) (hl : (bs s).length < 1073741824) (hb : ts.length + 1 ≤ 16777216) :
    Ct Tryz.prog 116 #[.pointer (some ⟨bw, 0, none⟩), .slice (some ⟨b, 0, none⟩) 1 1] (ptA b 9 [.string s] :: wm bw nv x ts L) (ret fun _ L' => ∃ x', L' = wm bw nv x' (ts ++ mk [bs s]) L) := by
  have hS : Sl (ptA b 9 [.string s] :: L) (some ⟨b, 0, none⟩) 1 1 (strRows [bs s]) := Sl.ofPt 0 rfl (by rw [ofL_one]; rfl) (by rw [ofL_one]; intro r hr; simp at hr; subst hr; rfl) (by rw [ofL_one]; exact Nat.le_refl _)
  have h := mark_ct bw nv x ts [bs s] (some ⟨b, 0, none⟩) 1 (ptA b 9 [.string s] :: L) hS (by intro q hq; simp at hq; subst hq; exact hl) hb
  refine Ct.post (Ct.weaken h (LeL.third (L := L))) fun e L' hR => ?_
  cases e with
  | returned v =>
    obtain ⟨x', rfl⟩ := hR
    exact ⟨_, fun k s => (LeL.first k s).tail, x', rfl⟩
  | panicked c => exact hR.elim
  | outgrown => exact hR.elim
/-- .. of two. -/
theorem mark2_ct (bw : Nat) (nv : Value) (x : Option Addr × Nat) (ts : List Tok) (s r : ByteArray) (b : Nat) (L : List Assn) (hl : (bs s).length < 1073741824) (hr : (bs r).length < 1073741824) (hb : ts.length + 2 ≤ 16777216) :
    Ct Tryz.prog 116 #[.pointer (some ⟨bw, 0, none⟩), .slice (some ⟨b, 0, none⟩) 2 2] (ptA b 9 [.string s, .string r] :: wm bw nv x ts L) (ret fun _ L' => ∃ x', L' = wm bw nv x' (ts ++ mk [bs s, bs r]) L) := by
  have e2 : strRows [bs s, bs r] = [[.string s], [.string r]] := by simp [strRows, ofL_bs]
  have hS : Sl (ptA b 9 [.string s, .string r] :: L) (some ⟨b, 0, none⟩) 2 1 (strRows [bs s, bs r]) := Sl.ofPt 0 rfl (by rw [e2]; rfl) (by rw [e2]; intro r hr; simp at hr; rcases hr with rfl | rfl <;> rfl) (by rw [e2]; exact Nat.le_refl _)
  have h := mark_ct bw nv x ts [bs s, bs r] (some ⟨b, 0, none⟩) 2 (ptA b 9 [.string s, .string r] :: L) hS (by intro q hq; simp at hq; rcases hq with rfl | rfl <;> assumption) hb
  refine Ct.post (Ct.weaken h (LeL.third (L := L))) fun e L' hR => ?_
  cases e with
  | returned v =>
    obtain ⟨x', rfl⟩ := hR
    exact ⟨_, fun k s => (LeL.first k s).tail, x', rfl⟩
  | panicked c => exact hR.elim
  | outgrown => exact hR.elim
end Go.Proofs.YtikgokpbhldlnaaGreatDoor
end
section
namespace Go.Proofs.YtikgokpbhldlnaaGreatDoor
open Go Go.Ab
attribute [local irreducible] Wp WpO Qt OpT Ct Ent
/-! ## The writer's parts: names, brackets, lists -/
theorem wname_ct (bw : Nat) (nv : Value) (x : Option Addr × Nat) (ts : List Tok) (s : ByteArray) (L : List Assn) (hl : (bs s).length < 1073741824) (hb : ts.length + 2 ≤ 16777216) :
    Ct Tryz.prog 115 #[.pointer (some ⟨bw, 0, none⟩), .string s] (wm bw nv x ts L) (ret fun _ L' => ∃ x', L' = wm bw nv x' (ts ++ nmT (bs s)) L) := by
  refine Ct.body Tryz.func115 rfl Tryz.ntmps115 Tryz.results115 rfl ?_
  refine pur ?_
  refine Wp.branch rfl (fun h => ?_) (fun h => ?_)
  · have h' : bs s = [40, 41] := of_decide_eq_true h
    refine pur ?_
    refine WpO.buildSlice rfl rfl rfl rfl rfl rfl rfl (fun _ => Keeps.none) fun bs1 => ?_
    refine WpO.call Tryz.call116 rfl rfl (mark2_ct bw nv x ts ⟨#[40]⟩ ⟨#[41]⟩ bs1 L (by decide) (by decide) hb) fun v L' ⟨x', e⟩ => ⟨Keeps.none, ?_⟩
    subst e
    refine pur ?_
    refine Wp.ret (Ret 0 rfl ⟨x', ?_⟩)
    unfold nmT; rw [if_pos h']; rfl
  · have h' : ¬ bs s = [40, 41] := of_decide_eq_false h
    refine pur ?_
    refine WpO.buildSlice rfl rfl rfl rfl rfl rfl rfl (fun _ => Keeps.none) fun bs1 => ?_
    refine WpO.call Tryz.call116 rfl rfl (mark1_ct bw nv x ts s bs1 L hl (by omega)) fun v L' ⟨x', e⟩ => ⟨Keeps.none, ?_⟩
    subst e
    refine pur ?_
    refine RetN 0 rfl ⟨x', ?_⟩
    unfold nmT; rw [if_neg h']; rfl
/-- What the nodes below lay: told for whatever memory that has the tree. -/
def NodeOk (t : List Nd) (a : Option Addr) (c : Nat) (bw : Nat) (N : Nat → List UInt8 → List Tok) (j : Nat) : Prop :=
  ∀ (sep : ByteArray) (x : Option Addr × Nat) (ts : List Tok) (L : List Assn), TreeR L a c t → (bs sep).length < 1073741824 → ts.length + (N j (bs sep)).length ≤ 16000000 →
    Ct Tryz.prog 57 #[.pointer (some ⟨bw, 0, none⟩), .int .i64 j, .string sep] (wm bw (.slice a t.length c) x ts L) (ret fun _ L' => ∃ x', L' = wm bw (.slice a t.length c) x' (ts ++ N j (bs sep)) L)
section
variable {t : List Nd} {a : Option Addr} {c bw : Nat} {N : Nat → List UInt8 → List Tok} {j : Nat}
theorem plainly_ct (hN : NodeOk t a c bw N j) (x : Option Addr × Nat) (ts : List Tok) (L : List Assn) (hT : TreeR L a c t) (hb : ts.length + (N j [61]).length ≤ 16000000) :
    Ct Tryz.prog 35 #[.pointer (some ⟨bw, 0, none⟩), .int .i64 j] (wm bw (.slice a t.length c) x ts L) (ret fun _ L' => ∃ x', L' = wm bw (.slice a t.length c) x' (ts ++ N j [61]) L) := by
  refine Ct.body Tryz.func35 rfl Tryz.ntmps35 Tryz.results35 rfl ?_
  refine pur ?_
  refine WpO.call Tryz.call57 rfl rfl (hN ⟨#[61]⟩ x ts L hT (by decide) hb) fun v L' ⟨x', e⟩ => ⟨Keeps.none, ?_⟩
  subst e
  refine pur ?_
  exact RetN 0 rfl ⟨x', rfl⟩
theorem closed_ct (hN : NodeOk t a c bw N j) (w : Bool) (x : Option Addr × Nat) (ts : List Tok) (L : List Assn) (hT : TreeR L a c t) (hb : ts.length + (closedT N j w).length ≤ 16000000) :
    Ct Tryz.prog 173 #[.pointer (some ⟨bw, 0, none⟩), .int .i64 j, .bool w] (wm bw (.slice a t.length c) x ts L) (ret fun _ L' => ∃ x', L' = wm bw (.slice a t.length c) x' (ts ++ closedT N j w) L) := by
  refine Ct.body Tryz.func173 rfl Tryz.ntmps173 Tryz.results173 rfl ?_
  refine pur ?_
  refine Wp.branch rfl (fun h => ?_) (fun h => ?_)
  · have hw : w = false := by simpa using h
    subst hw
    refine pur ?_
    refine WpO.call Tryz.call57 rfl rfl (hN ⟨#[61]⟩ x ts L hT (by decide) hb) fun v L' ⟨x', e⟩ => ⟨Keeps.none, ?_⟩
    subst e
    refine pur ?_
    exact Wp.ret (Ret 0 rfl ⟨x', rfl⟩)
  · have hw : w = true := by simpa using h
    subst hw
    have hlen : (closedT N j true).length = (N j [61]).length + 2 := by unfold closedT; simp [mk]
    rw [hlen] at hb
    refine pur ?_
    refine WpO.buildSlice rfl rfl rfl rfl rfl rfl rfl (fun _ => Keeps.none) fun bs1 => ?_
    refine WpO.call Tryz.call116 rfl rfl (mark1_ct bw _ x ts ⟨#[40]⟩ bs1 L (by decide) (by omega)) fun v L' ⟨x1, e⟩ => ⟨Keeps.none, ?_⟩
    subst e
    refine pur ?_
    refine WpO.call Tryz.call57 rfl rfl (hN ⟨#[61]⟩ x1 _ L hT (by decide) (by simp only [List.length_append, mk, List.length_map, List.length_cons, List.length_nil]; show ts.length + (0 + 1) + (N j [61]).length ≤ 16000000; omega)) fun v L' ⟨x2, e⟩ => ⟨Keeps.none, ?_⟩
    subst e
    refine pur ?_
    refine WpO.buildSlice rfl rfl rfl rfl rfl rfl rfl (fun _ => Keeps.none) fun bs2 => ?_
    refine WpO.call Tryz.call116 rfl rfl (mark1_ct bw _ x2 _ ⟨#[41]⟩ bs2 L (by decide) (by simp only [List.length_append, mk, List.length_map, List.length_cons, List.length_nil]; show ts.length + (0 + 1) + (N j [61]).length + 1 ≤ 16777216; omega)) fun v L' ⟨x3, e⟩ => ⟨Keeps.none, ?_⟩
    subst e
    refine pur ?_
    refine RetN 0 rfl ⟨x3, ?_⟩
    unfold closedT; rw [if_pos rfl]
    show wm _ _ _ (ts ++ mk [[40]] ++ N j [61] ++ mk [[41]]) _ = wm _ _ _ (ts ++ (mk [[40]] ++ N j [61] ++ mk [[41]])) _
    simp only [List.append_assoc]
end
end Go.Proofs.YtikgokpbhldlnaaGreatDoor
end
section
namespace Go.Proofs.YtikgokpbhldlnaaGreatDoor
open Go Go.Ab
attribute [local irreducible] Wp WpO Qt OpT Ct Ent
section
variable {t : List Nd} {a : Option Addr} {c bw : Nat} {N : Nat → List UInt8 → List Tok}
theorem ndOf_some {j : Nat} (h : j < t.length) : t[j]? = some (ndOf t j) := by
  unfold ndOf; rw [List.getElem?_eq_getElem h]; simp [List.getD, h]
theorem same_ct (j : Nat) (hj : j < t.length) (op : Int) (s : ByteArray) (x : Option Addr × Nat) (ts : List Tok) (L : List Assn) (hT : TreeR L a c t) :
    Ct Tryz.prog 174 #[.pointer (some ⟨bw, 0, none⟩), .int .i64 j, .int .i64 op, .string s] (wm bw (.slice a t.length c) x ts L) (ret fun v L' => v = .bool (sameF t j op (bs s)) ∧ L' = wm bw (.slice a t.length c) x ts L) := by
  obtain ⟨b, o, ka, kc, rfl, hE, _⟩ := hT.at (ndOf_some hj)
  refine Ct.body Tryz.func174 rfl Tryz.ntmps174 Tryz.results174 rfl ?_
  refine pur ?_
  refine S.idx j rfl rfl rfl rfl hj ?_
  refine pur ?_
  refine G.idx j rfl rfl rfl (by infer_instance) rfl (by infer_instance) (fun _ => ⟨rfl, hj⟩) ?_
  refine pur ?_
  exact Wp.ret (Ret 0 rfl ⟨rfl, rfl⟩)
theorem reaches_ct (j : Nat) (hj : j < t.length) (x : Option Addr × Nat) (ts : List Tok) (L : List Assn) (hT : TreeR L a c t) :
    Ct Tryz.prog 176 #[.pointer (some ⟨bw, 0, none⟩), .int .i64 j] (wm bw (.slice a t.length c) x ts L) (ret fun v L' => v = .bool (reachF t j) ∧ L' = wm bw (.slice a t.length c) x ts L) := by
  obtain ⟨b, o, ka, kc, rfl, hE, _⟩ := hT.at (ndOf_some hj)
  refine Ct.body Tryz.func176 rfl Tryz.ntmps176 Tryz.results176 rfl ?_
  refine pur ?_
  refine S.idx j rfl rfl rfl rfl hj ?_
  iterate 5
    refine pur ?_
    refine Wp.branch rfl (fun h => ?_) (fun h => ?_)
    · refine pur ?_
      refine Wp.ret (Ret 0 rfl ⟨?_, rfl⟩)
      simp only [decide_eq_true_eq, decide_eq_false_iff_not] at *
      unfold reachF; rw [decide_eq_true (by omega)]
  refine pur ?_
  refine Wp.ret (Ret 0 rfl ⟨?_, rfl⟩)
  simp only [decide_eq_true_eq, decide_eq_false_iff_not] at *
  unfold reachF; rw [decide_eq_false (by omega)]
theorem flat_snoc {α β : Type} (f : α → List β) (l : List α) (i : Nat) (z : α) (h : l[i]? = some z) : ((l.take (i + 1)).map f).flatten = ((l.take i).map f).flatten ++ f z := by
  rw [List.take_add_one, h]; simp
theorem flat_le {α β : Type} (f : α → List β) (l : List α) (i : Nat) (z : α) (h : l[i]? = some z) : ((l.take i).map f).flatten.length + (f z).length ≤ (l.map f).flatten.length := by
  have h1 := flat_snoc f l i z h
  have h2 : (l.map f).flatten = ((l.take (i + 1)).map f).flatten ++ ((l.drop (i + 1)).map f).flatten := by
    rw [← List.flatten_append, ← List.map_append, List.take_append_drop]
  rw [h2, h1]; simp
set_option maxHeartbeats 1000000 in
theorem arguments_ct (fs : List Nat) (ka : Option Addr) (kc : Nat) (hN : ∀ j ∈ fs, NodeOk t a c bw N j) (hlt : ∀ j ∈ fs, j < t.length) (hst : Small t) (x : Option Addr × Nat) (ts : List Tok) (L : List Assn) (hT : TreeR L a c t) (hK : Sl L ka kc 1 (ints (natI fs))) (hfl : fs.length ≤ 1048576) (hb : ts.length + (argsT t N fs).length ≤ 16000000) :
    Ct Tryz.prog 175 #[.pointer (some ⟨bw, 0, none⟩), .slice ka fs.length kc] (wm bw (.slice a t.length c) x ts L) (ret fun _ L' => ∃ x', L' = wm bw (.slice a t.length c) x' (ts ++ argsT t N fs) L) := by
  refine Ct.body Tryz.func175 rfl Tryz.ntmps175 Tryz.results175 rfl ?_
  refine pur ?_
  refine Wp.loopI (α := Nat × Option Addr × Nat) (0, x) (fun y => [(0, .v (.pointer (some ⟨bw, 0, none⟩))), (8, .v (.slice ka fs.length kc)), (9, .v (.int .i64 fs.length)), (10, .v (.int .i64 y.1))])
    (fun y => wm bw (.slice a t.length c) y.2 (ts ++ argsT t N (fs.take y.1)) L) (fun y => fs.length - y.1) (fun y => y.1 ≤ fs.length) (Nat.zero_le _) ⟨rfl, rfl, rfl, rfl, trivial⟩ (by simp only [List.take_zero, argsT, List.map_nil, List.flatten_nil, List.append_nil]; exact LeL.refl _) ?_
  rintro ⟨i, x⟩ hi
  simp only [] at hi
  show Wp _ _ _ _ [_, _, _, (10, .v (.int .i64 i))] _ (wm bw (.slice a t.length c) x (ts ++ argsT t N (fs.take i)) L)
  refine pur ?_
  refine Wp.branch rfl (fun h => ?_) (fun h => ?_)
  · have hix := lt_len h
    have hg := List.getElem?_eq_getElem hix
    have hmem := List.getElem_mem hix
    have hkj : (natI fs)[i]? = some ((fs[i] : Nat) : Int) := by simp [natI, hix]
    generalize fs[i] = j at hg hkj hmem
    obtain ⟨b2, o2, rfl, hE2⟩ := ints_at hK hkj
    have hj := hlt j hmem
    obtain ⟨b, o, ka2, kc2, rfl, hE, _⟩ := hT.at (ndOf_some hj)
    have htx := hst.text (ndOf t j) (List.mem_of_getElem? (ndOf_some hj))
    have hle := flat_le (fun j => closedT N j (wantedF t j)) fs i j hg
    have hsn := flat_snoc (fun j => closedT N j (wantedF t j)) fs i j hg
    refine pur ?_
    refine S.idx i rfl rfl rfl rfl hix ?_
    refine pur ?_
    refine S.idx j rfl rfl rfl rfl hj ?_
    refine S.loadN rfl rfl hE.cons.cons rfl ?_
    refine WpO.alloc rfl rfl (fun _ => Keeps.none) fun b6 => ?_
    refine pur ?_
    refine WpO.callqg Tryz.call82 rfl rfl (.cons rfl (by infer_instance) .nil) (fun _ => name_ct (ndOf t j).text _ (by omega)) Keeps.none ?_
    refine pur ?_
    have hcl := closed_ct (hN j hmem) (wantedF t j) x (ts ++ argsT t N (fs.take i)) L hT (by
      rw [List.length_append]; unfold argsT at hb ⊢; omega)
    refine WpO.parts (fun _ s => s.tail) ?_
    refine WpO.call Tryz.call173 rfl rfl hcl fun v L' ⟨x', e⟩ => ⟨Keeps.none, ?_⟩
    subst e
    refine pur ?_
    refine Round.mk (i + 1, x') (by simp only []; omega) hix ⟨rfl, rfl, rfl, inc_e (by omega), trivial⟩ ?_
    have : ts ++ argsT t N (fs.take i) ++ closedT N j (wantedF t j) = ts ++ argsT t N (fs.take (i + 1)) := by unfold argsT; rw [hsn, List.append_assoc]
    rw [this]; exact LeL.refl _
  · have hin : fs.length ≤ i := by have := of_decide_eq_false h; omega
    refine pur ?_
    refine RetN 0 rfl ⟨x, ?_⟩
    rw [List.take_of_length_le hin]; rfl
end
end Go.Proofs.YtikgokpbhldlnaaGreatDoor
end
section
namespace Go.Proofs.YtikgokpbhldlnaaGreatDoor
open Go Go.Ab
attribute [local irreducible] Wp WpO Qt OpT Ct Ent
section
variable {t : List Nd} {a : Option Addr} {c bw : Nat} {N : Nat → List UInt8 → List Tok}
def btw (N : Nat → List UInt8 → List Tok) (m : List UInt8) (i j : Nat) : List Tok := (if i = 0 then [] else mk [m]) ++ N j [61]
theorem betweenT_eq (m : List UInt8) (l : List Nat) : betweenT N m l = (l.mapIdx (btw N m)).flatten := rfl
theorem between_snoc (m : List UInt8) (l : List Nat) (i j : Nat) (h : l[i]? = some j) : betweenT N m (l.take (i + 1)) = betweenT N m (l.take i) ++ btw N m i j := by
  have hi := (List.getElem?_eq_some_iff.1 h).1
  rw [List.take_add_one, h, betweenT_eq, betweenT_eq, Option.toList_some, List.mapIdx_append]
  simp [List.length_take, Nat.min_eq_left (Nat.le_of_lt hi)]
theorem between_le (m : List UInt8) (l : List Nat) (i j : Nat) (h : l[i]? = some j) : (betweenT N m (l.take i)).length + (btw N m i j).length ≤ (betweenT N m l).length := by
  have h1 := between_snoc (N := N) m l i j h
  have h2 : betweenT N m l = betweenT N m (l.take (i + 1)) ++ ((l.drop (i + 1)).mapIdx (fun k => btw N m (k + (l.take (i + 1)).length))).flatten := by
    rw [betweenT_eq, betweenT_eq, ← List.flatten_append, ← List.mapIdx_append, List.take_append_drop]
  rw [h2, h1]; simp
set_option maxHeartbeats 1000000 in
theorem between_ct (fs : List Nat) (ka : Option Addr) (kc : Nat) (m : ByteArray) (hm : (bs m).length < 1073741824) (hN : ∀ j ∈ fs, NodeOk t a c bw N j) (x : Option Addr × Nat) (ts : List Tok) (L : List Assn) (hT : TreeR L a c t) (hK : Sl L ka kc 1 (ints (natI fs))) (hfl : fs.length ≤ 1048576) (hb : ts.length + (betweenT N (bs m) fs).length ≤ 16000000) :
    Ct Tryz.prog 117 #[.pointer (some ⟨bw, 0, none⟩), .slice ka fs.length kc, .string m, .func (.func 35) #[.pointer (some ⟨bw, 0, none⟩)] #[]] (wm bw (.slice a t.length c) x ts L) (ret fun _ L' => ∃ x', L' = wm bw (.slice a t.length c) x' (ts ++ betweenT N (bs m) fs) L) := by
  refine Ct.body Tryz.func117 rfl Tryz.ntmps117 Tryz.results117 rfl ?_
  refine pur ?_
  refine Wp.loopI (α := Nat × Option Addr × Nat) (0, x) (fun y => [(0, .v (.pointer (some ⟨bw, 0, none⟩))), (2, .v (.string m)), (3, .v (.func (.func 35) #[.pointer (some ⟨bw, 0, none⟩)] #[])), (10, .v (.slice ka fs.length kc)), (11, .v (.int .i64 fs.length)), (12, .v (.int .i64 y.1))])
    (fun y => wm bw (.slice a t.length c) y.2 (ts ++ betweenT N (bs m) (fs.take y.1)) L) (fun y => fs.length - y.1) (fun y => y.1 ≤ fs.length) (Nat.zero_le _) ⟨rfl, rfl, rfl, rfl, rfl, rfl, trivial⟩ (by simp only [List.take_zero, betweenT, List.mapIdx_nil, List.flatten_nil, List.append_nil]; exact LeL.refl _) ?_
  rintro ⟨i, x⟩ hi
  simp only [] at hi
  show Wp _ _ _ _ [_, _, _, _, _, (12, .v (.int .i64 i))] _ (wm bw (.slice a t.length c) x (ts ++ betweenT N (bs m) (fs.take i)) L)
  refine pur ?_
  refine Wp.branch rfl (fun h => ?_) (fun h => ?_)
  · have hix := lt_len h
    have hg := List.getElem?_eq_getElem hix
    have hmem := List.getElem_mem hix
    have hkj : (natI fs)[i]? = some ((fs[i] : Nat) : Int) := by simp [natI, hix]
    generalize fs[i] = j at hg hkj hmem
    obtain ⟨b2, o2, rfl, hE2⟩ := ints_at hK hkj
    have hle := between_le (N := N) (bs m) fs i j hg
    have hsn := between_snoc (N := N) (bs m) fs i j hg
    refine pur ?_
    refine S.idx i rfl rfl rfl rfl hix ?_
    refine pur ?_
    refine Wp.branch rfl (fun h2 => ?_) (fun h2 => ?_)
    · have hi0 : ¬ i = 0 := by have := of_decide_eq_true h2; omega
      have hbt : btw N (bs m) i j = mk [bs m] ++ N j [61] := by unfold btw; rw [if_neg hi0]
      rw [hbt] at hle hsn
      rw [List.length_append] at hle
      have hl1 : (mk [bs m]).length = 1 := rfl
      refine pur ?_
      refine WpO.buildSlice rfl rfl rfl rfl rfl rfl rfl (fun _ => Keeps.none) fun bs1 => ?_
      refine WpO.call Tryz.call116 rfl rfl (mark1_ct bw _ x _ m bs1 L hm (by rw [List.length_append]; omega)) fun v L' ⟨x1, e⟩ => ⟨Keeps.none, ?_⟩
      subst e
      refine pur ?_
      refine WpO.callm Tryz.call35 rfl rfl (.cons rfl (by infer_instance) .nil) (plainly_ct (hN j hmem) x1 _ L hT (by rw [List.length_append, List.length_append]; omega)) fun v L' ⟨x2, e⟩ => ⟨Keeps.none, ?_⟩
      subst e
      refine pur ?_
      refine Round.mk (i + 1, x2) (by simp only []; omega) hix ⟨rfl, rfl, rfl, rfl, rfl, inc_e (by omega), trivial⟩ ?_
      have : ts ++ betweenT N (bs m) (fs.take i) ++ mk [bs m] ++ N j [61] = ts ++ betweenT N (bs m) (fs.take (i + 1)) := by rw [hsn]; simp only [List.append_assoc]
      rw [this]; exact LeL.refl _
    · have hi0 : i = 0 := by have := of_decide_eq_false h2; omega
      have hbt : btw N (bs m) i j = N j [61] := by unfold btw; rw [if_pos hi0]; rfl
      rw [hbt] at hle hsn
      refine pur ?_
      refine WpO.callm Tryz.call35 rfl rfl (.cons rfl (by infer_instance) .nil) (plainly_ct (hN j hmem) x _ L hT (by rw [List.length_append]; omega)) fun v L' ⟨x2, e⟩ => ⟨Keeps.none, ?_⟩
      subst e
      refine pur ?_
      refine Round.mk (i + 1, x2) (by simp only []; omega) hix ⟨rfl, rfl, rfl, rfl, rfl, inc_e (by omega), trivial⟩ ?_
      have : ts ++ betweenT N (bs m) (fs.take i) ++ N j [61] = ts ++ betweenT N (bs m) (fs.take (i + 1)) := by rw [hsn]; simp only [List.append_assoc]
      rw [this]; exact LeL.refl _
  · have hin : fs.length ≤ i := by have := of_decide_eq_false h; omega
    refine pur ?_
    refine RetN 0 rfl ⟨x, ?_⟩
    rw [List.take_of_length_le hin]; rfl
end
end Go.Proofs.YtikgokpbhldlnaaGreatDoor
end
section
namespace Go.Proofs.YtikgokpbhldlnaaGreatDoor
open Go Go.Ab
/-! ## What a sound tree's nodes are; how many tokens they have -/
/-- What a node's text and the number of its parts must be, for its tokens to be laid. -/
structure Lay (op : Int) (s : List UInt8) (k : Nat) : Prop where
  con : op = 30 ∨ op = 24 ∨ op = 22 → s ≠ [] ∧ (s = [58] ∨ s = [45, 62] → 2 ≤ k) ∧ (s = [91, 93] → 1 ≤ k)
  two : op = 13 ∨ op = 8 ∨ op = 14 ∨ op = 16 → 2 ≤ k
  three : op = 9 → k = 3
  one : op = 7 ∨ op = 10 ∨ op = 19 ∨ op = 15 ∨ op = 17 → 1 ≤ k
theorem nameF_two {s : List UInt8} (h : nameF s ≠ 0) : s ≠ [] ∧ s ≠ [58] ∧ s ≠ [45, 62] ∧ s ≠ [91, 93] ∧ s.headD 0 ≠ 40 := by
  refine ⟨?_, ?_, ?_, ?_, ?_⟩
  · rintro rfl; exact h (by decide)
  · rintro rfl; exact h (by decide)
  · rintro rfl; exact h (by decide)
  · rintro rfl; exact h (by decide)
  · intro h2
    cases s with
    | nil => simp at h2
    | cons c r =>
      have h3 : c = 40 := by simpa using h2
      subst h3
      refine h ?_
      unfold nameF
      rw [if_pos]
      have : List.takeWhile innerB (40 :: r) = [] := List.takeWhile_cons_of_neg (by decide)
      unfold badName; rw [this]; simp
theorem allF_len {c : UInt8} {l : List UInt8} {lo hi : Int} (h : allF c l lo hi = true) : (∀ x ∈ l, x = c) ∧ lo ≤ (l.length : Int) ∧ (l.length : Int) ≤ hi := by
  unfold allF at h
  simp only [Bool.and_eq_true, decide_eq_true_eq, List.all_eq_true] at h
  exact ⟨h.1, h.2.1, h.2.2⟩
theorem onlyF_len {c : Int} {l : List Int} {lo hi : Int} (h : onlyF c l lo hi = true) : (∀ x ∈ l, x = c) ∧ lo ≤ (l.length : Int) ∧ (l.length : Int) ≤ hi := by
  unfold onlyF at h
  simp only [Bool.and_eq_true, decide_eq_true_eq, List.all_eq_true] at h
  exact ⟨h.1, h.2.1, h.2.2⟩
theorem cls_length (ops : List Int) : (cls ops).length = ops.length := by simp [cls]
theorem con_name {s : List UInt8} {k : Nat} (h : nameF s = 2) : s ≠ [] ∧ (s = [58] ∨ s = [45, 62] → 2 ≤ k) ∧ (s = [91, 93] → 1 ≤ k) := by
  obtain ⟨h1, h2, h3, h4, _⟩ := nameF_two (s := s) (by omega)
  refine ⟨h1, fun q => ?_, fun q => absurd q h4⟩
  rcases q with q | q
  · exact absurd q h2
  · exact absurd q h3
theorem parts30 {ops : List Int} {s : List UInt8} (hp : partsF 30 ops s = true) : allF 112 (cls ops) 0 8 = true ∧ ((nameF s = 2 ∨ (s = [40, 41] ∧ (ops.length : Int) = 0)) ∨ (s = [58] ∧ (ops.length : Int) = 2)) := by
  have h : (allF 112 (cls ops) 0 8 && ((decide (nameF s = 2) || (decide (s = [40, 41]) && decide ((ops.length : Int) = 0))) || (decide (s = [58]) && decide ((ops.length : Int) = 2)))) = true := by simpa [partsF] using hp
  simpa only [Bool.and_eq_true, Bool.or_eq_true, decide_eq_true_eq] using h
theorem parts24 {ops : List Int} {s : List UInt8} (hp : partsF 24 ops s = true) : allF 116 (cls ops) 0 8 = true ∧ ((((nameF s = 2 ∨ (s = [40, 41] ∧ (ops.length : Int) = 0)) ∨ (s = [91, 93] ∧ (ops.length : Int) = 1)) ∨ (s = [45, 62] ∧ (ops.length : Int) = 2)) ∨ (2 ≤ (ops.length : Int) ∧ s = [40] ++ List.replicate ((ops.length : Int) - 1).toNat 44 ++ [41])) := by
  have h : (allF 116 (cls ops) 0 8 && tyNames (nameF s) s ops.length) = true := by simpa [partsF] using hp
  unfold tyNames at h
  simpa only [Bool.and_eq_true, Bool.or_eq_true, decide_eq_true_eq] using h
theorem fields22 {num : Int} {op : Int} {s : List UInt8} (ho : op = 21 ∨ op = 22) (hf : fieldsF op num s = true) : nameF s = 2 := by
  by_cases h0 : num = 0
  · rcases ho with rfl | rfl
    · have h : decide (nameF s = 2) = true := by simpa [fieldsF, h0] using hf
      exact of_decide_eq_true h
    · have h : decide (nameF s = 2) = true := by simpa [fieldsF, h0] using hf
      exact of_decide_eq_true h
  · rcases ho with rfl | rfl <;> simp [fieldsF, h0] at hf
theorem lay_of {op : Int} {ops : List Int} {s : List UInt8} {num : Int} (hp : partsF op ops s = true) (hf : fieldsF op num s = true) : Lay op s ops.length := by
  constructor
  · rintro (rfl | rfl | rfl)
    · obtain ⟨_, (h | ⟨h, _⟩) | ⟨h, hk⟩⟩ := parts30 hp
      · exact con_name h
      · subst h; exact ⟨by decide, fun q => absurd q (by decide), fun q => absurd q (by decide)⟩
      · subst h; exact ⟨by decide, fun _ => by omega, fun q => absurd q (by decide)⟩
    · obtain ⟨_, (((h | ⟨h, _⟩) | ⟨h, hk⟩) | ⟨h, hk⟩) | ⟨hk, h⟩⟩ := parts24 hp
      · exact con_name h
      · subst h; exact ⟨by decide, fun q => absurd q (by decide), fun q => absurd q (by decide)⟩
      · subst h; exact ⟨by decide, fun q => absurd q (by decide), fun _ => by omega⟩
      · subst h; exact ⟨by decide, fun _ => by omega, fun q => absurd q (by decide)⟩
      · exact ⟨by rw [h]; simp, fun _ => by omega, fun _ => by omega⟩
    · exact con_name (fields22 (.inr rfl) hf)
  · rintro (rfl | rfl | rfl | rfl)
    · have h : allF 101 (cls ops) 2 2 = true := by simpa [partsF] using hp
      have := (allF_len h).2.1; rw [cls_length] at this; omega
    · have h : ((decide ((ops.length : Int) = 2) && decide (ops.getD 0 0 = 18)) && decide (((at0 (cls ops) 1).toNat : Int) = 101)) = true := by simpa [partsF] using hp
      simp only [Bool.and_eq_true, decide_eq_true_eq] at h; omega
    · have h : ((decide ((ops.length : Int) = 2) && decide (((at0 (cls ops) 0).toNat : Int) = 112)) && decide (ops.getD 1 0 = 15)) = true := by simpa [partsF] using hp
      simp only [Bool.and_eq_true, decide_eq_true_eq] at h; omega
    · have h : allF 101 (cls ops) 2 2 = true := by simpa [partsF] using hp
      have := (allF_len h).2.1; rw [cls_length] at this; omega
  · rintro rfl
    have h : allF 101 (cls ops) 3 3 = true := by simpa [partsF] using hp
    have := (allF_len h).2; rw [cls_length] at this; omega
  · rintro (rfl | rfl | rfl | rfl | rfl)
    · have h : ((decide ((2 : Int) ≤ (ops.length : Int)) && allF 112 ((cls ops).take (ops.length - 1)) 1 8) && decide (((at0 (cls ops) (ops.length - 1)).toNat : Int) = 101)) = true := by simpa [partsF] using hp
      simp only [Bool.and_eq_true, decide_eq_true_eq] at h; omega
    · have h : ((decide ((2 : Int) ≤ (ops.length : Int)) && decide (((at0 (cls ops) 0).toNat : Int) = 101)) && onlyF 14 (ops.drop 1) 1 6000) = true := by simpa [partsF] using hp
      simp only [Bool.and_eq_true, decide_eq_true_eq] at h; omega
    · have h : ((decide ((1 : Int) ≤ (ops.length : Int)) && allF 112 ((cls ops).take (ops.length - 1)) 0 8) && decide (ops.getD (ops.length - 1) 0 = 15)) = true := by simpa [partsF] using hp
      simp only [Bool.and_eq_true, decide_eq_true_eq] at h; omega
    · have h : ((decide ((2 : Int) ≤ (ops.length : Int)) && decide (ops.getD (ops.length - 1) 0 = 18)) && (onlyF 17 (ops.take (ops.length - 1)) 1 1 || onlyF 16 (ops.take (ops.length - 1)) 1 6000)) = true := by simpa [partsF] using hp
      simp only [Bool.and_eq_true, decide_eq_true_eq] at h; omega
    · have h : allF 101 (cls ops) 1 1 = true := by simpa [partsF] using hp
      have := (allF_len h).2.1; rw [cls_length] at this; omega
/-! ### The first m nodes are sound -/
structure Sound (t : List Nd) (m : Nat) : Prop where
  kids : ∀ i, i < m → (ndOf t i).kids = natI (kidsN (ndOf t i))
  lt : ∀ i, i < m → ∀ j ∈ kidsN (ndOf t i), j < i
  good : ∀ i, i < m → goodR ((kidsN (ndOf t i)).map (opAt t)) (ndOf t i) = true
theorem Sound.lay {t : List Nd} {m i : Nat} (h : Sound t m) (hi : i < m) : Lay (ndOf t i).op (bs (ndOf t i).text) (kidsN (ndOf t i)).length := by
  have hg := h.good i hi
  unfold goodR at hg; rw [Bool.and_eq_true] at hg
  have := lay_of hg.1 hg.2
  rwa [List.length_map] at this
theorem kidsN_nat {nd : Nd} {fs : List Nat} (h : nd.kids = natI fs) : kidsN nd = fs := by
  unfold kidsN; rw [h]; simp [natI, Function.comp_def]
theorem drop_cons {t : List Nd} {i : Nat} {nd : Nd} {r : List Nd} (h : t.drop i = nd :: r) : i < t.length ∧ ndOf t i = nd ∧ t.drop (i + 1) = r := by
  have hi : i < t.length := by
    rcases Nat.lt_or_ge i t.length with q | q
    · exact q
    · rw [List.drop_eq_nil_of_le q] at h; cases h
  rw [List.drop_eq_getElem_cons hi] at h
  injection h with h1 h2
  exact ⟨hi, by unfold ndOf; rw [List.getD_eq_getElem?_getD, List.getElem?_eq_getElem hi]; exact h1, h2⟩
/-! ### How many tokens -/
section
variable {t : List Nd} {N : Nat → List UInt8 → List Tok} {g : Nat → Nat}
theorem mk_len (l : List (List UInt8)) : (mk l).length = l.length := by simp [mk]
theorem closed_len (j : Nat) (w : Bool) : (closedT N j w).length ≤ (N j [61]).length + 2 := by
  unfold closedT; split <;> simp [mk]
theorem flat_len (F : Nat → List Tok) : ∀ fs : List Nat, (∀ j ∈ fs, (F j).length ≤ g j) → ((fs.map F).flatten).length ≤ (fs.map g).sum
  | [], _ => by simp
  | j :: fs, h => by
    have h1 := flat_len F fs fun k hk => h k (by simp [hk])
    have h2 := h j (by simp)
    simp only [List.map_cons, List.flatten_cons, List.length_append, List.sum_cons]; omega
theorem mapIdx_len : ∀ (fs : List Nat) (F : Nat → Nat → List Tok), (∀ i, ∀ j ∈ fs, (F i j).length ≤ g j) → ((fs.mapIdx F).flatten).length ≤ (fs.map g).sum
  | [], _, _ => by simp
  | j :: fs, F, h => by
    have h1 := mapIdx_len fs (fun i => F (i + 1)) (fun i k hk => h (i + 1) k (by simp [hk]))
    have h2 := h 0 j (by simp)
    rw [List.mapIdx_cons]
    simp only [List.map_cons, List.flatten_cons, List.length_append, List.sum_cons]; omega
variable {fs : List Nat} (h : ∀ j ∈ fs, ∀ s, (N j s).length + 3 ≤ g j)
include h
theorem args_len : (argsT t N fs).length ≤ (fs.map g).sum := flat_len _ fs fun j hj => by
  have h1 := h j hj [61]
  have h2 := closed_len (N := N) j (wantedF t j)
  omega
theorem between_len (m : List UInt8) : (betweenT N m fs).length ≤ (fs.map g).sum := mapIdx_len fs _ fun i j hj => by
  have h1 := h j hj [61]
  rw [List.length_append]
  split
  · simp; omega
  · rw [mk_len]; simp; omega
omit h in
theorem data_len : ∀ (fs : List Nat) (m : List UInt8), (∀ j ∈ fs, ∀ s, (N j s).length + 3 ≤ g j) → (dataT t N m fs).length ≤ (fs.map g).sum
  | [], _, _ => by simp [dataT]
  | j :: fs, m, h => by
    have h2 := h j (by simp) [61]
    have h3 := data_len fs [124] fun k hk => h k (by simp [hk])
    have h4 := data_len fs m fun k hk => h k (by simp [hk])
    unfold dataT
    split
    · simp only [List.map_cons, List.length_append, List.sum_cons, mk_len, List.length_cons, List.length_nil]; omega
    · simp only [List.map_cons, List.length_append, List.sum_cons]; omega
omit h in
theorem if_len : ∀ (ws : List (List UInt8)) (fs : List Nat), (∀ j ∈ fs, ∀ s, (N j s).length + 3 ≤ g j) → (ifT N ws fs).length ≤ (fs.map g).sum
  | [], fs, _ => by simp [ifT]
  | _ :: _, [], _ => by simp [ifT]
  | w :: ws, j :: fs, h => by
    have h2 := h j (by simp) [61]
    have h3 := if_len ws fs fun k hk => h k (by simp [hk])
    unfold ifT
    simp only [List.map_cons, List.length_append, List.sum_cons, mk_len, List.length_cons, List.length_nil]; omega
omit h in
theorem two_of {fs : List Nat} (h : 2 ≤ fs.length) : ∃ a b r, fs = a :: b :: r := by
  match fs, h with
  | a :: b :: r, _ => exact ⟨a, b, r, rfl⟩
omit h in
theorem one_of {fs : List Nat} (h : 1 ≤ fs.length) : ∃ a r, fs = a :: r := by
  match fs, h with
  | a :: r, _ => exact ⟨a, r, rfl⟩
omit h in
theorem last_of {fs : List Nat} (h : 1 ≤ fs.length) : ∃ l z, fs = l ++ [z] := by
  rcases List.eq_nil_or_concat fs with rfl | ⟨l, z, rfl⟩
  · simp at h
  · exact ⟨l, z, List.concat_eq_append ..⟩
theorem named_len (op : Int) (s : List UInt8) (h2 : op ≠ 21 → (s = [58] ∨ s = [45, 62] → 2 ≤ fs.length) ∧ (s = [91, 93] → 1 ≤ fs.length)) : (namedT t N op s fs).length ≤ (fs.map g).sum + 5 := by
  unfold namedT
  split
  · have := data_len (t := t) fs [61] h
    rw [List.length_append, mk_len]; simp only [List.length_cons, List.length_nil]; omega
  rename_i ho
  split
  · rename_i hs
    obtain ⟨a, b, r, rfl⟩ := two_of ((h2 ho).1 hs)
    have h3 := closed_len (N := N) a (sameF t a op s)
    have h4 := h a (by simp) [61]
    have h5 := h b (by simp) [61]
    show (closedT N a (sameF t a op s) ++ mk [s] ++ N b [61]).length ≤ _
    simp only [List.length_append, mk_len, List.map_cons, List.sum_cons, List.length_cons, List.length_nil]; omega
  split
  · rename_i hs
    obtain ⟨a, r, rfl⟩ := one_of ((h2 ho).2 hs)
    have h4 := h a (by simp) [61]
    show (mk [[91]] ++ N a [61] ++ mk [[93]]).length ≤ _
    simp only [List.length_append, mk_len, List.map_cons, List.sum_cons, List.length_cons, List.length_nil]; omega
  split
  · have := between_len h [44]
    simp only [List.length_append, mk_len, List.length_cons, List.length_nil]; omega
  · have := args_len (t := t) h
    simp only [List.length_append, mk_len, List.length_cons, List.length_nil]; omega
omit h in
theorem lastD (l : List Nat) (z : Nat) : (l ++ [z]).take ((l ++ [z]).length - 1) = l ∧ (l ++ [z]).getD ((l ++ [z]).length - 1) 0 = z := by simp
theorem expr_len (op : Int) (s : List UInt8) (h2 : op = 13 ∨ op = 8 → 2 ≤ fs.length) (h1 : op = 7 ∨ op = 10 → 1 ≤ fs.length) : (exprT t N op s fs).length ≤ (fs.map g).sum + 5 := by
  unfold exprT
  split
  · have := flat_len (g := g) (fun j => closedT N j (reachF t j || decide ((ndOf t j).op = 6))) fs fun j hj => by
      have h3 := h j hj [61]
      have h4 := closed_len (N := N) j (reachF t j || decide ((ndOf t j).op = 6))
      omega
    omega
  split
  · obtain ⟨a, b, r, rfl⟩ := two_of (h2 (by omega))
    have h3 := closed_len (N := N) a (reachF t a)
    have h6 := closed_len (N := N) b (reachF t b)
    have h4 := h a (by simp) [61]
    have h5 := h b (by simp) [61]
    show (closedT N a (reachF t a) ++ mk [s] ++ closedT N b (reachF t b)).length ≤ _
    simp only [List.length_append, mk_len, List.map_cons, List.sum_cons, List.length_cons, List.length_nil]; omega
  split
  · obtain ⟨l, z, rfl⟩ := last_of (h1 (by omega))
    rw [(lastD l z).1, (lastD l z).2]
    have h3 := args_len (t := t) (N := N) (g := g) (fs := l) fun j hj => h j (by simp [hj])
    have h4 := h z (by simp) [61]
    simp only [List.length_append, mk_len, List.map_append, List.sum_append, List.map_cons, List.map_nil, List.sum_cons, List.sum_nil, List.length_cons, List.length_nil]; omega
  split
  · obtain ⟨a, b, r, rfl⟩ := two_of (h2 (by omega))
    have h4 := h a (by simp) [61]
    have h5 := h b (by simp) [61]
    show (mk [[108, 101, 116]] ++ N a [61] ++ mk [[105, 110]] ++ N b [61]).length ≤ _
    simp only [List.length_append, mk_len, List.map_cons, List.sum_cons, List.length_cons, List.length_nil]; omega
  split
  · have := if_len [[105, 102], [116, 104, 101, 110], [101, 108, 115, 101]] fs h; omega
  split
  · obtain ⟨a, r, rfl⟩ := one_of (h1 (by omega))
    have h4 := h a (by simp) [61]
    have h5 := between_len (fs := r) (fun j hj => h j (by simp [hj])) [59]
    show (mk [[99, 97, 115, 101]] ++ N a [61] ++ mk [[111, 102], [123]] ++ betweenT N [59] r ++ mk [[125]]).length ≤ _
    simp only [List.length_append, mk_len, List.map_cons, List.sum_cons, List.length_cons, List.length_nil]; omega
  · simp
theorem part_len (op : Int) (s sep : List UInt8) (h2 : op = 14 ∨ op = 16 → 2 ≤ fs.length) (h1 : op = 19 ∨ op = 15 ∨ op = 17 → 1 ≤ fs.length) : (partT t N op s fs sep).length ≤ (fs.map g).sum + 5 := by
  unfold partT
  split
  · obtain ⟨a, b, r, rfl⟩ := two_of (h2 (by omega))
    have h4 := h a (by simp) [61]
    have h5 := h b (by simp) [45, 62]
    show (N a [61] ++ N b [45, 62]).length ≤ _
    simp only [List.length_append, List.map_cons, List.sum_cons]; omega
  split
  · obtain ⟨l, z, rfl⟩ := last_of (h1 (by omega))
    rw [(lastD l z).1, (lastD l z).2]
    have h3 := args_len (t := t) (N := N) (g := g) (fs := l) fun j hj => h j (by simp [hj])
    have h4 := h z (by simp) [61]
    simp only [List.length_append, mk_len, List.map_append, List.sum_append, List.map_cons, List.map_nil, List.sum_cons, List.sum_nil, List.length_cons, List.length_nil]; omega
  split
  · obtain ⟨l, z, rfl⟩ := last_of (h1 (by omega))
    rw [(lastD l z).1, (lastD l z).2]
    have h3 := flat_len (g := g) (fun j => N j sep) l fun j hj => by have := h j (by simp [hj]) sep; omega
    have h4 := h z (by simp) [61]
    rw [List.length_append, List.map_append, List.sum_append]
    simp only [List.map_cons, List.map_nil, List.sum_cons, List.sum_nil]
    split
    · simp only [List.length_append, mk_len, List.length_cons, List.length_nil]; omega
    · simp only [List.length_nil]; omega
  split
  · obtain ⟨a, b, r, rfl⟩ := two_of (h2 (by omega))
    have h4 := h a (by simp) [61]
    have h5 := h b (by simp) [61]
    show (mk [[124]] ++ N a [61] ++ mk [sep] ++ N b [61]).length ≤ _
    simp only [List.length_append, mk_len, List.map_cons, List.sum_cons, List.length_cons, List.length_nil]; omega
  split
  · obtain ⟨a, r, rfl⟩ := one_of (h1 (by omega))
    have h4 := h a (by simp) [61]
    show (mk [sep] ++ N a [61]).length ≤ _
    simp only [List.length_append, mk_len, List.map_cons, List.sum_cons, List.length_cons, List.length_nil]; omega
  split
  · have := between_len h [59]
    simp only [List.length_append, mk_len, List.length_cons, List.length_nil]; omega
  split
  · have := between_len h [59]; omega
  · simp
omit h in
theorem nm_len (s : List UInt8) : (nmT s).length ≤ 2 := by unfold nmT; split <;> simp [mk]
theorem step_len (nd : Nd) (sep : List UInt8) (hL : Lay nd.op (bs nd.text) fs.length) : (stepT t N nd fs sep).length + 3 ≤ (fs.map g).sum + 8 := by
  unfold stepT
  split
  · have := nm_len (bs nd.text); omega
  split
  · simp [mk]
  split
  · simp
  split
  · simp
  split
  · simp
  split
  · have := between_len h [44]
    simp only [List.length_append, mk_len, List.length_cons, List.length_nil]; omega
  split
  · have := between_len h [44]
    simp only [List.length_append, mk_len, List.length_cons, List.length_nil]; omega
  split
  · rename_i ho
    have := named_len (t := t) h nd.op (bs nd.text) (fun h21 => (hL.con (by omega)).2); omega
  split
  · have := expr_len (t := t) h nd.op (bs nd.text) (fun q => hL.two (by omega)) (fun q => hL.one (by omega)); omega
  · have := part_len (t := t) h nd.op (bs nd.text) sep (fun q => hL.two (by omega)) (fun q => hL.one (by omega)); omega
end
/-- How many tokens each node has, at most. -/
def LenOk (t : List Nd) (g : Nat → Nat) (i : Nat) : Prop := ∀ j, j < i → g j ≤ 8 * (j + 1) ∧ ∀ f s, (nodeT t f j s).length + 3 ≤ g j
theorem runs_inv (t : List Nd) : ∀ (l : List Nd) (i : Nat) (free fr : List Nat) (g : Nat → Nat), t.drop i = l → i ≤ t.length → Sound t i → (∀ j ∈ free, j < i) → (free.map g).sum ≤ 8 * i → LenOk t g i → runs goodR t l i free = some fr →
    Sound t t.length ∧ ∃ g, LenOk t g t.length
  | [], i, free, fr, g, hd, hi, hs, _, _, hg, _ => by
    have : i = t.length := by
      have := congrArg List.length hd; simp at this; omega
    subst this; exact ⟨hs, g, hg⟩
  | nd :: r, i, free, fr, g, hd, hi, hs, hf, hsum, hg, hr => by
    obtain ⟨hit, hnd, hd'⟩ := drop_cons hd
    unfold runs at hr
    split at hr
    · rename_i hc
      simp only [Bool.and_eq_true, decide_eq_true_eq] at hc
      obtain ⟨⟨⟨c1, c2⟩, _⟩, c4⟩ := hc
      have hks := kidsN_nat c2
      generalize hfs : free.drop (free.length - nd.kids.length) = fs at c2 c4 hks
      have hfr : free = free.take (free.length - nd.kids.length) ++ fs := by rw [← hfs, List.take_append_drop]
      have hfsm : ∀ j ∈ fs, j < i := fun j hj => hf j (by rw [hfr]; simp [hj])
      have hsum' : ((free.take (free.length - nd.kids.length)).map g).sum + (fs.map g).sum ≤ 8 * i := by
        rw [hfr, List.map_append, List.sum_append] at hsum
        have e : (free.take (free.length - nd.kids.length) ++ fs).take ((free.take (free.length - nd.kids.length) ++ fs).length - nd.kids.length) = free.take (free.length - nd.kids.length) := by rw [← hfr]
        exact hsum
      have hs' : Sound t (i + 1) := by
        constructor
        · intro j hj
          rcases Nat.lt_or_ge j i with q | q
          · exact hs.kids j q
          · obtain rfl : j = i := by omega
            rw [hnd, hks]; exact c2
        · intro j hj
          rcases Nat.lt_or_ge j i with q | q
          · exact hs.lt j q
          · obtain rfl : j = i := by omega
            rw [hnd, hks]; exact hfsm
        · intro j hj
          rcases Nat.lt_or_ge j i with q | q
          · exact hs.good j q
          · obtain rfl : j = i := by omega
            rw [hnd, hks]; exact c4
      refine runs_inv t r (i + 1) _ fr (fun x => if x = i then (fs.map g).sum + 8 else g x) hd' hit hs' ?_ ?_ ?_ hr
      · intro j hj
        rcases List.mem_append.1 hj with hj | hj
        · have := hf j (List.mem_of_mem_take hj); omega
        · simp at hj; omega
      · have e1 : (free.take (free.length - nd.kids.length)).map (fun x => if x = i then (fs.map g).sum + 8 else g x) = (free.take (free.length - nd.kids.length)).map g :=
          List.map_congr_left fun x hx => by
            have := hf x (List.mem_of_mem_take hx)
            rw [if_neg (by omega)]
        rw [List.map_append, List.sum_append, e1]
        simp only [List.map_cons, List.map_nil, List.sum_cons, List.sum_nil, if_true]
        omega
      · intro j hj
        dsimp only
        rcases Nat.lt_or_ge j i with q | q
        · rw [if_neg (by omega)]; exact hg j q
        · obtain rfl : j = i := by omega
          rw [if_pos rfl]
          refine ⟨by omega, fun f s => ?_⟩
          cases f with
          | zero => simp [nodeT]
          | succ f =>
            show (stepT t (nodeT t f) (ndOf t j) (kidsN (ndOf t j)) s).length + 3 ≤ _
            have hL := hs'.lay (i := j) (Nat.lt_succ_self j)
            rw [hnd, hks] at hL ⊢
            exact step_len (fun k hk s => (hg k (hfsm k hk)).2 f s) nd s hL
    · cases hr
theorem check_sound {t : List Nd} (h : checkF goodR t = 0) : 1 ≤ t.length ∧ t.length ≤ 6000 ∧ Sound t t.length ∧ ∀ j, j < t.length → ∀ f s, (nodeT t f j s).length ≤ 48000 := by
  unfold checkF at h
  split at h
  · rename_i h1
    split at h
    · rename_i fr hr
      obtain ⟨hs, g, hg⟩ := runs_inv t t 0 [] fr (fun _ => 0) rfl (Nat.zero_le _) ⟨fun i hi => absurd hi (by omega), fun i hi => absurd hi (by omega), fun i hi => absurd hi (by omega)⟩ (by simp) (by simp) (fun j hj => absurd hj (by omega)) hr
      refine ⟨h1.1, h1.2.1, hs, fun j hj f s => ?_⟩
      obtain ⟨q1, q2⟩ := hg j hj
      have := q2 f s; omega
    · omega
  · omega
end Go.Proofs.YtikgokpbhldlnaaGreatDoor
end
