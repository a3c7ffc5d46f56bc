/- Parts of a proof: Tt Tu Tv Tw Tx. -/
import Derived.Test.YtikgokpbhldlnaaGreatDoorYMg
set_option linter.unusedVariables false
set_option linter.unusedSimpArgs false
set_option linter.unusedSectionVars false
section
namespace Go.Proofs.YtikgokpbhldlnaaGreatDoor
open Go Go.Ab
theorem runR_nil {set l : List UInt8} : runR set l = [] ↔ ∀ c ∈ l, c ∈ set := by
  induction l with
  | nil => simp [runR]
  | cons x l ih =>
    unfold runR at ih ⊢
    by_cases hx : x ∈ set
    · rw [List.dropWhile_cons_of_pos (by simpa using hx), ih]; simp [hx]
    · rw [List.dropWhile_cons_of_neg (by simpa using hx)]; simp [hx]
theorem wholeF_eq (set l : List UInt8) (lo hi : Int) : wholeF set l lo hi = (l.all (fun c => decide (c ∈ set)) && (decide (lo ≤ (l.length : Int)) && decide ((l.length : Int) ≤ hi))) := by
  unfold wholeF runOk
  by_cases h : runR set l = []
  · have h2 : l.all (fun c => decide (c ∈ set)) = true := by rw [List.all_eq_true]; intro c hc; exact decide_eq_true (runR_nil.1 h c hc)
    rw [h, h2]; simp
  · have h2 : l.all (fun c => decide (c ∈ set)) = false := by
      rw [← Bool.not_eq_true, List.all_eq_true]
      intro q
      exact h (runR_nil.2 fun c hc => of_decide_eq_true (q c hc))
    rw [h2]; simp [h]
theorem runR_one {set : List UInt8} {x : UInt8} (hx : x ∉ set) (l : List UInt8) (lo hi : Int) :
    (runOk set l lo hi && decide (runR set l = [x])) = (((l.take (l.length - 1)).all (fun c => decide (c ∈ set)) && (decide (lo ≤ (l.length : Int) - 1) && decide ((l.length : Int) - 1 ≤ hi))) && decide (l.getLast? = some x)) := by
  rcases List.eq_nil_or_concat l with rfl | ⟨l', y, rfl⟩
  · simp [runR]
  · rw [List.concat_eq_append]
    have e1 : (l' ++ [y]).take ((l' ++ [y]).length - 1) = l' := by simp
    rw [e1]
    by_cases hall : ∀ c ∈ l', c ∈ set
    · have h2 : l'.all (fun c => decide (c ∈ set)) = true := by rw [List.all_eq_true]; intro c hc; exact decide_eq_true (hall c hc)
      have h3 : runR set (l' ++ [y]) = runR set [y] := by
        unfold runR; rw [List.dropWhile_append_of_pos (by intro c hc; exact decide_eq_true (hall c hc))]
      unfold runOk
      rw [h2, h3]
      by_cases hy : y ∈ set
      · have : runR set [y] = [] := runR_nil.2 (by simpa using hy)
        rw [this]
        have hne : ¬ y = x := fun e => hx (e ▸ hy)
        simp [hne]
      · have : runR set [y] = [y] := by unfold runR; rw [List.dropWhile_cons_of_neg (by simpa using hy)]
        rw [this]; simp
    · have h2 : l'.all (fun c => decide (c ∈ set)) = false := by
        rw [← Bool.not_eq_true, List.all_eq_true]
        intro q
        exact hall fun c hc => of_decide_eq_true (q c hc)
      have h4 : ¬ runR set (l' ++ [y]) = [x] := fun e => by
        have h5 : ∃ c ∈ l', c ∉ set := by
          apply Classical.byContradiction
          intro h; exact hall fun c hc => Classical.byContradiction fun hn => h ⟨c, hc, hn⟩
        have h6 : 2 ≤ (runR set (l' ++ [y])).length := by
          clear e e1 h2 hall
          induction l' with
          | nil => obtain ⟨c, hc, _⟩ := h5; simp at hc
          | cons z l' ih =>
            unfold runR
            rw [List.cons_append]
            by_cases hz : z ∈ set
            · rw [List.dropWhile_cons_of_pos (by simpa using hz)]
              refine ih ?_
              obtain ⟨c, hc, hn⟩ := h5
              rcases List.mem_cons.1 hc with rfl | hc
              · exact absurd hz hn
              · exact ⟨c, hc, hn⟩
            · rw [List.dropWhile_cons_of_neg (by simpa using hz)]; simp
        rw [e] at h6; simp at h6
      rw [h2]; simp [h4]
theorem letterF_out {o : Int} (h : o < 1 ∨ 32 < o) : letterF o = 63 := by
  unfold letterF
  rw [if_neg (by omega), if_neg (by omega), if_neg (by omega), if_neg (by omega), if_neg (by omega), if_neg (by omega), if_neg (by omega), if_neg (by omega), if_neg (by omega), if_neg (by omega), if_neg (by omega), if_neg (by omega)]
theorem classF_out {o : Int} (h : o < 1 ∨ 32 < o) : classF o = 63 := by
  unfold classF
  rw [if_neg (by omega), if_neg (by omega), if_neg (by omega), if_neg (by omega), if_neg (by omega)]
theorem byFin {p q : Int → Bool} (h1 : ∀ k : Fin 33, p (k.val : Int) = q (k.val : Int)) (h2 : ∀ o : Int, o < 1 ∨ 32 < o → p o = q o) (o : Int) : p o = q o := by
  rcases Int.lt_or_le o 1 with h | h
  · exact h2 o (.inl h)
  · rcases Int.lt_or_le 32 o with h' | h'
    · exact h2 o (.inr h')
    · have := h1 ⟨o.toNat, by omega⟩
      simp only [] at this
      rw [show ((o.toNat : Nat) : Int) = o from by omega] at this
      exact this
theorem let_e (o : Int) : decide (letterF o ∈ [(101 : UInt8)]) = decide (classF o = 101) :=
  byFin (p := fun o => decide (letterF o ∈ [(101 : UInt8)])) (q := fun o => decide (classF o = 101)) (by decide +kernel) (fun o h => by simp only [letterF_out h, classF_out h]; decide) o
theorem let_p (o : Int) : decide (letterF o ∈ [(112 : UInt8)]) = decide (classF o = 112) :=
  byFin (p := fun o => decide (letterF o ∈ [(112 : UInt8)])) (q := fun o => decide (classF o = 112)) (by decide +kernel) (fun o h => by simp only [letterF_out h, classF_out h]; decide) o
theorem let_t (o : Int) : decide (letterF o ∈ [(118 : UInt8), 116]) = decide (classF o = 116) :=
  byFin (p := fun o => decide (letterF o ∈ [(118 : UInt8), 116])) (q := fun o => decide (classF o = 116)) (by decide +kernel) (fun o h => by simp only [letterF_out h, classF_out h]; decide) o
theorem let_d (o : Int) : decide (letterF o ∈ [(99 : UInt8), 113]) = decide (classF o = 100) :=
  byFin (p := fun o => decide (letterF o ∈ [(99 : UInt8), 113])) (q := fun o => decide (classF o = 100)) (by decide +kernel) (fun o h => by simp only [letterF_out h, classF_out h]; decide) o
theorem let_97 (o : Int) : decide (letterF o = 97) = decide (o = 14) :=
  byFin (p := fun o => decide (letterF o = 97)) (q := fun o => decide (o = 14)) (by decide +kernel) (fun o h => by
    simp only [letterF_out h]
    rw [decide_eq_false (p := o = 14) (by omega)]; decide) o
theorem let_114 (o : Int) : decide (letterF o = 114) = decide (o = 15) :=
  byFin (p := fun o => decide (letterF o = 114)) (q := fun o => decide (o = 15)) (by decide +kernel) (fun o h => by
    simp only [letterF_out h]
    rw [decide_eq_false (p := o = 15) (by omega)]; decide) o
theorem let_103 (o : Int) : decide (letterF o = 103) = decide (o = 16) :=
  byFin (p := fun o => decide (letterF o = 103)) (q := fun o => decide (o = 16)) (by decide +kernel) (fun o h => by
    simp only [letterF_out h]
    rw [decide_eq_false (p := o = 16) (by omega)]; decide) o
theorem let_108 (o : Int) : decide (letterF o = 108) = decide (o = 17) :=
  byFin (p := fun o => decide (letterF o = 108)) (q := fun o => decide (o = 17)) (by decide +kernel) (fun o h => by
    simp only [letterF_out h]
    rw [decide_eq_false (p := o = 17) (by omega)]; decide) o
theorem let_100 (o : Int) : decide (letterF o = 100) = decide (o = 18) :=
  byFin (p := fun o => decide (letterF o = 100)) (q := fun o => decide (o = 18)) (by decide +kernel) (fun o h => by
    simp only [letterF_out h]
    rw [decide_eq_false (p := o = 18) (by omega)]; decide) o
theorem let_99 (o : Int) : decide (letterF o = 99) = decide (o = 19) :=
  byFin (p := fun o => decide (letterF o = 99)) (q := fun o => decide (o = 19)) (by decide +kernel) (fun o h => by
    simp only [letterF_out h]
    rw [decide_eq_false (p := o = 19) (by omega)]; decide) o
theorem let_107 (o : Int) : decide (letterF o = 107) = decide (o = 22) :=
  byFin (p := fun o => decide (letterF o = 107)) (q := fun o => decide (o = 22)) (by decide +kernel) (fun o h => by
    simp only [letterF_out h]
    rw [decide_eq_false (p := o = 22) (by omega)]; decide) o
theorem let_118 (o : Int) : decide (letterF o = 118) = decide (o = 23) :=
  byFin (p := fun o => decide (letterF o = 118)) (q := fun o => decide (o = 23)) (by decide +kernel) (fun o h => by
    simp only [letterF_out h]
    rw [decide_eq_false (p := o = 23) (by omega)]; decide) o
end Go.Proofs.YtikgokpbhldlnaaGreatDoor
end
section
namespace Go.Proofs.YtikgokpbhldlnaaGreatDoor
open Go Go.Ab
theorem sh_all {set : List UInt8} {c : UInt8} (h : ∀ o, decide (letterF o ∈ set) = decide (classF o = c)) (ops : List Int) (lo hi : Int) : wholeF set (ops.map letterF) lo hi = allF c (cls ops) lo hi := by
  rw [wholeF_eq]
  unfold allF cls
  rw [List.all_map, List.all_map, List.length_map, List.length_map]
  congr 2
  funext o; exact h o
theorem sh_only {x : UInt8} {v : Int} (h : ∀ o, decide (letterF o = x) = decide (o = v)) (ops : List Int) (lo hi : Int) : wholeF [x] (ops.map letterF) lo hi = onlyF v ops lo hi := by
  rw [wholeF_eq]
  unfold onlyF
  rw [List.all_map, List.length_map]
  congr 2
  funext o
  rw [← h o]
  simp
theorem sh_run1 {q : UInt8} (hw : ∀ o, decide (letterF o ∈ [(112 : UInt8)]) = decide (classF o = 112)) (hq : q ∉ [(112 : UInt8)]) (p : Int → Bool) (hp : ∀ o, decide (letterF o = q) = p o) (ops : List Int) (lo : Int) (hi : Int) :
    (runOk [112] (ops.map letterF) lo hi && decide (runR [112] (ops.map letterF) = [q])) = ((decide (lo + 1 ≤ (ops.length : Int)) && (allF 112 ((cls ops).take (ops.length - 1)) lo hi)) && (decide (1 ≤ ops.length) && p (ops.getD (ops.length - 1) 0))) := by
  rw [runR_one hq]
  rcases List.eq_nil_or_concat ops with rfl | ⟨os, z, rfl⟩
  · simp
  · rw [List.concat_eq_append]
    have e1 : ((os ++ [z]).map letterF).take (((os ++ [z]).map letterF).length - 1) = os.map letterF := by simp
    have e2 : (cls (os ++ [z])).take ((os ++ [z]).length - 1) = cls os := by simp [cls]
    have e3 : ((os ++ [z]).map letterF).getLast? = some (letterF z) := by simp
    have e4 : (os ++ [z]).getD ((os ++ [z]).length - 1) 0 = z := by simp
    have e5 : decide (some (letterF z) = some q) = p z := by rw [← hp z]; simp
    rw [e1, e2, e3, e4, e5]
    unfold allF cls
    rw [List.all_map, List.all_map]
    have e6 : (os.all ((fun c => decide (c ∈ [(112 : UInt8)])) ∘ letterF)) = (os.all ((fun x => decide (x = 112)) ∘ classF)) := by
      congr 1; funext o; exact hw o
    rw [e6]
    simp only [List.length_append, List.length_map, List.length_cons, List.length_nil, Nat.zero_add]
    rw [show ((os.length + 1 : Nat) : Int) - 1 = (os.length : Int) from by omega]
    rw [show decide (lo + 1 ≤ ((os.length + 1 : Nat) : Int)) = decide (lo ≤ (os.length : Int)) from by congr 1; rw [eq_iff_iff]; omega]
    rw [decide_eq_true (show 1 ≤ os.length + 1 from by omega)]
    cases decide (lo ≤ (os.length : Int)) <;> cases (os.all ((fun x => decide (x = 112)) ∘ classF)) <;> simp
end Go.Proofs.YtikgokpbhldlnaaGreatDoor
end
section
namespace Go.Proofs.YtikgokpbhldlnaaGreatDoor
open Go Go.Ab
theorem mapNil (ops : List Int) : decide (ops.map letterF = []) = decide ((ops.length : Int) = 0) := by
  cases ops with
  | nil => rfl
  | cons a l =>
    rw [decide_eq_false (p := ((a :: l).length : Int) = 0) (by simp only [List.length_cons]; omega)]; rfl
theorem mixN {S N Z : Bool} : (S && N && Z) = (S && (Z && N)) := by cases S <;> cases N <;> cases Z <;> rfl
theorem fz {num : Int} {b : Bool} : (if ¬ num = 0 then false else b) = (decide (num = 0) && b) := by by_cases h : num = 0 <;> simp [h]
theorem opAny (l : List UInt8) : opList.any (fun o => decide (o.1 = l)) = decide (l ∈ opTexts) := by
  rw [Bool.eq_iff_iff, List.any_eq_true, decide_eq_true_eq]
  unfold opTexts
  simp only [List.mem_map, decide_eq_true_eq]
theorem sh1 (ops : List Int) (l : List UInt8) : shapedF 1 (ops.map letterF) = partsF 1 ops l := by
  rw [show shapedF 1 (ops.map letterF) = (decide (ops.map letterF = []) && true) from rfl, Bool.and_true, mapNil]; rfl
theorem sh2 (ops : List Int) (l : List UInt8) : shapedF 2 (ops.map letterF) = partsF 2 ops l := by
  rw [show shapedF 2 (ops.map letterF) = (decide (ops.map letterF = []) && true) from rfl, Bool.and_true, mapNil]; rfl
theorem sh5 (ops : List Int) (l : List UInt8) : shapedF 5 (ops.map letterF) = partsF 5 ops l := by
  rw [show shapedF 5 (ops.map letterF) = (decide (ops.map letterF = []) && true) from rfl, Bool.and_true, mapNil]; rfl
theorem sh23 (ops : List Int) (l : List UInt8) : shapedF 23 (ops.map letterF) = partsF 23 ops l := by
  rw [show shapedF 23 (ops.map letterF) = (decide (ops.map letterF = []) && true) from rfl, Bool.and_true, mapNil]; rfl
theorem sh25 (ops : List Int) (l : List UInt8) : shapedF 25 (ops.map letterF) = partsF 25 ops l := by
  rw [show shapedF 25 (ops.map letterF) = (decide (ops.map letterF = []) && true) from rfl, Bool.and_true, mapNil]; rfl
theorem sh26 (ops : List Int) (l : List UInt8) : shapedF 26 (ops.map letterF) = partsF 26 ops l := by
  rw [show shapedF 26 (ops.map letterF) = (decide (ops.map letterF = []) && true) from rfl, Bool.and_true, mapNil]; rfl
theorem sh29 (ops : List Int) (l : List UInt8) : shapedF 29 (ops.map letterF) = partsF 29 ops l := by
  rw [show shapedF 29 (ops.map letterF) = (decide (ops.map letterF = []) && true) from rfl, Bool.and_true, mapNil]; rfl
theorem sh3 (ops : List Int) (l : List UInt8) : shapedF 3 (ops.map letterF) = partsF 3 ops l := by
  rw [show shapedF 3 (ops.map letterF) = (decide (ops.map letterF = []) && true) from rfl, Bool.and_true, mapNil]; rfl
theorem sh4 (ops : List Int) (l : List UInt8) : shapedF 4 (ops.map letterF) = partsF 4 ops l := by
  rw [show shapedF 4 (ops.map letterF) = (decide (ops.map letterF = []) && true) from rfl, Bool.and_true, mapNil]; rfl
theorem sh27 (ops : List Int) (l : List UInt8) : shapedF 27 (ops.map letterF) = partsF 27 ops l := by
  rw [show shapedF 27 (ops.map letterF) = (decide (ops.map letterF = []) && true) from rfl, Bool.and_true, mapNil]; rfl
theorem sh28 (ops : List Int) (l : List UInt8) : shapedF 28 (ops.map letterF) = partsF 28 ops l := by
  rw [show shapedF 28 (ops.map letterF) = (decide (ops.map letterF = []) && true) from rfl, Bool.and_true, mapNil]; rfl
theorem sh6 (ops : List Int) (l : List UInt8) : shapedF 6 (ops.map letterF) = partsF 6 ops l := sh_all let_e ops 2 9
theorem sh11 (ops : List Int) (l : List UInt8) : shapedF 11 (ops.map letterF) = partsF 11 ops l := sh_all let_e ops 2 8
theorem sh12 (ops : List Int) (l : List UInt8) : shapedF 12 (ops.map letterF) = partsF 12 ops l := sh_all let_e ops 0 6000
theorem sh18 (ops : List Int) (l : List UInt8) : shapedF 18 (ops.map letterF) = partsF 18 ops l := sh_only let_99 ops 0 6000
theorem sh20 (ops : List Int) (l : List UInt8) : shapedF 20 (ops.map letterF) = partsF 20 ops l := sh_all let_d ops 0 6000
theorem sh22 (ops : List Int) (l : List UInt8) : shapedF 22 (ops.map letterF) = partsF 22 ops l := sh_all let_t ops 0 8
theorem sh31 (ops : List Int) (l : List UInt8) : shapedF 31 (ops.map letterF) = partsF 31 ops l := sh_all let_p ops 2 8
theorem sh32 (ops : List Int) (l : List UInt8) : shapedF 32 (ops.map letterF) = partsF 32 ops l := sh_all let_p ops 0 6000
end Go.Proofs.YtikgokpbhldlnaaGreatDoor
end
section
namespace Go.Proofs.YtikgokpbhldlnaaGreatDoor
open Go Go.Ab
theorem let_101 (o : Int) : decide (letterF o = 101) = decide (classF o = 101) := by rw [← let_e o]; simp
theorem let_112 (o : Int) : decide (letterF o = 112) = decide (classF o = 112) := by rw [← let_p o]; simp
theorem d101 (c : UInt8) : decide ((c.toNat : Int) = 101) = decide (c = 101) := u8eq' (n := 101) (by decide)
theorem d112 (c : UInt8) : decide ((c.toNat : Int) = 112) = decide (c = 112) := u8eq' (n := 112) (by decide)
theorem at_cls {ops : List Int} {i : Nat} (h : i < ops.length) : at0 (cls ops) i = classF (ops.getD i 0) := by
  unfold at0 cls
  simp [List.getD, h]
theorem sh7 (ops : List Int) (l : List UInt8) : shapedF 7 (ops.map letterF) = partsF 7 ops l := by
  show (runOk [112] (ops.map letterF) 1 8 && decide (runR [112] (ops.map letterF) = [101])) = ((decide ((2 : Int) ≤ (ops.length : Int)) && allF 112 ((cls ops).take (ops.length - 1)) 1 8) && decide (((at0 (cls ops) (ops.length - 1)).toNat : Int) = 101))
  rw [sh_run1 let_p (by decide) (fun o => decide (classF o = 101)) let_101, d101]
  by_cases h : 2 ≤ ops.length
  · rw [at_cls (by omega), decide_eq_true (show 1 ≤ ops.length from by omega), Bool.true_and]; rfl
  · rw [decide_eq_false (show ¬ (1 + 1 : Int) ≤ (ops.length : Int) from by omega), decide_eq_false (show ¬ (2 : Int) ≤ (ops.length : Int) from by omega)]; rfl
theorem sh19 (ops : List Int) (l : List UInt8) : shapedF 19 (ops.map letterF) = partsF 19 ops l := by
  show (runOk [112] (ops.map letterF) 0 8 && decide (runR [112] (ops.map letterF) = [114])) = ((decide ((1 : Int) ≤ (ops.length : Int)) && allF 112 ((cls ops).take (ops.length - 1)) 0 8) && decide (ops.getD (ops.length - 1) 0 = 15))
  rw [sh_run1 let_p (by decide) (fun o => decide (o = 15)) let_114]
  by_cases h : 1 ≤ ops.length
  · rw [decide_eq_true h, Bool.true_and]; rfl
  · rw [decide_eq_false (show ¬ (0 + 1 : Int) ≤ (ops.length : Int) from by omega), decide_eq_false (show ¬ (1 : Int) ≤ (ops.length : Int) from by omega)]; rfl
theorem two {a b x y : UInt8} : decide ([a, b] = [x, y]) = (decide (a = x) && decide (b = y)) := by
  rw [Bool.eq_iff_iff]; simp
theorem sh8 (ops : List Int) (l : List UInt8) : shapedF 8 (ops.map letterF) = partsF 8 ops l := by
  show decide (ops.map letterF = [100, 101]) = ((decide ((ops.length : Int) = 2) && decide (ops.getD 0 0 = 18)) && decide (((at0 (cls ops) 1).toNat : Int) = 101))
  match ops with
  | [] => rfl
  | [a] => simp
  | [a, b] =>
    rw [d101, at_cls (by simp)]
    show decide ([letterF a, letterF b] = [100, 101]) = ((true && decide (a = 18)) && decide (classF b = 101))
    rw [two, let_100, let_101]; simp
  | a :: b :: c :: r =>
    rw [decide_eq_false (p := ((a :: b :: c :: r).length : Int) = 2) (by simp only [List.length_cons]; omega)]; simp
theorem sh14 (ops : List Int) (l : List UInt8) : shapedF 14 (ops.map letterF) = partsF 14 ops l := by
  show decide (ops.map letterF = [112, 114]) = ((decide ((ops.length : Int) = 2) && decide (((at0 (cls ops) 0).toNat : Int) = 112)) && decide (ops.getD 1 0 = 15))
  match ops with
  | [] => rfl
  | [a] => simp
  | [a, b] =>
    rw [d112, at_cls (by simp)]
    show decide ([letterF a, letterF b] = [112, 114]) = ((true && decide (classF a = 112)) && decide (b = 15))
    rw [two, let_112, let_114]; simp
  | a :: b :: c :: r =>
    rw [decide_eq_false (p := ((a :: b :: c :: r).length : Int) = 2) (by simp only [List.length_cons]; omega)]; simp
theorem allN (n : Nat) (ops : List Int) : decide (ops.map letterF = List.replicate n 101) = allF 101 (cls ops) n n := by
  rw [Bool.eq_iff_iff, decide_eq_true_eq]
  unfold allF cls
  simp only [Bool.and_eq_true, List.all_map, List.all_eq_true, decide_eq_true_eq, List.length_map, Function.comp_apply]
  constructor
  · intro h
    have hl := congrArg List.length h
    simp at hl
    refine ⟨fun o ho => ?_, by omega, by omega⟩
    have : letterF o ∈ List.replicate n 101 := by rw [← h]; exact List.mem_map_of_mem ho
    have h2 := List.eq_of_mem_replicate this
    have := let_101 o
    rw [decide_eq_true h2] at this
    exact of_decide_eq_true this.symm
  · rintro ⟨h1, h2, h3⟩
    rw [List.eq_replicate_iff]
    refine ⟨by rw [List.length_map]; omega, fun b hb => ?_⟩
    simp only [List.mem_map] at hb
    obtain ⟨o, ho, rfl⟩ := hb
    have := let_101 o
    rw [decide_eq_true (h1 o ho)] at this
    exact of_decide_eq_true this
theorem sh9 (ops : List Int) (l : List UInt8) : shapedF 9 (ops.map letterF) = partsF 9 ops l := allN 3 ops
theorem sh13 (ops : List Int) (l : List UInt8) : shapedF 13 (ops.map letterF) = partsF 13 ops l := allN 2 ops
theorem sh16 (ops : List Int) (l : List UInt8) : shapedF 16 (ops.map letterF) = partsF 16 ops l := allN 2 ops
theorem sh17 (ops : List Int) (l : List UInt8) : shapedF 17 (ops.map letterF) = partsF 17 ops l := allN 1 ops
theorem sh10 (ops : List Int) (l : List UInt8) : shapedF 10 (ops.map letterF) = partsF 10 ops l := by
  show (preF [101] (ops.map letterF) && wholeF [97] ((ops.map letterF).drop 1) 1 6000) = ((decide ((2 : Int) ≤ (ops.length : Int)) && decide (((at0 (cls ops) 0).toNat : Int) = 101)) && onlyF 14 (ops.drop 1) 1 6000)
  rw [← List.map_drop, sh_only let_97, d101]
  match ops with
  | [] => rfl
  | [a] => simp [onlyF]
  | a :: b :: r =>
    rw [at_cls (by simp), decide_eq_true (show (2 : Int) ≤ ((a :: b :: r).length : Int) from by simp only [List.length_cons]; omega)]
    have : preF [101] ((a :: b :: r).map letterF) = decide (classF a = 101) := by
      rw [← let_101]; simp [preF]
    rw [this]; rfl
theorem sh21 (ops : List Int) (l : List UInt8) : shapedF 21 (ops.map letterF) = partsF 21 ops l := by
  show (runOk [118] (ops.map letterF) 0 8 && wholeF [107] (runR [118] (ops.map letterF)) 1 6000) = (decide (((ops.takeWhile (fun x => decide (x = 23))).length : Int) ≤ 8) && onlyF 22 (ops.drop (ops.takeWhile (fun x => decide (x = 23))).length) 1 6000)
  have h1 : runR [118] (ops.map letterF) = (ops.drop (ops.takeWhile (fun x => decide (x = 23))).length).map letterF := by
    unfold runR
    induction ops with
    | nil => rfl
    | cons a r ih =>
      have ha := let_118 a
      by_cases h : a = 23
      · rw [decide_eq_true h] at ha
        rw [List.map_cons, List.dropWhile_cons_of_pos (by rw [of_decide_eq_true ha]; decide), ih, List.takeWhile_cons_of_pos (by simpa using h)]; rfl
      · rw [decide_eq_false h] at ha
        rw [List.map_cons, List.dropWhile_cons_of_neg (by simpa using of_decide_eq_false ha), List.takeWhile_cons_of_neg (by simpa using h)]; rfl
  have h2 : (ops.takeWhile (fun x => decide (x = 23))).length ≤ ops.length := List.IsPrefix.length_le (List.takeWhile_prefix _)
  rw [h1, sh_only let_107]
  congr 1
  unfold runOk
  rw [h1, List.length_map, List.length_map, List.length_drop]
  rw [show ((ops.length : Int) - ((ops.length - (ops.takeWhile (fun x => decide (x = 23))).length : Nat) : Int)) = ((ops.takeWhile (fun x => decide (x = 23))).length : Int) from by omega]
  rw [decide_eq_true (show (0 : Int) ≤ ((ops.takeWhile (fun x => decide (x = 23))).length : Int) from by omega), Bool.true_and]
theorem only11 (os : List Int) : decide (os.map letterF = [108]) = onlyF 17 os 1 1 := by
  match os with
  | [] => rfl
  | [a] => rw [show decide ([a].map letterF = [108]) = decide (letterF a = 108) from by simp, let_108]; simp [onlyF]
  | a :: b :: r =>
    unfold onlyF
    rw [decide_eq_false (p := (((a :: b :: r).length : Nat) : Int) ≤ 1) (by simp only [List.length_cons]; omega)]; simp
theorem onlyF_pos {o : Int} {os : List Int} {hi : Int} (h : onlyF o os 1 hi = true) : 1 ≤ os.length := by
  unfold onlyF at h
  simp only [Bool.and_eq_true, decide_eq_true_eq] at h
  omega
theorem sh15 (ops : List Int) (l : List UInt8) : shapedF 15 (ops.map letterF) = partsF 15 ops l := by
  show (decide (ops.map letterF = [108, 100]) || (sufF [100] (ops.map letterF) && wholeF [103] ((ops.map letterF).take ((ops.map letterF).length - 1)) 1 6000)) = ((decide ((2 : Int) ≤ (ops.length : Int)) && decide (ops.getD (ops.length - 1) 0 = 18)) && (onlyF 17 (ops.take (ops.length - 1)) 1 1 || onlyF 16 (ops.take (ops.length - 1)) 1 6000))
  rcases List.eq_nil_or_concat ops with rfl | ⟨os, z, rfl⟩
  · rfl
  · rw [List.concat_eq_append]
    have e1 : ((os ++ [z]).map letterF).take (((os ++ [z]).map letterF).length - 1) = os.map letterF := by simp
    have e2 : (os ++ [z]).take ((os ++ [z]).length - 1) = os := by simp
    have e4 : (os ++ [z]).getD ((os ++ [z]).length - 1) 0 = z := by simp
    have e3 : sufF [100] ((os ++ [z]).map letterF) = decide (z = 18) := by
      rw [← let_100]; simp [sufF]
    have e5 : decide ((os ++ [z]).map letterF = [108, 100]) = (onlyF 17 os 1 1 && decide (z = 18)) := by
      rw [← only11, ← let_100, Bool.eq_iff_iff]
      simp only [List.map_append, List.map_cons, List.map_nil, Bool.and_eq_true, decide_eq_true_eq]
      rw [show [(108 : UInt8), 100] = [108] ++ [100] from rfl]
      constructor
      · intro h
        have := List.append_inj' h rfl
        exact ⟨this.1, by simpa using this.2⟩
      · rintro ⟨h1, h2⟩; rw [h1, h2]
    rw [e1, e2, e3, e4, e5, sh_only let_103]
    cases h1 : onlyF 17 os 1 1 with
    | true =>
      have := onlyF_pos h1
      rw [decide_eq_true (show (2 : Int) ≤ ((os ++ [z]).length : Int) from by simp; omega)]
      cases decide (z = 18) <;> cases onlyF 16 os 1 6000 <;> rfl
    | false =>
      cases h2 : onlyF 16 os 1 6000 with
      | true =>
        have := onlyF_pos h2
        rw [decide_eq_true (show (2 : Int) ≤ ((os ++ [z]).length : Int) from by simp; omega)]
        cases decide (z = 18) <;> rfl
      | false => cases decide (z = 18) <;> simp
end Go.Proofs.YtikgokpbhldlnaaGreatDoor
end
section
namespace Go.Proofs.YtikgokpbhldlnaaGreatDoor
open Go Go.Ab
theorem g1 (ops : List Int) (l : List UInt8) (num : Int) : (shapedF 1 (ops.map letterF) && namedF 1 l ops.length && numberedF 1 num) = (partsF 1 ops l && fieldsF 1 num l) := by
  rw [sh1 ops l]
  show (partsF 1 ops l && decide (nameF l = 1) && decide (num = 0)) = (partsF 1 ops l && (if ¬ num = 0 then false else decide (nameF l = 1)))
  rw [fz]; exact mixN
theorem g2 (ops : List Int) (l : List UInt8) (num : Int) : (shapedF 2 (ops.map letterF) && namedF 2 l ops.length && numberedF 2 num) = (partsF 2 ops l && fieldsF 2 num l) := by
  rw [sh2 ops l]
  show (partsF 2 ops l && (decide (nameF l = 2) || decide (l = [40, 41])) && decide (num = 0)) = (partsF 2 ops l && (if ¬ num = 0 then false else (decide (nameF l = 2) || decide (l = [40, 41]))))
  rw [fz]; exact mixN
theorem g5 (ops : List Int) (l : List UInt8) (num : Int) : (shapedF 5 (ops.map letterF) && namedF 5 l ops.length && numberedF 5 num) = (partsF 5 ops l && fieldsF 5 num l) := by
  rw [sh5 ops l]
  show (partsF 5 ops l && true && decide (num = 0)) = (partsF 5 ops l && (if ¬ num = 0 then false else true))
  rw [fz]; exact mixN
theorem g6 (ops : List Int) (l : List UInt8) (num : Int) : (shapedF 6 (ops.map letterF) && namedF 6 l ops.length && numberedF 6 num) = (partsF 6 ops l && fieldsF 6 num l) := by
  rw [sh6 ops l]
  show (partsF 6 ops l && decide (l = []) && decide (num = 0)) = (partsF 6 ops l && (if ¬ num = 0 then false else decide (l = [])))
  rw [fz]; exact mixN
theorem g7 (ops : List Int) (l : List UInt8) (num : Int) : (shapedF 7 (ops.map letterF) && namedF 7 l ops.length && numberedF 7 num) = (partsF 7 ops l && fieldsF 7 num l) := by
  rw [sh7 ops l]
  show (partsF 7 ops l && decide (l = []) && decide (num = 0)) = (partsF 7 ops l && (if ¬ num = 0 then false else decide (l = [])))
  rw [fz]; exact mixN
theorem g8 (ops : List Int) (l : List UInt8) (num : Int) : (shapedF 8 (ops.map letterF) && namedF 8 l ops.length && numberedF 8 num) = (partsF 8 ops l && fieldsF 8 num l) := by
  rw [sh8 ops l]
  show (partsF 8 ops l && decide (l = []) && decide (num = 0)) = (partsF 8 ops l && (if ¬ num = 0 then false else decide (l = [])))
  rw [fz]; exact mixN
theorem g9 (ops : List Int) (l : List UInt8) (num : Int) : (shapedF 9 (ops.map letterF) && namedF 9 l ops.length && numberedF 9 num) = (partsF 9 ops l && fieldsF 9 num l) := by
  rw [sh9 ops l]
  show (partsF 9 ops l && decide (l = []) && decide (num = 0)) = (partsF 9 ops l && (if ¬ num = 0 then false else decide (l = [])))
  rw [fz]; exact mixN
theorem g10 (ops : List Int) (l : List UInt8) (num : Int) : (shapedF 10 (ops.map letterF) && namedF 10 l ops.length && numberedF 10 num) = (partsF 10 ops l && fieldsF 10 num l) := by
  rw [sh10 ops l]
  show (partsF 10 ops l && decide (l = []) && decide (num = 0)) = (partsF 10 ops l && (if ¬ num = 0 then false else decide (l = [])))
  rw [fz]; exact mixN
theorem g11 (ops : List Int) (l : List UInt8) (num : Int) : (shapedF 11 (ops.map letterF) && namedF 11 l ops.length && numberedF 11 num) = (partsF 11 ops l && fieldsF 11 num l) := by
  rw [sh11 ops l]
  show (partsF 11 ops l && decide (l = []) && decide (num = 0)) = (partsF 11 ops l && (if ¬ num = 0 then false else decide (l = [])))
  rw [fz]; exact mixN
theorem g12 (ops : List Int) (l : List UInt8) (num : Int) : (shapedF 12 (ops.map letterF) && namedF 12 l ops.length && numberedF 12 num) = (partsF 12 ops l && fieldsF 12 num l) := by
  rw [sh12 ops l]
  show (partsF 12 ops l && decide (l = []) && decide (num = 0)) = (partsF 12 ops l && (if ¬ num = 0 then false else decide (l = [])))
  rw [fz]; exact mixN
theorem g14 (ops : List Int) (l : List UInt8) (num : Int) : (shapedF 14 (ops.map letterF) && namedF 14 l ops.length && numberedF 14 num) = (partsF 14 ops l && fieldsF 14 num l) := by
  rw [sh14 ops l]
  show (partsF 14 ops l && decide (l = []) && decide (num = 0)) = (partsF 14 ops l && (if ¬ num = 0 then false else decide (l = [])))
  rw [fz]; exact mixN
theorem g15 (ops : List Int) (l : List UInt8) (num : Int) : (shapedF 15 (ops.map letterF) && namedF 15 l ops.length && numberedF 15 num) = (partsF 15 ops l && fieldsF 15 num l) := by
  rw [sh15 ops l]
  show (partsF 15 ops l && decide (l = []) && decide (num = 0)) = (partsF 15 ops l && (if ¬ num = 0 then false else decide (l = [])))
  rw [fz]; exact mixN
theorem g16 (ops : List Int) (l : List UInt8) (num : Int) : (shapedF 16 (ops.map letterF) && namedF 16 l ops.length && numberedF 16 num) = (partsF 16 ops l && fieldsF 16 num l) := by
  rw [sh16 ops l]
  show (partsF 16 ops l && decide (l = []) && decide (num = 0)) = (partsF 16 ops l && (if ¬ num = 0 then false else decide (l = [])))
  rw [fz]; exact mixN
theorem g17 (ops : List Int) (l : List UInt8) (num : Int) : (shapedF 17 (ops.map letterF) && namedF 17 l ops.length && numberedF 17 num) = (partsF 17 ops l && fieldsF 17 num l) := by
  rw [sh17 ops l]
  show (partsF 17 ops l && decide (l = []) && decide (num = 0)) = (partsF 17 ops l && (if ¬ num = 0 then false else decide (l = [])))
  rw [fz]; exact mixN
theorem g18 (ops : List Int) (l : List UInt8) (num : Int) : (shapedF 18 (ops.map letterF) && namedF 18 l ops.length && numberedF 18 num) = (partsF 18 ops l && fieldsF 18 num l) := by
  rw [sh18 ops l]
  show (partsF 18 ops l && decide (l = []) && decide (num = 0)) = (partsF 18 ops l && (if ¬ num = 0 then false else decide (l = [])))
  rw [fz]; exact mixN
theorem g19 (ops : List Int) (l : List UInt8) (num : Int) : (shapedF 19 (ops.map letterF) && namedF 19 l ops.length && numberedF 19 num) = (partsF 19 ops l && fieldsF 19 num l) := by
  rw [sh19 ops l]
  show (partsF 19 ops l && decide (nameF l = 1) && decide (num = 0)) = (partsF 19 ops l && (if ¬ num = 0 then false else decide (nameF l = 1)))
  rw [fz]; exact mixN
theorem g20 (ops : List Int) (l : List UInt8) (num : Int) : (shapedF 20 (ops.map letterF) && namedF 20 l ops.length && numberedF 20 num) = (partsF 20 ops l && fieldsF 20 num l) := by
  rw [sh20 ops l]
  show (partsF 20 ops l && decide (l = []) && decide (num = 0)) = (partsF 20 ops l && (if ¬ num = 0 then false else decide (l = [])))
  rw [fz]; exact mixN
theorem g21 (ops : List Int) (l : List UInt8) (num : Int) : (shapedF 21 (ops.map letterF) && namedF 21 l ops.length && numberedF 21 num) = (partsF 21 ops l && fieldsF 21 num l) := by
  rw [sh21 ops l]
  show (partsF 21 ops l && decide (nameF l = 2) && decide (num = 0)) = (partsF 21 ops l && (if ¬ num = 0 then false else decide (nameF l = 2)))
  rw [fz]; exact mixN
theorem g22 (ops : List Int) (l : List UInt8) (num : Int) : (shapedF 22 (ops.map letterF) && namedF 22 l ops.length && numberedF 22 num) = (partsF 22 ops l && fieldsF 22 num l) := by
  rw [sh22 ops l]
  show (partsF 22 ops l && decide (nameF l = 2) && decide (num = 0)) = (partsF 22 ops l && (if ¬ num = 0 then false else decide (nameF l = 2)))
  rw [fz]; exact mixN
theorem g23 (ops : List Int) (l : List UInt8) (num : Int) : (shapedF 23 (ops.map letterF) && namedF 23 l ops.length && numberedF 23 num) = (partsF 23 ops l && fieldsF 23 num l) := by
  rw [sh23 ops l]
  show (partsF 23 ops l && decide (nameF l = 1) && decide (num = 0)) = (partsF 23 ops l && (if ¬ num = 0 then false else decide (nameF l = 1)))
  rw [fz]; exact mixN
theorem g25 (ops : List Int) (l : List UInt8) (num : Int) : (shapedF 25 (ops.map letterF) && namedF 25 l ops.length && numberedF 25 num) = (partsF 25 ops l && fieldsF 25 num l) := by
  rw [sh25 ops l]
  show (partsF 25 ops l && decide (nameF l = 1) && decide (num = 0)) = (partsF 25 ops l && (if ¬ num = 0 then false else decide (nameF l = 1)))
  rw [fz]; exact mixN
theorem g26 (ops : List Int) (l : List UInt8) (num : Int) : (shapedF 26 (ops.map letterF) && namedF 26 l ops.length && numberedF 26 num) = (partsF 26 ops l && fieldsF 26 num l) := by
  rw [sh26 ops l]
  show (partsF 26 ops l && decide (l = []) && decide (num = 0)) = (partsF 26 ops l && (if ¬ num = 0 then false else decide (l = [])))
  rw [fz]; exact mixN
theorem g29 (ops : List Int) (l : List UInt8) (num : Int) : (shapedF 29 (ops.map letterF) && namedF 29 l ops.length && numberedF 29 num) = (partsF 29 ops l && fieldsF 29 num l) := by
  rw [sh29 ops l]
  show (partsF 29 ops l && decide ((l.length : Int) ≤ 64) && decide (num = 0)) = (partsF 29 ops l && (if ¬ num = 0 then false else decide ((l.length : Int) ≤ 64)))
  rw [fz]; exact mixN
theorem g31 (ops : List Int) (l : List UInt8) (num : Int) : (shapedF 31 (ops.map letterF) && namedF 31 l ops.length && numberedF 31 num) = (partsF 31 ops l && fieldsF 31 num l) := by
  rw [sh31 ops l]
  show (partsF 31 ops l && decide (l = []) && decide (num = 0)) = (partsF 31 ops l && (if ¬ num = 0 then false else decide (l = [])))
  rw [fz]; exact mixN
theorem g32 (ops : List Int) (l : List UInt8) (num : Int) : (shapedF 32 (ops.map letterF) && namedF 32 l ops.length && numberedF 32 num) = (partsF 32 ops l && fieldsF 32 num l) := by
  rw [sh32 ops l]
  show (partsF 32 ops l && decide (l = []) && decide (num = 0)) = (partsF 32 ops l && (if ¬ num = 0 then false else decide (l = [])))
  rw [fz]; exact mixN
theorem g13 (ops : List Int) (l : List UInt8) (num : Int) : (shapedF 13 (ops.map letterF) && namedF 13 l ops.length && numberedF 13 num) = (partsF 13 ops l && fieldsF 13 num l) := by
  rw [sh13 ops l]
  show (partsF 13 ops l && opList.any (fun o => decide (o.1 = l)) && decide (num = 0)) = (partsF 13 ops l && (if ¬ num = 0 then false else decide (l ∈ opTexts)))
  rw [fz, opAny]; exact mixN
theorem g3 (ops : List Int) (l : List UInt8) (num : Int) : (shapedF 3 (ops.map letterF) && namedF 3 l ops.length && numberedF 3 num) = (partsF 3 ops l && fieldsF 3 num l) := by
  rw [sh3 ops l]
  show (partsF 3 ops l && decide (l = []) && decide (0 ≤ num)) = (partsF 3 ops l && (decide (l = []) && decide (0 ≤ num)))
  rw [Bool.and_assoc]
theorem g27 (ops : List Int) (l : List UInt8) (num : Int) : (shapedF 27 (ops.map letterF) && namedF 27 l ops.length && numberedF 27 num) = (partsF 27 ops l && fieldsF 27 num l) := by
  rw [sh27 ops l]
  show (partsF 27 ops l && decide (l = []) && decide (0 ≤ num)) = (partsF 27 ops l && (decide (l = []) && decide (0 ≤ num)))
  rw [Bool.and_assoc]
theorem g4 (ops : List Int) (l : List UInt8) (num : Int) : (shapedF 4 (ops.map letterF) && namedF 4 l ops.length && numberedF 4 num) = (partsF 4 ops l && fieldsF 4 num l) := by
  rw [sh4 ops l]
  show (partsF 4 ops l && decide (l = []) && (decide (0 ≤ num) && decide (num ≤ 255))) = (partsF 4 ops l && ((decide (l = []) && decide (0 ≤ num)) && decide (num ≤ 255)))
  rw [Bool.and_assoc, Bool.and_assoc]
theorem g28 (ops : List Int) (l : List UInt8) (num : Int) : (shapedF 28 (ops.map letterF) && namedF 28 l ops.length && numberedF 28 num) = (partsF 28 ops l && fieldsF 28 num l) := by
  rw [sh28 ops l]
  show (partsF 28 ops l && decide (l = []) && (decide (0 ≤ num) && decide (num ≤ 255))) = (partsF 28 ops l && ((decide (l = []) && decide (0 ≤ num)) && decide (num ≤ 255)))
  rw [Bool.and_assoc, Bool.and_assoc]
theorem g24 (ops : List Int) (l : List UInt8) (num : Int) : (shapedF 24 (ops.map letterF) && namedF 24 l ops.length && numberedF 24 num) = (partsF 24 ops l && fieldsF 24 num l) := by
  show (wholeF [118, 116] (ops.map letterF) 0 8 && tyNames (nameF l) l ops.length && decide (num = 0)) = ((allF 116 (cls ops) 0 8 && tyNames (nameF l) l ops.length) && (if ¬ num = 0 then false else true))
  rw [fz, sh_all let_t, Bool.and_true]
theorem g30 (ops : List Int) (l : List UInt8) (num : Int) : (shapedF 30 (ops.map letterF) && namedF 30 l ops.length && numberedF 30 num) = (partsF 30 ops l && fieldsF 30 num l) := by
  show (wholeF [112] (ops.map letterF) 0 8 && ((decide (nameF l = 2) || (decide (l = [40, 41]) && decide ((ops.length : Int) = 0))) || (decide (l = [58]) && decide ((ops.length : Int) = 2))) && decide (num = 0)) = ((allF 112 (cls ops) 0 8 && ((decide (nameF l = 2) || (decide (l = [40, 41]) && decide ((ops.length : Int) = 0))) || (decide (l = [58]) && decide ((ops.length : Int) = 2)))) && (if ¬ num = 0 then false else true))
  rw [fz, sh_all let_p, Bool.and_true]
theorem good_eq (op num : Int) (ops : List Int) (l : List UInt8) : (shapedF op (ops.map letterF) && namedF op l ops.length && numberedF op num) = (partsF op ops l && fieldsF op num l) := by
  by_cases n1 : op = 1
  · subst n1; exact g1 ops l num
  by_cases n2 : op = 2
  · subst n2; exact g2 ops l num
  by_cases n3 : op = 3
  · subst n3; exact g3 ops l num
  by_cases n4 : op = 4
  · subst n4; exact g4 ops l num
  by_cases n5 : op = 5
  · subst n5; exact g5 ops l num
  by_cases n6 : op = 6
  · subst n6; exact g6 ops l num
  by_cases n7 : op = 7
  · subst n7; exact g7 ops l num
  by_cases n8 : op = 8
  · subst n8; exact g8 ops l num
  by_cases n9 : op = 9
  · subst n9; exact g9 ops l num
  by_cases n10 : op = 10
  · subst n10; exact g10 ops l num
  by_cases n11 : op = 11
  · subst n11; exact g11 ops l num
  by_cases n12 : op = 12
  · subst n12; exact g12 ops l num
  by_cases n13 : op = 13
  · subst n13; exact g13 ops l num
  by_cases n14 : op = 14
  · subst n14; exact g14 ops l num
  by_cases n15 : op = 15
  · subst n15; exact g15 ops l num
  by_cases n16 : op = 16
  · subst n16; exact g16 ops l num
  by_cases n17 : op = 17
  · subst n17; exact g17 ops l num
  by_cases n18 : op = 18
  · subst n18; exact g18 ops l num
  by_cases n19 : op = 19
  · subst n19; exact g19 ops l num
  by_cases n20 : op = 20
  · subst n20; exact g20 ops l num
  by_cases n21 : op = 21
  · subst n21; exact g21 ops l num
  by_cases n22 : op = 22
  · subst n22; exact g22 ops l num
  by_cases n23 : op = 23
  · subst n23; exact g23 ops l num
  by_cases n24 : op = 24
  · subst n24; exact g24 ops l num
  by_cases n25 : op = 25
  · subst n25; exact g25 ops l num
  by_cases n26 : op = 26
  · subst n26; exact g26 ops l num
  by_cases n27 : op = 27
  · subst n27; exact g27 ops l num
  by_cases n28 : op = 28
  · subst n28; exact g28 ops l num
  by_cases n29 : op = 29
  · subst n29; exact g29 ops l num
  by_cases n30 : op = 30
  · subst n30; exact g30 ops l num
  by_cases n31 : op = 31
  · subst n31; exact g31 ops l num
  by_cases n32 : op = 32
  · subst n32; exact g32 ops l num
  have h1 : shapedF op (ops.map letterF) = false := by
    unfold shapedF
    simp only [n1, n2, n3, n4, n5, n6, n7, n8, n9, n10, n11, n12, n13, n14, n15, n16, n17, n18, n19, n20, n21, n22, n23, n24, n25, n26, n27, n28, n29, n30, n31, n32, if_false, or_self]
    have : ¬ ((1 : Int) ≤ op ∧ op ≤ 5) := by omega
    have h2 : ¬ ((25 : Int) ≤ op ∧ op ≤ 29) := by omega
    rw [← Bool.decide_and, ← Bool.decide_and, decide_eq_false this, decide_eq_false h2]; simp
  have h2 : partsF op ops l = false := by
    unfold partsF
    simp only [n1, n2, n3, n4, n5, n6, n7, n8, n9, n10, n11, n12, n13, n14, n15, n16, n17, n18, n19, n20, n21, n22, n23, n24, n25, n26, n27, n28, n29, n30, n31, n32, if_false, or_self]
  rw [h1, h2]; rfl
theorem runs_eq (t : List Nd) : ∀ (r : List Nd) (i : Nat) (free : List Nat), runs goodF t r i free = runs goodR t r i free
  | [], _, _ => rfl
  | nd :: r, i, free => by
    rw [runs, runs]
    by_cases h : nd.kids.length ≤ free.length
    · have hg : goodF ((free.drop (free.length - nd.kids.length)).map (opAt t)) nd = goodR ((free.drop (free.length - nd.kids.length)).map (opAt t)) nd := by
        have hl : ((free.drop (free.length - nd.kids.length)).map (opAt t)).length = nd.kids.length := by rw [List.length_map, List.length_drop]; omega
        have := good_eq nd.op nd.num ((free.drop (free.length - nd.kids.length)).map (opAt t)) (bs nd.text)
        rw [hl] at this
        exact this
      rw [hg, runs_eq t r]
    · rw [decide_eq_false h]; simp
/-- The program says of every tree what the reference says. -/
theorem checkF_eq (t : List Nd) : checkF goodF t = checkF goodR t := by unfold checkF; rw [runs_eq]
end Go.Proofs.YtikgokpbhldlnaaGreatDoor
end
