/- Parts of a proof: La Lb Lc Ld Le Lf Lg Lh Li. -/
import Derived.Test.YtibkdjjdfcpdaaaMd
import Derived.Shelf.Abstract
import Derived.OwnWalkIn
import Derived.TacticsInMore
import Derived.LoopNIn
import Derived.LoopIn
set_option linter.unusedVariables false
set_option linter.unusedSimpArgs false
set_option linter.unusedSectionVars false
section
/- The library's iterators that go backward through a slice. -/
namespace Go.Proofs.Ytibkdjjdfcpdaaa
open Go Go.Ab Go.RowKit Go.Shelf
attribute [local go_sem] Oper.semAt_some
/-- n - 1, .., 0. -/
def downN : Nat → List Nat
  | 0 => []
  | n + 1 => n :: downN n
/-- What has come when k things are left. -/
def comeN (n k : Nat) : List Nat := (downN n).take (n - k)
theorem downN_length : ∀ n, (downN n).length = n
  | 0 => rfl
  | n + 1 => by simp [downN, downN_length n]
theorem downN_get : ∀ (n i : Nat), i < n → (downN n)[i]? = some (n - 1 - i)
  | 0, i, h => by omega
  | n + 1, 0, _ => by simp [downN]
  | n + 1, i + 1, h => by
    simp only [downN, List.getElem?_cons_succ]
    rw [downN_get n i (by omega)]
    congr 1; omega
theorem comeN_step {n k : Nat} (h : k < n) : comeN n (k + 1) ++ [k] = comeN n k := by
  unfold comeN
  rw [show n - k = (n - (k + 1)) + 1 by omega, List.take_add_one, downN_get n _ (by omega), show n - 1 - (n - (k + 1)) = k by omega]
  rfl
theorem comeN_length {n k : Nat} (h : k ≤ n) : (comeN n k).length = n - k := by
  unfold comeN
  rw [List.length_take, downN_length]; omega
theorem comeN_all (n : Nat) : comeN n 0 = downN n := by
  unfold comeN
  exact List.take_of_length_le (by rw [downN_length]; omega)
theorem comeN_none (n : Nat) : comeN n n = [] := by
  unfold comeN; simp
theorem comeN_pre (n k : Nat) : comeN n k <+: downN n := List.take_prefix _ _
theorem comeN_of {n x : Nat} {pre : List Nat} (h : (pre ++ [x]) <+: downN n) : x < n ∧ pre = comeN n (x + 1) := by
  have h1 : pre ++ [x] = (downN n).take (pre.length + 1) := by
    have := List.prefix_iff_eq_take.1 h
    rwa [List.length_append] at this
  have hl : pre.length < n := by
    have := h.length_le
    rw [downN_length, List.length_append] at this
    simp at this; omega
  rw [List.take_add_one, downN_get n _ hl] at h1
  obtain ⟨h2, h3⟩ := List.append_inj' h1 rfl
  have h4 : x = n - 1 - pre.length := by simpa using h3
  refine ⟨by omega, ?_⟩
  unfold comeN
  rw [show n - (x + 1) = pre.length by omega]
  exact h2
set_option maxRecDepth 100000 in
set_option maxHeartbeats 2000000 in
theorem back_ints (bx fb fo len cap : Nat) (l : List Nat) (L0 : List Assn) (hlen : l.length = len) (hl : len ≤ 1073741824) (hb : Ent L0 (CellsAt bx 0 [.slice (some ⟨fb, fo, none⟩) len cap])) (hc : ∀ i, i < len → Ent L0 (CellsAt fb (fo + i) [.int .i64 (gOf l i : Nat)])) :
    IterOk Try.prog 94 #[.pointer (some ⟨bx, 0, none⟩)] (fun x : Nat => #[.int .i64 (x : Int), .int .i64 (gOf l x : Nat)]) (downN len) L0 := by
  intro lp J Jx hJ hY W h0
  have hcell : ∀ (pre : List Nat) (W : World), Sat (hp W) (J pre) → W.cell? ⟨bx, 0, none⟩ = some (.slice (some ⟨fb, fo, none⟩) len cap) := fun pre W hs => cell_of (hb _ (hJ pre _ hs))
  have hel : ∀ (pre : List Nat) (W : World), Sat (hp W) (J pre) → ∀ i, i < len → W.cell? ⟨fb, fo + i, none⟩ = some (.int .i64 (gOf l i : Nat)) := fun pre W hs i hi => cell_of (hc i hi _ (hJ pre _ hs))
  have hBs := hcell _ _ h0
  refine callsIn_of_wp Try.func94 rfl trivial ?_ rfl
  simp only [Try.ntmps94, List.size_toArray, List.length_cons, List.length_nil, Nat.reduceAdd, Nat.reduceSub, Array.replicate_succ, Array.replicate_zero, List.push_toArray, List.append_toArray, List.nil_append, List.cons_append]
  gi_wp2
  gi_loopw [3] (fun i wr => ∃ k : Nat, k ≤ len ∧ i = .int .i64 ((k : Int) - 1) ∧ Sat (hp wr) (J (comeN len k)))
    (fun i _ => (intOf i + 1).toNat)
  case atStart => exact ⟨len, Nat.le_refl _, by first | rfl | simp, by rw [comeN_none]; exact h0⟩
  case round =>
    obtain ⟨k, hk, rfl, hJs⟩ := hrel
    have hcx := hcell _ _ hJs
    by_cases hlt : 0 < k
    · obtain ⟨j, rfl⟩ : ∃ j, k = j + 1 := ⟨k - 1, by omega⟩
      obtain ⟨fn, tmps, assign, body, hy, hR⟩ := hY _ j wr hJs (by rw [comeN_step (by omega)]; exact comeN_pre _ _)
      have hcx' := hel _ _ hJs j (by omega)
      have he : ((j + 1 : Nat) : Int) - 1 = (j : Int) := by omega
      rw [he]
      gi_wp2
      refine hR.mono ?_
      rintro e W3 (⟨rfl, hJ3⟩ | ⟨rfl, hJx3⟩)
      · gi_wp2
        go_roundw
        case rel => exact ⟨j, by omega, by simp, by rw [← comeN_step (by omega)]; exact hJ3⟩
        case measure => simp [intOf]
      · gi_wp2
        refine bodyPost_ret (results_none rfl _ _ _) rfl ?_
        refine ⟨⟨_, rfl⟩, .inr ⟨_, ?_, hJx3⟩⟩
        rw [comeN_step (by omega)]
        exact comeN_pre _ _
    · obtain rfl : k = 0 := by omega
      gi_wp2
      go_end0
      exact ⟨⟨_, rfl⟩, .inl (by rw [comeN_all] at hJs; exact hJs)⟩
set_option maxRecDepth 100000 in
set_option maxHeartbeats 2000000 in
theorem back_frs (bx fb fo len cap : Nat) (r : Nat → Value × Value) (L0 : List Assn) (hl : len ≤ 1073741824) (hb : Ent L0 (CellsAt bx 0 [.slice (some ⟨fb, fo, none⟩) len cap])) (hc : ∀ i, i < len → Ent L0 (CellsAt fb (fo + i * 2) [(r i).1, (r i).2])) :
    IterOk Try.prog 68 #[.pointer (some ⟨bx, 0, none⟩)] (fun x : Nat => #[.int .i64 (x : Int), .agg #[(r x).1, (r x).2]]) (downN len) L0 := by
  intro lp J Jx hJ hY W h0
  have hcell : ∀ (pre : List Nat) (W : World), Sat (hp W) (J pre) → W.cell? ⟨bx, 0, none⟩ = some (.slice (some ⟨fb, fo, none⟩) len cap) := fun pre W hs => cell_of (hb _ (hJ pre _ hs))
  have hel : ∀ (pre : List Nat) (W : World), Sat (hp W) (J pre) → ∀ i, i < len → W.cell? ⟨fb, fo + i * 2, none⟩ = some (r i).1 ∧ W.cell? ⟨fb, fo + i * 2 + 1, none⟩ = some (r i).2 := fun pre W hs i hi => by
    have h := hc i hi _ (hJ pre _ hs)
    exact ⟨cell_of (h.sub (j := 0) (n := 1) rfl), cell_of (h.sub (j := 1) (n := 1) rfl)⟩
  have hBs := hcell _ _ h0
  refine callsIn_of_wp Try.func68 rfl trivial ?_ rfl
  simp only [Try.ntmps68, List.size_toArray, List.length_cons, List.length_nil, Nat.reduceAdd, Nat.reduceSub, Array.replicate_succ, Array.replicate_zero, List.push_toArray, List.append_toArray, List.nil_append, List.cons_append]
  gi_wp2
  gi_loopw [3] (fun i wr => ∃ k : Nat, k ≤ len ∧ i = .int .i64 ((k : Int) - 1) ∧ Sat (hp wr) (J (comeN len k)))
    (fun i _ => (intOf i + 1).toNat)
  case atStart => exact ⟨len, Nat.le_refl _, by first | rfl | simp, by rw [comeN_none]; exact h0⟩
  case round =>
    obtain ⟨k, hk, rfl, hJs⟩ := hrel
    have hcx := hcell _ _ hJs
    by_cases hlt : 0 < k
    · obtain ⟨j, rfl⟩ : ∃ j, k = j + 1 := ⟨k - 1, by omega⟩
      obtain ⟨fn, tmps, assign, body, hy, hR⟩ := hY _ j wr hJs (by rw [comeN_step (by omega)]; exact comeN_pre _ _)
      obtain ⟨hcx1, hcx2⟩ := hel _ _ hJs j (by omega)
      have he : ((j + 1 : Nat) : Int) - 1 = (j : Int) := by omega
      rw [he]
      gi_wp2
      refine hR.mono ?_
      rintro e W3 (⟨rfl, hJ3⟩ | ⟨rfl, hJx3⟩)
      · gi_wp2
        go_roundw
        case rel => exact ⟨j, by omega, by simp, by rw [← comeN_step (by omega)]; exact hJ3⟩
        case measure => simp [intOf]
      · gi_wp2
        refine bodyPost_ret (results_none rfl _ _ _) rfl ?_
        refine ⟨⟨_, rfl⟩, .inr ⟨_, ?_, hJx3⟩⟩
        rw [comeN_step (by omega)]
        exact comeN_pre _ _
    · obtain rfl : k = 0 := by omega
      gi_wp2
      go_end0
      exact ⟨⟨_, rfl⟩, .inl (by rw [comeN_all] at hJs; exact hJs)⟩
set_option maxRecDepth 100000 in
set_option maxHeartbeats 2000000 in
theorem back_nil (bx cap : Nat) (sa : Option Addr) (L0 : List Assn) (encs : Nat → Array Value) (hb : Ent L0 (CellsAt bx 0 [.slice sa 0 cap])) :
    IterOk Try.prog 94 #[.pointer (some ⟨bx, 0, none⟩)] encs (downN 0) L0 := by
  intro lp J Jx hJ hY W h0
  have hBs : W.cell? ⟨bx, 0, none⟩ = some (.slice sa 0 cap) := cell_of (hb _ (hJ [] _ h0))
  refine callsIn_of_wp Try.func94 rfl trivial ?_ rfl
  simp only [Try.ntmps94, List.size_toArray, List.length_cons, List.length_nil, Nat.reduceAdd, Nat.reduceSub, Array.replicate_succ, Array.replicate_zero, List.push_toArray, List.append_toArray, List.nil_append, List.cons_append]
  gi_wp2
  gi_loopw [3] (fun i wr => i = .int .i64 (-1) ∧ Sat (hp wr) (J [])) (fun _ _ => 0)
  case atStart => exact ⟨by first | rfl | simp, h0⟩
  case round =>
    obtain ⟨rfl, hJs⟩ := hrel
    gi_wp2
    go_end0
    exact ⟨⟨_, rfl⟩, .inl hJs⟩
end Go.Proofs.Ytibkdjjdfcpdaaa
end

section
/- Scopes in memory: Find. -/
namespace Go.Proofs.Ytibkdjjdfcpdaaa
open Go Go.Ab
attribute [local irreducible] Wp WpO Qt OpT Ct Ent
/-- What is known, beside memory. -/
def pureA (p : Prop) : Assn := fun _ => p
theorem Sat.pureI {k : Hp} {L : List Assn} {p : Prop} (hp : p) (s : Sat k L) : Sat k (pureA p :: L) := by
  have hle : Hp.le k (Hp.diff k ⟨fun _ => none, k.met, 0⟩) := ⟨fun b o e => by
    show (if ((fun _ => none : Nat → Option Obj) b).isSome then none else k b) = some o
    simp only [Option.isSome_none, Bool.false_eq_true, if_false]
    exact e, rfl, Nat.le_refl _⟩
  exact ⟨⟨fun _ => none, k.met, 0⟩, ⟨nofun, rfl, Nat.zero_le _⟩, hp, Sat.mono hle s⟩
theorem Sat.pureE {k : Hp} {L : List Assn} {p : Prop} (s : Sat k (pureA p :: L)) : p := by
  obtain ⟨_, _, h, _⟩ := s
  exact h
section
attribute [local semireducible] Ent in
theorem Ent.le {L0 M L2 : List Assn} {φ : Hp → Prop} (h : Ent L0 φ) (hM : LeL M L0) : Ent (L2 ++ M) φ := fun k s => h k (hM k (Sat.drop L2 s))
attribute [local semireducible] Ent in
theorem frP_ent {L : List Assn} {frs : List Fr} (i n : Nat) {f : Fr} (hi : L[i]? = some (frP frs)) (hf : frs[n]? = some f) : Ent L (mapA f.mb (vM f.m)) := fun k s => by
  obtain ⟨M, hM, s2⟩ := Sat.openP (Sat.pull hi s)
  subst hM
  have hm : f ∈ frs.reverse := List.mem_reverse.2 (List.mem_of_getElem? hf)
  obtain ⟨A, B, hAB⟩ := List.append_of_mem hm
  rw [hAB] at s2
  simp only [List.map_append, List.map_cons, List.flatten_append, List.flatten_cons, List.append_assoc] at s2
  have s3 := Sat.drop _ s2
  obtain ⟨h, hl, ha⟩ := Sat.head s3
  exact mapA_mono f.mb (vM f.m) _ _ hl ha
theorem backFr_ct (a : Option Addr) (n c : Nat) (L : List Assn) : Ct Try.prog 49 #[.slice a n c] L
    (ret fun v L' => ∃ bx, v = .func (.func 68) #[] #[.pointer (some ⟨bx, 0, none⟩)] ∧ L' = ptA bx 82 [.slice a n c] :: L) := by
  refine Ct.body Try.func49 rfl Try.ntmps49 Try.results49 rfl ?_
  refine pur ?_
  refine WpO.box rfl rfl rfl (fun _ => Keeps.none) fun bx => ?_
  refine pur ?_
  refine S.makeFuncM rfl .nil (.cons rfl (by infer_instance) .nil) ?_
  refine pur ?_
  exact Wp.ret (Ret 0 rfl ⟨bx, rfl, rfl⟩)
theorem backInt_ct (a : Option Addr) (n c : Nat) (L : List Assn) : Ct Try.prog 90 #[.slice a n c] L
    (ret fun v L' => ∃ bx, v = .func (.func 94) #[] #[.pointer (some ⟨bx, 0, none⟩)] ∧ L' = ptA bx 26 [.slice a n c] :: L) := by
  refine Ct.body Try.func90 rfl Try.ntmps90 Try.results90 rfl ?_
  refine pur ?_
  refine WpO.box rfl rfl rfl (fun _ => Keeps.none) fun bx => ?_
  refine pur ?_
  refine S.makeFuncM rfl .nil (.cons rfl (by infer_instance) .nil) ?_
  refine pur ?_
  exact Wp.ret (Ret 0 rfl ⟨bx, rfl, rfl⟩)
/-- What a name means, and at which level: from the innermost frame on. -/
def findR : List (List (List UInt8 × Int)) → List UInt8 → Option (Int × Nat)
  | [], _ => none
  | g :: r, k => match sget g k with
    | some v => some (v, r.length)
    | none => findR r k
def findF (fs : List (List (List UInt8 × Int))) (k : List UInt8) : Option (Int × Nat) := findR fs.reverse k
def findV : Option (Int × Nat) → Value
  | some (v, n) => .tuple #[.int .i64 v, .int .i64 (n : Int), .int .i64 0]
  | none => .tuple #[.int .i64 0, .int .i64 0, .int .i64 6]
theorem findF_none {fs : List (List (List UInt8 × Int))} {k : List UInt8} (h : ∀ g ∈ fs, sget g k = none) : findF fs k = none := by
  unfold findF
  have : ∀ l : List (List (List UInt8 × Int)), (∀ g ∈ l, sget g k = none) → findR l k = none := by
    intro l
    induction l with
    | nil => exact fun _ => rfl
    | cons g r ih =>
      intro h
      unfold findR
      rw [h g (by simp)]
      exact ih fun x hx => h x (by simp [hx])
  exact this _ fun g hg => h g (List.mem_reverse.1 hg)
theorem findF_some {fs : List (List (List UInt8 × Int))} {k : List UInt8} {n : Nat} {g : List (List UInt8 × Int)} {v : Int} (hn : fs[n]? = some g) (hv : sget g k = some v) (h : ∀ i g', n < i → fs[i]? = some g' → sget g' k = none) : findF fs k = some (v, n) := by
  unfold findF
  have hlt := (List.getElem?_eq_some_iff.1 hn).1
  have he : fs.reverse = (fs.drop (n + 1)).reverse ++ g :: (fs.take n).reverse := by
    conv => lhs; rw [← List.take_append_drop n fs, List.reverse_append]
    rw [List.drop_eq_getElem_cons hlt, List.reverse_cons, List.append_assoc]
    rw [List.getElem?_eq_getElem hlt] at hn
    simp only [Option.some.injEq] at hn
    rw [hn]; rfl
  rw [he]
  have : ∀ l : List (List (List UInt8 × Int)), (∀ g ∈ l, sget g k = none) → findR (l ++ g :: (fs.take n).reverse) k = some (v, n) := by
    intro l
    induction l with
    | nil =>
      intro _
      show findR (g :: (fs.take n).reverse) k = _
      unfold findR
      rw [hv]
      simp [Nat.min_eq_left (Nat.le_of_lt hlt)]
    | cons x r ih =>
      intro h
      show findR (x :: (r ++ g :: (fs.take n).reverse)) k = _
      unfold findR
      rw [h x (by simp)]
      exact ih fun y hy => h y (by simp [hy])
  refine this _ fun x hx => ?_
  obtain ⟨i, hi⟩ := List.getElem?_of_mem (List.mem_reverse.1 hx)
  rw [List.getElem?_drop] at hi
  exact h _ x (by omega) hi
/-- A frame's two cells. -/
def frVal (frs : List Fr) (i : Nat) : Value × Value := match frs[i]? with
  | some f => (.map (some f.mb), .slice f.ka f.ks.length f.kc)
  | none => (.map none, .map none)
theorem comeN_mem {n k x : Nat} (hk : k ≤ n) : x ∈ comeN n k ↔ k ≤ x ∧ x < n := by
  unfold comeN
  constructor
  · intro h
    obtain ⟨i, hi⟩ := List.getElem?_of_mem h
    rw [List.getElem?_take] at hi
    split at hi
    · rw [downN_get n i (by omega)] at hi
      simp only [Option.some.injEq] at hi
      omega
    · cases hi
  · rintro ⟨h1, h2⟩
    refine List.mem_of_getElem? (i := n - 1 - x) ?_
    rw [List.getElem?_take, if_pos (by omega), downN_get n _ (by omega)]
    congr 1; omega
variable {sb : Nat} {fs : List (List (List UInt8 × Int))} {L : List Assn}
set_option maxHeartbeats 4000000 in
theorem find_ct (k : ByteArray) (M : List Assn) (hl : fs.length ≤ 1048576) (h1 : 1 ≤ fs.length) : Ct Try.prog 23 #[.pointer (some ⟨sb, 0, none⟩), .string k] (scA sb fs :: M)
    (ret fun v L' => v = findV (findF fs (bs k)) ∧ L' = scA sb fs :: M) := by
  refine Ct.openSc fun fa fc frs ⟨hf, hks⟩ => ?_
  have hfl : frs.length = fs.length := by rw [← hf, List.length_map]
  have hfg : ∀ (i : Nat) (f : Fr), frs[i]? = some f → fs[i]? = some f.m := fun i f h => by rw [← hf, List.getElem?_map, h]; rfl
  refine Ct.bodyM Try.func23 rfl Try.ntmps23 Try.results23 rfl ?_
  refine Wp.know (fun k hs => own_know (rows := frs.map frRow) 1 rfl hs) fun hk => ?_
  refine Wp.know (fun k hs => own_at (rows := frs.map frRow) 1 rfl hs (by intro e; have := congrArg List.length e; simp at this; subst this; simp at hfl; omega)) fun ⟨fb, fo, hfa⟩ => ?_
  subst hfa
  refine pur ?_
  refine WpO.box rfl rfl rfl (fun _ => Keeps.none) fun b3 => ?_
  refine pur ?_
  refine WpO.alloc rfl rfl (fun _ => Keeps.none) fun b4 => ?_
  refine pur ?_
  refine WpO.alloc rfl rfl (fun _ => Keeps.none) fun b5 => ?_
  refine pur ?_
  refine WpO.alloc rfl rfl (fun _ => Keeps.none) fun b6 => ?_
  refine pur ?_
  refine S.pnil Try.underlying57 rfl rfl rfl ?_
  refine pur ?_
  refine WpO.call Try.call49 rfl rfl (backFr_ct _ frs.length fc _) fun v L' ⟨bx, e1, e2⟩ => ⟨Keeps.none, ?_⟩
  subst e1; subst e2
  refine pur ?_
  refine Wp.rangeFunc (α := Nat) (g := .tmp 18) (ps := [19, 20]) (encs := fun x => [.int .i64 (x : Int), .agg #[(frVal frs x).1, (frVal frs x).2]]) (ys := downN frs.length)
    (L0 := ptA bx 82 [.slice (some ⟨fb, fo, none⟩) frs.length fc] :: ptA b3 9 [.string k] :: scM sb (some ⟨fb, fo, none⟩) fc frs M)
    (fun pre => [pureA (∀ i ∈ pre, ∀ f : Fr, frs[i]? = some f → sget f.m (bs k) = none), ptA b4 3 [.int .i64 0], ptA b5 3 [.int .i64 0], ptA b6 33 [.int .i64 0]])
    (fun c pre L4 => c = .ret ∧ ∃ (i : Nat) (f : Fr) (v : Int) (p0 : List Nat), pre = p0 ++ [i] ∧ frs[i]? = some f ∧ sget f.m (bs k) = some v ∧ (∀ j ∈ p0, ∀ f : Fr, frs[j]? = some f → sget f.m (bs k) = none) ∧ L4 = [ptA b4 3 [.int .i64 v], ptA b5 3 [.int .i64 (i : Int)], ptA b6 33 [.int .i64 0]])
    rfl Try.call68 (fun _ => rfl) (by decide)
    (back_frs bx fb fo frs.length fc (frVal frs) _ (by omega) (Ent.pt 0 1 rfl rfl) (fun i hi => ?_)) (fun k' s => ?_) (by simp [noDefer, noDeferO]) (by simp [noDefer, noDeferO]) (fun pre x M' hM hpre => ?_) (fun d => ?_) (fun d c pre L4 hpre ⟨hc, i, f, v, p0, e1, e2, e3, e4, e5⟩ => ?_)
  · have hf1 : frs[i]? = some frs[i] := List.getElem?_eq_getElem hi
    have := row_ent (L := ptA bx 82 [.slice (some ⟨fb, fo, none⟩) frs.length fc] :: ptA b3 9 [.string k] :: scM sb (some ⟨fb, fo, none⟩) fc frs M) (rows := frs.map frRow) (r := frRow frs[i]) 3 i rfl (by simp [hf1]) hk
    unfold frVal
    rw [hf1]
    exact this
  · refine Sat.pureI (fun i hi => by cases hi) ?_
    have s : Sat k' ([ptA bx 82 [.slice (some ⟨fb, fo, none⟩) frs.length fc], ptA b6 33 [.int .i64 0], ptA b5 3 [.int .i64 0], ptA b4 3 [.int .i64 0]] ++ (ptA b3 9 [.string k] :: scM sb (some ⟨fb, fo, none⟩) fc frs M)) := s
    refine s.perm ?_
    exact (show List.Perm [ptA bx 82 [.slice (some ⟨fb, fo, none⟩) frs.length fc], ptA b6 33 [.int .i64 0], ptA b5 3 [.int .i64 0], ptA b4 3 [.int .i64 0]] [ptA b4 3 [.int .i64 0], ptA b5 3 [.int .i64 0], ptA b6 33 [.int .i64 0], ptA bx 82 [.slice (some ⟨fb, fo, none⟩) frs.length fc]] from (List.reverse_perm _).symm).append_right _
  · obtain ⟨hx, hpe⟩ := comeN_of hpre
    obtain ⟨f, hf1⟩ : ∃ f, frs[x]? = some f := ⟨_, List.getElem?_eq_getElem hx⟩
    have hfv : frVal frs x = (.map (some f.mb), .slice f.ka f.ks.length f.kc) := by unfold frVal; rw [hf1]
    simp only [hfv]
    refine pur ?_
    refine WpO.alloc rfl rfl (fun _ => Keeps.none) fun b8 => ?_
    refine pur ?_
    refine ⟨rfl, ptA b8 100 [.map (some f.mb), .slice f.ka f.ks.length f.kc] :: [pureA (∀ i ∈ pre, ∀ f : Fr, frs[i]? = some f → sget f.m (bs k) = none), ptA b4 3 [.int .i64 0], ptA b5 3 [.int .i64 0], ptA b6 33 [.int .i64 0]], LeL.refl _, fun M2 hM2 => ?_⟩
    refine Wp.know (fun k' s => Sat.pureE (k := k') (Sat.tail s)) fun hpp => ?_
    refine pur ?_
    refine S.load (v := .string k) rfl rfl (by infer_instance) (Ent.le (L0 := ptA bx 82 [.slice (some ⟨fb, fo, none⟩) frs.length fc] :: ptA b3 9 [.string k] :: scM sb (some ⟨fb, fo, none⟩) fc frs M) (L2 := [_, _, _, _, _]) (Ent.pt 1 1 rfl rfl) hM2) ?_
    refine S.mlook (bs k) rfl (Ent.le (L0 := ptA bx 82 [.slice (some ⟨fb, fo, none⟩) frs.length fc] :: ptA b3 9 [.string k] :: scM sb (some ⟨fb, fo, none⟩) fc frs M) (L2 := [_, _, _, _, _]) (frP_ent 4 x rfl hf1) hM2) rfl rfl ?_
    refine pur ?_
    rw [mget_vM]
    refine Wp.branch rfl (fun h => ?_) (fun h => ?_)
    · obtain ⟨v, hv⟩ : ∃ v, sget f.m (bs k) = some v := by
        cases hq : sget f.m (bs k) with
        | none => rw [hq] at h; cases h
        | some v => exact ⟨v, rfl⟩
      rw [hv]
      refine pur ?_
      refine WpO.store 3 rfl rfl rfl rfl rfl rfl rfl rfl Keeps.none ?_
      refine WpO.store 4 rfl rfl rfl rfl rfl rfl rfl rfl Keeps.none ?_
      refine pur ?_
      refine Wp.ret ?_
      refine ⟨[ptA b4 3 [.int .i64 v], ptA b5 3 [.int .i64 (x : Int)], ptA b6 33 [.int .i64 0]], ⟨rfl, x, f, v, pre, rfl, hf1, hv, hpp, rfl⟩, fun k' s => s.tail.tail⟩
    · refine pur ?_
      refine fun k' s => ?_
      refine Sat.pureI (fun i hi f' hf' => ?_) s.tail.tail
      rcases List.mem_append.1 hi with q | q
      · exact hpp i q f' hf'
      · obtain rfl := List.mem_singleton.1 q
        rw [hf1] at hf'
        simp only [Option.some.injEq] at hf'
        subst hf'
        cases hq : sget f.m (bs k) with
        | none => rfl
        | some v => rw [hq] at h; cases h
  · refine Wp.know (fun k' s => Sat.pureE s) fun hpp => ?_
    have hnone : findF fs (bs k) = none := findF_none fun g hg => by
      obtain ⟨i, hi⟩ := List.getElem?_of_mem hg
      have hil := (List.getElem?_eq_some_iff.1 hi).1
      have hfi : frs[i]? = some frs[i] := List.getElem?_eq_getElem (by omega)
      have hgi := hfg i _ hfi
      rw [hi] at hgi
      simp only [Option.some.injEq] at hgi
      rw [hgi]
      refine hpp i ?_ _ hfi
      rw [← comeN_all]
      exact (comeN_mem (Nat.zero_le _)).2 ⟨Nat.zero_le _, by omega⟩
    refine pur ?_
    refine WpO.store 3 rfl rfl rfl rfl rfl rfl rfl rfl Keeps.none ?_
    refine pur ?_
    refine Wp.ret ?_
    refine ⟨[d], rfl, [pureA (∀ i ∈ downN frs.length, ∀ f : Fr, frs[i]? = some f → sget f.m (bs k) = none), ptA b4 3 [.int .i64 0], ptA b5 3 [.int .i64 0], ptA b6 33 [.int .i64 6]] ++ (ptA bx 82 [.slice (some ⟨fb, fo, none⟩) frs.length fc] :: ptA b3 9 [.string k] :: scM sb (some ⟨fb, fo, none⟩) fc frs M), [.int .i64 0, .int .i64 0, .int .i64 6], scA sb fs :: M, fun k' s => Sat.rot s,
      .cons (.one rfl (by infer_instance) (Ent.pt 1 1 rfl rfl)) (.cons (.one rfl (by infer_instance) (Ent.pt 2 1 rfl rfl)) (.cons (.one rfl (by infer_instance) (Ent.pt 3 1 rfl rfl)) .nil)), fun k' s => closeSc ⟨hf, hks⟩ k' (Sat.drop [_, _, _, _, _, _] s), ?_⟩
    rw [hnone]
    exact ⟨rfl, rfl⟩
  · subst hc; subst e1; subst e5
    have hpe := (comeN_of hpre).2
    have hfind : findF fs (bs k) = some (v, i) := findF_some (hfg i f e2) e3 fun j g hj hg => by
      have hjl := (List.getElem?_eq_some_iff.1 hg).1
      have hfj : frs[j]? = some frs[j] := List.getElem?_eq_getElem (by omega)
      have hgj := hfg j _ hfj
      rw [hg] at hgj
      simp only [Option.some.injEq] at hgj
      rw [hgj]
      refine e4 j ?_ _ hfj
      rw [hpe]
      have := (comeN_of hpre).1
      exact (comeN_mem (by omega)).2 ⟨by omega, by omega⟩
    refine Wp.ret ?_
    refine ⟨[d], rfl, [ptA b4 3 [.int .i64 v], ptA b5 3 [.int .i64 (i : Int)], ptA b6 33 [.int .i64 0]] ++ (ptA bx 82 [.slice (some ⟨fb, fo, none⟩) frs.length fc] :: ptA b3 9 [.string k] :: scM sb (some ⟨fb, fo, none⟩) fc frs M), [.int .i64 v, .int .i64 (i : Int), .int .i64 0], scA sb fs :: M, fun k' s => Sat.rot s,
      .cons (.one rfl (by infer_instance) (Ent.pt 0 1 rfl rfl)) (.cons (.one rfl (by infer_instance) (Ent.pt 1 1 rfl rfl)) (.cons (.one rfl (by infer_instance) (Ent.pt 2 1 rfl rfl)) .nil)), fun k' s => closeSc ⟨hf, hks⟩ k' (Sat.drop [_, _, _, _, _] s), ?_⟩
    rw [hfind]
    exact ⟨rfl, rfl⟩
end
end Go.Proofs.Ytibkdjjdfcpdaaa
end

section
/- order.walk. -/
namespace Go.Proofs.Ytibkdjjdfcpdaaa
open Go Go.Ab
attribute [local irreducible] Wp WpO Qt OpT Ct
theorem own_ent {L : List Assn} {e sz b o c : Nat} {rows : List (List Value)} {r : List Value} (i n : Nat) (hi : L[i]? = some (ownA e sz (some ⟨b, o, none⟩) c rows)) (hr : rows[n]? = some r) : Ent L (CellsAt b (o + n * sz) r) :=
  (Ent.own i hi).imp fun _ h => (h _ _ hr).2
def boolRows (s : List Bool) : List (List Value) := s.map fun b => [.bool b]
theorem boolRows_one (l : List Bool) : ∀ r ∈ boolRows l, r.length = 1 := fun r hr => by
  simp only [boolRows, List.mem_map] at hr
  obtain ⟨x, _, rfl⟩ := hr; rfl
theorem boolRows_set (s : List Bool) (i : Nat) (b : Bool) : (boolRows s).set i [.bool b] = boolRows (s.set i b) := by simp [boolRows, List.map_set]
theorem boolRows_length (s : List Bool) : (boolRows s).length = s.length := by simp [boolRows]
theorem natRows_length (s : List Nat) : (natRows s).length = s.length := by simp [natRows]
theorem natRows_snoc (s : List Nat) (x : Nat) : natRows s ++ [[.int .i64 (x : Int)]] = natRows (s ++ [x]) := by simp [natRows]
def stepRows (p : List (Nat × Nat)) : List (List Value) := p.reverse.map fun q => [.int .i64 (q.1 : Int), .int .i64 (q.2 : Int)]
theorem stepRows_cons (q : Nat × Nat) (p : List (Nat × Nat)) : stepRows (q :: p) = stepRows p ++ [[.int .i64 (q.1 : Int), .int .i64 (q.2 : Int)]] := by simp [stepRows]
theorem stepRows_length (p : List (Nat × Nat)) : (stepRows p).length = p.length := by simp [stepRows]
/-- A list of lists of numbers that is read. -/
def gridRows (g : List (List Nat)) (ks : List (Option Addr × Nat)) : List (List Value) := List.zipWith (fun (l : List Nat) (k : Option Addr × Nat) => [Value.slice k.1 l.length k.2]) g ks
structure GridR (L : List Assn) (a : Option Addr) (c : Nat) (g : List (List Nat)) : Prop where
  ex : ∃ ks : List (Option Addr × Nat), ks.length = g.length ∧ Sl L a c 1 (gridRows g ks) ∧ ∀ (i : Nat) (l : List Nat) (k : Option Addr × Nat), g[i]? = some l → ks[i]? = some k → Sl L k.1 k.2 1 (natRows l)
theorem GridR.wk {L L' : List Assn} {a : Option Addr} {c : Nat} {g : List (List Nat)} (h : GridR L a c g) (hL : LeL L' L) : GridR L' a c g := by
  obtain ⟨ks, h1, h2, h3⟩ := h.ex
  exact ⟨ks, h1, h2.wk hL, fun i l k e1 e2 => (h3 i l k e1 e2).wk hL⟩
theorem GridR.app {L : List Assn} {a : Option Addr} {c : Nat} {g : List (List Nat)} (h : GridR L a c g) (M : List Assn) : GridR (M ++ L) a c g := h.wk fun _ s => Sat.drop M s
theorem GridR.at {L : List Assn} {a : Option Addr} {c : Nat} {g : List (List Nat)} (h : GridR L a c g) {i : Nat} {l : List Nat} (hi : g[i]? = some l) :
    ∃ b o ka kc, a = some ⟨b, o, none⟩ ∧ Ent L (CellsAt b (o + i * 1) [.slice ka l.length kc]) ∧ Sl L ka kc 1 (natRows l) := by
  obtain ⟨ks, h1, h2, h3⟩ := h.ex
  have hlt := (List.getElem?_eq_some_iff.1 hi).1
  have hk : ks[i]? = some ks[i] := List.getElem?_eq_getElem (by omega)
  have hr : (gridRows g ks)[i]? = some [.slice ks[i].1 l.length ks[i].2] := by unfold gridRows; rw [List.getElem?_zipWith, hi, hk]
  obtain ⟨b, o, e1, _, e3⟩ := h2.at hr
  exact ⟨b, o, ks[i].1, ks[i].2, e1, e3, h3 i l _ hi hk⟩
theorem nat_at {L : List Assn} {a : Option Addr} {c : Nat} {l : List Nat} (h : Sl L a c 1 (natRows l)) {i x : Nat} (hi : l[i]? = some x) : ∃ b o, a = some ⟨b, o, none⟩ ∧ Ent L (CellsAt b (o + i * 1) [.int .i64 (x : Int)]) := by
  obtain ⟨b, o, e1, _, e3⟩ := h.at (i := i) (r := [.int .i64 (x : Int)]) (natRows_get _ _ _ hi)
  exact ⟨b, o, e1, e3⟩
/-- What holds of a walk under way, for the code. -/
structure WOk (g : List (List Nat)) (seen : List Bool) (done : List Nat) (fr : Nat) (s : Ws) : Prop where
  inv : ∃ new, WInv g seen done fr s new
  le : ∀ p ∈ s.path, p.2 ≤ (succs g p.1).length
theorem WOk.step {g : List (List Nat)} {seen : List Bool} {done : List Nat} {fr : Nat} {s : Ws} (h : WOk g seen done fr s) (hp : s.path ≠ []) : WOk g seen done fr (stepW g s) := by
  obtain ⟨new, h1⟩ := h.inv
  refine ⟨h1.step hp, ?_⟩
  obtain ⟨sn, dn, path⟩ := s
  cases path with
  | nil => exact absurd rfl hp
  | cons x p =>
    obtain ⟨a, k⟩ := x
    intro q hq
    unfold stepW at hq
    simp only [] at hq
    cases hb : (succs g a)[k]? with
    | none => rw [hb] at hq; exact h.le q (by simp only [List.mem_cons]; exact .inr hq)
    | some b =>
      have hk := (List.getElem?_eq_some_iff.1 hb).1
      rw [hb] at hq
      simp only [] at hq
      split at hq
      · rcases List.mem_cons.1 hq with rfl | hq
        · exact hk
        · exact h.le q (by simp [hq])
      · rcases List.mem_cons.1 hq with rfl | hq
        · exact Nat.zero_le _
        rcases List.mem_cons.1 hq with rfl | hq
        · exact hk
        · exact h.le q (by simp [hq])
theorem WOk.bound {g : List (List Nat)} {seen : List Bool} {done : List Nat} {fr : Nat} {s : Ws} (h : WOk g seen done fr s) (hl : seen.length = g.length) : s.seen.length = g.length ∧ s.done.length ≤ done.length + g.length ∧ s.path.length ≤ g.length ∧ ∀ p ∈ s.path, p.1 < g.length := by
  obtain ⟨new, hw⟩ := h.inv
  have hlt : ∀ x ∈ new ++ s.path.map (·.1), x < g.length := fun x hx => by have := met_lt (hw.fresh x hx); omega
  have hle := nodup_le (m := List.range g.length) hw.nodup fun x hx => List.mem_range.2 (hlt x hx)
  rw [List.length_append, List.length_map, List.length_range] at hle
  refine ⟨hw.len.trans hl, ?_, by omega, fun p hp => hlt p.1 (List.mem_append_right _ (List.mem_map.2 ⟨p, hp, rfl⟩))⟩
  rw [hw.done, List.length_append]; omega
theorem met_get {s : List Bool} {i : Nat} (h : i < s.length) : s[i]? = some (met s i) := by
  unfold met
  rw [List.getElem?_eq_getElem h]; rfl
theorem slA0 {fb fo c sz : Nat} : slA (some ⟨fb, fo, none⟩) c 0 sz = some ⟨fb, fo, none⟩ := by
  unfold slA
  split
  · rfl
  · rw [Nat.zero_mul]; rfl
theorem Sat.own_take {e sz : Nat} {a : Option Addr} {c : Nat} {rows rows' : List (List Value)} {L : List Assn} {k : Hp} (m : Nat) (h : rows.take m = rows') (s : Sat k (ownA e sz a c rows :: L)) : Sat k (ownA e sz a c rows' :: L) := by
  obtain ⟨h1, l1, a1, s1⟩ := s
  subst h
  exact ⟨h1, l1, ownA.take m a1, s1⟩
set_option maxHeartbeats 4000000 in
theorem walk_ct (g : List (List Nat)) (fr : Nat) (seen : List Bool) (done : List Nat) (na sa da : Option Addr) (nc sc dc : Nat) (L : List Assn) (hG : GridR L na nc g) (hlen : seen.length = g.length) (hr : Rng g) (hfr : fr < g.length)
    (hn : g.length ≤ 100000) (hdl : done.length ≤ 100000) (hsl : ∀ a, (succs g a).length ≤ 1073741824) : Ct Try.prog 89 #[.slice na g.length nc, .int .i64 (fr : Int), .slice sa seen.length sc, .slice da done.length dc] (ownA 4 1 sa sc (boolRows seen) :: ownA 3 1 da dc (natRows done) :: L)
    (ret fun v L' => ∃ a2 c2, v = .slice a2 (walkF g fr seen done).2.length c2 ∧ L' = ownA 4 1 sa sc (boolRows (walkF g fr seen done).1) :: ownA 3 1 a2 c2 (natRows (walkF g fr seen done).2) :: L) := by
  refine Ct.body Try.func89 rfl Try.ntmps89 Try.results89 rfl ?_
  refine Wp.know (fun k hs => own_at (rows := boolRows seen) 0 rfl hs (by intro e; have := congrArg List.length e; rw [boolRows_length, List.length_nil] at this; omega)) fun ⟨sb, so, hsa⟩ => ?_
  subst hsa
  refine pur ?_
  have hs1 := own_ent (L := ownA 4 1 (some ⟨sb, so, none⟩) sc (boolRows seen) :: ownA 3 1 da dc (natRows done) :: L) (n := fr) (r := [.bool (met seen fr)]) 0 rfl (by unfold boolRows; rw [List.getElem?_map, met_get (by omega)]; rfl)
  refine S.idx fr rfl rfl rfl rfl (by omega) ?_
  refine pur ?_
  refine Wp.branch rfl (fun h => ?_) (fun h => ?_)
  · refine pur ?_
    refine Wp.ret (Ret 0 rfl ⟨da, dc, ?_⟩)
    rw [walkF_met h]
    exact ⟨rfl, rfl⟩
  have hw : walkF g fr seen done = ((runW g ⟨seen.set fr true, done, [(fr, 0)]⟩).seen, (runW g ⟨seen.set fr true, done, [(fr, 0)]⟩).done) := by unfold walkF; rw [if_neg (by rw [h]; exact Bool.false_ne_true)]
  rw [hw]
  refine pur ?_
  refine S.idx fr rfl rfl rfl rfl (by omega) ?_
  refine WpO.storeRow1 0 fr rfl rfl rfl (by rw [boolRows_length]; omega) rfl rfl Keeps.none (boolRows_one _) ?_
  dsimp only [List.set]
  rw [boolRows_set]
  refine pur ?_
  refine S.build rfl rfl rfl ?_
  refine WpO.buildSlice rfl rfl rfl rfl rfl rfl rfl (fun _ => Keeps.none) fun b22 => ?_
  refine pur ?_
  have hok0 : WOk g seen done fr ⟨seen.set fr true, done, [(fr, 0)]⟩ := by
    refine ⟨⟨[], by simp, by simp, fun x => ?_, by simp, fun x hx => ?_, nofun, fun p hp y hy => ?_, by simp, fun x hx => ?_, fun D1 u D2 hD => by simp at hD, by simp⟩, fun p hp => ?_⟩
    · rw [met_set (met_false h)]; simp
    · simp at hx; subst hx; exact h
    · simp at hp; subst hp; simp at hy
    · simp at hx; subst hx; exact .refl h
    · simp at hp; subst hp; exact Nat.zero_le _
  refine Wp.loopI (α := Ws × (Option Addr × Nat) × (Option Addr × Nat)) (⟨seen.set fr true, done, [(fr, 0)]⟩, (some ⟨b22, 0, none⟩, 1), (da, dc))
    (fun x => [(0, .v (.slice na g.length nc)), (2, .v (.slice (some ⟨sb, so, none⟩) seen.length sc)), (3, .v (.slice x.2.2.1 x.1.done.length x.2.2.2)), (9, .v (.slice x.2.1.1 x.1.path.length x.2.1.2))])
    (fun x => ownA 167 2 x.2.1.1 x.2.1.2 (stepRows x.1.path) :: ownA 4 1 (some ⟨sb, so, none⟩) sc (boolRows x.1.seen) :: ownA 3 1 x.2.2.1 x.2.2.2 (natRows x.1.done) :: L)
    (fun x => measW g x.1) (fun x => WOk g seen done fr x.1 ∧ runW g x.1 = runW g ⟨seen.set fr true, done, [(fr, 0)]⟩) ⟨hok0, rfl⟩ ⟨rfl, rfl, rfl, rfl, trivial⟩ ?_ ?_
  · intro k s
    obtain ⟨h1, l1, a1, s1⟩ := s
    exact ⟨h1, l1, ownA.ofPt (rows := [[.int .i64 (fr : Int), .int .i64 0]]) rfl (by simp) rfl a1, s1⟩
  rintro ⟨s, ⟨pa, pc⟩, ⟨da, dc⟩⟩ ⟨hok, hrun⟩
  obtain ⟨q1, q2, q3, q4⟩ := hok.bound hlen
  have hstep : s.path ≠ [] → WOk g seen done fr (stepW g s) ∧ runW g (stepW g s) = runW g ⟨seen.set fr true, done, [(fr, 0)]⟩ ∧ measW g (stepW g s) < measW g s := fun hp => ⟨hok.step hp, (runW_step g s hp).symm.trans hrun, stepW_lt g s hp⟩
  have hend : s.path = [] → s = runW g ⟨seen.set fr true, done, [(fr, 0)]⟩ := fun hp => by rw [← hrun, runW_nil g s hp]
  obtain ⟨sn, dn, path⟩ := s
  simp only [] at q1 q2 q3 q4 hstep hend hok
  refine pur ?_
  refine Wp.branch rfl (fun h1 => ?_) (fun h1 => ?_)
  · cases path with
    | nil => simp at h1
    | cons x p =>
      obtain ⟨a, k⟩ := x
      have ha : a < g.length := q4 (a, k) (by simp)
      have hkle : k ≤ (succs g a).length := hok.le (a, k) (by simp)
      have hsa := hsl a
      obtain ⟨l, hl⟩ : ∃ l, g[a]? = some l := ⟨_, List.getElem?_eq_getElem ha⟩
      have hsl' : succs g a = l := by unfold succs; rw [hl]; rfl
      rw [hsl'] at hkle hsa
      obtain ⟨st1, st2, st3⟩ := hstep (List.cons_ne_nil _ _)
      unfold stepW at st1 st2 st3
      simp only [hsl'] at st1 st2 st3
      rw [stepRows_cons]
      simp only [List.length_cons] at q3 ⊢
      refine Wp.know (fun k' hs => own_at (rows := stepRows p ++ [[.int .i64 (a : Int), .int .i64 (k : Int)]]) 0 rfl hs (by simp)) fun ⟨pb, po, hpa⟩ => ?_
      refine Wp.know (fun k' hs => own_know (rows := stepRows p ++ [[.int .i64 (a : Int), .int .i64 (k : Int)]]) 0 rfl hs) fun hk0 => ?_
      have hpc := hk0.1
      rw [List.length_append, stepRows_length] at hpc
      simp only [List.length_cons, List.length_nil] at hpc
      subst hpa
      have hrow : (stepRows p ++ [[Value.int .i64 (a : Int), .int .i64 (k : Int)]])[p.length]? = some [.int .i64 (a : Int), .int .i64 (k : Int)] := by
        rw [List.getElem?_append_right (by rw [stepRows_length]; exact Nat.le_refl _), stepRows_length, Nat.sub_self]; rfl
      refine pur ?_
      have hw1 : IntKind.i64.wrap (((p.length + 1 : Nat) : Int) - 1) = ((p.length : Nat) : Int) := by rw [wrap_id (by omega) (by omega)]; omega
      rw [hw1]
      refine S.idx p.length rfl rfl rfl rfl (by omega) ?_
      refine pur ?_
      have hE : Ent (ownA 167 2 (some ⟨pb, po, none⟩) pc (stepRows p ++ [[.int .i64 (a : Int), .int .i64 (k : Int)]]) :: ownA 4 1 (some ⟨sb, so, none⟩) sc (boolRows sn) :: ownA 3 1 da dc (natRows dn) :: L) (CellsAt pb (po + p.length * 2) [.int .i64 (a : Int), .int .i64 (k : Int)]) := own_ent 0 p.length rfl hrow
      obtain ⟨nb, no, ka, kc, e1, hE2, hS2⟩ := (hG.app [ownA 167 2 (some ⟨pb, po, none⟩) pc (stepRows p ++ [[.int .i64 (a : Int), .int .i64 (k : Int)]]), ownA 4 1 (some ⟨sb, so, none⟩) sc (boolRows sn), ownA 3 1 da dc (natRows dn)]).at hl
      subst e1
      refine Wp.draw rfl [0,1,2,3,4,5,6,7,8,9,10,11,12] 13 13 _ rfl (by decide +kernel) (fun _ h => h) ?_
      refine pur ?_
      refine S.idx a rfl rfl rfl rfl ha ?_
      refine pur ?_
      refine Wp.branch rfl (fun h2 => ?_) (fun h2 => ?_)
      · have hkl : k = l.length := by have := of_decide_eq_true h2; omega
        have hb : l[k]? = none := List.getElem?_eq_none (by omega)
        rw [hb] at st1 st2 st3
        refine pur ?_
        refine WpO.buildSlice rfl rfl rfl rfl rfl rfl rfl (fun _ => Keeps.none) fun b49 => ?_
        refine WpO.appendLit 2 [[.int .i64 (a : Int)]] rfl rfl rfl rfl (by rw [natRows_length]) rfl rfl rfl rfl rfl rfl rfl (by rw [natRows_length]; simp; omega) (fun _ _ => Keeps.none) fun a2 k2 => ?_
        dsimp only [List.set]
        rw [natRows_snoc, natRows_length]
        refine pur ?_
        rw [hw1]
        refine S.sliceL 0 p.length rfl rfl Bd.no (Bd.at _ rfl (by infer_instance) (fun _ => rfl)) ⟨Nat.zero_le _, by omega⟩ ?_
        refine pur ?_
        refine Round.mk (⟨sn, dn ++ [a], p⟩, (some ⟨pb, po, none⟩, pc), (a2, k2)) st3 ⟨st1, st2⟩ ⟨rfl, rfl, rfl, by rw [slA0]; rfl, trivial⟩ (fun k' s => ?_)
        exact Sat.own_take p.length (by rw [List.take_append_of_le_length (by rw [stepRows_length]; exact Nat.le_refl _), List.take_of_length_le (by rw [stepRows_length]; exact Nat.le_refl _)]) s
      · have hkl : k < l.length := by have := of_decide_eq_false h2; omega
        obtain ⟨b, hb⟩ : ∃ b, l[k]? = some b := ⟨_, List.getElem?_eq_getElem hkl⟩
        have hbl : b < g.length := hr a b (by rw [hsl']; exact List.mem_of_getElem? hb)
        rw [hb] at st1 st2 st3
        simp only [] at st1 st2 st3
        obtain ⟨kb, ko, e2, hE3⟩ := nat_at hS2 hb
        subst e2
        refine pur ?_
        refine Wp.draw rfl [0,1,2,3,4,5,6,7,8,9,10,11,12,13] 14 14 _ rfl (by decide +kernel) (fun _ h => h) ?_
        refine pur ?_
        refine S.idx a rfl rfl rfl rfl ha ?_
        refine pur ?_
        refine S.idx k rfl rfl rfl rfl hkl ?_
        refine pur ?_
        have hw2 : IntKind.i64.wrap ((k : Int) + 1) = ((k + 1 : Nat) : Int) := by rw [wrap_id (by omega) (by omega)]; omega
        rw [hw2]
        refine WpO.storeRow (v := .int .i64 ((k + 1 : Nat) : Int)) (r := [.int .i64 (a : Int), .int .i64 (k : Int)]) 0 p.length 1 rfl rfl rfl hrow rfl rfl rfl (Nat.le_refl 2) Keeps.none ?_
        dsimp only [List.set]
        have hrows : (stepRows p ++ [[Value.int .i64 (a : Int), .int .i64 (k : Int)]]).set p.length (lset [.int .i64 (a : Int), .int .i64 (k : Int)] 1 (Value.int .i64 ((k + 1 : Nat) : Int)).cells.toList) = stepRows ((a, k + 1) :: p) := by
          rw [stepRows_cons, List.set_append_right _ _ (by rw [stepRows_length]; exact Nat.le_refl _), stepRows_length, Nat.sub_self]; rfl
        rw [hrows]
        refine pur ?_
        have hs2 := own_ent (L := ownA 167 2 (some ⟨pb, po, none⟩) pc (stepRows ((a, k + 1) :: p)) :: ownA 4 1 (some ⟨sb, so, none⟩) sc (boolRows sn) :: ownA 3 1 da dc (natRows dn) :: L) (n := b) (r := [.bool (met sn b)]) 1 rfl (by unfold boolRows; rw [List.getElem?_map, met_get (by omega)]; rfl)
        refine S.idx b rfl rfl rfl rfl (by omega) ?_
        refine pur ?_
        refine Wp.branch rfl (fun h3 => ?_) (fun h3 => ?_)
        · have hmb : met sn b = false := by simpa using h3
          rw [hmb] at st1 st2 st3
          simp only [Bool.false_eq_true, if_false] at st1 st2 st3
          refine pur ?_
          refine S.idx b rfl rfl rfl rfl (by omega) ?_
          refine WpO.storeRow1 1 b rfl rfl rfl (by rw [boolRows_length]; omega) rfl rfl Keeps.none (boolRows_one _) ?_
          dsimp only [List.set]
          rw [boolRows_set]
          refine pur ?_
          refine S.build rfl rfl rfl ?_
          refine WpO.buildSlice rfl rfl rfl rfl rfl rfl rfl (fun _ => Keeps.none) fun b87 => ?_
          refine WpO.appendLit 0 [[.int .i64 (b : Int), .int .i64 0]] rfl rfl rfl rfl (by rw [stepRows_length]; rfl) rfl rfl rfl rfl rfl rfl rfl (by rw [stepRows_length]; simp; omega) (fun _ _ => Keeps.none) fun a2 k2 => ?_
          dsimp only [List.set]
          have hrows2 : stepRows ((a, k + 1) :: p) ++ [[Value.int .i64 (b : Int), .int .i64 0]] = stepRows ((b, 0) :: (a, k + 1) :: p) := by rw [stepRows_cons (b, 0)]; rfl
          rw [hrows2, stepRows_length]
          refine pur ?_
          exact Round.mk (⟨sn.set b true, dn, (b, 0) :: (a, k + 1) :: p⟩, (a2, k2), (da, dc)) st3 ⟨st1, st2⟩ ⟨rfl, rfl, rfl, rfl, trivial⟩ (LeL.refl _)
        · have hmb : met sn b = true := by simpa using h3
          rw [hmb] at st1 st2 st3
          simp only [if_true] at st1 st2 st3
          refine pur ?_
          exact Round.mk (⟨sn, dn, (a, k + 1) :: p⟩, (some ⟨pb, po, none⟩, pc), (da, dc)) st3 ⟨st1, st2⟩ ⟨rfl, rfl, rfl, rfl, trivial⟩ (LeL.refl _)
  · have hp : path = [] := by
      cases path with
      | nil => rfl
      | cons x p => simp at h1
    have he := hend hp
    subst hp
    rw [← he]
    refine pur ?_
    exact Wp.ret (RetL rfl (fun k' s => s.tail) ⟨da, dc, rfl, rfl⟩)
end Go.Proofs.Ytibkdjjdfcpdaaa
end

section
/- Lists of lists of one's own; an array's place; a row that is cleared. -/
namespace Go.Proofs.Ytibkdjjdfcpdaaa
open Go Go.Ab
attribute [local irreducible] Wp WpO Qt OpT Ct
section
variable {P : Program} {n : Nat} {ops : Array Oper} {Q : Post} {m m' : Md} {rest : List Oper} {E : Env} {D : List Deferred} {L : List Assn} {ty : TypeId} {pos : String} {af : Array Edge} {gd : Option (Nat × Bool)} {x y : Operand} {c1 c2 g : Bool} {t u e : TypeId}
attribute [local semireducible] Qt in
theorem Qt.idxArr {d : Option Tmp} {b o nn sz : Nat} {agg : Bool} {i : Int} {ik : IntKind} [hz : TSize P e sz agg] (k : Nat) (hu : P.underlying t = some (.array nn e))
    (hx : opv x E = some (c1, .pointer (some ⟨b, o, none⟩))) [Imp g c1] (hy : opv y E = some (c2, .int ik i)) [Imp g c2] (h0 : i = (k : Int)) (h1 : k < nn) :
    Qt P E L ⟨d, .indexAddr t x y, ty, pos, af, gd⟩ g (.pointer (some ⟨b, o + k * sz, none⟩)) := fun a w h2 _ h3 => by
  have e1 := EvG.of (g := g) hx a h2 h3
  have e2 := EvG.of (g := g) hy a h2 h3
  have e3 := hz.size w
  subst h0
  simp only [execOp, e1, e2]
  refine run_v ?_
  unfold Instr.indexAt
  rw [run_ok (a := (ik, (k : Int))) (w' := w) rfl]
  simp only []
  rw [run_ok (run_u hu w)]
  simp only []
  rw [run_ok (a := (⟨b, o, none⟩ : Addr)) (w' := w) rfl]
  rw [run_ok (a := (some (⟨b, o, none⟩ : Addr), nn, e)) (w' := w) rfl]
  simp only []
  rw [run_ok (run_u hu w)]
  simp only []
  rw [if_pos ⟨by omega, by omega⟩]
  rw [run_ok e3]
  simp [Sem.run, pure, Addr.add_eq]
theorem S.idxArr [Nxt m m'] {d : Nat} {b o nn sz : Nat} {agg : Bool} {i : Int} {ik : IntKind} (k : Nat) (h0 : Nat.blt d n = true) (hu : P.underlying t = some (.array nn e)) (hx : opv x E = some (true, .pointer (some ⟨b, o, Option.none⟩))) (hy : opv y E = some (true, .int ik i)) [TSize P e sz agg]
    (hi : i = (k : Int)) (hlt : k < nn) (h : WpO P n ops Q m' rest ((d, .v (.pointer (some ⟨b, o + k * sz, Option.none⟩))) :: E) D L) : WpO P n ops Q m (⟨some d, .indexAddr t x y, ty, pos, af, Option.none⟩ :: rest) E D L :=
  WpO.q rfl h0 (Qt.idxArr k hu hx hy hi hlt) h
attribute [local semireducible] OpT in
/-- clear of a row of one's own of single cells. -/
theorem OpT.clear1 {d : Option Tmp} {b o c : Nat} {z : Value} {rows : List (List Value)} {ln cc : Nat} [hu : USlice P t e] [hz : TZero P e z] (i : Nat)
    (hx : opv x E = some (c1, .slice (some ⟨b, o, none⟩) ln cc)) [Imp true c1] (hi : L[i]? = some (ownA e 1 (some ⟨b, o, none⟩) c rows)) (hln : rows.length = ln) (hc : z.cells = #[z]) (hs : scalar z = true) :
    OpT P E L ⟨d, .call ⟨.builtin .clear, #[x], #[t]⟩, ty, pos, af, gd⟩ (fun r L' => r = .tuple #[] ∧ L' = L.set i (ownA e 1 (some ⟨b, o, none⟩) c (List.replicate ln [z]))) noPanic := fun a w K Q0 h1 h2 hK _ => by
  obtain ⟨h0, l0, ⟨o1, o2, o3⟩, s0⟩ := Sat.pull hi h2
  rcases o3 with ⟨o3, _⟩ | ⟨b', o', cs, o3, o4, o5, o6⟩
  · cases o3
  simp only [Option.some.injEq, Addr.mk.injEq, and_true] at o3
  obtain ⟨rfl, rfl⟩ := o3
  have hb : w.heap[b]? = some (.cells cs.toList.toArray e (0, 0)) := by rw [Array.toArray_toList]; exact l0 _ _ o4
  have hcl0 : cs.toList.length = cs.size := Array.length_toList
  have hzl : ∀ v ∈ List.replicate ln z, scalar v = true := fun v hv => by rw [List.eq_of_mem_replicate hv]; exact hs
  have hst := run_storeCells (P := P) (b := b) (e := e) (o := o) (List.replicate ln z) 0 w cs.toList hb hzl (by simp; omega)
  have hx' := EvG.of (g := true) hx a h1 rfl
  have hrep : ∀ m : Nat, (List.replicate m [z]).flatten = List.replicate m z := fun m => by
    induction m with
    | zero => rfl
    | succ k ih => rw [List.replicate_succ, List.flatten_cons, ih, List.replicate_succ]; rfl
  have hrun : (Builtin.clear_ #[t] ty #[.slice (some ⟨b, o, none⟩) ln cc]).run P w = .ok (.tuple #[]) { w with heap := w.heap.setIfInBounds b (.cells (lset cs.toList (o + 0) (List.replicate ln z)).toArray e (0, 0)) } := by
    unfold Builtin.clear_
    simp only [List.getElem?_toArray, List.getElem?_cons_zero]
    rw [run_ok (run_u hu.h w)]
    cases ln with
    | zero =>
      have : w.heap.setIfInBounds b (.cells (lset cs.toList (o + 0) (List.replicate 0 z)).toArray e (0, 0)) = w.heap := by
        refine Array.ext_getElem? fun j => ?_
        rw [Array.getElem?_setIfInBounds]
        split
        · rename_i hj; subst hj
          simp only [List.replicate_zero, lset]
          rw [hb]
          split
          · rfl
          · rename_i hlt; rw [Array.getElem?_eq_none (by omega)] at hb; cases hb
        · rfl
      rw [this]; rfl
    | succ ln =>
      simp only []
      have hzz : (zeroValue e).run P w = .ok z w := hz.h w
      have hz1 : (Builtin.zeroCells #[z] (ln + 1)).toList = List.replicate (ln + 1) z := by
        have := zero_row (zs := [z]) (ln + 1) (.inl (by simp))
        rw [hrep] at this
        exact this
      rw [run_ok hzz, hc, hz1, run_ok hst]
      rfl
  unfold Oper.wp
  have he : (execOp a.eval ⟨d, .call ⟨.builtin .clear, #[x], #[t]⟩, ty, pos, af, gd⟩).run P w = .ok (.value (.tuple #[])) { w with heap := w.heap.setIfInBounds b (.cells (lset cs.toList (o + 0) (List.replicate ln z)).toArray e (0, 0)) } := by
    simp only [execOp, resolve, List.map_toArray, List.map_cons, List.map_nil, hx']
    show (do pure (Next.value (← Builtin.clear_ #[t] ty #[.slice (some ⟨b, o, none⟩) ln cc])) : Sem Next).run P w = _
    exact run_v hrun
  rw [he]
  refine hK _ _ _ ⟨rfl, rfl⟩ (Sat.set hi ?_)
  have hbs := lt_of_hp (w := w) (l0 _ _ o4)
  refine Sat.turn (b := b) (Sat.pull hi h2) (fun h' ha => ?_) hp_set (fun h' ha hl' => ?_) (by rw [hp_set_at hbs]; rfl)
  · obtain ⟨_, _, h3⟩ := ha
    rcases h3 with ⟨h3, _⟩ | ⟨b', o', cs', h3, h4, _⟩
    · cases h3
    · simp only [Option.some.injEq, Addr.mk.injEq, and_true] at h3; obtain ⟨rfl, rfl⟩ := h3; exact ⟨_, h4⟩
  · refine ⟨fun q hq => by rw [List.eq_of_mem_replicate hq]; rfl, by simp; omega, .inr ⟨b, o, _, rfl, by show (if b = b then hp _ b else h' b) = _; rw [if_pos rfl, hp_set_at hbs], by rw [upd_size, Array.length_toList]; exact o5, fun j u hj => ?_⟩⟩
    rw [hrep] at hj
    have hjl := (List.getElem?_eq_some_iff.1 hj).1
    rw [List.length_replicate] at hjl
    rw [List.getElem?_toArray, lset_get]
    rw [if_pos ⟨by omega, by simp; omega, by omega⟩]
    rw [show o + j - (o + 0) = j by omega]
    exact hj
end
/-- Parts are chosen, and put into another order. -/
def selA {α : Type} : Nat → List α → List Nat → Option (List α)
  | 0, _, [] => some []
  | 0, _, _ :: _ => none
  | _ + 1, _, [] => some []
  | n + 1, M, i :: r => match M[i]? with
    | some A => match selA n (M.eraseIdx i) (r.map fun j => match Nat.blt i j with | true => j - 1 | false => j) with
      | some M' => some (A :: M')
      | none => none
    | none => none
theorem Sat.sel {k : Hp} {T : List Assn} : ∀ (n : Nat) {M M' : List Assn} (idx : List Nat), selA n M idx = some M' → Sat k (M ++ T) → Sat k (M' ++ T)
  | 0, M, M', [], h, s => by
    simp only [selA, Option.some.injEq] at h
    subst h; exact Sat.drop M s
  | 0, _, _, _ :: _, h, _ => by cases h
  | n + 1, M, M', [], h, s => by
    simp only [selA, Option.some.injEq] at h
    subst h; exact Sat.drop M s
  | n + 1, M, M', i :: r, h, s => by
    unfold selA at h
    cases hA : M[i]? with
    | none => rw [hA] at h; cases h
    | some A =>
      rw [hA] at h
      simp only [] at h
      have hlt := (List.getElem?_eq_some_iff.1 hA).1
      cases hs : selA n (M.eraseIdx i) (r.map fun j => match Nat.blt i j with | true => j - 1 | false => j) with
      | none => rw [hs] at h; cases h
      | some M2 =>
        rw [hs] at h
        simp only [Option.some.injEq] at h
        subst h
        have s1 := Sat.pull (i := i) (by rw [List.getElem?_append_left hlt]; exact hA) s
        rw [List.eraseIdx_append_of_lt_length hlt] at s1
        obtain ⟨h1, l1, a1, s2⟩ := s1
        exact ⟨h1, l1, a1, Sat.sel n _ hs s2⟩
/-! ### Parts in a package: one is taken out, put in again -/
theorem Sat.pkTake {M L : List Assn} {i : Nat} {A : Assn} {k : Hp} (hi : M[i]? = some A) (s : Sat k (pkgA (fun M' => M' = M) :: L)) : Sat k (A :: pkgA (fun M' => M' = M.eraseIdx i) :: L) := by
  obtain ⟨M', hM, s1⟩ := Sat.openP s
  subst hM
  have s2 : Sat k ((A :: M'.eraseIdx i) ++ L) := s1.perm ((pull_perm M' i A hi).symm.append_right L)
  exact Sat.cons_mono (fun k s => Sat.closeP (φ := fun M'' => M'' = M'.eraseIdx i) rfl s) s2
theorem Sat.pkPut {M L : List Assn} {i : Nat} {A : Assn} {k : Hp} (hi : i < M.length) (s : Sat k (A :: pkgA (fun M' => M' = M.eraseIdx i) :: L)) : Sat k (pkgA (fun M' => M' = M.set i A) :: L) := by
  have s1 : Sat k (A :: (M.eraseIdx i ++ L)) := Sat.cons_mono (fun k s => by
    obtain ⟨M', hM, s2⟩ := Sat.openP s
    subst hM; exact s2) s
  exact Sat.closeP (φ := fun M' => M' = M.set i A) rfl (Sat.perm ((set_perm M i A hi).symm.append_right L) s1)
def listsM (g : List (List Nat)) (ks : List (Option Addr × Nat)) : List Assn := List.zipWith (fun (l : List Nat) (k : Option Addr × Nat) => ownA 3 1 k.1 k.2 (natRows l)) g ks
def listsP (g : List (List Nat)) (ks : List (Option Addr × Nat)) : Assn := pkgA fun M => M = listsM g ks
theorem zipWith_set {α β γ : Type} (f : α → β → γ) : ∀ (l : List α) (m : List β) (i : Nat) (a : α) (b : β), List.zipWith f (l.set i a) (m.set i b) = (List.zipWith f l m).set i (f a b)
  | [], m, i, a, b => by simp
  | x :: l, [], i, a, b => by cases i <;> simp
  | x :: l, y :: m, 0, a, b => by simp
  | x :: l, y :: m, i + 1, a, b => by simp [zipWith_set f l m i a b]
theorem gridRows_set (g : List (List Nat)) (ks : List (Option Addr × Nat)) (i : Nat) (l : List Nat) (k : Option Addr × Nat) : (gridRows g ks).set i [.slice k.1 l.length k.2] = gridRows (g.set i l) (ks.set i k) := by
  unfold gridRows; rw [zipWith_set]
theorem gridRows_length {g : List (List Nat)} {ks : List (Option Addr × Nat)} (h : ks.length = g.length) : (gridRows g ks).length = g.length := by unfold gridRows; rw [List.length_zipWith, h, Nat.min_self]
theorem gridRows_one (g : List (List Nat)) (ks : List (Option Addr × Nat)) : ∀ r ∈ gridRows g ks, r.length = 1 := fun r hr => by
  obtain ⟨i, hi⟩ := List.getElem?_of_mem hr
  unfold gridRows at hi
  rw [List.getElem?_zipWith] at hi
  split at hi
  · simp only [Option.some.injEq] at hi; subst hi; rfl
  · cases hi
theorem gridRows_get {g : List (List Nat)} {ks : List (Option Addr × Nat)} {i : Nat} {l : List Nat} {k : Option Addr × Nat} (h1 : g[i]? = some l) (h2 : ks[i]? = some k) : (gridRows g ks)[i]? = some [.slice k.1 l.length k.2] := by
  unfold gridRows; rw [List.getElem?_zipWith, h1, h2]
theorem lists_take {g : List (List Nat)} {ks : List (Option Addr × Nat)} {i : Nat} {l : List Nat} {k0 : Option Addr × Nat} {L : List Assn} {k : Hp} (h1 : g[i]? = some l) (h2 : ks[i]? = some k0) (s : Sat k (listsP g ks :: L)) : Sat k (ownA 3 1 k0.1 k0.2 (natRows l) :: pkgA (fun M' => M' = (listsM g ks).eraseIdx i) :: L) :=
  Sat.pkTake (by unfold listsM; rw [List.getElem?_zipWith, h1, h2]) s
theorem lists_put {g : List (List Nat)} {ks : List (Option Addr × Nat)} {i : Nat} {l : List Nat} {k0 : Option Addr × Nat} {L : List Assn} {k : Hp} (h1 : i < g.length) (h2 : ks.length = g.length) (s : Sat k (ownA 3 1 k0.1 k0.2 (natRows l) :: pkgA (fun M' => M' = (listsM g ks).eraseIdx i) :: L)) : Sat k (listsP (g.set i l) (ks.set i k0) :: L) := by
  have := Sat.pkPut (M := listsM g ks) (by unfold listsM; rw [List.length_zipWith]; omega) s
  unfold listsP
  have e : listsM (g.set i l) (ks.set i k0) = (listsM g ks).set i (ownA 3 1 k0.1 k0.2 (natRows l)) := by unfold listsM; rw [zipWith_set]
  rw [e]; exact this
/-- A list of lists of one's own is read. -/
theorem grid_know {L : List Assn} {a : Option Addr} {c : Nat} {g : List (List Nat)} {ks : List (Option Addr × Nat)} {k : Hp} (i j : Nat) (hi : L[i]? = some (ownA 26 1 a c (gridRows g ks))) (hj : L[j]? = some (listsP g ks)) (hk : ks.length = g.length) (hs : Sat k L) : GridR L a c g := by
  refine ⟨ks, hk, Sl.own i hi (own_know i hi hs), fun n l key e1 e2 => ?_⟩
  have hL : ∀ k', Sat k' L → Sat k' (listsM g ks ++ L.eraseIdx j) := fun k' s => by
    obtain ⟨M, hM, hs⟩ := Sat.openP (Sat.pull hj s)
    subst hM; exact hs
  have hidx : (listsM g ks ++ L.eraseIdx j)[n]? = some (ownA 3 1 key.1 key.2 (natRows l)) := by
    have hn := (List.getElem?_eq_some_iff.1 e1).1
    rw [List.getElem?_append_left (by unfold listsM; rw [List.length_zipWith]; omega)]
    unfold listsM
    rw [List.getElem?_zipWith, e1, e2]
  exact (Sl.own _ hidx (own_know _ hidx (hL k hs))).wk hL
theorem lists_new (n : Nat) : listsM (List.replicate n []) (List.replicate n (none, 0)) = List.replicate n (ownA 3 1 none 0 []) := by
  unfold listsM
  rw [List.zipWith_replicate]
  simp [natRows]
theorem gridRows_new (n : Nat) : gridRows (List.replicate n []) (List.replicate n (none, 0)) = List.replicate n [.slice none 0 0] := by
  unfold gridRows
  rw [List.zipWith_replicate]
  simp
theorem lists_nil {L : List Assn} {k : Hp} (n : Nat) (s : Sat k L) : Sat k (listsP (List.replicate n []) (List.replicate n (none, 0)) :: L) := by
  unfold listsP
  rw [lists_new]
  refine Sat.closeP (φ := fun M => M = List.replicate n (ownA 3 1 none 0 [])) rfl ?_
  induction n with
  | zero => exact s
  | succ n ih => rw [List.replicate_succ]; exact Sat.ownNil ih
end Go.Proofs.Ytibkdjjdfcpdaaa
end

section
/- order.graphOf. -/
namespace Go.Proofs.Ytibkdjjdfcpdaaa
open Go Go.Ab
attribute [local irreducible] Wp WpO Qt OpT
/-- A contract that turns one part, wherever it stands. -/
theorem Ct.at {P : Program} {f : FuncId} {args : Array Value} {L : List Assn} {A A' : Assn} {φ : Value → Prop} (i : Nat) (hi : L[i]? = some A) (h : Ct P f args (A :: L.eraseIdx i) (ret fun v L' => φ v ∧ L' = A' :: L.eraseIdx i)) : Ct P f args L (ret fun v L' => φ v ∧ L' = L.set i A') := fun w hw => by
  refine (h w (Sat.pull hi hw)).mono fun e w' ⟨h0, L', hR, hS⟩ => ⟨h0, L.set i A', ?_, ?_⟩
  · cases e with
    | returned v => exact ⟨hR.1, rfl⟩
    | panicked c => exact hR
    | outgrown => exact hR
  · cases e with
    | returned v =>
      obtain ⟨_, rfl⟩ := hR
      exact Sat.set hi hS
    | panicked c => exact hR.elim
    | outgrown => exact hR.elim
attribute [local irreducible] Ct
theorem ifind_none : ∀ {xs : List Int} {k : Int} {n : Nat}, ifind xs k n = none ↔ k ∉ xs
  | [], _, _ => by simp [ifind]
  | x :: r, k, n => by
    unfold ifind
    by_cases h : x = k
    · simp [h]
    · rw [if_neg h, ifind_none]
      simp [Ne.symm h]
theorem ifind_some : ∀ {xs : List Int} {k : Int} {n i : Nat}, ifind xs k n = some i → n ≤ i ∧ xs[i - n]? = some k
  | [], _, _, _, h => by cases h
  | x :: r, k, n, i, h => by
    unfold ifind at h
    by_cases e : x = k
    · rw [if_pos e] at h
      simp only [Option.some.injEq] at h
      subst h
      simp [e]
    · rw [if_neg e] at h
      obtain ⟨h1, h2⟩ := ifind_some h
      refine ⟨by omega, ?_⟩
      rw [show i - n = (i - (n + 1)) + 1 by omega]
      simpa using h2
theorem ifind_lt {xs : List Int} {k : Int} {i : Nat} (h : ifind xs k 0 = some i) : i < xs.length := by
  have := (ifind_some h).2
  exact (List.getElem?_eq_some_iff.1 this).1
/-- The pairs laid into the graph. -/
def usesF (nodes : List Int) : List (Int × Int) → List (List Nat) → Option (List (List Nat))
  | [], g => some g
  | p :: r, g => match ifind nodes p.1 0, ifind nodes p.2 0 with
    | some a, some b => usesF nodes r (g.modify a (· ++ [b]))
    | _, _ => none
theorem usesF_cons (nodes : List Int) (p : Int × Int) (r : List (Int × Int)) (g : List (List Nat)) : usesF nodes (p :: r) g = (match ifind nodes p.1 0, ifind nodes p.2 0 with
    | some a, some b => usesF nodes r (g.modify a (· ++ [b]))
    | _, _ => none) := rfl
def graphF (nodes : List Int) (uses : List (Int × Int)) : Except Int (List (List Nat)) :=
  if nodes.Nodup then (match usesF nodes uses (List.replicate nodes.length []) with | some g => .ok g | none => .error 6) else .error 5
def pairRows (l : List (Int × Int)) : List (List Value) := l.map fun p => [.int .i64 p.1, .int .i64 p.2]
def graphV (na : Option Addr) (nn nc : Nat) (ga : Option Addr) (gn gc : Nat) : Value := .agg #[.slice na nn nc, .slice ga gn gc]
theorem modify_set {g : List (List Nat)} {a : Nat} {l : List Nat} (h : g[a]? = some l) (b : Nat) : g.modify a (· ++ [b]) = g.set a (l ++ [b]) := by
  refine List.ext_getElem? fun i => ?_
  rw [List.getElem?_modify, List.getElem?_set]
  by_cases e : a = i
  · subst e
    rw [h]
    simp [(List.getElem?_eq_some_iff.1 h).1]
  · simp [e]
def ixv : Option Nat → Int
  | some i => (i : Int)
  | none => 0
def ixe : Option Nat → Int
  | some _ => 0
  | none => 6
theorem ifind2_ct {ib : Nat} {xs : List Int} (k : Int) (M : List Assn) : Ct Try.prog 88 #[.pointer (some ⟨ib, 0, none⟩), .int .i64 k] (ixA ib xs :: M)
    (ret fun v L' => v = .tuple #[.int .i64 (ixv (ifind xs k 0)), .int .i64 (ixe (ifind xs k 0))] ∧ L' = ixA ib xs :: M) := by
  have h := ifind_ct (ib := ib) (xs := xs) k M
  cases hq : ifind xs k 0 with
  | none => rw [hq] at h; exact h
  | some i => rw [hq] at h; exact h
set_option maxHeartbeats 8000000 in
theorem graphOf_ct (nodes : List Int) (uses : List (Int × Int)) (na ua : Option Addr) (nc uc : Nat) (L : List Assn) (hN : Sl L na nc 1 (ints nodes)) (hU : Sl L ua uc 2 (pairRows uses)) (hn : nodes.length ≤ 100000) (hu : uses.length ≤ 100000000) :
    Ct Try.prog 70 #[.slice na nodes.length nc, .slice ua uses.length uc] L
      (ret fun v L' => match graphF nodes uses with
        | .error e => (∃ a1 n1 c1 a2 n2 c2, v = .tuple #[graphV a1 n1 c1 a2 n2 c2, .pointer none, .int .i64 e]) ∧ L' = L
        | .ok g => ∃ p ga gc ks, v = .tuple #[graphV na nodes.length nc ga g.length gc, .pointer p, .int .i64 0] ∧ ks.length = g.length ∧ L' = ownA 26 1 ga gc (gridRows g ks) :: listsP g ks :: L) := by
  generalize hR : graphF nodes uses = R
  refine Ct.bodyC Try.func70 rfl Try.ntmps70 Try.results70 rfl ?_
  refine pur ?_
  refine WpO.alloc rfl rfl (fun _ => Keeps.none) fun b4 => ?_
  refine pur ?_
  refine WpO.call Try.call86 rfl rfl (inew_ct _) fun v L' ⟨ib, e1, e2⟩ => ⟨Keeps.none, ?_⟩
  subst e1; subst e2
  refine pur ?_
  refine Wp.loopI (α := Nat) 0
    (fun i => [(0, .v (.slice na nodes.length nc)), (1, .v (.slice ua uses.length uc)), (4, .v (.pointer (some ⟨b4, 0, none⟩))), (5, .v (.pointer (some ⟨ib, 0, none⟩))), (18, .v (.slice na nodes.length nc)), (19, .v (.int .i64 nodes.length)), (20, .v (.int .i64 i))])
    (fun i => ixA ib (nodes.take i) :: ptA b4 134 [.slice none 0 0, .slice none 0 0] :: L)
    (fun i => nodes.length - i) (fun i => i ≤ nodes.length ∧ (nodes.take i).Nodup) ⟨Nat.zero_le _, by simp⟩ ⟨rfl, rfl, rfl, rfl, rfl, rfl, rfl, trivial⟩ (LeL.refl _) ?_
  rintro i ⟨hi, hnd⟩
  refine pur ?_
  refine Wp.branch rfl (fun h => ?_) (fun h => ?_)
  · have hin : i < nodes.length := by have := of_decide_eq_true h; omega
    obtain ⟨k, hk⟩ : ∃ k, nodes[i]? = some k := ⟨_, List.getElem?_eq_getElem hin⟩
    have hti : nodes.take (i + 1) = nodes.take i ++ [k] := by rw [List.take_add_one, hk]; rfl
    have htl : (nodes.take i).length = i := by rw [List.length_take]; omega
    obtain ⟨nb, no, e1, hE⟩ := ints_at hN hk
    subst e1
    have hE := hE.app [ixA ib (nodes.take i), ptA b4 134 [.slice none 0 0, .slice none 0 0]]
    refine pur ?_
    refine S.idx i rfl rfl rfl rfl hin ?_
    refine pur ?_
    refine WpO.call Try.call87 rfl rfl (inumber_ct k _ (by omega)) fun v L' ⟨e1, e2⟩ => ⟨Keeps.none, ?_⟩
    subst e1; subst e2
    cases hq : ifind (nodes.take i) k 0 with
    | some j =>
      have hj := ifind_lt hq
      refine pur ?_
      refine Wp.branch rfl (fun h2 => ?_) (fun h2 => ?_)
      · refine pur ?_
        refine S.loadN (vs := [.slice none 0 0, .slice none 0 0]) rfl rfl (Ent.pt 1 2 rfl rfl) rfl ?_
        refine pur ?_
        have hR' : R = .error 5 := by
          rw [← hR]
          unfold graphF
          rw [if_neg]
          intro hd
          have h1 : (nodes.take (i + 1)).Nodup := List.Nodup.sublist (List.take_sublist _ _) hd
          rw [hti] at h1
          refine (List.nodup_append.1 h1).2.2 k ?_ k (by simp) rfl
          refine Classical.byContradiction fun hc => ?_
          rw [ifind_none.2 hc] at hq; cases hq
        subst hR'
        exact Wp.ret (RetCL (xs := [.agg #[.slice none 0 0, .slice none 0 0], .pointer none, .int .i64 5]) (.cons (.agg (vs := [.slice none 0 0, .slice none 0 0]) rfl (by infer_instance) (Ent.pt 1 2 rfl rfl) rfl) (.cons (.tmp rfl) (.cons (.tmp rfl) .nil))) (fun k s => s.tail.tail) ⟨⟨_, _, _, _, _, _, rfl⟩, rfl⟩)
      · exfalso
        simp at h2
        omega
    | none =>
      refine pur ?_
      refine Wp.branch rfl (fun h2 => ?_) (fun h2 => ?_)
      · exfalso
        simp [htl] at h2
      · refine pur ?_
        have hw1 : IntKind.i64.wrap ((i : Int) + 1) = ((i + 1 : Nat) : Int) := by rw [wrap_id (by omega) (by omega)]; omega
        rw [hw1]
        refine Round.mk (i + 1) (by omega) ⟨by omega, ?_⟩ ⟨rfl, rfl, rfl, rfl, rfl, rfl, rfl, trivial⟩ (fun k' s => ?_)
        · rw [hti]
          refine List.nodup_append.2 ⟨hnd, by simp, fun x hx y hy e => ?_⟩
          obtain rfl := List.mem_singleton.1 hy
          subst e
          exact ifind_none.1 hq hx
        · rw [hti]; exact s
  · have hin : i = nodes.length := by have := of_decide_eq_false h; omega
    subst hin
    rw [List.take_length] at hnd ⊢
    refine pur ?_
    refine WpO.make nodes.length nodes.length rfl rfl rfl rfl rfl (Nat.le_refl _) (by omega) rfl rfl rfl rfl (fun _ => Keeps.none) fun bd => ?_
    refine pur ?_
    refine Wp.loopI (α := Nat × List (List Nat) × List (Option Addr × Nat)) (0, List.replicate nodes.length [], List.replicate nodes.length (none, 0))
      (fun x => [(4, .v (.pointer (some ⟨b4, 0, none⟩))), (5, .v (.pointer (some ⟨ib, 0, none⟩))), (42, .v (.slice ua uses.length uc)), (43, .v (.int .i64 uses.length)), (44, .v (.int .i64 x.1))])
      (fun x => ownA 26 1 (some ⟨bd, 0, none⟩) nodes.length (gridRows x.2.1 x.2.2) :: ptA b4 134 [.slice na nodes.length nc, .slice (some ⟨bd, 0, none⟩) nodes.length nodes.length] :: listsP x.2.1 x.2.2 :: ixA ib nodes :: L)
      (fun x => uses.length - x.1) (fun x => x.1 ≤ uses.length ∧ x.2.1.length = nodes.length ∧ x.2.2.length = nodes.length ∧ usesF nodes (uses.drop x.1) x.2.1 = usesF nodes uses (List.replicate nodes.length []) ∧ ∀ l ∈ x.2.1, l.length ≤ x.1)
      ⟨Nat.zero_le _, by simp, by simp, by simp, fun l hl => by rw [List.eq_of_mem_replicate hl]; exact Nat.le_refl _⟩ ⟨rfl, rfl, rfl, rfl, rfl, trivial⟩ (fun k s => ?_) ?_
    · have s1 : Sat k (ownA 26 1 (some ⟨bd, 0, none⟩) nodes.length (List.replicate nodes.length [.slice none 0 0]) :: ixA ib nodes :: ptA b4 134 [.slice na nodes.length nc, .slice (some ⟨bd, 0, none⟩) nodes.length nodes.length] :: L) := s
      rw [← gridRows_new] at s1
      exact Sat.cons_mono (fun k s => Sat.cons_mono (fun k s => lists_nil _ s) (Sat.swap s)) s1
    rintro ⟨j, g, ks⟩ ⟨hj, hgl, hkl, hus, hll⟩
    simp only [] at hj hgl hkl hus hll ⊢
    refine pur ?_
    refine Wp.branch rfl (fun h => ?_) (fun h => ?_)
    · have hjn : j < uses.length := by have := of_decide_eq_true h; omega
      obtain ⟨p, hp⟩ : ∃ p, uses[j]? = some p := ⟨_, List.getElem?_eq_getElem hjn⟩
      have hdr : uses.drop j = p :: uses.drop (j + 1) := by
        rw [List.drop_eq_getElem_cons hjn]
        rw [List.getElem?_eq_getElem hjn] at hp
        simp only [Option.some.injEq] at hp
        rw [hp]
      rw [hdr, usesF_cons] at hus
      obtain ⟨ub, uo, e1, _, hE⟩ := hU.at (i := j) (r := [.int .i64 p.1, .int .i64 p.2]) (by unfold pairRows; rw [List.getElem?_map, hp]; rfl)
      subst e1
      refine pur ?_
      refine S.idx j rfl rfl rfl rfl hjn ?_
      refine S.loadN (vs := [.int .i64 p.1, .int .i64 p.2]) rfl rfl (hE.app [_, _, _, _]) rfl ?_
      refine WpO.alloc rfl rfl (fun _ => Keeps.none) fun b12 => ?_
      refine pur ?_
      refine S.idxArr 0 rfl Try.underlying104 rfl rfl rfl (by decide) ?_
      refine pur ?_
      refine WpO.call Try.call88 rfl rfl (Ct.at (L := _ :: _ :: _ :: _ :: ixA ib nodes :: L) 4 rfl (ifind2_ct p.1 _)) fun v L' ⟨e1, e2⟩ => ⟨Keeps.none, ?_⟩
      subst e1; subst e2
      dsimp only [List.set]
      refine pur ?_
      refine S.idxArr 1 rfl Try.underlying104 rfl rfl rfl (by decide) ?_
      refine pur ?_
      refine WpO.call Try.call88 rfl rfl (Ct.at (L := _ :: _ :: _ :: _ :: ixA ib nodes :: L) 4 rfl (ifind2_ct p.2 _)) fun v L' ⟨e1, e2⟩ => ⟨Keeps.none, ?_⟩
      subst e1; subst e2
      dsimp only [List.set]
      refine pur ?_
      refine Wp.branch rfl (fun h2 => ?_) (fun h2 => ?_)
      · refine pur ?_
        refine S.loadN (vs := [.slice na nodes.length nc, .slice (some ⟨bd, 0, none⟩) nodes.length nodes.length]) rfl rfl (Ent.pt 2 2 rfl rfl) rfl ?_
        refine pur ?_
        have hR' : R = .error 6 := by
          rw [← hR]
          unfold graphF
          rw [if_pos hnd, ← hus]
          cases hq1 : ifind nodes p.1 0 with
          | none => rfl
          | some a =>
            cases hq2 : ifind nodes p.2 0 with
            | none => rfl
            | some b => rw [hq1, hq2] at h2; cases h2
        subst hR'
        exact Wp.ret (RetCL (xs := [.agg #[.slice na nodes.length nc, .slice (some ⟨bd, 0, none⟩) nodes.length nodes.length], .pointer none, .int .i64 6]) (.cons (.agg (vs := [.slice na nodes.length nc, .slice (some ⟨bd, 0, none⟩) nodes.length nodes.length]) rfl (by infer_instance) (Ent.pt 2 2 rfl rfl) rfl) (.cons (.tmp rfl) (.cons (.tmp rfl) .nil))) (fun k s => s.tail.tail.tail.tail.tail) ⟨⟨_, _, _, _, _, _, rfl⟩, rfl⟩)
      obtain ⟨a, hq1⟩ : ∃ a, ifind nodes p.1 0 = some a := by
        cases hq1 : ifind nodes p.1 0 with
        | none => rw [hq1] at h2; cases h2
        | some a => exact ⟨a, rfl⟩
      obtain ⟨b, hq2⟩ : ∃ b, ifind nodes p.2 0 = some b := by
        cases hq2 : ifind nodes p.2 0 with
        | none => rw [hq1, hq2] at h2; cases h2
        | some b => exact ⟨b, rfl⟩
      have ha := ifind_lt hq1
      have hb := ifind_lt hq2
      rw [hq1, hq2]
      rw [hq1, hq2] at hus
      simp only [] at hus
      obtain ⟨l, hl⟩ : ∃ l, g[a]? = some l := ⟨_, List.getElem?_eq_getElem (by omega)⟩
      obtain ⟨k0, hk0⟩ : ∃ k0, ks[a]? = some k0 := ⟨_, List.getElem?_eq_getElem (by omega)⟩
      have hlb := hll l (List.mem_of_getElem? hl)
      rw [modify_set hl] at hus
      have hrow := gridRows_get hl hk0
      refine Wp.parts (L' := ownA 26 1 (some ⟨bd, 0, none⟩) nodes.length (gridRows g ks) :: ptA b4 134 [.slice na nodes.length nc, .slice (some ⟨bd, 0, none⟩) nodes.length nodes.length] :: ownA 3 1 k0.1 k0.2 (natRows l) :: pkgA (fun M' => M' = (listsM g ks).eraseIdx a) :: ixA ib nodes :: L) (fun k s => Sat.cons_mono (fun k s => Sat.cons_mono (fun k s => lists_take hl hk0 s) s) s.tail) ?_
      refine pur ?_
      refine Wp.draw rfl [0,1,2,3,4,5,6,7,8,9,10,11,12] 12 12 [ownA 26 1 (some ⟨bd, 0, none⟩) nodes.length (gridRows g ks), ptA b4 134 [.slice na nodes.length nc, .slice (some ⟨bd, 0, none⟩) nodes.length nodes.length]] rfl (by decide +kernel) (fun _ s => Sat.take (M := [_, _]) s) ?_
      refine pur ?_
      refine S.idx a rfl rfl rfl rfl ha ?_
      refine S.load (v := .slice k0.1 l.length k0.2) rfl rfl (by infer_instance) (own_ent 0 a rfl hrow) ?_
      refine pur ?_
      refine WpO.buildSlice rfl rfl rfl rfl rfl rfl rfl (fun _ => Keeps.by fun _ s => Sat.take (M := [_, _]) s.tail) fun b78 => ?_
      refine WpO.appendLit 2 [[.int .i64 (b : Int)]] rfl rfl rfl rfl (by rw [natRows_length]) rfl rfl rfl rfl rfl rfl rfl (by rw [natRows_length]; simp; omega) (fun _ _ => Keeps.by fun _ s => Sat.take (M := [_, _]) s) fun a2 k2 => ?_
      dsimp only [List.set]
      rw [natRows_snoc, natRows_length]
      refine S.idx a rfl rfl rfl rfl ha ?_
      refine WpO.storeRow1 0 a rfl rfl rfl (by rw [gridRows_length (by omega)]; omega) rfl rfl Keeps.last (gridRows_one _ _) ?_
      dsimp only [List.set]
      have hset := gridRows_set g ks a (l ++ [b]) (a2, k2)
      rw [hset]
      refine pur ?_
      have hw1 : IntKind.i64.wrap ((j : Int) + 1) = ((j + 1 : Nat) : Int) := by rw [wrap_id (by omega) (by omega)]; omega
      rw [hw1]
      refine Round.mk (j + 1, g.set a (l ++ [b]), ks.set a (a2, k2)) (by show _ - (j + 1) < _ - j; omega) ⟨by show j + 1 ≤ _; omega, by simpa using hgl, by simpa using hkl, hus, fun x hx => ?_⟩ ⟨rfl, rfl, rfl, rfl, rfl, trivial⟩ (fun k' s => ?_)
      · rcases List.mem_or_eq_of_mem_set hx with q | q
        · have := hll x q; show _ ≤ j + 1; omega
        · subst q; simp; omega
      · exact Sat.cons_mono (fun k s => Sat.cons_mono (fun k s => lists_put (by omega) (by omega) s) s) s
    · have hjn : j = uses.length := by have := of_decide_eq_false h; omega
      subst hjn
      rw [List.drop_length] at hus
      have hR' : R = .ok g := by
        rw [← hR]
        unfold graphF
        rw [if_pos hnd, ← hus]
        rfl
      subst hR'
      refine pur ?_
      refine S.loadN (vs := [.slice na nodes.length nc, .slice (some ⟨bd, 0, none⟩) nodes.length nodes.length]) rfl rfl (Ent.pt 1 2 rfl rfl) rfl ?_
      refine pur ?_
      refine Wp.ret (RetCL (xs := [.agg #[.slice na nodes.length nc, .slice (some ⟨bd, 0, none⟩) nodes.length nodes.length], .pointer (some ⟨ib, 0, none⟩), .int .i64 0]) (.cons (.agg (vs := [.slice na nodes.length nc, .slice (some ⟨bd, 0, none⟩) nodes.length nodes.length]) rfl (by infer_instance) (Ent.pt 1 2 rfl rfl) rfl) (.cons (.tmp rfl) (.cons (.tmp rfl) .nil)))
        (fun k s => Sat.cons_mono (fun k s => Sat.cons_mono (fun k s => s.tail) s.tail) s) ⟨some ⟨ib, 0, none⟩, some ⟨bd, 0, none⟩, nodes.length, ks, by rw [hgl]; rfl, by omega, rfl⟩)
end Go.Proofs.Ytibkdjjdfcpdaaa
end

section
/- order.circles: the graph turned round, the order of finishing. -/
namespace Go.Proofs.Ytibkdjjdfcpdaaa
open Go Go.Ab
attribute [local irreducible] Wp WpO Qt OpT Ct
/-- So many edges. -/
def tot (g : List (List Nat)) : Nat := (g.map List.length).sum
theorem tot_mem {g : List (List Nat)} {l : List Nat} (h : l ∈ g) : l.length ≤ tot g := by
  induction g with
  | nil => cases h
  | cons x g ih =>
    unfold tot at ih ⊢
    simp only [List.map_cons, List.sum_cons]
    rcases List.mem_cons.1 h with rfl | h
    · omega
    · have := ih h; omega
theorem succs_tot (g : List (List Nat)) (a : Nat) : (succs g a).length ≤ tot g := by
  unfold succs
  cases h : g[a]? with
  | none => exact Nat.zero_le _
  | some l => exact tot_mem (List.mem_of_getElem? h)
theorem tot_drop {g : List (List Nat)} {a : Nat} {l : List Nat} (h : g[a]? = some l) : tot (g.drop a) = l.length + tot (g.drop (a + 1)) := by
  have hlt := (List.getElem?_eq_some_iff.1 h).1
  rw [List.drop_eq_getElem_cons hlt]
  rw [List.getElem?_eq_getElem hlt] at h
  simp only [Option.some.injEq] at h
  rw [h]
  simp [tot]
theorem drop_get {α : Type} {l : List α} {i : Nat} {x : α} (h : l[i]? = some x) : l.drop i = x :: l.drop (i + 1) := by
  have hlt := (List.getElem?_eq_some_iff.1 h).1
  rw [List.drop_eq_getElem_cons hlt]
  rw [List.getElem?_eq_getElem hlt] at h
  simp only [Option.some.injEq] at h
  rw [h]
theorem Dfs.le {g : List (List Nat)} {S : List Bool} {D : List Nat} (h : Dfs g S D) : D.length ≤ g.length := by
  have := nodup_le (m := List.range g.length) h.nodup fun x hx => List.mem_range.2 (h.lt x hx)
  rwa [List.length_range] at this
/-- Between two walks. -/
def DfsC (g : List (List Nat)) (s : List Bool × List Nat) : Prop := Dfs g s.1 s.2 ∧ ∀ x ∈ s.2, ∀ y ∈ succs g x, met s.1 y = true
theorem boolRows_new (n : Nat) : List.replicate n [Value.bool false] = boolRows (List.replicate n false) := by simp [boolRows]
theorem natRows_new (n : Nat) : List.replicate n [Value.int .i64 0] = natRows (List.replicate n 0) := by simp [natRows]
theorem walkF_len (g : List (List Nat)) (i : Nat) (sn : List Bool) : (walkF g i sn []).1.length = sn.length ∧ (∀ x ∈ (walkF g i sn []).2, x < sn.length) ∧ (walkF g i sn []).2.length ≤ sn.length := by
  cases h : met sn i with
  | true => rw [walkF_met h]; exact ⟨rfl, nofun, Nat.zero_le _⟩
  | false =>
    obtain ⟨new, e, hw⟩ := walkF_new (g := g) (done := []) h
    rw [e, List.nil_append]
    have hlt : ∀ x ∈ new, x < sn.length := fun x hx => met_lt (hw.fresh x hx)
    have := nodup_le (m := List.range sn.length) hw.nodup fun x hx => List.mem_range.2 (hlt x hx)
    rw [List.length_range] at this
    exact ⟨hw.len, hlt, this⟩
theorem circ_len (bk : List (List Nat)) : ∀ (l : List Nat) (s : List Nat × Nat × List Bool), (l.foldl (circStep bk) s).1.length = s.1.length ∧ (l.foldl (circStep bk) s).2.2.length = s.2.2.length ∧ (l.foldl (circStep bk) s).2.1 ≤ s.2.1 + l.length
  | [], s => ⟨rfl, rfl, Nat.le_refl _⟩
  | i :: l, s => by
    rw [List.foldl_cons]
    obtain ⟨h1, h2, h3⟩ := circ_len bk l (circStep bk s i)
    obtain ⟨w1, _, _⟩ := walkF_len bk i s.2.2
    refine ⟨h1.trans ?_, h2.trans w1, Nat.le_trans h3 ?_⟩
    · unfold circStep; exact sets_length _ _ _
    · have : (circStep bk s i).2.1 ≤ s.2.1 + 1 := by
        unfold circStep
        simp only []
        split <;> omega
      simp only [List.length_cons]; omega
theorem downN_map : ∀ (l : List Nat), (downN l.length).map (gOf l) = l.reverse := fun l => by
  refine List.ext_getElem? fun i => ?_
  rw [List.getElem?_map]
  by_cases h : i < l.length
  · rw [downN_get _ _ h, List.getElem?_reverse h]
    unfold gOf
    rw [Option.map_some, List.getElem?_eq_getElem (show l.length - 1 - i < l.length by omega)]; rfl
  · rw [List.getElem?_eq_none (by rw [downN_length]; omega), List.getElem?_eq_none (by simp; omega)]; rfl
theorem gOf_get {l : List Nat} {i : Nat} (h : i < l.length) : l[i]? = some (gOf l i) := by unfold gOf; rw [List.getElem?_eq_getElem h]; rfl
theorem walk2_ct (g : List (List Nat)) (fr : Nat) (seen : List Bool) (done : List Nat) (na sa da : Option Addr) (nc sc dc n : Nat) (L : List Assn) (hG : GridR L na nc g) (hgn : g.length = n) (hlen : seen.length = g.length) (hr : Rng g) (hfr : fr < g.length)
    (hn : g.length ≤ 100000) (hdl : done.length ≤ 100000) (hsl : ∀ a, (succs g a).length ≤ 1073741824) : Ct Try.prog 89 #[.slice na n nc, .int .i64 (fr : Int), .slice sa n sc, .slice da done.length dc] (ownA 4 1 sa sc (boolRows seen) :: ownA 3 1 da dc (natRows done) :: L)
    (ret fun v L' => ∃ a2 c2, v = .slice a2 (walkF g fr seen done).2.length c2 ∧ L' = ownA 4 1 sa sc (boolRows (walkF g fr seen done).1) :: ownA 3 1 a2 c2 (natRows (walkF g fr seen done).2) :: L) := by
  have h := walk_ct g fr seen done na sa da nc sc dc L hG hlen hr hfr hn hdl hsl
  rw [hlen, hgn] at h
  exact h
set_option maxHeartbeats 8000000 in
theorem circles_ct (g : List (List Nat)) (na ga : Option Addr) (nc gc : Nat) (L : List Assn) (hG : GridR L ga gc g) (hr : Rng g) (hn : g.length ≤ 100000) (ht : tot g ≤ 100000000) :
    Ct Try.prog 71 #[graphV na g.length nc ga g.length gc] L
      (ret fun v L' => ∃ ra rc, v = .tuple #[.slice ra g.length rc, .int .i64 ((circF g).2.1 : Nat)] ∧ L' = ownA 3 1 ra rc (natRows (circF g).1) :: L) := by
  refine Ct.bodyM Try.func71 rfl Try.ntmps71 Try.results71 rfl ?_
  refine pur ?_
  refine WpO.box (vs := [.slice na g.length nc, .slice ga g.length gc]) rfl rfl rfl (fun _ => Keeps.none) fun b1 => ?_
  refine pur ?_
  refine WpO.alloc rfl rfl (fun _ => Keeps.none) fun b2 => ?_
  refine pur ?_
  refine WpO.alloc rfl rfl (fun _ => Keeps.none) fun b3 => ?_
  refine pur ?_
  refine WpO.make g.length g.length rfl rfl rfl rfl rfl (Nat.le_refl _) (by omega) rfl rfl rfl rfl (fun _ => Keeps.none) fun bd => ?_
  refine pur ?_
  refine WpO.alloc rfl rfl (fun _ => Keeps.none) fun b4 => ?_
  refine pur ?_
  -- the graph turned round
  refine Wp.loopI (α := Nat × List (List Nat) × List (Option Addr × Nat)) (0, List.replicate g.length [], List.replicate g.length (none, 0))
    (fun x => [(1, .v (.pointer (some ⟨b1, 0, none⟩))), (2, .v (.pointer (some ⟨b2, 0, none⟩))), (3, .v (.pointer (some ⟨b3, 0, none⟩))), (4, .v (.pointer (some ⟨b4, 0, none⟩))), (22, .v (.slice ga g.length gc)), (23, .v (.int .i64 g.length)), (24, .v (.int .i64 x.1))])
    (fun x => ownA 26 1 (some ⟨bd, 0, none⟩) g.length (gridRows x.2.1 x.2.2) :: ptA b4 92 [.slice (some ⟨bd, 0, none⟩) g.length g.length] :: listsP x.2.1 x.2.2 :: ptA b1 134 [.slice na g.length nc, .slice ga g.length gc] :: ptA b2 26 [.slice none 0 0] :: ptA b3 3 [.int .i64 0] :: L)
    (fun x => g.length - x.1) (fun x => x.1 ≤ g.length ∧ x.2.1.length = g.length ∧ x.2.2.length = g.length ∧ backFrom (g.drop x.1) x.1 x.2.1 = backOf g ∧ ∀ l ∈ x.2.1, l.length + tot (g.drop x.1) ≤ tot g)
    ⟨Nat.zero_le _, by simp, by simp, rfl, fun l hl => by rw [List.eq_of_mem_replicate hl]; simp⟩ ⟨rfl, rfl, rfl, rfl, rfl, rfl, rfl, trivial⟩ (fun k s => ?_) ?_
  · have s1 : Sat k (ptA b4 92 [.slice (some ⟨bd, 0, none⟩) g.length g.length] :: ownA 26 1 (some ⟨bd, 0, none⟩) g.length (List.replicate g.length [.slice none 0 0]) :: ptA b3 3 [.int .i64 0] :: ptA b2 26 [.slice none 0 0] :: ptA b1 134 [.slice na g.length nc, .slice ga g.length gc] :: L) := s
    rw [← gridRows_new] at s1
    refine Sat.cons_mono (fun k s => Sat.cons_mono (fun k s => lists_nil _ ?_) s) s1.swap
    exact s.perm ((List.reverse_perm [ptA b1 134 [.slice na g.length nc, .slice ga g.length gc], ptA b2 26 [.slice none 0 0], ptA b3 3 [.int .i64 0]]).append_right L)
  rintro ⟨a, bk, ks⟩ ⟨ha, hbl, hkl, hbk, hll⟩
  simp only [] at ha hbl hkl hbk hll ⊢
  refine pur ?_
  refine Wp.branch rfl (fun h => ?_) (fun h => ?_)
  · have han : a < g.length := by have := of_decide_eq_true h; omega
    obtain ⟨l, hl⟩ : ∃ l, g[a]? = some l := ⟨_, List.getElem?_eq_getElem han⟩
    have htl := tot_drop hl
    have hlt := tot_mem (List.mem_of_getElem? hl)
    rw [drop_get hl] at hbk
    obtain ⟨gb, go, la, lc, e1, hE, hS⟩ := hG.at hl
    subst e1
    have hE := hE.app [ownA 26 1 (some ⟨bd, 0, none⟩) g.length (gridRows bk ks), ptA b4 92 [.slice (some ⟨bd, 0, none⟩) g.length g.length], listsP bk ks, ptA b1 134 [.slice na g.length nc, .slice (some ⟨gb, go, none⟩) g.length gc], ptA b2 26 [.slice none 0 0], ptA b3 3 [.int .i64 0]]
    refine pur ?_
    refine S.idx a rfl rfl rfl rfl han ?_
    refine pur ?_
    refine Wp.loopI (α := Nat × List (List Nat) × List (Option Addr × Nat)) (0, bk, ks)
      (fun x => [(1, .v (.pointer (some ⟨b1, 0, none⟩))), (2, .v (.pointer (some ⟨b2, 0, none⟩))), (3, .v (.pointer (some ⟨b3, 0, none⟩))), (4, .v (.pointer (some ⟨b4, 0, none⟩))), (22, .v (.slice (some ⟨gb, go, none⟩) g.length gc)), (23, .v (.int .i64 g.length)), (24, .v (.int .i64 a)), (5, .v (.int .i64 a)), (29, .v (.slice la l.length lc)), (30, .v (.int .i64 l.length)), (31, .v (.int .i64 x.1))])
      (fun x => ownA 26 1 (some ⟨bd, 0, none⟩) g.length (gridRows x.2.1 x.2.2) :: ptA b4 92 [.slice (some ⟨bd, 0, none⟩) g.length g.length] :: listsP x.2.1 x.2.2 :: ptA b1 134 [.slice na g.length nc, .slice (some ⟨gb, go, none⟩) g.length gc] :: ptA b2 26 [.slice none 0 0] :: ptA b3 3 [.int .i64 0] :: L)
      (fun x => l.length - x.1) (fun x => x.1 ≤ l.length ∧ x.2.1.length = g.length ∧ x.2.2.length = g.length ∧ backFrom (g.drop (a + 1)) (a + 1) (backRow a (l.drop x.1) x.2.1) = backOf g ∧ ∀ y ∈ x.2.1, y.length + (l.length - x.1) + tot (g.drop (a + 1)) ≤ tot g)
      ⟨Nat.zero_le _, hbl, hkl, hbk, fun y hy => by have := hll y hy; show y.length + (l.length - 0) + _ ≤ _; omega⟩ ⟨rfl, rfl, rfl, rfl, rfl, rfl, rfl, rfl, rfl, rfl, rfl, trivial⟩ (LeL.refl _) ?_
    rintro ⟨j, bk, ks⟩ ⟨hj, hbl, hkl, hbk, hll⟩
    simp only [] at hj hbl hkl hbk hll ⊢
    refine pur ?_
    refine Wp.branch rfl (fun h2 => ?_) (fun h2 => ?_)
    · have hjl : j < l.length := by have := of_decide_eq_true h2; omega
      obtain ⟨b, hb⟩ : ∃ b, l[j]? = some b := ⟨_, List.getElem?_eq_getElem hjl⟩
      have hbg : b < g.length := hr a b (by unfold succs; rw [hl]; exact List.mem_of_getElem? hb)
      rw [drop_get hb] at hbk
      obtain ⟨lb, lo, e2, hE2⟩ := nat_at hS hb
      subst e2
      have hE2 := hE2.app [ownA 26 1 (some ⟨bd, 0, none⟩) g.length (gridRows bk ks), ptA b4 92 [.slice (some ⟨bd, 0, none⟩) g.length g.length], listsP bk ks, ptA b1 134 [.slice na g.length nc, .slice (some ⟨gb, go, none⟩) g.length gc], ptA b2 26 [.slice none 0 0], ptA b3 3 [.int .i64 0]]
      obtain ⟨row, hrow⟩ : ∃ row, bk[b]? = some row := ⟨_, List.getElem?_eq_getElem (by omega)⟩
      obtain ⟨k0, hk0⟩ : ∃ k0, ks[b]? = some k0 := ⟨_, List.getElem?_eq_getElem (by omega)⟩
      have hlb := hll row (List.mem_of_getElem? hrow)
      have hgr := gridRows_get hrow hk0
      refine pur ?_
      refine S.idx j rfl rfl rfl rfl hjl ?_
      refine pur ?_
      refine Wp.parts (L' := ownA 26 1 (some ⟨bd, 0, none⟩) g.length (gridRows bk ks) :: ptA b4 92 [.slice (some ⟨bd, 0, none⟩) g.length g.length] :: ownA 3 1 k0.1 k0.2 (natRows row) :: pkgA (fun M' => M' = (listsM bk ks).eraseIdx b) :: ptA b1 134 [.slice na g.length nc, .slice (some ⟨gb, go, none⟩) g.length gc] :: ptA b2 26 [.slice none 0 0] :: ptA b3 3 [.int .i64 0] :: L) (fun k s => Sat.cons_mono (fun k s => Sat.cons_mono (fun k s => lists_take hrow hk0 s) s) s) ?_
      refine Wp.draw rfl [0,1,2,3,4,5,6,7,8,9,10] 10 10 [ownA 26 1 (some ⟨bd, 0, none⟩) g.length (gridRows bk ks), ptA b4 92 [.slice (some ⟨bd, 0, none⟩) g.length g.length]] rfl (by decide +kernel) (fun _ s => Sat.take (M := [_, _]) s) ?_
      refine pur ?_
      refine S.idx b rfl rfl rfl rfl hbg ?_
      refine S.load (v := .slice k0.1 row.length k0.2) rfl rfl (by infer_instance) (own_ent 0 b rfl hgr) ?_
      refine pur ?_
      refine WpO.buildSlice rfl rfl rfl rfl rfl rfl rfl (fun _ => Keeps.by fun _ s => Sat.take (M := [_, _]) s.tail) fun b42 => ?_
      refine WpO.appendLit 2 [[.int .i64 (a : Int)]] rfl rfl rfl rfl (by rw [natRows_length]) rfl rfl rfl rfl rfl rfl rfl (by rw [natRows_length]; simp; omega) (fun _ _ => Keeps.by fun _ s => Sat.take (M := [_, _]) s) fun a2 k2 => ?_
      dsimp only [List.set]
      rw [natRows_snoc, natRows_length]
      refine S.idx b rfl rfl rfl rfl hbg ?_
      refine WpO.storeRow1 0 b rfl rfl rfl (by rw [gridRows_length (by omega)]; omega) rfl rfl Keeps.last (gridRows_one _ _) ?_
      dsimp only [List.set]
      have hset := gridRows_set bk ks b (row ++ [a]) (a2, k2)
      rw [hset]
      refine pur ?_
      have hw1 : IntKind.i64.wrap ((j : Int) + 1) = ((j + 1 : Nat) : Int) := by rw [wrap_id (by omega) (by omega)]; omega
      rw [hw1]
      refine Round.mk (j + 1, bk.set b (row ++ [a]), ks.set b (a2, k2)) (by show _ - (j + 1) < _ - j; omega) ⟨by show j + 1 ≤ _; omega, by simpa using hbl, by simpa using hkl, ?_, fun y hy => ?_⟩ ⟨rfl, rfl, rfl, rfl, rfl, rfl, rfl, rfl, rfl, rfl, rfl, trivial⟩ (fun k' s => ?_)
      · rw [← modify_set hrow]; exact hbk
      · show y.length + (l.length - (j + 1)) + _ ≤ _
        rcases List.mem_or_eq_of_mem_set hy with q | q
        · have := hll y q; omega
        · subst q; simp; omega
      · exact Sat.cons_mono (fun k s => Sat.cons_mono (fun k s => lists_put (by omega) (by omega) s) s) s
    · have hjl : j = l.length := by have := of_decide_eq_false h2; omega
      subst hjl
      rw [List.drop_length] at hbk
      refine pur ?_
      have hw1 : IntKind.i64.wrap ((a : Int) + 1) = ((a + 1 : Nat) : Int) := by rw [wrap_id (by omega) (by omega)]; omega
      rw [hw1]
      exact Round.mk (a + 1, bk, ks) (by show _ - (a + 1) < _ - a; omega) ⟨by show a + 1 ≤ _; omega, hbl, hkl, hbk, fun y hy => by have := hll y hy; show y.length + tot (g.drop (a + 1)) ≤ _; omega⟩ ⟨rfl, rfl, rfl, rfl, rfl, rfl, rfl, trivial⟩ (LeL.refl _)
  have han : a = g.length := by have := of_decide_eq_false h; omega
  subst han
  rw [List.drop_length] at hbk
  have hbk : bk = backOf g := hbk
  subst hbk
  have hll : ∀ l ∈ backOf g, l.length ≤ tot g := fun l hl => by have := hll l hl; omega
  refine pur ?_
  refine WpO.make g.length g.length rfl rfl rfl rfl rfl (Nat.le_refl _) (by omega) rfl rfl rfl rfl (fun _ => Keeps.none) fun bs => ?_
  refine pur ?_
  refine WpO.alloc rfl rfl (fun _ => Keeps.none) fun b10 => ?_
  refine pur ?_
  refine WpO.parts (L' := ptA b1 134 [.slice na g.length nc, .slice ga g.length gc] :: ptA b10 46 [.slice (some ⟨bs, 0, none⟩) g.length g.length] :: ptA b2 26 [.slice none 0 0] :: ptA b3 3 [.int .i64 0] :: ptA b4 92 [.slice (some ⟨bd, 0, none⟩) g.length g.length] :: ownA 4 1 (some ⟨bs, 0, none⟩) g.length (List.replicate g.length [.bool false]) :: ownA 26 1 (some ⟨bd, 0, none⟩) g.length (gridRows (backOf g) ks) :: listsP (backOf g) ks :: L)
    (fun k s => Sat.sel 8 (M := [_, _, _, _, _, _, _, _]) [5, 0, 6, 7, 3, 1, 2, 4] rfl s) ?_
  rw [boolRows_new]
  refine pur ?_
  refine Wp.loopI (α := Nat × (List Bool × List Nat) × (Option Addr × Nat)) (0, (List.replicate g.length false, []), (none, 0))
    (fun x => [(1, .v (.pointer (some ⟨b1, 0, none⟩))), (2, .v (.pointer (some ⟨b2, 0, none⟩))), (3, .v (.pointer (some ⟨b3, 0, none⟩))), (4, .v (.pointer (some ⟨b4, 0, none⟩))), (10, .v (.pointer (some ⟨b10, 0, none⟩))), (9, .v (.slice x.2.2.1 x.2.1.2.length x.2.2.2)), (53, .v (.int .i64 g.length)), (54, .v (.int .i64 x.1))])
    (fun x => ownA 4 1 (some ⟨bs, 0, none⟩) g.length (boolRows x.2.1.1) :: ownA 3 1 x.2.2.1 x.2.2.2 (natRows x.2.1.2) :: ptA b1 134 [.slice na g.length nc, .slice ga g.length gc] :: ptA b10 46 [.slice (some ⟨bs, 0, none⟩) g.length g.length] :: ptA b2 26 [.slice none 0 0] :: ptA b3 3 [.int .i64 0] :: ptA b4 92 [.slice (some ⟨bd, 0, none⟩) g.length g.length] :: ownA 26 1 (some ⟨bd, 0, none⟩) g.length (gridRows (backOf g) ks) :: listsP (backOf g) ks :: L)
    (fun x => g.length - x.1) (fun x => x.1 ≤ g.length ∧ DfsC g x.2.1 ∧ (walksF g ((List.range g.length).drop x.1) x.2.1).2 = doneF g)
    ⟨Nat.zero_le _, ⟨Dfs.start g, nofun⟩, rfl⟩ ⟨rfl, rfl, rfl, rfl, rfl, rfl, rfl, rfl, trivial⟩ (fun k s => (Sat.ownNil (Sat.sel 8 (M := [_, _, _, _, _, _, _, _]) [5, 0, 1, 2, 3, 4, 6, 7] rfl s)).swap) ?_
  · rintro ⟨i, ⟨sn, dn⟩, ⟨da, dc⟩⟩ ⟨hi, ⟨hdf, hcl⟩, hwk⟩
    simp only [] at hi hdf hcl hwk ⊢
    have hdl := hdf.le
    refine pur ?_
    refine Wp.branch rfl (fun h2 => ?_) (fun h2 => ?_)
    · have hin : i < g.length := by have := of_decide_eq_true h2; omega
      rw [drop_get (x := i) (by rw [List.getElem?_range hin])] at hwk
      refine pur ?_
      refine WpO.call Try.call89 rfl rfl (walk2_ct g i sn dn ga (some ⟨bs, 0, none⟩) da gc g.length dc g.length _ (hG.app [_, _, _, _, _, _, _]) rfl hdf.len hr hin hn (by omega) (fun a => by have := succs_tot g a; omega)) fun v L' ⟨a2, c2, e1, e2⟩ => ⟨Keeps.none, ?_⟩
      subst e1; subst e2
      refine pur ?_
      have hw1 : IntKind.i64.wrap ((i : Int) + 1) = ((i + 1 : Nat) : Int) := by rw [wrap_id (by omega) (by omega)]; omega
      rw [hw1]
      obtain ⟨w1, w2, _, _⟩ := hdf.walk hr hcl i hin
      exact Round.mk (i + 1, (walkF g i sn dn), (a2, c2)) (by show _ - (i + 1) < _ - i; omega) ⟨by show i + 1 ≤ _; omega, ⟨w1, w2⟩, hwk⟩ ⟨rfl, rfl, rfl, rfl, rfl, rfl, rfl, rfl, trivial⟩ (LeL.refl _)
    have hin : i = g.length := by have := of_decide_eq_false h2; omega
    subst hin
    have hwk : dn = doneF g := by
      rw [List.drop_of_length_le (by simp)] at hwk
      exact hwk
    refine pur ?_
    refine WpO.make g.length g.length rfl rfl rfl rfl rfl (Nat.le_refl _) (by omega) rfl rfl rfl rfl (fun _ => Keeps.none) fun bg => ?_
    refine pur ?_
    refine WpO.store 5 rfl rfl rfl rfl rfl rfl rfl rfl Keeps.none ?_
    dsimp only [List.set]
    refine pur ?_
    refine WpO.op0 rfl (OpT.clear1 1 rfl rfl (by rw [boolRows_length, hdf.len]) rfl rfl) nofun fun v L' ⟨e1, e2⟩ => ⟨Keeps.none, ?_⟩
    subst e1; subst e2
    dsimp only [List.set]
    rw [boolRows_new]
    refine WpO.parts (L' := ownA 3 1 da dc (natRows dn) :: ptA b4 92 [.slice (some ⟨bd, 0, none⟩) g.length g.length] :: ownA 26 1 (some ⟨bd, 0, none⟩) g.length (gridRows (backOf g) ks) :: listsP (backOf g) ks :: ptA b10 46 [.slice (some ⟨bs, 0, none⟩) g.length g.length] :: ptA b2 26 [.slice (some ⟨bg, 0, none⟩) g.length g.length] :: ownA 4 1 (some ⟨bs, 0, none⟩) g.length (boolRows (List.replicate g.length false)) :: ownA 3 1 (some ⟨bg, 0, none⟩) g.length (natRows (List.replicate g.length 0)) :: ptA b3 3 [.int .i64 0] :: L)
      (fun k s => by rw [← natRows_new]; exact Sat.sel 10 (M := [_, _, _, _, _, _, _, _, _, _]) [2, 7, 8, 9, 4, 5, 1, 0, 6] rfl s) ?_
    refine pur ?_
    refine WpO.call Try.call90 rfl rfl (backInt_ct da dn.length dc _) fun v L' ⟨bx, e1, e2⟩ => ⟨Keeps.none, ?_⟩
    subst e1; subst e2
    refine pur ?_
    obtain ⟨L0, hL0⟩ : ∃ L0, L0 = ptA bx 26 [.slice da dn.length dc] :: ownA 3 1 da dc (natRows dn) :: ptA b4 92 [.slice (some ⟨bd, 0, none⟩) g.length g.length] :: ownA 26 1 (some ⟨bd, 0, none⟩) g.length (gridRows (backOf g) ks) :: listsP (backOf g) ks :: ptA b10 46 [.slice (some ⟨bs, 0, none⟩) g.length g.length] :: ptA b2 26 [.slice (some ⟨bg, 0, none⟩) g.length g.length] :: L := ⟨_, rfl⟩
    have hLL : ∀ k, Sat k (ptA bx 26 [.slice da dn.length dc] :: ownA 3 1 da dc (natRows dn) :: ptA b4 92 [.slice (some ⟨bd, 0, none⟩) g.length g.length] :: ownA 26 1 (some ⟨bd, 0, none⟩) g.length (gridRows (backOf g) ks) :: listsP (backOf g) ks :: ptA b10 46 [.slice (some ⟨bs, 0, none⟩) g.length g.length] :: ptA b2 26 [.slice (some ⟨bg, 0, none⟩) g.length g.length] :: ownA 4 1 (some ⟨bs, 0, none⟩) g.length (boolRows (List.replicate g.length false)) :: ownA 3 1 (some ⟨bg, 0, none⟩) g.length (natRows (List.replicate g.length 0)) :: ptA b3 3 [.int .i64 0] :: L) →
        Sat k ([ownA 4 1 (some ⟨bs, 0, none⟩) g.length (boolRows (List.replicate g.length false)), ownA 3 1 (some ⟨bg, 0, none⟩) g.length (natRows (List.replicate g.length 0)), ptA b3 3 [.int .i64 0]] ++ L0) := fun k s => by
      subst hL0
      exact Sat.sel (T := L) 10 (M := [_, _, _, _, _, _, _, _, _, _]) (M' := [_, _, _, _, _, _, _, _, _, _]) [7, 8, 9, 0, 1, 2, 3, 4, 5, 6] rfl s
    refine Wp.parts hLL ?_
    have hB4 : Ent L0 (CellsAt b4 0 [.slice (some ⟨bd, 0, none⟩) g.length g.length]) := by subst hL0; exact Ent.pt 2 1 rfl rfl
    have hB10 : Ent L0 (CellsAt b10 0 [.slice (some ⟨bs, 0, none⟩) g.length g.length]) := by subst hL0; exact Ent.pt 5 1 rfl rfl
    have hB2 : Ent L0 (CellsAt b2 0 [.slice (some ⟨bg, 0, none⟩) g.length g.length]) := by subst hL0; exact Ent.pt 6 1 rfl rfl
    refine Wp.know (fun k hs => grid_know (L := L0) (a := some ⟨bd, 0, none⟩) (c := g.length) (g := backOf g) (ks := ks) 3 4 (by subst hL0; rfl) (by subst hL0; rfl) (by omega) (Sat.drop [_, _, _] hs)) fun hGb => ?_
    refine Wp.know (fun k hs => own_know (L := L0) (e := 3) (sz := 1) (a := da) (c := dc) (rows := natRows dn) 1 (by subst hL0; rfl) (Sat.drop [_, _, _] hs)) fun hdk => ?_
    have hIt : IterOk Try.prog 94 #[.pointer (some ⟨bx, 0, none⟩)] (fun x : Nat => #[.int .i64 (x : Int), .int .i64 (gOf dn x : Nat)]) (downN dn.length) L0 := by
      rcases hdk.2.2 with ⟨h1, h2, h3⟩ | ⟨fb, fo, h1⟩
      · have h4 : dn.length = 0 := by rw [← natRows_length, h3]; rfl
        rw [h4]
        exact back_nil bx dc da L0 _ (by subst hL0; rw [h4]; exact Ent.pt 0 1 rfl rfl)
      · subst h1
        refine back_ints bx fb fo dn.length dc dn L0 rfl (by omega) (by subst hL0; exact Ent.pt 0 1 rfl rfl) fun i hi => ?_
        have := own_ent (L := L0) (e := 3) (sz := 1) (b := fb) (o := fo) (c := dc) (rows := natRows dn) (r := [.int .i64 (gOf dn i : Nat)]) 1 i (by subst hL0; rfl) (natRows_get _ _ _ (gOf_get hi))
        rwa [Nat.mul_one] at this
    obtain ⟨st, hst⟩ : ∃ st : List Nat → List Nat × Nat × List Bool, st = fun pre => (pre.map (gOf dn)).foldl (circStep (backOf g)) (List.replicate g.length 0, 0, List.replicate g.length false) := ⟨_, rfl⟩
    have hst0 : st [] = (List.replicate g.length 0, 0, List.replicate g.length false) := by rw [hst]; rfl
    have hstS : ∀ pre x, st (pre ++ [x]) = circStep (backOf g) (st pre) (gOf dn x) := fun pre x => by rw [hst]; simp
    have hstL : ∀ pre, (st pre).1.length = g.length ∧ (st pre).2.2.length = g.length ∧ (st pre).2.1 ≤ pre.length := fun pre => by
      have := circ_len (backOf g) (pre.map (gOf dn)) (List.replicate g.length 0, 0, List.replicate g.length false)
      rw [hst]
      simpa using this
    have hstE : st (downN dn.length) = circF g := by rw [hst]; simp only [downN_map]; rw [hwk]; rfl
    refine Wp.rangeFunc (α := Nat) (g := .tmp 70) (ps := [71, 72]) (encs := fun x => [.int .i64 (x : Int), .int .i64 (gOf dn x : Nat)]) (ys := downN dn.length) (L0 := L0)
      (fun pre => [ownA 4 1 (some ⟨bs, 0, none⟩) g.length (boolRows (st pre).2.2), ownA 3 1 (some ⟨bg, 0, none⟩) g.length (natRows (st pre).1), ptA b3 3 [.int .i64 ((st pre).2.1 : Nat)]])
      (fun c pre L4 => False)
      rfl Try.call94 (fun _ => rfl) (by decide) hIt (by rw [hst0]; exact LeL.refl _) (by simp [noDefer, noDeferO]) (by simp [noDefer, noDeferO]) (fun pre x M' hM hpre => ?_) (fun d => ?_) (fun d c pre L4 hpre h => h.elim)
    · obtain ⟨hx, _⟩ := comeN_of hpre
      obtain ⟨q1, q2, q3⟩ := hstL pre
      have hpl : pre.length ≤ dn.length := by
        have := hpre.length_le
        rw [downN_length, List.length_append] at this; omega
      have hxl : gOf dn x < g.length := hdf.lt _ (List.mem_of_getElem? (gOf_get hx))
      have hbn := backOf_length g
      refine pur ?_
      refine ⟨rfl, _, LeL.refl _, fun M2 hM2 => ?_⟩
      refine pur ?_
      refine S.load (v := .slice (some ⟨bd, 0, none⟩) g.length g.length) rfl rfl (by infer_instance) (Ent.le (L2 := [_, _, _]) hB4 hM2) ?_
      refine pur ?_
      refine S.load (v := .slice (some ⟨bs, 0, none⟩) g.length g.length) rfl rfl (by infer_instance) (Ent.le (L2 := [_, _, _]) hB10 hM2) ?_
      refine pur ?_
      refine WpO.parts (L' := ownA 4 1 (some ⟨bs, 0, none⟩) g.length (boolRows (st pre).2.2) :: ownA 3 1 none 0 (natRows []) :: ([ownA 3 1 (some ⟨bg, 0, none⟩) g.length (natRows (st pre).1), ptA b3 3 [.int .i64 ((st pre).2.1 : Nat)]] ++ M2)) (fun k s => Sat.swap (Sat.ownNil s)) ?_
      refine WpO.call Try.call89 rfl rfl (walk2_ct (backOf g) (gOf dn x) (st pre).2.2 [] (some ⟨bd, 0, none⟩) (some ⟨bs, 0, none⟩) none g.length g.length 0 g.length _ ((hGb.wk hM2).app [_, _]) hbn (by omega) (back_rng hr) (by omega) (by omega) (Nat.zero_le _) (fun a => by
        have : (succs (backOf g) a).length ≤ tot g := by
          unfold succs
          cases hq : (backOf g)[a]? with
          | none => exact Nat.zero_le _
          | some l => exact hll l (List.mem_of_getElem? hq)
        omega)) fun v L' ⟨a2, c2, e1, e2⟩ => ⟨Keeps.none, ?_⟩
      subst e1; subst e2
      obtain ⟨r1, r2, r3⟩ := walkF_len (backOf g) (gOf dn x) (st pre).2.2
      have hnext := hstS pre x
      unfold circStep at hnext
      generalize walkF (backOf g) (gOf dn x) (st pre).2.2 [] = W at r1 r2 r3 hnext ⊢
      obtain ⟨sn2, new⟩ := W
      simp only [] at r1 r2 r3 hnext ⊢
      refine pur ?_
      refine Wp.loopI (α := Nat × List Nat × (Option Addr × Nat)) (0, (st pre).1, (none, 0))
        (fun y => [(2, .v (.pointer (some ⟨b2, 0, none⟩))), (3, .v (.pointer (some ⟨b3, 0, none⟩))), (14, .v (.slice y.2.2.1 y.1 y.2.2.2)), (77, .v (.slice a2 new.length c2)), (78, .v (.int .i64 new.length)), (79, .v (.int .i64 y.1))])
        (fun y => ownA 3 1 y.2.2.1 y.2.2.2 (natRows (new.take y.1)) :: ownA 3 1 (some ⟨bg, 0, none⟩) g.length (natRows y.2.1) :: ptA b3 3 [.int .i64 ((st pre).2.1 : Nat)] :: ownA 3 1 a2 c2 (natRows new) :: ownA 4 1 (some ⟨bs, 0, none⟩) g.length (boolRows sn2) :: M2)
        (fun y => new.length - y.1) (fun y => y.1 ≤ new.length ∧ y.2.1 = (new.take y.1).foldl (fun l k => l.set k (st pre).2.1) (st pre).1) ⟨Nat.zero_le _, rfl⟩ ⟨rfl, rfl, rfl, rfl, rfl, rfl, trivial⟩ (fun k s => Sat.ownNil (Sat.sel (T := M2) 4 (M := [_, _, _, _]) (M' := [_, _, _, _]) [2, 3, 1, 0] rfl s)) ?_
      rintro ⟨j, gr, ⟨ma, mc⟩⟩ ⟨hj, hgr⟩
      simp only [] at hj hgr ⊢
      have hgrl : gr.length = g.length := by rw [hgr, sets_length]; exact q1
      refine pur ?_
      refine Wp.branch rfl (fun h3 => ?_) (fun h3 => ?_)
      · have hjn : j < new.length := by have := of_decide_eq_true h3; omega
        have hkj := gOf_get hjn
        generalize hke : gOf new j = kk at hkj
        have hkl : kk < g.length := by have := r2 kk (List.mem_of_getElem? hkj); omega
        have htk : new.take (j + 1) = new.take j ++ [kk] := by rw [List.take_add_one, hkj]; rfl
        refine Wp.know (fun k hs => own_at (rows := natRows new) 3 rfl hs (by intro e; have := congrArg List.length e; rw [natRows_length, List.length_nil] at this; omega)) fun ⟨nb, no, e⟩ => ?_
        subst e
        refine pur ?_
        refine S.idx j rfl rfl rfl rfl hjn ?_
        refine S.load (v := .int .i64 (kk : Nat)) rfl rfl (by infer_instance) (own_ent 3 j rfl (natRows_get _ _ _ hkj)) ?_
        refine pur ?_
        refine S.load (v := .slice (some ⟨bg, 0, none⟩) g.length g.length) rfl rfl (by infer_instance) (Ent.le (L2 := [_, _, _, _, _]) hB2 hM2) ?_
        refine pur ?_
        refine S.idx kk rfl rfl rfl rfl hkl ?_
        refine WpO.storeRow1 1 kk rfl rfl rfl (by rw [natRows_length]; omega) rfl rfl Keeps.none (natRows_one _) ?_
        dsimp only [List.set]
        rw [natRows_set]
        refine pur ?_
        refine WpO.buildSlice rfl rfl rfl rfl rfl rfl rfl (fun _ => Keeps.none) fun b89 => ?_
        refine WpO.appendLit 0 [[.int .i64 (kk : Nat)]] rfl rfl rfl rfl (by rw [natRows_length, List.length_take]; omega) rfl rfl rfl rfl rfl rfl rfl (by rw [natRows_length, List.length_take]; simp; omega) (fun _ _ => Keeps.none) fun a3 k3 => ?_
        dsimp only [List.set]
        rw [natRows_snoc, ← htk, natRows_length]
        have htl : (new.take (j + 1)).length = j + 1 := by rw [List.length_take]; omega
        rw [htl]
        refine pur ?_
        have hw1 : IntKind.i64.wrap ((j : Int) + 1) = ((j + 1 : Nat) : Int) := by rw [wrap_id (by omega) (by omega)]; omega
        rw [hw1]
        refine Round.mk (j + 1, gr.set kk (st pre).2.1, (a3, k3)) (by show _ - (j + 1) < _ - j; omega) ⟨by show j + 1 ≤ _; omega, ?_⟩ ⟨rfl, rfl, rfl, rfl, rfl, rfl, trivial⟩ (LeL.refl _)
        show gr.set kk (st pre).2.1 = (new.take (j + 1)).foldl (fun l k => l.set k (st pre).2.1) (st pre).1
        rw [htk, List.foldl_append, ← hgr]; rfl
      · have hjn : j = new.length := by have := of_decide_eq_false h3; omega
        subst hjn
        rw [List.take_length] at hgr ⊢
        refine pur ?_
        refine Wp.branch rfl (fun h4 => ?_) (fun h4 => ?_)
        · have hne : new ≠ [] := by intro e; rw [e] at h4; simp at h4
          rw [if_neg hne] at hnext
          refine pur ?_
          have hw1 : IntKind.i64.wrap (((st pre).2.1 : Int) + 1) = (((st pre).2.1 + 1 : Nat) : Int) := by rw [wrap_id (by omega) (by omega)]; omega
          rw [hw1]
          show LeL _ _
          rw [hnext, ← hgr]
          exact fun k s => Sat.sel (T := M2) 5 (M := [_, _, _, _, _]) (M' := [_, _, _]) [4, 1, 2] rfl s
        · have hne : new = [] := by
            cases new with
            | nil => rfl
            | cons a r => simp at h4
          rw [if_pos hne] at hnext
          refine pur ?_
          show LeL _ _
          rw [hnext, ← hgr]
          exact fun k s => Sat.sel (T := M2) 5 (M := [_, _, _, _, _]) (M' := [_, _, _]) [4, 1, 2] rfl s
    · rw [hstE]
      obtain ⟨q1, _, _⟩ := circF_spec hr
      refine Wp.parts (L' := defA d :: ptA b2 26 [.slice (some ⟨bg, 0, none⟩) g.length g.length] :: ptA b3 3 [.int .i64 ((circF g).2.1 : Nat)] :: ownA 3 1 (some ⟨bg, 0, none⟩) g.length (natRows (circF g).1) :: L) (fun k s => ?_) ?_
      · subst hL0
        have s1 := Sat.rot (A := defA d) (L := [ownA 4 1 (some ⟨bs, 0, none⟩) g.length (boolRows (circF g).2.2), ownA 3 1 (some ⟨bg, 0, none⟩) g.length (natRows (circF g).1), ptA b3 3 [.int .i64 ((circF g).2.1 : Nat)]] ++ (ptA bx 26 [.slice da dn.length dc] :: ownA 3 1 da dc (natRows dn) :: ptA b4 92 [.slice (some ⟨bd, 0, none⟩) g.length g.length] :: ownA 26 1 (some ⟨bd, 0, none⟩) g.length (gridRows (backOf g) ks) :: listsP (backOf g) ks :: ptA b10 46 [.slice (some ⟨bs, 0, none⟩) g.length g.length] :: ptA b2 26 [.slice (some ⟨bg, 0, none⟩) g.length g.length] :: L)) s
        exact Sat.sel (T := L) 11 (M := [_, _, _, _, _, _, _, _, _, _, _]) (M' := [_, _, _, _]) [0, 10, 3, 2] rfl s1
      refine pur ?_
      refine Wp.draw rfl [0,1,2,3] 3 3 [ptA b2 26 [.slice (some ⟨bg, 0, none⟩) g.length g.length], ptA b3 3 [.int .i64 ((circF g).2.1 : Nat)]] rfl (by decide +kernel) (fun _ s => Sat.take (M := [_, _]) s.tail) ?_
      refine pur ?_
      refine WpO.store 1 rfl rfl rfl rfl rfl rfl rfl rfl (Keeps.by fun _ s => Sat.take (M := [_, _]) s.tail) ?_
      refine pur ?_
      refine Wp.ret ?_
      exact ⟨[d], rfl, _, [.slice (some ⟨bg, 0, none⟩) g.length g.length, .int .i64 ((circF g).2.1 : Nat)], _, LeL.refl _, .cons (.one rfl (by infer_instance) (Ent.pt 0 1 rfl rfl)) (.cons (.one rfl (by infer_instance) (Ent.pt 1 1 rfl rfl)) .nil), fun k s => s.tail.tail, ⟨some ⟨bg, 0, none⟩, g.length, rfl, rfl⟩⟩
end Go.Proofs.Ytibkdjjdfcpdaaa
end

section
/- Maps that may be nil; slices.IndexFunc of numbers; lists of lists that are handed on. -/
namespace Go.Proofs.Ytibkdjjdfcpdaaa
open Go Go.Ab
set_option linter.unusedSectionVars false
section
variable {κ : Type} [DecidableEq κ] [MKey κ] {P : Program} {n : Nat} {Q : Post} {E : Env} {D : List Deferred} {L : List Assn} {ops : Array Oper} {rest : List Oper} {m m' : Md} {ty : TypeId} {pos : String} {af : Array Edge} {x y z : Operand} {t kt et : TypeId} {g c1 c2 : Bool} {mp : List (κ × Value)} {mb : Option Nat}
/-- A map that lies there, or nil with nothing in it. -/
def mapO (mb : Option Nat) (mp : List (κ × Value)) : Assn := match mb with
  | some b => mapA b mp
  | none => pureA (mp = [])
theorem mapO_mono (mb : Option Nat) (mp : List (κ × Value)) : Mono (mapO mb mp) := by
  cases mb with
  | some b => exact mapA_mono b mp
  | none => exact fun _ _ _ h => h
theorem Qt.mlenO {d : Option Tmp} {gd : Option (Nat × Bool)} [ht : UMap P t kt et] (hE : g = true → Ent L (mapO mb mp)) (hx : opv x E = some (c1, .map mb)) [Imp g c1] :
    Qt P E L ⟨d, .call ⟨.builtin .len, #[x], #[t]⟩, ty, pos, af, gd⟩ g (.int .i64 mp.length) := by
  cases mb with
  | some b => exact Qt.mlen hE hx
  | none =>
    intro a w h1 h2 h3
    have he : mp = [] := hE h3 _ h2
    subst he
    exact Qt.mlen0 hx a w h1 h2 h3
theorem map_turnO {w : World} {mp' : List (κ × Value)} (i : Nat) (hi : L[i]? = some (pureA (mp = []))) (h2 : Sat (hp w) L) (h : mp = [] → mp' = []) : Sat (hp w) (L.set i (pureA (mp' = []))) := by
  refine Sat.set hi ?_
  obtain ⟨h0, l0, a0, s0⟩ := Sat.pull hi h2
  exact ⟨h0, l0, h a0, s0⟩
theorem run_mdelete0 {w : World} (ty : TypeId) (ht : P.underlying t = some (.map kt et)) (hk : P.underlying kt = some (MKey.desc κ)) (k : κ) :
    (Builtin.delete_ #[t, kt] ty #[.map none, MKey.enc k]).run P w = .ok (.tuple #[]) w := by
  have hck := MapKept.run_checkKey (P := P) (w := w) hk (MKey.key k) true 9999
  simp [Builtin.delete_, run_underlying ht, hck, Result.andThen]
theorem opt_mdelO {d : Option Tmp} {gd : Option (Nat × Bool)} [ht : UMap P t kt et] [hk : UKey P kt κ] (k : κ) (i : Nat) (hx : opv x E = some (c1, .map mb)) [Imp true c1] (hy : opv y E = some (c2, MKey.enc k)) [Imp true c2]
    (hi : L[i]? = some (mapO mb mp)) : OpT P E L ⟨d, .call ⟨.builtin .delete, #[x, y], #[t, kt]⟩, ty, pos, af, gd⟩ (fun r L' => r = .tuple #[] ∧ L' = L.set i (mapO mb (mdel mp k))) noPanic := by
  cases mb with
  | some b => exact OpT.mdel k i hx hy hi
  | none =>
    intro a w K Q0 h1 h2 hK hp'
    unfold Oper.wp
    have he : (execOp a.eval ⟨d, .call ⟨.builtin .delete, #[x, y], #[t, kt]⟩, ty, pos, af, gd⟩).run P w = .ok (.value (.tuple #[])) w := by
      have hx' := EvG.of (g := true) hx a h1 rfl
      have hy' := EvG.of (g := true) hy a h1 rfl
      simp only [execOp, resolve, List.map_toArray, List.map_cons, List.map_nil, hx', hy']
      show (do pure (Next.value (← Builtin.delete_ #[t, kt] ty #[.map none, MKey.enc k])) : Sem Next).run P w = _
      exact run_v (run_mdelete0 ty ht.h hk.h k)
    rw [he]
    exact hK _ _ _ ⟨rfl, rfl⟩ (map_turnO i hi h2 fun e => by rw [e]; rfl)
theorem run_eqMN {w : World} (hu : P.underlying t = some (.map kt et)) : (Op.equal t (.map mb) (.map none)).run P w = .ok mb.isNone w := by
  unfold Op.equal
  rw [show Op.maxDepth = 9999 + 1 from rfl]
  unfold Op.equalIn
  rw [run_ok (run_u hu w)]
  cases mb <;> rfl
theorem Qt.mnil {d : Option Tmp} {gd : Option (Nat × Bool)} {u : TypeId} (hu : P.underlying t = some (.map kt et)) (hx : opv x E = some (c1, .map mb)) [Imp g c1] (hy : opv y E = some (c2, .map none)) [Imp g c2] : Qt P E L ⟨d, .binOp .eql t x y u, ty, pos, af, gd⟩ g (.bool mb.isNone) :=
  .of2 (fun ρ w h1 h2 => by
    simp only [execOp, h1, h2]
    refine run_v ?_
    rw [run_ok (run_eqGuard (by cases mb <;> simp) (by simp) w)]
    show (do pure (Value.bool (← Op.equal t (.map mb) (.map none))) : Sem Value).run P w = _
    rw [run_ok (run_eqMN hu)]; rfl) (EvG.of hx) (EvG.of hy)
end
attribute [local irreducible] Wp WpO Qt OpT Ct
section
variable {κ : Type} [DecidableEq κ] [MKey κ] {P : Program} {n : Nat} {Q : Post} {E : Env} {D : List Deferred} {L : List Assn} {ops : Array Oper} {rest : List Oper} {m m' : Md} {d : Nat} {ty : TypeId} {pos : String} {af : Array Edge} {x y z : Operand} {t kt et : TypeId} {c1 c2 g : Bool} {mp : List (κ × Value)} {mb : Option Nat} {gd : Nat × Bool}
theorem S.mnil [Nxt m m'] {u : TypeId} (hu : P.underlying t = some (.map kt et)) (hdn : Nat.blt d n = true) (hx : opv x E = some (true, .map mb)) (hy : opv y E = some (true, .map none))
    (h : WpO P n ops Q m' rest ((d, .v (.bool mb.isNone)) :: E) D L) : WpO P n ops Q m (⟨some d, .binOp .eql t x y u, ty, pos, af, none⟩ :: rest) E D L := WpO.q rfl hdn (Qt.mnil hu hx hy) h
theorem G.mlenO [Nxt m m'] [ht : UMap P t kt et] (hdn : Nat.blt d n = true) (hg : guardOf ops E gd = some g) (hE : g = true → Ent (mem m L) (mapO mb mp)) (hx : opv x E = some (c1, .map mb)) (i1 : Imp g c1)
    (h : WpO P n ops Q m' rest ((d, .g g (.int .i64 mp.length)) :: E) D L) : WpO P n ops Q m (⟨some d, .call ⟨.builtin .len, #[x], #[t]⟩, ty, pos, af, some gd⟩ :: rest) E D L :=
  WpO.qd rfl hdn hg (Qt.mlenO hE hx) h
theorem wpo_mdelO [Nxt m m'] [ht : UMap P t kt et] [hu : UKey P kt κ] (k : κ) (i : Nat) (hx : opv x E = some (c1, .map mb)) [Imp true c1] (hy : opv y E = some (c2, MKey.enc k)) [Imp true c2] (hi : L[i]? = some (mapO mb mp)) {M : List Assn} (hM : L.set i (mapO mb (mdel mp k)) = M) (hk : Keeps m M)
    (h : WpO P n ops Q m' rest E D M) : WpO P n ops Q m (⟨none, .call ⟨.builtin .delete, #[x, y], #[t, kt]⟩, ty, pos, af, none⟩ :: rest) E D L :=
  WpO.op0 rfl (opt_mdelO k i hx hy hi) nofun fun _ _ ⟨e1, e2⟩ => by subst e1; subst e2; rw [hM]; exact ⟨hk, h⟩
end
/-- A set of numbers, as a map has it. -/
def uM (l : List Nat) : List (Int × Value) := l.map fun (x : Nat) => ((x : Int), Value.agg #[])
theorem uM_set : ∀ (l : List Nat) (x : Nat), mset (uM l) (x : Int) (.agg #[]) = uM (if x ∈ l then l else l ++ [x])
  | [], x => rfl
  | y :: r, x => by
    show (if (y : Int) = (x : Int) then ((x : Int), Value.agg #[]) :: uM r else ((y : Int), Value.agg #[]) :: mset (uM r) (x : Int) (.agg #[])) = _
    by_cases e : y = x
    · subst e; simp [uM]
    · have e' : ¬ (y : Int) = (x : Int) := by omega
      rw [if_neg e', uM_set r x]
      by_cases hx : x ∈ r
      · simp [hx, uM]
      · have : ¬ (x ∈ y :: r) := by simp [hx, Ne.symm e]
        rw [if_neg hx, if_neg this]; simp [uM]
theorem uM_del : ∀ (l : List Nat) (x : Nat), mdel (uM l) (x : Int) = uM (l.erase x)
  | [], x => rfl
  | y :: r, x => by
    show (if (y : Int) = (x : Int) then uM r else ((y : Int), Value.agg #[]) :: mdel (uM r) (x : Int)) = _
    by_cases e : y = x
    · subst e; simp
    · have e' : ¬ (y : Int) = (x : Int) := by omega
      rw [if_neg e', uM_del r x, List.erase_cons_tail (by simpa using e)]; simp [uM]
theorem uM_length (l : List Nat) : (uM l).length = l.length := by simp [uM]
/-! ### slices.IndexFunc of numbers -/
def idxI (p : Int → Bool) (l : List Int) : Int := if (l.takeWhile (fun r => !p r)).length < l.length then ((l.takeWhile (fun r => !p r)).length : Int) else -1
set_option maxHeartbeats 1000000 in
theorem indexInt_ct (l : List Int) (a : Option Addr) (c : Nat) (f : FuncId) (cap : Array Value) (p : Int → Bool) (L : List Assn) (hS : Sl L a c 1 (ints l)) (hc : ∀ (args : Array Value) (w : World), Sem.run Try.prog (callFunc f args) w = .ok (.enter f args) w)
    (hf : ∀ r ∈ l, Ct Try.prog f ([Value.int .i64 r] ++ cap.toList).toArray L (ret fun v L' => v = .bool (p r) ∧ L' = L)) (hl : l.length < 1073741824) :
    Ct Try.prog 42 #[.slice a l.length c, .func (.func f) #[] cap] L (ret fun v L' => v = .int .i64 (idxI p l) ∧ L' = L) := by
  refine Ct.body Try.func42 rfl Try.ntmps42 Try.results42 rfl ?_
  refine pur ?_
  refine Wp.loopI (α := Nat) 0 (fun i => [(0, .v (.slice a l.length c)), (1, .v (.func (.func f) #[] cap)), (7, .v (.int .i64 l.length)), (8, .v (.int .i64 i))]) (fun _ => L) (fun i => l.length - i) (fun i => i ≤ l.length ∧ (l.takeWhile (fun r => !p r)).length = i + ((l.drop i).takeWhile (fun r => !p r)).length) ⟨Nat.zero_le _, by simp⟩ ⟨rfl, rfl, rfl, rfl, trivial⟩ (LeL.refl _) ?_
  rintro i ⟨hi, ht⟩
  refine pur ?_
  refine Wp.branch rfl (fun h => ?_) (fun h => ?_)
  · have hix : i < l.length := by simpa using h
    have hd := List.drop_eq_getElem_cons hix
    obtain ⟨b, o, rfl, hE⟩ := ints_at hS (List.getElem?_eq_getElem hix)
    refine pur ?_
    refine S.idx i rfl rfl rfl rfl hix ?_
    refine pur ?_
    refine WpO.callc hc rfl rfl (.cons rfl (by infer_instance) .nil) (hf _ (List.getElem_mem hix)) fun v L' ⟨e1, e2⟩ => ⟨Keeps.none, ?_⟩
    subst e1; subst e2
    refine pur ?_
    refine Wp.branch rfl (fun h => ?_) (fun h => ?_)
    · refine pur ?_
      refine Wp.ret (Ret 0 rfl ⟨?_, rfl⟩)
      unfold idxI
      rw [ht, hd, List.takeWhile_cons_of_neg (by simpa using h)]; simp [hix]
    · refine pur ?_
      refine Round.mk (i + 1) (by omega) ⟨by omega, ?_⟩ ⟨rfl, rfl, rfl, ?_, trivial⟩ (LeL.refl _)
      · rw [ht, hd, List.takeWhile_cons_of_pos (by simpa using h)]; simp; omega
      · show some (AV.v (.int .i64 (IntKind.i64.wrap ((i : Int) + 1)))) = _
        rw [wrap_id (by omega) (by omega)]; rfl
  · have hix : l.length ≤ i := by simpa using h
    refine pur ?_
    refine Wp.ret (Ret 0 rfl ⟨?_, rfl⟩)
    unfold idxI
    rw [if_neg (by rw [ht]; omega)]
/-! ### Lists of lists -/
def gridI (g : List (List Int)) (ks : List (Option Addr × Nat)) : List (List Value) := List.zipWith (fun (l : List Int) (k : Option Addr × Nat) => [Value.slice k.1 l.length k.2]) g ks
def listsIM (g : List (List Int)) (ks : List (Option Addr × Nat)) : List Assn := List.zipWith (fun (l : List Int) (k : Option Addr × Nat) => ownA 3 1 k.1 k.2 (ints l)) g ks
def listsI (g : List (List Int)) (ks : List (Option Addr × Nat)) : Assn := pkgA fun M => M = listsIM g ks
theorem gridI_length {g : List (List Int)} {ks : List (Option Addr × Nat)} (h : ks.length = g.length) : (gridI g ks).length = g.length := by unfold gridI; rw [List.length_zipWith, h, Nat.min_self]
theorem gridI_snoc {g : List (List Int)} {ks : List (Option Addr × Nat)} (h : ks.length = g.length) (l : List Int) (k : Option Addr × Nat) : gridI g ks ++ [[.slice k.1 l.length k.2]] = gridI (g ++ [l]) (ks ++ [k]) := by
  unfold gridI
  rw [List.zipWith_append h.symm]; rfl
theorem listsI_snoc {g : List (List Int)} {ks : List (Option Addr × Nat)} (h : ks.length = g.length) (l : List Int) (k0 : Option Addr × Nat) {L : List Assn} {k : Hp} (s : Sat k (ownA 3 1 k0.1 k0.2 (ints l) :: listsI g ks :: L)) : Sat k (listsI (g ++ [l]) (ks ++ [k0]) :: L) := by
  have s1 : Sat k (ownA 3 1 k0.1 k0.2 (ints l) :: (listsIM g ks ++ L)) := Sat.cons_mono (fun k s => by
    obtain ⟨M', hM, s2⟩ := Sat.openP s
    subst hM; exact s2) s
  have e : listsIM (g ++ [l]) (ks ++ [k0]) = listsIM g ks ++ [ownA 3 1 k0.1 k0.2 (ints l)] := by
    unfold listsIM; rw [List.zipWith_append h.symm]; rfl
  refine Sat.closeP (φ := fun M => M = listsIM (g ++ [l]) (ks ++ [k0])) rfl ?_
  rw [e]
  refine Sat.perm ?_ s1
  rw [List.append_assoc]
  exact List.perm_middle.symm
theorem listsI_nil {L : List Assn} {k : Hp} (s : Sat k L) : Sat k (listsI [] [] :: L) := Sat.closeP (φ := fun M => M = listsIM [] []) rfl s
end Go.Proofs.Ytibkdjjdfcpdaaa
end

section
/- order.Groups: what it is made of. -/
namespace Go.Proofs.Ytibkdjjdfcpdaaa
open Go Go.Ab
attribute [local irreducible] Wp WpO Qt OpT Ct
theorem usesF_ok {nodes : List Int} : ∀ {uses : List (Int × Int)} {g g' : List (List Nat)}, usesF nodes uses g = some g' → g.length = nodes.length → Rng g → g'.length = nodes.length ∧ Rng g' ∧ tot g' = tot g + uses.length
  | [], g, g', h, h1, h2 => by
    simp only [usesF, Option.some.injEq] at h
    subst h; exact ⟨h1, h2, by simp⟩
  | p :: r, g, g', h, h1, h2 => by
    rw [usesF_cons] at h
    cases hq1 : ifind nodes p.1 0 with
    | none => rw [hq1] at h; cases h
    | some a =>
      cases hq2 : ifind nodes p.2 0 with
      | none => rw [hq1, hq2] at h; cases h
      | some b =>
        rw [hq1, hq2] at h
        simp only [] at h
        have ha := ifind_lt hq1
        have hb := ifind_lt hq2
        obtain ⟨w1, w2, w3⟩ := usesF_ok h (by rw [List.length_modify]; exact h1) (fun x y hy => by
          rw [List.length_modify]
          rcases (succs_modify (by omega) b y x).1 hy with q | ⟨_, q⟩
          · exact h2 x y q
          · omega)
        refine ⟨w1, w2, ?_⟩
        rw [w3]
        have : ∀ (g : List (List Nat)) (a b : Nat), a < g.length → tot (g.modify a (· ++ [b])) = tot g + 1 := by
          intro g
          induction g with
          | nil => intro a b h; simp at h
          | cons l g ih =>
            intro a b h
            cases a with
            | zero => simp [tot]; omega
            | succ a =>
              have := ih a b (by simpa using h)
              simp only [List.modify_succ_cons]
              unfold tot at this ⊢
              simp only [List.map_cons, List.sum_cons]
              omega
        rw [this g a b (by omega)]
        simp only [List.length_cons]; omega
theorem graphF_ok {nodes : List Int} {uses : List (Int × Int)} {g : List (List Nat)} (h : graphF nodes uses = .ok g) : nodes.Nodup ∧ usesF nodes uses (List.replicate nodes.length []) = some g ∧ g.length = nodes.length ∧ Rng g ∧ tot g = uses.length := by
  unfold graphF at h
  split at h
  · rename_i hnd
    cases hu : usesF nodes uses (List.replicate nodes.length []) with
    | none => rw [hu] at h; cases h
    | some g' =>
      rw [hu] at h
      simp only [Except.ok.injEq] at h
      subst h
      obtain ⟨w1, w2, w3⟩ := usesF_ok hu (by simp) (fun a b hb => by rw [succs_rep] at hb; cases hb)
      refine ⟨hnd, rfl, w1, w2, ?_⟩
      rw [w3]
      have : ∀ n, tot (List.replicate n []) = 0 := fun n => by
        induction n with
        | zero => rfl
        | succ n ih => unfold tot at ih ⊢; rw [List.replicate_succ, List.map_cons, List.sum_cons, ih]; rfl
      rw [this]; omega
  · cases h
theorem graphF_err {nodes : List Int} {uses : List (Int × Int)} {e : Int} (h : graphF nodes uses = .error e) : e = 5 ∨ e = 6 := by
  unfold graphF at h
  split at h
  · split at h
    · cases h
    · simp only [Except.error.injEq] at h; exact .inr h.symm
  · simp only [Except.error.injEq] at h; exact .inl h.symm
/-- The node with a number. -/
def nodeAt (nodes : List Int) (i : Nat) : Int := nodes[i]?.getD 0
/-- What order.Groups answers. -/
def groupsF (nodes : List Int) (g : List (List Nat)) : List (List Int) := (groupsIx g).map fun c => c.map (nodeAt nodes)
/-! ### The maps of what is waited for -/
def wRows (ms : List (Option Nat)) : List (List Value) := ms.map fun m => [.map m]
def wM (ws : List (List Nat)) (ms : List (Option Nat)) : List Assn := List.zipWith (fun l m => mapO (κ := Int) m (uM l)) ws ms
def wP (ws : List (List Nat)) (ms : List (Option Nat)) : Assn := pkgA fun M => M = wM ws ms
theorem wRows_length (ms : List (Option Nat)) : (wRows ms).length = ms.length := by simp [wRows]
theorem wRows_one (ms : List (Option Nat)) : ∀ r ∈ wRows ms, r.length = 1 := fun r hr => by
  simp only [wRows, List.mem_map] at hr
  obtain ⟨x, _, rfl⟩ := hr; rfl
theorem wRows_set (ms : List (Option Nat)) (i : Nat) (m : Option Nat) : (wRows ms).set i [.map m] = wRows (ms.set i m) := by simp [wRows, List.map_set]
theorem wRows_get {ms : List (Option Nat)} {i : Nat} {m : Option Nat} (h : ms[i]? = some m) : (wRows ms)[i]? = some [.map m] := by simp [wRows, h]
theorem w_take {ws : List (List Nat)} {ms : List (Option Nat)} {i : Nat} {l : List Nat} {m : Option Nat} {L : List Assn} {k : Hp} (h1 : ws[i]? = some l) (h2 : ms[i]? = some m) (s : Sat k (wP ws ms :: L)) : Sat k (mapO (κ := Int) m (uM l) :: pkgA (fun M' => M' = (wM ws ms).eraseIdx i) :: L) :=
  Sat.pkTake (by unfold wM; rw [List.getElem?_zipWith, h1, h2]) s
theorem w_put {ws : List (List Nat)} {ms : List (Option Nat)} {i : Nat} {l : List Nat} {m : Option Nat} {L : List Assn} {k : Hp} (h1 : i < ws.length) (h2 : ms.length = ws.length) (s : Sat k (mapO (κ := Int) m (uM l) :: pkgA (fun M' => M' = (wM ws ms).eraseIdx i) :: L)) : Sat k (wP (ws.set i l) (ms.set i m) :: L) := by
  have := Sat.pkPut (M := wM ws ms) (by unfold wM; rw [List.length_zipWith]; omega) s
  unfold wP
  have e : wM (ws.set i l) (ms.set i m) = (wM ws ms).set i (mapO (κ := Int) m (uM l)) := by unfold wM; rw [zipWith_set]
  rw [e]; exact this
theorem w_new (n : Nat) {L : List Assn} {k : Hp} (s : Sat k L) : Sat k (wP (List.replicate n []) (List.replicate n none) :: L) := by
  unfold wP wM
  refine Sat.closeP (φ := fun M => M = _) rfl ?_
  rw [List.zipWith_replicate, Nat.min_self]
  induction n with
  | zero => exact s
  | succ n ih => rw [List.replicate_succ]; exact Sat.pureI rfl ih
theorem w_ent {ws : List (List Nat)} {ms : List (Option Nat)} {i : Nat} {l : List Nat} {m : Option Nat} {L : List Assn} (j : Nat) (hj : L[j]? = some (wP ws ms)) (h1 : ws[i]? = some l) (h2 : ms[i]? = some m) : Ent L (mapO (κ := Int) m (uM l)) := fun k s => by
  obtain ⟨h0, l0, a0, _⟩ := w_take h1 h2 (Sat.pull hj s)
  exact mapO_mono m (uM l) _ _ l0 a0
/-! ### Which group is told next -/
def toldB (T : List Nat) (cnt : Nat) : List Bool := (List.range cnt).map fun n => decide (n ∈ T)
theorem toldB_length (T : List Nat) (cnt : Nat) : (toldB T cnt).length = cnt := by simp [toldB]
theorem toldB_get (T : List Nat) {cnt n : Nat} (h : n < cnt) : (boolRows (toldB T cnt))[n]? = some [.bool (decide (n ∈ T))] := by
  unfold boolRows toldB
  rw [List.getElem?_map, List.getElem?_map, List.getElem?_range h]; rfl
theorem toldB_new (cnt : Nat) : List.replicate cnt false = toldB [] cnt := by
  unfold toldB
  refine List.ext_getElem (by simp) fun i h1 h2 => ?_
  simp
theorem toldB_set (T : List Nat) {cnt n : Nat} : (toldB T cnt).set n true = toldB (T ++ [n]) cnt := by
  unfold toldB
  refine List.ext_getElem (by simp) fun i h1 h2 => ?_
  rw [List.getElem_set]
  simp only [List.getElem_map, List.getElem_range]
  split
  · rename_i e; subst e; simp
  · rename_i e; simp [Ne.symm e]
theorem ready_ct (n : Nat) (T : List Nat) (ws : List (List Nat)) (ms : List (Option Nat)) (cnt b17 b11 : Nat) (tb wb : Nat) (L : List Assn) (i j k1 k2 k3 : Nat)
    (h1 : L[i]? = some (ptA b17 46 [.slice (some ⟨tb, 0, none⟩) cnt cnt])) (h2 : L[j]? = some (ptA b11 140 [.slice (some ⟨wb, 0, none⟩) cnt cnt])) (h3 : L[k1]? = some (ownA 4 1 (some ⟨tb, 0, none⟩) cnt (boolRows (toldB T cnt))))
    (h4 : L[k2]? = some (ownA 141 1 (some ⟨wb, 0, none⟩) cnt (wRows ms))) (h5 : L[k3]? = some (wP ws ms)) (hn : n < cnt) (hw : ws.length = cnt) (hm : ms.length = cnt) :
    Ct Try.prog 72 #[.int .i64 (n : Int), .pointer (some ⟨b17, 0, none⟩), .pointer (some ⟨b11, 0, none⟩)] L (ret fun v L' => v = .bool (readyF T ws n) ∧ L' = L) := by
  obtain ⟨l, hl⟩ : ∃ l, ws[n]? = some l := ⟨_, List.getElem?_eq_getElem (by omega)⟩
  obtain ⟨m, hmm⟩ : ∃ m, ms[n]? = some m := ⟨_, List.getElem?_eq_getElem (by omega)⟩
  have hE1 : Ent L (CellsAt b17 0 [.slice (some ⟨tb, 0, none⟩) cnt cnt]) := Ent.pt i 1 h1 rfl
  have hE2 : Ent L (CellsAt b11 0 [.slice (some ⟨wb, 0, none⟩) cnt cnt]) := Ent.pt j 1 h2 rfl
  have hE3 := own_ent k1 n h3 (toldB_get T hn)
  have hE4 := own_ent k2 n h4 (wRows_get hmm)
  have hE5 := w_ent k3 h5 hl hmm
  refine Ct.body Try.func72 rfl Try.ntmps72 Try.results72 rfl ?_
  refine pur ?_
  refine S.idx n rfl rfl rfl rfl hn ?_
  refine pur ?_
  refine G.idx n rfl rfl rfl (by infer_instance) rfl (by infer_instance) (fun _ => ⟨rfl, hn⟩) ?_
  refine pur ?_
  refine G.mlenO (mp := uM l) rfl rfl (fun _ => hE5) rfl (by infer_instance) ?_
  refine pur ?_
  refine Wp.ret (Ret 0 rfl ⟨?_, rfl⟩)
  congr 1
  unfold readyF
  have : succs ws n = l := by unfold succs; rw [hl]; rfl
  rw [this, uM_length]
  cases l with
  | nil => simp
  | cons a r =>
    simp
    intro _; omega
theorem find_idx {gr : List Nat} {p : Nat → Bool} {q : Int → Bool} (hq : ∀ n : Nat, q (n : Int) = p n) {n : Nat} (h : gr.find? p = some n) : ∃ x : Nat, idxI q (gr.map fun (y : Nat) => (y : Int)) = (x : Int) ∧ gr[x]? = some n := by
  obtain ⟨h1, a1, b1, h2, h3⟩ := List.find?_eq_some_iff_append.1 h
  refine ⟨a1.length, ?_, by rw [h2]; simp⟩
  unfold idxI
  have : ((gr.map fun (y : Nat) => (y : Int)).takeWhile fun r => !q r) = a1.map fun (y : Nat) => (y : Int) := by
    rw [h2, List.map_append, List.takeWhile_append_of_pos (fun a ha => by
      obtain ⟨y, hy, rfl⟩ := List.mem_map.1 ha
      rw [hq]; have := h3 y hy; simpa using this), List.map_cons, List.takeWhile_cons_of_neg (by rw [hq, h1]; simp)]
    simp
  rw [this, List.length_map, List.length_map, if_pos (by rw [h2]; simp)]
theorem natRows_ints (l : List Nat) : natRows l = ints (l.map fun (y : Nat) => (y : Int)) := by simp [natRows, ints]
end Go.Proofs.Ytibkdjjdfcpdaaa
end

section
/- order.Groups. -/
namespace Go.Proofs.Ytibkdjjdfcpdaaa
open Go Go.Ab
attribute [local irreducible] Wp WpO Qt OpT Ct
instance tsEmpty : TStruct Try.prog 53 [] [] := tstruct_of (fun _ => 0) Try.zeroValue53 rfl Try.runUnderlying53 (fun f hf w => by simp at hf) rfl
/-- Where ways meet: what holds there, the way behind it given. -/
theorem Wp.meet {P : Program} {n : Nat} {Q : Post} {E : Env} {D : List Deferred} {L : List Assn} {c y : Code} {α : Type} (Ei : α → Env) (Li : α → List Assn) (inv : α → Prop)
    (h1 : Wp P n c (Post.then (fun E' D' L' => ∃ z, inv z ∧ EnvLe (Ei z) E' ∧ D' = D ∧ LeL L' (Li z)) Q) E D L) (h2 : ∀ z, inv z → Wp P n y Q (Ei z) D (Li z)) : Wp P n c (Post.then (Wp P n y Q) Q) E D L :=
  Wp.mono h1 fun e E' D' L' h => by
    cases e
    case normal => obtain ⟨z, q1, q2, q3, q4⟩ := h; subst q3; exact Wp.weaken (EnvLe.look q2) q4 (h2 z q1)
    all_goals exact h
theorem set_same {α : Type} {l : List α} {i : Nat} {x : α} (h : l[i]? = some x) : l.set i x = l := by
  refine List.ext_getElem? fun j => ?_
  rw [List.getElem?_set]
  split
  · rename_i e; subst e; rw [h]; simp [(List.getElem?_eq_some_iff.1 h).1]
  · rfl
/-- What is left of the maps when j are done. -/
def wsJ (f : List Nat → List Nat) (ws : List (List Nat)) (j : Nat) : List (List Nat) := (ws.take j).map f ++ ws.drop j
theorem wsJ_length (f : List Nat → List Nat) (ws : List (List Nat)) {j : Nat} (h : j ≤ ws.length) : (wsJ f ws j).length = ws.length := by
  unfold wsJ; simp; omega
theorem wsJ_get (f : List Nat → List Nat) {ws : List (List Nat)} {j : Nat} {l : List Nat} (h : ws[j]? = some l) : (wsJ f ws j)[j]? = some l := by
  have hlt := (List.getElem?_eq_some_iff.1 h).1
  unfold wsJ
  rw [List.getElem?_append_right (by simp; omega)]
  simp only [List.length_map, List.length_take, List.getElem?_drop]
  rw [show j + (j - min j ws.length) = j by omega]; exact h
theorem wsJ_step (f : List Nat → List Nat) {ws : List (List Nat)} {j : Nat} {l : List Nat} (h : ws[j]? = some l) : (wsJ f ws j).set j (f l) = wsJ f ws (j + 1) := by
  have hlt := (List.getElem?_eq_some_iff.1 h).1
  unfold wsJ
  rw [List.set_append_right _ _ (by simp; omega)]
  simp only [List.length_map, List.length_take]
  rw [show j - min j ws.length = 0 by omega, drop_get h, List.set_cons_zero, List.take_add_one, h]
  simp
theorem wsJ_all (f : List Nat → List Nat) (ws : List (List Nat)) : wsJ f ws ws.length = ws.map f := by unfold wsJ; simp
def memK (nodes : List Int) (gr : List Nat) (n k : Nat) : List Int := ((List.range k).filter fun x => decide (gOf gr x = n)).map (nodeAt nodes)
theorem memK_step (nodes : List Int) (gr : List Nat) (n k : Nat) : memK nodes gr n (k + 1) = if gOf gr k = n then memK nodes gr n k ++ [nodeAt nodes k] else memK nodes gr n k := by
  unfold memK
  rw [List.range_succ, List.filter_append, List.map_append]
  by_cases h : gOf gr k = n <;> simp [h]
theorem memK_len (nodes : List Int) (gr : List Nat) (n k : Nat) : (memK nodes gr n k).length ≤ k := by
  unfold memK
  rw [List.length_map]
  have := List.length_filter_le (fun x => decide (gOf gr x = n)) (List.range k)
  rwa [List.length_range] at this
/-- The groups told. -/
def outF (nodes : List Int) (gr : List Nat) (T : List Nat) : List (List Int) := T.map fun n => memK nodes gr n gr.length
theorem circles2_ct (g : List (List Nat)) (na ga : Option Addr) (nc gc nn : Nat) (L : List Assn) (hnn : g.length = nn) (hG : GridR L ga gc g) (hr : Rng g) (hn : nn ≤ 100000) (ht : tot g ≤ 100000000) :
    Ct Try.prog 71 #[graphV na nn nc ga nn gc] L
      (ret fun v L' => ∃ ra rc, v = .tuple #[.slice ra nn rc, .int .i64 ((circF g).2.1 : Nat)] ∧ L' = ownA 3 1 ra rc (natRows (circF g).1) :: L) := by
  subst hnn; exact circles_ct g na ga nc gc L hG hr hn ht
theorem own_some {e sz : Nat} {a : Option Addr} {c : Nat} {rows : List (List Value)} {L : List Assn} {k : Hp} (i : Nat) (hi : L[i]? = some (ownA e sz a c rows)) (hs : Sat k L) (h0 : 0 < rows.length) : ∃ b o, a = some ⟨b, o, none⟩ := own_at i hi hs (fun e => by rw [e] at h0; cases h0)
theorem cnt_le {g : List (List Nat)} (hr : Rng g) : (circF g).2.1 ≤ g.length := by
  obtain ⟨c1, c2, c3, _, _⟩ := circF_spec hr
  have := nodup_le (m := (circF g).1) (List.nodup_range (n := (circF g).2.1)) fun n hn => by
    obtain ⟨x, x1, x2⟩ := c3 n (List.mem_range.1 hn)
    rw [← x2]
    exact List.mem_of_getElem? (gOf_get (by omega))
  rw [List.length_range] at this
  omega
set_option maxHeartbeats 16000000 in
theorem groups_ct (nodes : List Int) (uses : List (Int × Int)) (na ua : Option Addr) (nc uc : Nat) (L : List Assn) (hN : Sl L na nc 1 (ints nodes)) (hU : Sl L ua uc 2 (pairRows uses)) (hn : nodes.length ≤ 100000) (hu : uses.length ≤ 100000000) :
    Ct Try.prog 52 #[.slice na nodes.length nc, .slice ua uses.length uc] L
      (ret fun v L' => match graphF nodes uses with
        | .error e => v = .tuple #[.slice none 0 0, .int .i64 e] ∧ L' = L
        | .ok g => ∃ oa oc ks, v = .tuple #[.slice oa (groupsF nodes g).length oc, .int .i64 0] ∧ ks.length = (groupsF nodes g).length ∧ L' = ownA 26 1 oa oc (gridI (groupsF nodes g) ks) :: listsI (groupsF nodes g) ks :: L) := by
  have hgr := graphOf_ct nodes uses na ua nc uc L hN hU hn hu
  refine Ct.body Try.func52 rfl Try.ntmps52 Try.results52 rfl ?_
  cases hgf : graphF nodes uses with
  | error e =>
    rw [hgf] at hgr
    have he := graphF_err hgf
    refine pur ?_
    refine WpO.call Try.call70 rfl rfl hgr fun v L' ⟨⟨a1, n1, k1, a2, n2, k2, e1⟩, e2⟩ => ⟨Keeps.none, ?_⟩
    subst e1; subst e2
    refine pur ?_
    refine WpO.alloc rfl rfl (fun _ => Keeps.none) fun b6 => ?_
    refine pur ?_
    refine Wp.branch rfl (fun h => ?_) (fun h => ?_)
    · refine pur ?_
      exact Wp.ret (Ret 1 rfl ⟨rfl, rfl⟩)
    · exfalso
      have := of_decide_eq_true (by simpa using h : decide (e = 0) = true)
      omega
  | ok g =>
    rw [hgf] at hgr
    obtain ⟨hnd, _, hgl, hr, htot⟩ := graphF_ok hgf
    have hcl := cnt_le hr
    obtain ⟨c1, c2, c3, c4, c5⟩ := circF_spec hr
    refine pur ?_
    refine WpO.call Try.call70 rfl rfl hgr fun v L' ⟨p, ga, gc, ks, e1, e3, e2⟩ => ⟨Keeps.none, ?_⟩
    subst e1; subst e2
    rw [hgl] at e3 ⊢
    refine WpO.know (fun k hs => grid_know (L := ownA 26 1 ga gc (gridRows g ks) :: listsP g ks :: L) 0 1 rfl rfl (by omega) hs) fun hGB => ?_
    obtain ⟨B, hB⟩ : ∃ B, ownA 26 1 ga gc (gridRows g ks) :: listsP g ks :: L = B := ⟨_, rfl⟩
    have hBL : LeL B L := by subst hB; exact fun k s => s.tail.tail
    rw [hB] at hGB ⊢
    refine pur ?_
    refine WpO.alloc rfl rfl (fun _ => Keeps.none) fun b6 => ?_
    refine pur ?_
    refine S.loadN (vs := [.slice na nodes.length nc, .slice ga nodes.length gc]) rfl rfl (Ent.pt 0 2 rfl rfl) rfl ?_
    refine WpO.call Try.call71 rfl rfl (circles2_ct g na ga nc gc nodes.length _ hgl (hGB.app [_]) hr hn (by omega)) fun v L' ⟨ra, rc, e1, e2⟩ => ⟨Keeps.none, ?_⟩
    subst e1; subst e2
    generalize hgrd : (circF g).1 = gr at *
    generalize hcnd : (circF g).2.1 = cnt at *
    refine pur ?_
    refine WpO.make cnt cnt rfl rfl rfl rfl rfl (Nat.le_refl _) (by omega) rfl rfl rfl rfl (fun _ => Keeps.none) fun bw => ?_
    refine pur ?_
    refine WpO.alloc rfl rfl (fun _ => Keeps.none) fun b11 => ?_
    refine pur ?_
    refine Wp.loopI (α := Nat × List (List Nat) × List (Option Nat)) (0, List.replicate cnt [], List.replicate cnt none)
      (fun x => [(0, .v (.slice na nodes.length nc)), (6, .v (.pointer (some ⟨b6, 0, none⟩))), (9, .v (.slice ra nodes.length rc)), (10, .v (.int .i64 cnt)), (11, .v (.pointer (some ⟨b11, 0, none⟩))), (43, .v (.slice ga nodes.length gc)), (44, .v (.int .i64 nodes.length)), (45, .v (.int .i64 x.1))])
      (fun x => ownA 141 1 (some ⟨bw, 0, none⟩) cnt (wRows x.2.2) :: ptA b11 140 [.slice (some ⟨bw, 0, none⟩) cnt cnt] :: ownA 3 1 ra rc (natRows gr) :: wP x.2.1 x.2.2 :: ptA b6 134 [.slice na nodes.length nc, .slice ga nodes.length gc] :: B)
      (fun x => nodes.length - x.1) (fun x => x.1 ≤ nodes.length ∧ x.2.1.length = cnt ∧ x.2.2.length = cnt ∧ waitFrom gr (g.drop x.1) x.1 x.2.1 = waitsF g gr cnt)
      ⟨Nat.zero_le _, by simp, by simp, rfl⟩ ⟨rfl, rfl, rfl, rfl, rfl, rfl, rfl, rfl, trivial⟩ (fun k s => ?_) ?_
    · have s1 : Sat k (ptA b11 140 [.slice (some ⟨bw, 0, none⟩) cnt cnt] :: ownA 141 1 (some ⟨bw, 0, none⟩) cnt (List.replicate cnt [.map none]) :: ownA 3 1 ra rc (natRows gr) :: ptA b6 134 [.slice na nodes.length nc, .slice ga nodes.length gc] :: B) := s
      have e : List.replicate cnt [Value.map none] = wRows (List.replicate cnt none) := by simp [wRows]
      rw [e] at s1
      exact Sat.cons_mono (fun k s => Sat.cons_mono (fun k s => Sat.cons_mono (fun k s => w_new _ s) s) s) s1.swap
    rintro ⟨a, ws, ms⟩ ⟨ha, hwl, hml, hws⟩
    simp only [] at ha hwl hml hws ⊢
    refine pur ?_
    refine Wp.branch rfl (fun h => ?_) (fun h => ?_)
    · have han : a < nodes.length := by have := of_decide_eq_true h; omega
      obtain ⟨l, hl⟩ : ∃ l, g[a]? = some l := ⟨_, List.getElem?_eq_getElem (by omega)⟩
      have hlt := tot_mem (List.mem_of_getElem? hl)
      rw [drop_get hl] at hws
      obtain ⟨gb, go, la, lc, e1, hE, hS⟩ := hGB.at hl
      subst e1
      have hE := hE.app [ownA 141 1 (some ⟨bw, 0, none⟩) cnt (wRows ms), ptA b11 140 [.slice (some ⟨bw, 0, none⟩) cnt cnt], ownA 3 1 ra rc (natRows gr), wP ws ms, ptA b6 134 [.slice na nodes.length nc, .slice (some ⟨gb, go, none⟩) nodes.length gc]]
      refine Wp.know (fun k hs => own_some 2 rfl hs (by rw [natRows_length]; omega)) fun ⟨rb, ro, e2⟩ => ?_
      subst e2
      refine pur ?_
      refine S.idx a rfl rfl rfl rfl han ?_
      refine pur ?_
      refine Wp.loopI (α := Nat × List (List Nat) × List (Option Nat)) (0, ws, ms)
        (fun x => [(0, .v (.slice na nodes.length nc)), (6, .v (.pointer (some ⟨b6, 0, none⟩))), (9, .v (.slice (some ⟨rb, ro, none⟩) nodes.length rc)), (10, .v (.int .i64 cnt)), (11, .v (.pointer (some ⟨b11, 0, none⟩))), (43, .v (.slice (some ⟨gb, go, none⟩) nodes.length gc)), (44, .v (.int .i64 nodes.length)), (45, .v (.int .i64 a)), (12, .v (.int .i64 a)), (50, .v (.slice la l.length lc)), (51, .v (.int .i64 l.length)), (52, .v (.int .i64 x.1))])
        (fun x => ownA 141 1 (some ⟨bw, 0, none⟩) cnt (wRows x.2.2) :: ptA b11 140 [.slice (some ⟨bw, 0, none⟩) cnt cnt] :: ownA 3 1 (some ⟨rb, ro, none⟩) rc (natRows gr) :: wP x.2.1 x.2.2 :: ptA b6 134 [.slice na nodes.length nc, .slice (some ⟨gb, go, none⟩) nodes.length gc] :: B)
        (fun x => l.length - x.1) (fun x => x.1 ≤ l.length ∧ x.2.1.length = cnt ∧ x.2.2.length = cnt ∧ waitFrom gr (g.drop (a + 1)) (a + 1) (waitRow gr a (l.drop x.1) x.2.1) = waitsF g gr cnt)
        ⟨Nat.zero_le _, hwl, hml, hws⟩ ⟨rfl, rfl, rfl, rfl, rfl, rfl, rfl, rfl, rfl, rfl, rfl, rfl, trivial⟩ (LeL.refl _) ?_
      rintro ⟨j, ws, ms⟩ ⟨hj, hwl, hml, hws⟩
      simp only [] at hj hwl hml hws ⊢
      refine pur ?_
      refine Wp.branch rfl (fun h2 => ?_) (fun h2 => ?_)
      · have hjl : j < l.length := by have := of_decide_eq_true h2; omega
        obtain ⟨b, hb⟩ : ∃ b, l[j]? = some b := ⟨_, List.getElem?_eq_getElem hjl⟩
        have hbg : b < g.length := hr a b (by unfold succs; rw [hl]; exact List.mem_of_getElem? hb)
        rw [drop_get hb] at hws
        obtain ⟨lb, lo, e2, hE2⟩ := nat_at hS hb
        subst e2
        have hE2 := hE2.app [ownA 141 1 (some ⟨bw, 0, none⟩) cnt (wRows ms), ptA b11 140 [.slice (some ⟨bw, 0, none⟩) cnt cnt], ownA 3 1 (some ⟨rb, ro, none⟩) rc (natRows gr), wP ws ms, ptA b6 134 [.slice na nodes.length nc, .slice (some ⟨gb, go, none⟩) nodes.length gc]]
        have hga := natRows_get _ _ _ (gOf_get (l := gr) (i := a) (by omega))
        have hgb := natRows_get _ _ _ (gOf_get (l := gr) (i := b) (by omega))
        have hac := c2 a (by omega)
        have hbc := c2 b hbg
        have hgoal : waitRow gr a (b :: l.drop (j + 1)) ws = waitRow gr a (l.drop (j + 1)) (if gOf gr a = gOf gr b then ws else waitSet ws (gOf gr a) (gOf gr b)) := rfl
        rw [hgoal] at hws
        have hw1 : IntKind.i64.wrap ((j : Int) + 1) = ((j + 1 : Nat) : Int) := by rw [wrap_id (by omega) (by omega)]; omega
        refine pur ?_
        refine S.idx j rfl rfl rfl rfl hjl ?_
        refine pur ?_
        refine Wp.draw rfl [0,1,2,3,4,5,6,7,8] 9 9 _ rfl (by decide +kernel) (fun _ h => h) ?_
        refine pur ?_
        refine S.idx a rfl rfl rfl rfl han ?_
        refine S.load (v := .int .i64 (gOf gr a : Nat)) rfl rfl (by infer_instance) (own_ent 2 a rfl hga) ?_
        refine pur ?_
        refine S.idx b rfl rfl rfl rfl (by omega) ?_
        refine S.load (v := .int .i64 (gOf gr b : Nat)) rfl rfl (by infer_instance) (own_ent 2 b rfl hgb) ?_
        refine pur ?_
        refine Wp.branch rfl (fun h3 => ?_) (fun h3 => ?_)
        · have hne : ¬ gOf gr a = gOf gr b := fun e => by
            rw [e] at h3; simp at h3
          rw [if_neg hne] at hws
          obtain ⟨wl, hwl2⟩ : ∃ wl, ws[gOf gr a]? = some wl := ⟨_, List.getElem?_eq_getElem (by omega)⟩
          obtain ⟨m, hm⟩ : ∃ m, ms[gOf gr a]? = some m := ⟨_, List.getElem?_eq_getElem (by omega)⟩
          have hset : waitSet ws (gOf gr a) (gOf gr b) = ws.set (gOf gr a) (if gOf gr b ∈ wl then wl else wl ++ [gOf gr b]) := by
            unfold waitSet
            refine List.ext_getElem? fun i => ?_
            rw [List.getElem?_modify, List.getElem?_set]
            by_cases e : gOf gr a = i
            · subst e; rw [hwl2]; simp [hwl, hac]
            · simp [e]
          rw [hset] at hws
          refine pur ?_
          refine Wp.draw rfl [0,1,2,3,4,5,6,7] 8 8 _ rfl (by decide +kernel) (fun _ h => h) ?_
          refine pur ?_
          refine S.idx a rfl rfl rfl rfl han ?_
          refine S.load (v := .int .i64 (gOf gr a : Nat)) rfl rfl (by infer_instance) (own_ent 2 a rfl hga) ?_
          refine S.idx (gOf gr a) rfl rfl rfl rfl hac ?_
          refine S.load (v := .map m) rfl rfl (by infer_instance) (own_ent 0 (gOf gr a) rfl (wRows_get hm)) ?_
          refine S.mnil Try.underlying141 rfl rfl rfl ?_
          refine pur ?_
          -- behind the choice: the map is there
          refine Wp.parts (L' := ownA 141 1 (some ⟨bw, 0, none⟩) cnt (wRows ms) :: ptA b11 140 [.slice (some ⟨bw, 0, none⟩) cnt cnt] :: ownA 3 1 (some ⟨rb, ro, none⟩) rc (natRows gr) :: mapO (κ := Int) m (uM wl) :: pkgA (fun M' => M' = (wM ws ms).eraseIdx (gOf gr a)) :: ptA b6 134 [.slice na nodes.length nc, .slice (some ⟨gb, go, none⟩) nodes.length gc] :: B) (fun k s => Sat.cons_mono (fun k s => Sat.cons_mono (fun k s => Sat.cons_mono (fun k s => w_take hwl2 hm s) s) s) s) ?_
          refine Wp.meet (α := Nat × List (Option Nat)) (fun _ => [(0, .v (.slice na nodes.length nc)), (6, .v (.pointer (some ⟨b6, 0, none⟩))), (9, .v (.slice (some ⟨rb, ro, none⟩) nodes.length rc)), (10, .v (.int .i64 cnt)), (11, .v (.pointer (some ⟨b11, 0, none⟩))), (43, .v (.slice (some ⟨gb, go, none⟩) nodes.length gc)), (44, .v (.int .i64 nodes.length)), (45, .v (.int .i64 a)), (12, .v (.int .i64 a)), (15, .v (.int .i64 b)), (50, .v (.slice (some ⟨lb, lo, none⟩) l.length lc)), (51, .v (.int .i64 l.length)), (52, .v (.int .i64 j))])
            (fun z => ownA 141 1 (some ⟨bw, 0, none⟩) cnt (wRows z.2) :: ptA b11 140 [.slice (some ⟨bw, 0, none⟩) cnt cnt] :: ownA 3 1 (some ⟨rb, ro, none⟩) rc (natRows gr) :: mapA (κ := Int) z.1 (uM wl) :: pkgA (fun M' => M' = (wM ws ms).eraseIdx (gOf gr a)) :: ptA b6 134 [.slice na nodes.length nc, .slice (some ⟨gb, go, none⟩) nodes.length gc] :: B)
            (fun z => z.2 = ms.set (gOf gr a) (some z.1)) ?_ ?_
          · refine Wp.branch rfl (fun h4 => ?_) (fun h4 => ?_)
            · have hmn : m = none := by cases m with
                | none => rfl
                | some q => cases h4
              subst hmn
              refine Wp.know (fun k hs => Sat.pureE (k := k) (p := uM wl = []) (Sat.sel (T := []) 1 (M' := [_]) [3] rfl (by rw [List.append_nil]; exact hs))) fun hwn => ?_
              refine Wp.draw rfl [0,1,2,3,4,5,6,7] 7 7 [ownA 141 1 (some ⟨bw, 0, none⟩) cnt (wRows ms), ptA b11 140 [.slice (some ⟨bw, 0, none⟩) cnt cnt], ownA 3 1 (some ⟨rb, ro, none⟩) rc (natRows gr)] rfl (by decide +kernel) (fun _ s => Sat.take (M := [_, _, _]) s) ?_
              refine pur ?_
              refine S.idx a rfl rfl rfl rfl han ?_
              refine S.load (v := .int .i64 (gOf gr a : Nat)) rfl rfl (by infer_instance) (own_ent 2 a rfl hga) ?_
              refine WpO.mmake (κ := Int) rfl (fun _ => Keeps.by fun _ s => Sat.take (M := [_, _, _]) s.tail) fun mb => ?_
              refine S.idx (gOf gr a) rfl rfl rfl rfl hac ?_
              refine WpO.storeRow1 1 (gOf gr a) rfl rfl rfl (by rw [wRows_length]; omega) rfl rfl Keeps.last (wRows_one _) ?_
              dsimp only [List.set]
              rw [wRows_set]
              refine pur ?_
              exact ⟨(mb, ms.set (gOf gr a) (some mb)), rfl, ⟨rfl, rfl, rfl, rfl, rfl, rfl, rfl, rfl, rfl, rfl, rfl, rfl, rfl, trivial⟩, rfl, fun k s => by
                show Sat k (_ :: _ :: _ :: mapA (κ := Int) mb (uM wl) :: _)
                rw [hwn]
                exact Sat.sel (T := B) 7 (M := [_, _, _, _, _, _, _]) (M' := [_, _, _, _, _, _]) [1, 2, 3, 0, 5, 6] rfl s⟩
            · obtain ⟨mb, hmb⟩ : ∃ mb, m = some mb := by cases m with
                | none => cases h4
                | some q => exact ⟨q, rfl⟩
              subst hmb
              refine pur ?_
              exact ⟨(mb, ms), by
                show ms = ms.set (gOf gr a) (some mb)
                refine List.ext_getElem? fun i => ?_
                rw [List.getElem?_set]
                split
                · rename_i e; subst e; rw [hm]; simp [hml, hac]
                · rfl, ⟨rfl, rfl, rfl, rfl, rfl, rfl, rfl, rfl, rfl, rfl, rfl, rfl, rfl, trivial⟩, rfl, LeL.refl _⟩
          · rintro ⟨mb, ms2⟩ hms
            simp only [] at hms
            subst hms
            have hm2 : (ms.set (gOf gr a) (some mb))[gOf gr a]? = some (some mb) := by simp [hml, hac]
            refine Wp.draw rfl [0,1,2,3,4,5,6,7,8,9,10,11,12] 12 12 _ rfl (by decide +kernel) (fun _ h => h) ?_
            refine pur ?_
            refine S.idx a rfl rfl rfl rfl han ?_
            refine S.load (v := .int .i64 (gOf gr a : Nat)) rfl rfl (by infer_instance) (own_ent 2 a rfl hga) ?_
            refine S.idx (gOf gr a) rfl rfl rfl rfl hac ?_
            refine S.load (v := .map (some mb)) rfl rfl (by infer_instance) (own_ent 0 (gOf gr a) rfl (wRows_get hm2)) ?_
            refine pur ?_
            refine S.idx b rfl rfl rfl rfl (by omega) ?_
            refine S.load (v := .int .i64 (gOf gr b : Nat)) rfl rfl (by infer_instance) (own_ent 2 b rfl hgb) ?_
            refine S.build rfl rfl rfl ?_
            refine WpO.mset (κ := Int) ((gOf gr b : Nat) : Int) 3 rfl rfl rfl rfl rfl Keeps.last ?_
            dsimp only [List.set]
            rw [uM_set]
            refine pur ?_
            rw [hw1]
            refine Round.mk (j + 1, ws.set (gOf gr a) (if gOf gr b ∈ wl then wl else wl ++ [gOf gr b]), ms.set (gOf gr a) (some mb)) (by show _ - (j + 1) < _ - j; omega) ⟨by show j + 1 ≤ _; omega, by simpa using hwl, by simpa using hml, hws⟩ ⟨rfl, rfl, rfl, rfl, rfl, rfl, rfl, rfl, rfl, rfl, rfl, rfl, trivial⟩ (fun k s => ?_)
            exact Sat.cons_mono (fun k s => Sat.cons_mono (fun k s => Sat.cons_mono (fun k s => w_put (by omega) (by omega) s) s) s) s
        · have he : gOf gr a = gOf gr b := by
            have : (decide (((gOf gr a : Nat) : Int) = ((gOf gr b : Nat) : Int))) = true := by simpa using h3
            have := of_decide_eq_true this; omega
          rw [if_pos he] at hws
          refine pur ?_
          rw [hw1]
          exact Round.mk (j + 1, ws, ms) (by show _ - (j + 1) < _ - j; omega) ⟨by show j + 1 ≤ _; omega, hwl, hml, hws⟩ ⟨rfl, rfl, rfl, rfl, rfl, rfl, rfl, rfl, rfl, rfl, rfl, rfl, trivial⟩ (LeL.refl _)
      · have hjl : j = l.length := by have := of_decide_eq_false h2; omega
        subst hjl
        rw [List.drop_length] at hws
        refine pur ?_
        have hw1 : IntKind.i64.wrap ((a : Int) + 1) = ((a + 1 : Nat) : Int) := by rw [wrap_id (by omega) (by omega)]; omega
        rw [hw1]
        exact Round.mk (a + 1, ws, ms) (by show _ - (a + 1) < _ - a; omega) ⟨by show a + 1 ≤ _; omega, hwl, hml, hws⟩ ⟨rfl, rfl, rfl, rfl, rfl, rfl, rfl, rfl, trivial⟩ (LeL.refl _)
    · have han : a = nodes.length := by have := of_decide_eq_false h; omega
      subst han
      rw [List.drop_of_length_le (by omega)] at hws
      have hws : ws = waitsF g gr cnt := hws
      have hT0 : Tell g gr cnt ([], ws) := ⟨hwl, List.nodup_nil, nofun, fun n c => by rw [hws, waitsF_mem c2]; simp, fun n => by rw [hws]; exact waitFrom_nodup _ _ _ _ (fun n => by rw [succs_rep]; exact List.nodup_nil) n⟩
      have hF0 : (tellN gr cnt ([], ws)).1 = tellF g := by unfold tellF; rw [hgrd, hcnd, hws]
      refine pur ?_
      refine WpO.make cnt cnt rfl rfl rfl rfl rfl (Nat.le_refl _) (by omega) rfl rfl rfl rfl (fun _ => Keeps.none) fun bt => ?_
      refine pur ?_
      refine WpO.alloc rfl rfl (fun _ => Keeps.none) fun b17 => ?_
      refine pur ?_
      refine Wp.loopI (α := List Nat × List (List Nat) × List (Option Addr × Nat) × (Option Addr × Nat)) ([], ws, [], (none, 0))
        (fun x => [(0, .v (.slice na nodes.length nc)), (9, .v (.slice ra nodes.length rc)), (10, .v (.int .i64 cnt)), (11, .v (.pointer (some ⟨b11, 0, none⟩))), (16, .v (.slice x.2.2.2.1 x.1.length x.2.2.2.2)), (17, .v (.pointer (some ⟨b17, 0, none⟩)))])
        (fun x => ownA 26 1 x.2.2.2.1 x.2.2.2.2 (gridI (outF nodes gr x.1) x.2.2.1) :: listsI (outF nodes gr x.1) x.2.2.1 :: ptA b17 46 [.slice (some ⟨bt, 0, none⟩) cnt cnt] :: ptA b11 140 [.slice (some ⟨bw, 0, none⟩) cnt cnt] :: ownA 4 1 (some ⟨bt, 0, none⟩) cnt (boolRows (toldB x.1 cnt)) :: ownA 141 1 (some ⟨bw, 0, none⟩) cnt (wRows ms) :: wP x.2.1 ms :: ownA 3 1 ra rc (natRows gr) :: L)
        (fun x => cnt - x.1.length) (fun x => Tell g gr cnt (x.1, x.2.1) ∧ x.1.length ≤ cnt ∧ x.2.2.1.length = x.1.length ∧ (tellN gr (cnt - x.1.length) (x.1, x.2.1)).1 = tellF g)
        ⟨hT0, Nat.zero_le _, rfl, hF0⟩ ⟨rfl, rfl, rfl, rfl, rfl, rfl, trivial⟩ (fun k s => ?_) ?_
      · have s1 : Sat k ([ptA b17 46 [.slice (some ⟨bt, 0, none⟩) cnt cnt], ownA 4 1 (some ⟨bt, 0, none⟩) cnt (List.replicate cnt [.bool false]), ownA 141 1 (some ⟨bw, 0, none⟩) cnt (wRows ms), ptA b11 140 [.slice (some ⟨bw, 0, none⟩) cnt cnt], ownA 3 1 ra rc (natRows gr), wP ws ms, ptA b6 134 [.slice na nodes.length nc, .slice ga nodes.length gc]] ++ B) := s
        rw [boolRows_new, toldB_new] at s1
        refine Sat.ownNil (listsI_nil ?_)
        have s2 := Sat.sel (T := B) 7 (M := [_, _, _, _, _, _, _]) (M' := [_, _, _, _, _, _]) [0, 3, 1, 2, 5, 4] rfl s1
        exact Sat.cons_mono (fun k s => Sat.cons_mono (fun k s => Sat.cons_mono (fun k s => Sat.cons_mono (fun k s => Sat.cons_mono (fun k s => Sat.cons_mono (fun k s => hBL k s) s) s) s) s) s) s2
      rintro ⟨tl, ws, ks, ⟨oa, oc⟩⟩ ⟨hT, htl, hkl, hF⟩
      simp only [] at hT htl hkl hF ⊢
      have hol : (outF nodes gr tl).length = tl.length := by simp [outF]
      have hwl : ws.length = cnt := hT.len
      refine pur ?_
      refine Wp.branch rfl (fun h2 => ?_) (fun h2 => ?_)
      · have hlt : tl.length < cnt := by have := of_decide_eq_true h2; omega
        obtain ⟨n, n1, n2, n3, n4⟩ := hT.find hlt (fun c hc => by obtain ⟨x, x1, x2⟩ := c3 c hc; exact ⟨x, by rw [c1]; exact x1, x2⟩) (fun x hx => c2 x (by rw [← c1]; exact hx)) (fun a b hb => by rw [c1]; exact hr a b hb) c4
        obtain ⟨w1, w2⟩ := hT.step n1 n2 n3
        have hstep : tellStep gr (tl, ws) = (tl ++ [n], ws.map fun l => l.erase n) := by unfold tellStep; simp only [] at n1; simp only [n1]
        rw [hstep] at w1
        rw [show cnt - tl.length = (cnt - tl.length - 1) + 1 by omega, tellN, hstep] at hF
        obtain ⟨x, hx, hgx⟩ := find_idx (q := fun r => readyF tl ws r.toNat) (fun n => rfl) n1
        have hxl : x < gr.length := (List.getElem?_eq_some_iff.1 hgx).1
        refine Wp.know (fun k hs => own_some 7 rfl hs (by rw [natRows_length]; omega)) fun ⟨rb, ro, e2⟩ => ?_
        subst e2
        refine Wp.know (fun k hs => own_know (rows := natRows gr) 7 rfl hs) fun hgk => ?_
        refine pur ?_
        refine S.makeFuncM rfl .nil (.cons rfl (by infer_instance) (.cons rfl (by infer_instance) .nil)) ?_
        have hix := indexInt_ct (gr.map fun (y : Nat) => (y : Int)) (some ⟨rb, ro, none⟩) rc 72 #[.pointer (some ⟨b17, 0, none⟩), .pointer (some ⟨b11, 0, none⟩)] (fun r => readyF tl ws r.toNat)
          (ownA 26 1 oa oc (gridI (outF nodes gr tl) ks) :: listsI (outF nodes gr tl) ks :: ptA b17 46 [.slice (some ⟨bt, 0, none⟩) cnt cnt] :: ptA b11 140 [.slice (some ⟨bw, 0, none⟩) cnt cnt] :: ownA 4 1 (some ⟨bt, 0, none⟩) cnt (boolRows (toldB tl cnt)) :: ownA 141 1 (some ⟨bw, 0, none⟩) cnt (wRows ms) :: wP ws ms :: ownA 3 1 (some ⟨rb, ro, none⟩) rc (natRows gr) :: L)
          (by rw [← natRows_ints]; exact Sl.own 7 rfl hgk) Try.call72 (fun r hr => by
            obtain ⟨y, hy, rfl⟩ := List.mem_map.1 hr
            have hyc : y < cnt := by
              obtain ⟨i, hi⟩ := List.getElem?_of_mem hy
              have hil := (List.getElem?_eq_some_iff.1 hi).1
              have := c2 i (by omega)
              unfold gOf at this
              rw [hi] at this; exact this
            exact ready_ct y tl ws ms cnt b17 b11 bt bw _ 2 3 4 5 6 rfl rfl rfl rfl rfl hyc hwl hml) (by rw [List.length_map]; omega)
        have hgl2 : (gr.map fun (y : Nat) => (y : Int)).length = nodes.length := by rw [List.length_map]; omega
        rw [hgl2, hx] at hix
        refine WpO.call Try.call42 rfl rfl hix fun v L' ⟨e1, e2⟩ => ⟨Keeps.none, ?_⟩
        subst e1; subst e2
        refine pur ?_
        refine S.idx x rfl rfl rfl rfl (by omega) ?_
        refine S.load (v := .int .i64 (n : Nat)) rfl rfl (by infer_instance) (own_ent 7 x rfl (natRows_get _ _ _ hgx)) ?_
        refine pur ?_
        refine Wp.loopI (α := Nat × (Option Addr × Nat)) (0, (none, 0))
          (fun y => [(0, .v (.slice na nodes.length nc)), (9, .v (.slice (some ⟨rb, ro, none⟩) nodes.length rc)), (10, .v (.int .i64 cnt)), (11, .v (.pointer (some ⟨b11, 0, none⟩))), (16, .v (.slice oa tl.length oc)), (17, .v (.pointer (some ⟨b17, 0, none⟩))), (19, .v (.int .i64 n)), (20, .v (.slice y.2.1 (memK nodes gr n y.1).length y.2.2)), (107, .v (.slice (some ⟨rb, ro, none⟩) nodes.length rc)), (108, .v (.int .i64 nodes.length)), (109, .v (.int .i64 y.1))])
          (fun y => ownA 3 1 y.2.1 y.2.2 (ints (memK nodes gr n y.1)) :: ownA 26 1 oa oc (gridI (outF nodes gr tl) ks) :: listsI (outF nodes gr tl) ks :: ptA b17 46 [.slice (some ⟨bt, 0, none⟩) cnt cnt] :: ptA b11 140 [.slice (some ⟨bw, 0, none⟩) cnt cnt] :: ownA 4 1 (some ⟨bt, 0, none⟩) cnt (boolRows (toldB tl cnt)) :: ownA 141 1 (some ⟨bw, 0, none⟩) cnt (wRows ms) :: wP ws ms :: ownA 3 1 (some ⟨rb, ro, none⟩) rc (natRows gr) :: L)
          (fun y => nodes.length - y.1) (fun y => y.1 ≤ nodes.length) (Nat.zero_le _) ⟨rfl, rfl, rfl, rfl, rfl, rfl, rfl, rfl, rfl, rfl, rfl, trivial⟩ (fun k s => Sat.ownNil s) ?_
        rintro ⟨k, ⟨ma, mc⟩⟩ hk
        simp only [] at hk ⊢
        have hml2 := memK_len nodes gr n k
        have hstepK := memK_step nodes gr n k
        refine pur ?_
        refine Wp.branch rfl (fun h3 => ?_) (fun h3 => ?_)
        · have hkn : k < nodes.length := by have := of_decide_eq_true h3; omega
          have hw1 : IntKind.i64.wrap ((k : Int) + 1) = ((k + 1 : Nat) : Int) := by rw [wrap_id (by omega) (by omega)]; omega
          refine pur ?_
          refine S.idx k rfl rfl rfl rfl hkn ?_
          refine S.load (v := .int .i64 (gOf gr k : Nat)) rfl rfl (by infer_instance) (own_ent 8 k rfl (natRows_get _ _ _ (gOf_get (by omega)))) ?_
          refine pur ?_
          refine Wp.branch rfl (fun h4 => ?_) (fun h4 => ?_)
          · have he : gOf gr k = n := by have := of_decide_eq_true h4; omega
            rw [if_pos he] at hstepK
            have hnk : nodes[k]? = some (nodeAt nodes k) := by unfold nodeAt; rw [List.getElem?_eq_getElem hkn]; rfl
            obtain ⟨nb, no, e5, hE⟩ := ints_at hN hnk
            subst e5
            refine pur ?_
            refine S.idx k rfl rfl rfl rfl hkn ?_
            refine S.load (v := .int .i64 (nodeAt nodes k)) rfl rfl (by infer_instance) (hE.app [_, _, _, _, _, _, _, _, _]) ?_
            refine WpO.buildSlice rfl rfl rfl rfl rfl rfl rfl (fun _ => Keeps.none) fun b122 => ?_
            refine WpO.appendLit 0 [[.int .i64 (nodeAt nodes k)]] rfl rfl rfl rfl (by rw [ints_length]) rfl rfl rfl rfl rfl rfl rfl (by rw [ints_length]; simp; omega) (fun _ _ => Keeps.none) fun a2 k2 => ?_
            dsimp only [List.set]
            have hsn : ints (memK nodes gr n k) ++ [[Value.int .i64 (nodeAt nodes k)]] = ints (memK nodes gr n (k + 1)) := by rw [hstepK]; simp [ints]
            rw [hsn, ints_length]
            refine pur ?_
            rw [hw1]
            exact Round.mk (k + 1, (a2, k2)) (by show _ - (k + 1) < _ - k; omega) (by show k + 1 ≤ _; omega) ⟨rfl, rfl, rfl, rfl, rfl, rfl, rfl, rfl, rfl, rfl, rfl, trivial⟩ (LeL.refl _)
          · have he : ¬ gOf gr k = n := by have := of_decide_eq_false h4; omega
            rw [if_neg he] at hstepK
            refine pur ?_
            rw [hw1]
            refine Round.mk (k + 1, (ma, mc)) (by show _ - (k + 1) < _ - k; omega) (by show k + 1 ≤ _; omega) ⟨rfl, rfl, rfl, rfl, rfl, rfl, rfl, by rw [hstepK]; rfl, rfl, rfl, rfl, trivial⟩ (fun k' s => ?_)
            show Sat k' (ownA 3 1 ma mc (ints (memK nodes gr n (k + 1))) :: _)
            rw [hstepK]; exact s
        have hkn : k = nodes.length := by have := of_decide_eq_false h3; omega
        subst hkn
        have hmk : memK nodes gr n nodes.length = memK nodes gr n gr.length := by rw [c1, hgl]
        refine pur ?_
        refine S.idx n rfl rfl rfl rfl n2 ?_
        refine WpO.storeRow1 5 n rfl rfl rfl (by rw [boolRows_length, toldB_length]; exact n2) rfl rfl Keeps.none (boolRows_one _) ?_
        dsimp only [List.set]
        rw [boolRows_set, toldB_set]
        refine pur ?_
        refine Wp.loopI (α := Nat) 0
          (fun j => [(0, .v (.slice na nodes.length nc)), (9, .v (.slice (some ⟨rb, ro, none⟩) nodes.length rc)), (10, .v (.int .i64 cnt)), (11, .v (.pointer (some ⟨b11, 0, none⟩))), (16, .v (.slice oa tl.length oc)), (17, .v (.pointer (some ⟨b17, 0, none⟩))), (19, .v (.int .i64 n)), (20, .v (.slice ma (memK nodes gr n nodes.length).length mc)), (128, .v (.slice (some ⟨bw, 0, none⟩) cnt cnt)), (129, .v (.int .i64 cnt)), (130, .v (.int .i64 j))])
          (fun j => ownA 3 1 ma mc (ints (memK nodes gr n nodes.length)) :: ownA 26 1 oa oc (gridI (outF nodes gr tl) ks) :: listsI (outF nodes gr tl) ks :: ptA b17 46 [.slice (some ⟨bt, 0, none⟩) cnt cnt] :: ptA b11 140 [.slice (some ⟨bw, 0, none⟩) cnt cnt] :: ownA 4 1 (some ⟨bt, 0, none⟩) cnt (boolRows (toldB (tl ++ [n]) cnt)) :: ownA 141 1 (some ⟨bw, 0, none⟩) cnt (wRows ms) :: wP (wsJ (fun l => l.erase n) ws j) ms :: ownA 3 1 (some ⟨rb, ro, none⟩) rc (natRows gr) :: L)
          (fun j => cnt - j) (fun j => j ≤ cnt) (Nat.zero_le _) ⟨rfl, rfl, rfl, rfl, rfl, rfl, rfl, rfl, rfl, rfl, rfl, trivial⟩ (LeL.refl _) ?_
        intro j hj
        have hjl := wsJ_length (fun l => l.erase n) ws (j := j) (by omega)
        refine pur ?_
        refine Wp.branch rfl (fun h5 => ?_) (fun h5 => ?_)
        · have hjc : j < cnt := by have := of_decide_eq_true h5; omega
          have hw1 : IntKind.i64.wrap ((j : Int) + 1) = ((j + 1 : Nat) : Int) := by rw [wrap_id (by omega) (by omega)]; omega
          obtain ⟨l, hl⟩ : ∃ l, ws[j]? = some l := ⟨_, List.getElem?_eq_getElem (by omega)⟩
          obtain ⟨m, hm⟩ : ∃ m, ms[j]? = some m := ⟨_, List.getElem?_eq_getElem (by omega)⟩
          have hlj := wsJ_get (fun l => l.erase n) hl
          have hsj := wsJ_step (fun l => l.erase n) hl
          have hms := set_same hm
          refine pur ?_
          refine S.idx j rfl rfl rfl rfl hjc ?_
          refine S.load (v := .map m) rfl rfl (by infer_instance) (own_ent 6 j rfl (wRows_get hm)) ?_
          refine pur ?_
          refine WpO.parts (L' := ownA 3 1 ma mc (ints (memK nodes gr n nodes.length)) :: ownA 26 1 oa oc (gridI (outF nodes gr tl) ks) :: listsI (outF nodes gr tl) ks :: ptA b17 46 [.slice (some ⟨bt, 0, none⟩) cnt cnt] :: ptA b11 140 [.slice (some ⟨bw, 0, none⟩) cnt cnt] :: ownA 4 1 (some ⟨bt, 0, none⟩) cnt (boolRows (toldB (tl ++ [n]) cnt)) :: ownA 141 1 (some ⟨bw, 0, none⟩) cnt (wRows ms) :: mapO (κ := Int) m (uM l) :: pkgA (fun M' => M' = (wM (wsJ (fun l => l.erase n) ws j) ms).eraseIdx j) :: ownA 3 1 (some ⟨rb, ro, none⟩) rc (natRows gr) :: L)
            (fun k s => Sat.cons_mono (fun k s => Sat.cons_mono (fun k s => Sat.cons_mono (fun k s => Sat.cons_mono (fun k s => Sat.cons_mono (fun k s => Sat.cons_mono (fun k s => Sat.cons_mono (fun k s => w_take hlj hm s) s) s) s) s) s) s) s) ?_
          refine wpo_mdelO (κ := Int) ((n : Nat) : Int) 7 rfl rfl rfl rfl Keeps.none ?_
          dsimp only [List.set]
          rw [uM_del]
          refine pur ?_
          rw [hw1]
          refine Round.mk (j + 1) (by omega) (by omega) ⟨rfl, rfl, rfl, rfl, rfl, rfl, rfl, rfl, rfl, rfl, rfl, trivial⟩ (fun k s => ?_)
          refine Sat.cons_mono (fun k s => Sat.cons_mono (fun k s => Sat.cons_mono (fun k s => Sat.cons_mono (fun k s => Sat.cons_mono (fun k s => Sat.cons_mono (fun k s => Sat.cons_mono (fun k s => ?_) s) s) s) s) s) s) s
          have := w_put (by omega) (by omega) s
          rw [hsj, hms] at this
          exact this
        have hjc : cnt = j := by have := of_decide_eq_false h5; omega
        subst hjc
        have hwall : wsJ (fun l => l.erase n) ws cnt = ws.map fun l => l.erase n := by rw [← hwl]; exact wsJ_all _ _
        rw [hwall]
        refine pur ?_
        refine WpO.buildSlice rfl rfl rfl rfl rfl rfl rfl (fun _ => Keeps.none) fun b139 => ?_
        refine WpO.appendLit 1 [[.slice ma (memK nodes gr n nodes.length).length mc]] rfl rfl rfl rfl (by rw [gridI_length (by omega), hol]) rfl rfl rfl rfl rfl rfl rfl (by rw [gridI_length (by omega), hol]; simp; omega) (fun _ _ => Keeps.none) fun a2 k2 => ?_
        dsimp only [List.set]
        have hgs := gridI_snoc (g := outF nodes gr tl) (ks := ks) (by omega) (memK nodes gr n nodes.length) (ma, mc)
        have hos : outF nodes gr tl ++ [memK nodes gr n nodes.length] = outF nodes gr (tl ++ [n]) := by unfold outF; rw [hmk]; simp
        rw [hos] at hgs
        rw [hgs]
        have hgl3 : (gridI (outF nodes gr (tl ++ [n])) (ks ++ [(ma, mc)])).length = (tl ++ [n]).length := by rw [gridI_length (by simp [outF]; omega)]; simp [outF]
        rw [hgl3]
        refine pur ?_
        refine Round.mk (tl ++ [n], ws.map (fun l => l.erase n), ks ++ [(ma, mc)], (a2, k2)) (by show cnt - (tl ++ [n]).length < cnt - tl.length; simp; omega) ⟨w1, by simp; omega, by simp; omega, by show (tellN gr (cnt - (tl ++ [n]).length) _).1 = _; rw [List.length_append, List.length_singleton, show cnt - (tl.length + 1) = cnt - tl.length - 1 by omega]; exact hF⟩ ⟨rfl, rfl, rfl, rfl, rfl, rfl, trivial⟩ (fun k s => ?_)
        have s1 := Sat.sel (T := L) 9 (M := [_, _, _, _, _, _, _, _, _]) (M' := [_, _, _, _, _, _, _, _, _]) [0, 2, 1, 3, 4, 5, 6, 7, 8] rfl s
        have s2 := listsI_snoc (g := outF nodes gr tl) (ks := ks) (by omega) (memK nodes gr n nodes.length) (ma, mc) s1
        rw [hos] at s2
        exact Sat.swap s2
      · have hlt : tl.length = cnt := by have := of_decide_eq_false h2; omega
        rw [hlt, Nat.sub_self] at hF
        have hF : tl = tellF g := hF
        have hout : outF nodes gr tl = groupsF nodes g := by
          unfold outF groupsF groupsIx
          rw [hF, hgrd, List.map_map]
          rfl
        rw [hout] at hol
        refine pur ?_
        refine Wp.ret (RetL rfl (fun k s => Sat.cons_mono (fun k s => Sat.cons_mono (fun k s => s.tail.tail.tail.tail.tail.tail) s) s) ⟨oa, oc, ks, by rw [hol], by omega, by rw [hout]⟩)
end Go.Proofs.Ytibkdjjdfcpdaaa
end
