/- Parts of a proof: Ya Yb Yc Yd. -/
import Derived.Test.YtibkdjjdfcpdaaaMh
set_option linter.unusedVariables false
set_option linter.unusedSimpArgs false
set_option linter.unusedSectionVars false
section
/- What the laws of layer 10 call: Same, the tree of main = ord. -/
namespace Go.Proofs.Ytibkdjjdfcpdaaa
open Go Go.Ab
attribute [local irreducible] Wp WpO WpE Qt OpT Ct Ent
theorem incE {i : Nat} (h : i < 4611686018427387904) : some (AV.v (.int .i64 (IntKind.i64.wrap ((i : Int) + 1)))) = some (AV.v (.int .i64 ((i + 1 : Nat) : Int))) := by rw [wrap_id (by omega) (by omega)]; rfl
theorem sameInts_ct (l l' : List Int) (a a' : Option Addr) (c c' : Nat) (L : List Assn) (hl : Sl L a c 1 (ints l)) (hl' : Sl L a' c' 1 (ints l')) (hn : l.length ≤ 1099511627776) (hn' : l'.length ≤ 1099511627776) :
    Ct Try.prog 9 #[.slice a l.length c, .slice a' l'.length c'] L (ret fun v L' => v = .bool (decide (l = l')) ∧ L' = L) := by
  refine Ct.body Try.func9 rfl Try.ntmps9 Try.results9 rfl ?_
  refine pur ?_
  refine Wp.branch rfl (fun h => ?_) (fun h => ?_)
  · have hne : l.length ≠ l'.length := fun e => by simp [e] at h
    refine pur ?_
    refine Wp.ret (Ret 0 rfl ⟨?_, rfl⟩)
    rw [decide_eq_false (fun e => hne (by rw [e]))]
  have he : l.length = l'.length := by simp at h; omega
  refine pur ?_
  refine Wp.loopI (α := Nat) 0 (fun i => [(0, .v (.slice a l.length c)), (1, .v (.slice a' l'.length c')), (5, .v (.int .i64 i))]) (fun _ => L) (fun i => l.length - i) (fun i => i ≤ l.length ∧ l.take i = l'.take i) ⟨Nat.zero_le _, rfl⟩ ⟨rfl, rfl, rfl, trivial⟩ (LeL.refl _) ?_
  rintro i ⟨h1, h2⟩
  refine pur ?_
  refine Wp.branch rfl (fun h => ?_) (fun h => ?_)
  · have hi : i < l.length := by have := of_decide_eq_true h; omega
    have hi' : i < l'.length := by omega
    obtain ⟨b, o, rfl, hE⟩ := ints_at hl (List.getElem?_eq_getElem hi)
    obtain ⟨b', o', rfl, hE'⟩ := ints_at hl' (List.getElem?_eq_getElem hi')
    refine pur ?_
    refine Wp.draw rfl [0,1,2,3,4,5,6,7,8] 9 9 _ rfl (by decide +kernel) (fun _ h => h) ?_
    refine pur ?_
    refine S.idx i rfl rfl rfl rfl hi ?_
    refine pur ?_
    refine S.idx i rfl rfl rfl rfl hi' ?_
    refine pur ?_
    refine Wp.branch rfl (fun h => ?_) (fun h => ?_)
    · have hx : l[i] ≠ l'[i] := by simpa using h
      refine pur ?_
      refine Wp.ret (Ret 0 rfl ⟨?_, rfl⟩)
      rw [decide_eq_false (fun e => hx (by subst e; rfl))]
    · have hx : l[i] = l'[i] := by simpa using h
      refine pur ?_
      refine Round.mk (i + 1) (by show l.length - (i + 1) < l.length - i; omega) ⟨hi, ?_⟩ ⟨rfl, rfl, incE (by omega), trivial⟩ (LeL.refl _)
      rw [List.take_add_one, List.take_add_one, h2, List.getElem?_eq_getElem hi, List.getElem?_eq_getElem hi', hx]
  · have hin : l.length ≤ i := by have := of_decide_eq_false h; omega
    refine pur ?_
    refine Wp.ret (Ret 0 rfl ⟨?_, rfl⟩)
    rw [List.take_of_length_le hin, List.take_of_length_le (by omega)] at h2
    rw [decide_eq_true h2]
theorem nd_eq {x y : Nd} : x = y ↔ x.op = y.op ∧ x.text = y.text ∧ x.num = y.num ∧ x.kids = y.kids := by
  cases x; cases y; simp
set_option maxHeartbeats 4000000 in
theorem same_tree_ct (t u : List Nd) (a a' : Option Addr) (c c' : Nat) (L : List Assn) (hT : TreeR L a c t) (hU : TreeR L a' c' u) (ht : Small t) (hu : Small u) :
    Ct Try.prog 11 #[.agg #[.slice a t.length c], .agg #[.slice a' u.length c']] L (ret fun v L' => (∃ r, v = .bool r ∧ (r = true ↔ t = u)) ∧ L' = L) := by
  have hlen := ht.len
  have hlen' := hu.len
  refine Ct.body Try.func11 rfl Try.ntmps11 Try.results11 rfl ?_
  refine pur ?_
  refine WpO.box (vs := [.slice a t.length c]) rfl rfl rfl (fun _ => Keeps.none) fun b2 => ?_
  refine pur ?_
  refine WpO.box (vs := [.slice a' u.length c']) rfl rfl rfl (fun _ => Keeps.none) fun b3 => ?_
  refine pur ?_
  refine Wp.branch rfl (fun h => ?_) (fun h => ?_)
  · have hne : t.length ≠ u.length := fun e => by simp [e] at h
    refine pur ?_
    refine Wp.ret (Ret 2 rfl ⟨⟨false, rfl, ?_⟩, rfl⟩)
    exact ⟨nofun, fun e => absurd (by rw [e]) hne⟩
  have he : t.length = u.length := by simp at h; omega
  refine pur ?_
  refine Wp.loopI (α := Nat) 0 (fun i => [(2, .v (.pointer (some ⟨b2, 0, none⟩))), (3, .v (.pointer (some ⟨b3, 0, none⟩))), (5, .v (.int .i64 i))]) (fun _ => ptA b3 24 [.slice a' u.length c'] :: ptA b2 24 [.slice a t.length c] :: L) (fun i => t.length - i) (fun i => i ≤ t.length ∧ t.take i = u.take i) ⟨Nat.zero_le _, rfl⟩ ⟨rfl, rfl, rfl, trivial⟩ (LeL.refl _) ?_
  rintro i ⟨h1, h2⟩
  refine pur ?_
  refine Wp.branch rfl (fun h => ?_) (fun h => ?_)
  · have hi : i < t.length := by have := of_decide_eq_true h; omega
    have hi' : i < u.length := by omega
    have e1 := List.getElem?_eq_getElem hi
    have e2 := List.getElem?_eq_getElem hi'
    obtain ⟨b, o, ka, kc, rfl, hE, hK⟩ := hT.at e1
    obtain ⟨b', o', ka', kc', rfl, hE', hK'⟩ := hU.at e2
    have hkl := ht.kids _ (List.getElem_mem hi)
    have hkl' := hu.kids _ (List.getElem_mem hi')
    generalize t[i] = x at e1 hE hK hkl
    generalize u[i] = y at e2 hE' hK' hkl'
    refine pur ?_
    refine S.idx i rfl rfl rfl rfl hi ?_
    refine S.loadN rfl rfl hE.cons.cons rfl ?_
    refine WpO.alloc rfl rfl (fun _ => Keeps.none) fun b6 => ?_
    refine pur ?_
    refine S.idx i rfl rfl rfl rfl hi' ?_
    refine S.loadN rfl rfl hE'.cons.cons.cons rfl ?_
    refine WpO.alloc rfl rfl (fun _ => Keeps.none) fun b7 => ?_
    refine pur ?_
    refine WpO.callqg Try.call9 rfl rfl (.cons rfl (by infer_instance) (.cons rfl (by infer_instance) .nil)) (fun _ => sameInts_ct x.kids y.kids ka ka' kc kc' _ hK.cons.cons.cons.cons hK'.cons.cons.cons.cons (by omega) (by omega)) Keeps.none ?_
    refine pur ?_
    refine Wp.branch rfl (fun h => ?_) (fun h => ?_)
    · have hx : x ≠ y := fun e => by subst e; simp at h
      refine pur ?_
      refine Wp.ret (Ret 4 rfl ⟨⟨false, rfl, ?_⟩, rfl⟩)
      refine ⟨nofun, fun e => absurd ?_ hx⟩
      subst e
      exact Option.some.inj (e1.symm.trans e2)
    · have hx : x = y := by
        have q : x.op = y.op ∧ x.text.data = y.text.data ∧ x.num = y.num ∧ x.kids = y.kids := by simpa [and_assoc] using h
        exact nd_eq.2 ⟨q.1, ByteArray.ext q.2.1, q.2.2.1, q.2.2.2⟩
      refine pur ?_
      refine Round.mk (i + 1) (by show t.length - (i + 1) < t.length - i; omega) ⟨hi, ?_⟩ ⟨rfl, rfl, incE (by omega), trivial⟩ (LeL.drop 2 _)
      rw [List.take_add_one, List.take_add_one, h2, e1, e2, hx]
  · have hin : t.length ≤ i := by have := of_decide_eq_false h; omega
    refine pur ?_
    refine Wp.ret (Ret 2 rfl ⟨⟨true, rfl, ?_⟩, rfl⟩)
    rw [List.take_of_length_le hin, List.take_of_length_le (by omega)] at h2
    exact ⟨fun _ => h2, fun _ => rfl⟩

def tinyT : List Nd := [⟨1, ⟨#[111, 114, 100]⟩, 0, []⟩, ⟨17, ⟨#[]⟩, 0, [0]⟩, ⟨18, ⟨#[]⟩, 0, []⟩, ⟨15, ⟨#[]⟩, 0, [1, 2]⟩, ⟨19, ⟨#[109, 97, 105, 110]⟩, 0, [3]⟩, ⟨20, ⟨#[]⟩, 0, [4]⟩]
set_option maxHeartbeats 40000000 in
theorem tiny_ct (L : List Assn) : Ct Try.prog 12 #[] L (ret fun v L' => ∃ a c, v = .agg #[.slice a 6 c] ∧ TreeR L' a c tinyT ∧ LeL L' L) := by
  refine Ct.bodyC Try.func12 rfl Try.ntmps12 Try.results12 rfl ?_
  refine pur ?_
  refine WpO.alloc rfl rfl (fun _ => Keeps.none) fun b0 => ?_
  refine pur ?_
  refine S.build (cs := [.int .i64 1, .string ⟨#[111, 114, 100]⟩, .int .i64 0, .slice none 0 0]) rfl rfl rfl ?_
  refine WpO.buildSlice (cs := [.int .i64 0]) rfl rfl rfl rfl rfl rfl rfl (fun _ => Keeps.none) fun b2 => ?_
  refine S.build (cs := [.int .i64 17, .string ⟨#[]⟩, .int .i64 0, .slice (some ⟨b2, 0, none⟩) 1 1]) rfl rfl rfl ?_
  refine S.build (cs := [.int .i64 18, .string ⟨#[]⟩, .int .i64 0, .slice none 0 0]) rfl rfl rfl ?_
  refine WpO.buildSlice (cs := [.int .i64 1, .int .i64 2]) rfl rfl rfl rfl rfl rfl rfl (fun _ => Keeps.none) fun b5 => ?_
  refine S.build (cs := [.int .i64 15, .string ⟨#[]⟩, .int .i64 0, .slice (some ⟨b5, 0, none⟩) 2 2]) rfl rfl rfl ?_
  refine WpO.buildSlice (cs := [.int .i64 3]) rfl rfl rfl rfl rfl rfl rfl (fun _ => Keeps.none) fun b7 => ?_
  refine S.build (cs := [.int .i64 19, .string ⟨#[109, 97, 105, 110]⟩, .int .i64 0, .slice (some ⟨b7, 0, none⟩) 1 1]) rfl rfl rfl ?_
  refine WpO.buildSlice (cs := [.int .i64 4]) rfl rfl rfl rfl rfl rfl rfl (fun _ => Keeps.none) fun b9 => ?_
  refine S.build (cs := [.int .i64 20, .string ⟨#[]⟩, .int .i64 0, .slice (some ⟨b9, 0, none⟩) 1 1]) rfl rfl rfl ?_
  refine WpO.buildSlice (cs := [.int .i64 1, .string ⟨#[111, 114, 100]⟩, .int .i64 0, .slice none 0 0, .int .i64 17, .string ⟨#[]⟩, .int .i64 0, .slice (some ⟨b2, 0, none⟩) 1 1, .int .i64 18, .string ⟨#[]⟩, .int .i64 0, .slice none 0 0, .int .i64 15, .string ⟨#[]⟩, .int .i64 0, .slice (some ⟨b5, 0, none⟩) 2 2, .int .i64 19, .string ⟨#[109, 97, 105, 110]⟩, .int .i64 0, .slice (some ⟨b7, 0, none⟩) 1 1, .int .i64 20, .string ⟨#[]⟩, .int .i64 0, .slice (some ⟨b9, 0, none⟩) 1 1]) rfl rfl rfl rfl rfl rfl rfl (fun _ => Keeps.none) fun b11 => ?_
  refine S.build rfl rfl rfl ?_
  refine WpO.store 5 rfl rfl rfl rfl rfl rfl rfl rfl Keeps.none ?_
  refine pur ?_
  refine Wp.ret (RetC 0 (.cons (.agg rfl (by infer_instance) (Ent.pt 5 1 rfl rfl) rfl) .nil) ⟨some ⟨b11, 0, none⟩, 6, rfl, ⟨[(none, 0), (some ⟨b2, 0, none⟩, 1), (none, 0), (some ⟨b5, 0, none⟩, 2), (some ⟨b7, 0, none⟩, 1), (some ⟨b9, 0, none⟩, 1)], rfl, ?_, ?_⟩, ?_⟩)
  · exact Sl.ofPt 0 rfl rfl (by intro r hr; simp [tinyT] at hr; rcases hr with rfl | rfl | rfl | rfl | rfl | rfl <;> rfl) (Nat.le_refl _)
  · intro i nd k e1 e2
    match i, e1, e2 with
    | 0, e1, e2 => simp [tinyT] at e1 e2; subst e1; subst e2; exact Sl.nil
    | 1, e1, e2 => simp [tinyT] at e1 e2; subst e1; subst e2; exact Sl.ofPt 4 rfl rfl (by intro r hr; simp [ints] at hr; subst hr; rfl) (Nat.le_refl _)
    | 2, e1, e2 => simp [tinyT] at e1 e2; subst e1; subst e2; exact Sl.nil
    | 3, e1, e2 => simp [tinyT] at e1 e2; subst e1; subst e2; exact Sl.ofPt 3 rfl rfl (by intro r hr; simp [ints] at hr; rcases hr with rfl | rfl <;> rfl) (Nat.le_refl _)
    | 4, e1, e2 => simp [tinyT] at e1 e2; subst e1; subst e2; exact Sl.ofPt 2 rfl rfl (by intro r hr; simp [ints] at hr; subst hr; rfl) (Nat.le_refl _)
    | 5, e1, e2 => simp [tinyT] at e1 e2; subst e1; subst e2; exact Sl.ofPt 1 rfl rfl (by intro r hr; simp [ints] at hr; subst hr; rfl) (Nat.le_refl _)
    | i + 6, e1, _ => simp [tinyT] at e1
  · exact LeL.drop 6 _
theorem tiny_small : Small tinyT := by
  constructor
  · decide
  · intro nd h; simp [tinyT] at h; rcases h with rfl | rfl | rfl | rfl | rfl | rfl <;> decide
  · intro nd h; simp [tinyT] at h; rcases h with rfl | rfl | rfl | rfl | rfl | rfl <;> decide
  · intro nd h; simp [tinyT] at h; rcases h with rfl | rfl | rfl | rfl | rfl | rfl <;> decide
end Go.Proofs.Ytibkdjjdfcpdaaa
end

section
/- The fixed call of layer 10. -/
namespace Go.Proofs.Ytibkdjjdfcpdaaa
open Go Go.Ab
attribute [local irreducible] Wp WpO WpE Qt OpT Ct Ent
theorem tiny_res : (resolveF tinyT).2 = 0 ∧ (resolveF tinyT).1.ref.length = 6 ∧ refAt (resolveF tinyT).1.ref 0 = 2 ∧ refAt (resolveF tinyT).1.ref 4 = 6 ∧ (resolveF tinyT).1.names.length = 7 ∧ (resolveF tinyT).1.groups.length = 1 := by decide +kernel
theorem wakes_ct (L : List Assn) : Ct Try.prog 5 #[] L (ret fun v L' => v = .bool true ∧ L' = L) := by
  refine Ct.body Try.func5 rfl Try.ntmps5 Try.results5 rfl ?_
  refine pur ?_
  refine WpO.call Try.call12 rfl rfl (tiny_ct L) fun v L' ⟨a, c, e, hT, hL⟩ => ⟨Keeps.none, ?_⟩
  subst e
  refine WpO.call Try.call6 rfl rfl (resolve_ct tinyT a c L' hT tiny_small) fun v L2 ⟨A2, e1, e2⟩ => ⟨Keeps.none, ?_⟩
  subst e1; subst e2
  obtain ⟨r1, r2, r3, r4, r5, r6⟩ := tiny_res
  generalize resolveF tinyT = W at *
  obtain ⟨W, e⟩ := W
  simp only [] at r1 r2 r3 r4 r5 r6 ⊢
  subst r1
  refine pur ?_
  refine WpO.alloc rfl rfl (fun _ => Keeps.none) fun b1 => ?_
  refine pur ?_
  refine WpO.openBd (B := W) (A := A2) 1 rfl fun ks gks hk hg => ?_
  refine WpO.parts (L' := ptA b1 32 (bdCs W A2) :: bdM W A2 ks gks L') (fun k s => Sat.sel (T := L') 9 (M := [_, _, _, _, _, _, _, _, _]) (M' := [_, _, _, _, _, _, _, _, _]) [8, 0, 1, 2, 3, 4, 5, 6, 7] rfl s) ?_
  refine WpO.know (fun k hs => own_some 3 rfl hs (by rw [ints_length]; omega)) fun ⟨rb, ro, hra⟩ => ?_
  obtain ⟨ta, ⟨ra, rc⟩, na, ca, da, ga⟩ := A2
  simp only [] at hra
  subst hra
  refine G.idx 0 rfl rfl rfl (by infer_instance) rfl (by infer_instance) (fun _ => ⟨rfl, by omega⟩) ?_
  refine pur ?_
  refine G.loadIf (v := .int .i64 2) rfl rfl rfl (by infer_instance) (by infer_instance) (fun _ => own_ent 3 0 rfl (by rw [ints_get (by omega), r3])) ?_
  refine pur ?_
  refine G.idx 4 rfl rfl rfl (by infer_instance) rfl (by infer_instance) (fun _ => ⟨rfl, by omega⟩) ?_
  refine pur ?_
  refine G.loadIf (v := .int .i64 6) rfl rfl rfl (by infer_instance) (by infer_instance) (fun _ => own_ent 3 4 rfl (by rw [ints_get (by omega), r4])) ?_
  refine pur ?_
  refine Wp.ret (RetL rfl (fun k s => hL k (Sat.drop [_, _, _, _, _, _, _, _, _] s)) ⟨?_, rfl⟩)
  simp [r2, r5, r6]
end Go.Proofs.Ytibkdjjdfcpdaaa
end

section
/- RenameMeans: what is known of Resolve's answer. -/
namespace Go.Proofs.Ytibkdjjdfcpdaaa
open Go Go.Ab
attribute [local irreducible] Wp WpO WpE Qt OpT Ct Ent
theorem numFrom_len {t : List Nd} {lt : List (Nat × Nat)} : ∀ (l : List Nat) (x y : Ns), numFrom t lt l x = some y → y.names.length ≤ x.names.length + l.length ∧ y.cons.length ≤ x.cons.length + l.length ∧ y.datas.length ≤ x.datas.length + l.length
  | [], x, y, h => by
    simp only [numFrom, Option.some.injEq] at h
    subst h; simp
  | i :: l, x, y, h => by
    unfold numFrom at h
    cases hs : numStep t lt x i with
    | none => rw [hs] at h; cases h
    | some z =>
      rw [hs] at h
      obtain ⟨h1, h2, h3⟩ := numFrom_len l z y h
      have : z.names.length ≤ x.names.length + 1 ∧ z.cons.length ≤ x.cons.length + 1 ∧ z.datas.length ≤ x.datas.length + 1 := by
        unfold numStep at hs
        split at hs
        · split at hs <;> (simp only [Option.some.injEq] at hs; subst hs; simp)
        · split at hs
          · split at hs
            · cases hs
            · simp only [Option.some.injEq] at hs; subst hs; simp
          · split at hs
            · split at hs
              · cases hs
              · simp only [Option.some.injEq] at hs; subst hs; simp
            · simp only [Option.some.injEq] at hs; subst hs; simp
      simp only [List.length_cons]
      omega
theorem flat_le2 {gs : List Grp} {g : Grp} (h : g ∈ gs) : g.2.length ≤ (gs.flatMap (·.2)).length := by
  induction gs with
  | nil => cases h
  | cons x gs ih =>
    rw [List.flatMap_cons, List.length_append]
    rcases List.mem_cons.1 h with e | q
    · subst e; omega
    · have := ih q; omega
theorem nodup_range {l : List Int} {m : Nat} (h : l.Nodup) (hr : ∀ v ∈ l, 0 ≤ v ∧ v < (m : Int)) : l.length ≤ m := by
  have := nodup_le2 (m := (List.range m).map fun (i : Nat) => (i : Int)) h fun v hv => by
    obtain ⟨h1, h2⟩ := hr v hv
    exact List.mem_map.2 ⟨v.toNat, List.mem_range.2 (by omega), by omega⟩
  simpa using this
structure BdOk (t : List Nd) (B : Bd) : Prop where
  tr : Tree t
  means : Means t B
  nl : B.names.length ≤ 6006
  cl : B.cons.length ≤ 6012
  dl : B.datas.length ≤ 6013
  gl : B.groups.length ≤ 36000000
  self : resolveF t = (B, 0)
theorem BdOk.small {t : List Nd} {B : Bd} (h : BdOk t B) (hs : Small t) : SmallB B := by
  have hm := h.means
  refine ⟨by rw [hm.tree]; exact hs, by rw [hm.rlen]; have := h.tr.ok.len; omega, by have := h.nl; omega, by have := h.cl; omega, by have := h.dl; omega, by have := h.gl; omega, fun g hg => ?_⟩
  have := flat_le2 hg
  have := nodup_range (m := B.names.length) hm.gnd fun v hv => by obtain ⟨a, b⟩ := hm.grg v hv; exact ⟨by omega, b⟩
  have := h.nl
  omega
theorem BdOk.check {t : List Nd} {B : Bd} (h : BdOk t B) : checkB B = 0 := by
  unfold checkB
  rw [h.means.tree, h.self]
  rw [if_pos ⟨rfl, rfl, rfl, rfl, rfl, rfl⟩]
theorem resolve_cases (t : List Nd) : (∃ B, resolveF t = (B, 0) ∧ BdOk t B) ∨ (∃ e, resolveF t = (Bd.nil, e) ∧ (e = 7 ∨ e = 9)) := by
  by_cases hc : checkF goodF t = 0
  · cases ho : resolveO t with
    | none => exact .inr ⟨9, by unfold resolveF; rw [if_pos hc, ho], .inr rfl⟩
    | some B =>
      have hself : resolveF t = (B, 0) := by unfold resolveF; rw [if_pos hc, ho]
      have hT := tree_of hc
      have hlen := hT.ok.len
      have hmn := resolve_means hT ho
      suffices hb : B.names.length ≤ 6006 ∧ B.cons.length ≤ 6012 ∧ B.datas.length ≤ 6013 ∧ B.groups.length ≤ 36000000 from .inl ⟨B, hself, hT, hmn, hb.1, hb.2.1, hb.2.2.1, hb.2.2.2, hself⟩
      clear hself hmn
      unfold resolveO at ho
      cases hy : numberF t ns0 with
      | none => rw [hy] at ho; cases ho
      | some y =>
        rw [hy] at ho
        simp only [] at ho
        obtain ⟨n1, n2, n3⟩ := numFrom_len _ _ _ hy
        rw [List.length_range] at n1 n2 n3
        have b1 : ns0.names.length = 6 := by decide
        have b2 : ns0.cons.length = 12 := by decide
        have b3 : ns0.datas.length = 13 := by decide
        simp only [] at n1 n2 n3
        cases hd : foldO (dataAll t y.datas) (List.range t.length) y.ref with
        | none => rw [hd] at ho; cases ho
        | some r1 =>
          rw [hd] at ho
          simp only [] at ho
          cases hs : (resN t y.cons t.length).2 (t.length - 1) r1 [frm0] with
          | none => rw [hs] at ho; cases ho
          | some s =>
            rw [hs] at ho
            simp only [] at ho
            cases hm : findR s.2 mainS with
            | none => rw [hm] at ho; cases ho
            | some v =>
              rw [hm] at ho
              simp only [] at ho
              split at ho
              · simp only [Option.some.injEq] at ho
                subst ho
                refine ⟨by show y.names.length ≤ _; omega, by show y.cons.length ≤ _; omega, by show y.datas.length ≤ _; omega, ?_⟩
                have := flatMap_len (groupsAll t s.1) 6000 (List.range t.length) fun i hi => by
                  unfold groupsAll
                  split
                  · exact groupF_len hT.ok.wf (List.mem_range.1 hi) s.1
                  · simp
                rw [List.length_range] at this
                show ((List.range t.length).flatMap (groupsAll t s.1)).length ≤ _
                omega
              · cases ho
  · exact .inr ⟨7, by unfold resolveF; rw [if_neg hc], .inl rfl⟩
end Go.Proofs.Ytibkdjjdfcpdaaa
end

section
/- RenameMeans: the walk of the law. -/
namespace Go.Proofs.Ytibkdjjdfcpdaaa
open Go Go.Ab
attribute [local irreducible] Wp WpO WpE Qt OpT Ct Ent
theorem same_yes {L : List Assn} {t : List Nd} {a a' : Option Addr} {c c' : Nat} (hT : TreeR L a c t) (hU : TreeR L a' c' t) (hs : Small t) (n m : Nat) (hn : t.length = n) (hm : t.length = m) :
    Ct Try.prog 11 #[.agg #[.slice a n c], .agg #[.slice a' m c']] L (ret fun v L' => v = .bool true ∧ L' = L) := by
  subst hn; subst hm
  refine (same_tree_ct t t a a' c c' L hT hU hs hs).mono fun e L' h => ?_
  cases e with
  | returned v =>
    obtain ⟨⟨r, h1, h2⟩, h3⟩ := h
    exact ⟨by rw [h1, h2.2 rfl], h3⟩
  | panicked c => exact h.elim
  | outgrown => exact h.elim
set_option maxHeartbeats 16000000 in
theorem renameMeans_ct (t : List Nd) (ta : Option Addr) (tc : Nat) (L : List Assn) (hT : TreeR L ta tc t) (hs : Small t) :
    Ct Try.prog 4 #[.agg #[.slice ta t.length tc]] L (ret fun v L' => v = .bool true ∧ L' = L) := by
  refine Ct.body Try.func4 rfl Try.ntmps4 Try.results4 rfl ?_
  refine pur ?_
  refine WpO.box (vs := [.slice ta t.length tc]) rfl rfl rfl (fun _ => Keeps.none) fun b1 => ?_
  refine pur ?_
  refine WpO.callq Try.call5 rfl rfl (wakes_ct _) Keeps.none ?_
  refine pur ?_
  refine S.loadN (vs := [.slice ta t.length tc]) rfl rfl (Ent.pt 0 1 rfl rfl) rfl ?_
  refine WpO.call Try.call6 rfl rfl (resolve_ct t ta tc _ hT.cons hs) fun v L2 ⟨A, e1, e2⟩ => ⟨Keeps.none, ?_⟩
  subst e1; subst e2
  rcases resolve_cases t with ⟨B, hR, hB⟩ | ⟨e, hR, he⟩
  case inr =>
    rw [hR]
    refine pur ?_
    refine WpO.alloc rfl rfl (fun _ => Keeps.none) fun b3 => ?_
    refine pur ?_
    refine Wp.branch rfl (fun h => ?_) (fun h => ?_)
    · refine pur ?_
      refine Wp.ret (Ret 3 rfl ⟨?_, rfl⟩)
      rcases he with q | q <;> subst q <;> rfl
    · rcases he with q | q <;> (subst q; cases h)
  rw [hR]
  refine pur ?_
  refine WpO.alloc rfl rfl (fun _ => Keeps.none) fun b3 => ?_
  refine pur ?_
  refine WpO.openBd (B := B) (A := A) 1 rfl fun ks gks hk hg => ?_
  refine WpO.parts (L' := ptA b3 32 (bdCs B A) :: ptA b1 24 [.slice ta t.length tc] :: bdM B A ks gks L) (fun k s => Sat.sel (T := L) 10 (M := [_, _, _, _, _, _, _, _, _, _]) (M' := [_, _, _, _, _, _, _, _, _, _]) [8, 9, 0, 1, 2, 3, 4, 5, 6, 7] rfl s) ?_
  refine WpO.know (fun k hs => bd_know (L := L) hk hg hs.tail.tail) fun hWR => ?_
  have hm := hB.means
  have hbt := hm.tree
  obtain ⟨Bt, ref, names, cons, datas, groups⟩ := B
  simp only [] at hbt
  subst hbt
  have hlen := hB.tr.ok.len
  have hrl : ref.length = Bt.length := hm.rlen
  have hnl : names.length ≤ 6006 := hB.nl
  obtain ⟨MB, hMB⟩ : ∃ MB, MB = bdM ⟨Bt, ref, names, cons, datas, groups⟩ A ks gks L := ⟨_, rfl⟩
  have hML : LeL MB L := by subst hMB; exact fun k s => Sat.drop [_, _, _, _, _, _, _, _] s
  rw [← hMB] at hWR ⊢
  clear hMB
  have hTM := hT.wk hML
  have hck := hB.check
  obtain ⟨B0, hB0⟩ : ∃ B0 : Bd, B0 = ⟨Bt, ref, names, cons, datas, groups⟩ := ⟨_, rfl⟩
  have hWR2 : BdR (ptA b3 32 (bdCs ⟨Bt, ref, names, cons, datas, groups⟩ A) :: ptA b1 24 [.slice ta Bt.length tc] :: MB) ⟨Bt, ref, names, cons, datas, groups⟩ A := hWR.wk fun k s => s.tail.tail
  have hTM2 : TreeR (ptA b3 32 (bdCs ⟨Bt, ref, names, cons, datas, groups⟩ A) :: ptA b1 24 [.slice ta Bt.length tc] :: MB) ta tc Bt := hTM.wk fun k s => s.tail.tail
  have hcc := rcheckB_ct ⟨Bt, ref, names, cons, datas, groups⟩ A _ hWR2 (hB.small hs)
  rw [hck] at hcc
  refine S.loadN (vs := bdCs ⟨Bt, ref, names, cons, datas, groups⟩ A) rfl rfl (Ent.pt 0 6 rfl rfl) rfl ?_
  refine WpO.callq Try.call10 rfl rfl hcc Keeps.none ?_
  refine pur ?_
  refine G.loadN (vs := [.slice A.ta.1 Bt.length A.ta.2]) rfl rfl rfl (by infer_instance) (Ent.pt 0 1 rfl rfl) rfl ?_
  refine G.loadN (vs := [.slice ta Bt.length tc]) rfl rfl rfl (by infer_instance) (Ent.pt 1 1 rfl rfl) rfl ?_
  refine WpO.callqg (v := .bool true) Try.call11 rfl rfl (.cons rfl (by infer_instance) (.cons rfl (by infer_instance) .nil)) (fun _ => same_yes hWR2.tree hTM2 hs _ _ rfl rfl) Keeps.none ?_
  refine pur ?_
  have hsix : 6 ≤ names.length := hm.six
  have hcl : 12 ≤ cons.length := hm.consL
  have hdl : 13 ≤ datas.length := hm.datasL
  refine Wp.branch rfl (fun h => ?_) (fun h => ?_)
  · exfalso
    simp at h
    omega
  refine pur ?_
  refine WpO.make names.length names.length rfl rfl rfl rfl rfl (Nat.le_refl _) (by omega) rfl rfl rfl rfl (fun _ => Keeps.none) fun bo => ?_
  refine pur ?_
  obtain ⟨⟨a1, c1⟩, ⟨a2, c2⟩, ⟨a3, c3⟩, ⟨a4, c4⟩, ⟨a5, c5⟩, ⟨a6, c6⟩⟩ := A
  have hSr : Sl MB a2 c2 1 (ints ref) := hWR.ref
  have hSn : Sl MB a3 c3 1 (strRs names) := hWR.names
  have hSc : Sl MB a4 c4 3 (cons.map conRow) := hWR.cons
  have hSd : Sl MB a5 c5 2 (datas.map datRow) := hWR.datas
  have hgood : ∀ j, j < Bt.length → Good ⟨Bt, names, cons, datas, []⟩ ref j := hm.good
  have hwr : ∀ n : Nat, n < 40000000 → IntKind.i64.wrap ((n : Int) + 1) = ((n + 1 : Nat) : Int) := fun n h => by rw [wrap_id (by omega) (by omega)]; omega
  have hone : ∀ (l : List Bool), ∀ r ∈ boolRows l, r.length = 1 := fun l r hr => by
    unfold boolRows at hr
    obtain ⟨x, _, rfl⟩ := List.mem_map.1 hr; rfl
  have hbl : ∀ (l : List Bool), (boolRows l).length = l.length := fun l => by simp [boolRows]
  have hbg : ∀ (l : List Bool) (k : Nat) (b : Bool), l[k]? = some b → (boolRows l)[k]? = some [.bool b] := fun l k b h => by unfold boolRows; rw [List.getElem?_map, h]; rfl
  refine Wp.loopI (α := Nat × List Bool) (0, List.replicate names.length false)
    (fun x => [(1, .v (.pointer (some ⟨b1, 0, none⟩))), (3, .v (.pointer (some ⟨b3, 0, none⟩))), (6, .v (.slice (some ⟨bo, 0, none⟩) names.length names.length)), (7, .v (.int .i64 x.1))])
    (fun x => ownA 4 1 (some ⟨bo, 0, none⟩) names.length (boolRows x.2) :: ptA b3 32 (bdCs ⟨Bt, ref, names, cons, datas, groups⟩ ⟨(a1, c1), (a2, c2), (a3, c3), (a4, c4), (a5, c5), (a6, c6)⟩) :: ptA b1 24 [.slice ta Bt.length tc] :: MB)
    (fun x => Bt.length - x.1) (fun x => x.1 ≤ Bt.length ∧ x.2.length = names.length ∧ ∀ k : Nat, k < names.length → (x.2[k]? = some true ↔ ∃ j, j < x.1 ∧ (opN Bt j = 25 ∨ opN Bt j = 19) ∧ refAt ref j = k))
    ⟨Nat.zero_le _, by simp, fun k hk => by simp [hk]⟩ ⟨rfl, rfl, rfl, rfl, trivial⟩ (fun k s => by rw [← boolRows_new]; exact s) ?_
  rintro ⟨i, ow⟩ ⟨hi, howl, how⟩
  simp only [] at hi howl how ⊢
  refine pur ?_
  refine Wp.branch rfl (fun h => ?_) (fun h => ?_)
  · have hil : i < Bt.length := by have := of_decide_eq_true h; omega
    obtain ⟨tb1, tp, ka, kc, e1, hE, hS⟩ := hB.tr.ok.wf.at hTM hil
    subst e1
    obtain ⟨rb, ro, e2, _, hEr⟩ := hSr.at (ints_get (l := ref) (i := i) (by omega))
    subst e2
    have hgi := hgood i hil
    unfold Good at hgi
    generalize hv : refAt ref i = v at hgi hEr
    have hskip : ¬ (opN Bt i = 25 ∨ opN Bt i = 19) → ∀ k : Nat, k < names.length → (ow[k]? = some true ↔ ∃ j, j < i + 1 ∧ (opN Bt j = 25 ∨ opN Bt j = 19) ∧ refAt ref j = k) := fun hb k' hk' => by
      rw [how k' hk']
      constructor
      · rintro ⟨j, j1, j2, j3⟩; exact ⟨j, by omega, j2, j3⟩
      · rintro ⟨j, j1, j2, j3⟩
        by_cases e2 : j = i
        · subst e2; exact absurd j2 hb
        · exact ⟨j, by omega, j2, j3⟩
    refine pur ?_
    refine S.idx i rfl rfl rfl rfl hil ?_
    refine S.loadN (vs := [.int .i64 (opN Bt i), .string (ndAt Bt i).text, .int .i64 (ndAt Bt i).num, .slice ka (kidsN Bt i).length kc]) rfl rfl (hE.app [_, _, _]) rfl ?_
    refine WpO.alloc rfl rfl (fun _ => Keeps.none) fun b8 => ?_
    refine pur ?_
    refine S.idx i rfl rfl rfl rfl (by show i < ref.length; omega) ?_
    refine pur ?_
    obtain ⟨HD, hHD⟩ : ∃ HD : List Value, HD = bdCs ⟨Bt, ref, names, cons, datas, groups⟩ ⟨(a1, c1), (some ⟨rb, ro, none⟩, c2), (a3, c3), (a4, c4), (a5, c5), (a6, c6)⟩ := ⟨_, rfl⟩
    refine Wp.meet (α := Bool) (fun z => [(1, .v (.pointer (some ⟨b1, 0, none⟩))), (3, .v (.pointer (some ⟨b3, 0, none⟩))), (6, .v (.slice (some ⟨bo, 0, none⟩) names.length names.length)), (7, .v (.int .i64 i)), (8, .v (.pointer (some ⟨b8, 0, none⟩))), (9, .v (.int .i64 v)), (110, .v (.int .i64 (opN Bt i))), (113, .v (.bool z))])
      (fun _ => ptA b8 38 [.int .i64 (opN Bt i), .string (ndAt Bt i).text, .int .i64 (ndAt Bt i).num, .slice ka (kidsN Bt i).length kc] :: ownA 4 1 (some ⟨bo, 0, none⟩) names.length (boolRows ow) :: ptA b3 32 (bdCs ⟨Bt, ref, names, cons, datas, groups⟩ ⟨(a1, c1), (some ⟨rb, ro, none⟩, c2), (a3, c3), (a4, c4), (a5, c5), (a6, c6)⟩) :: ptA b1 24 [.slice (some ⟨tb1, tp, none⟩) Bt.length tc] :: MB)
      (fun z => z = true ↔ (opN Bt i = 1 ∨ opN Bt i = 25 ∨ opN Bt i = 19)) ?_ ?_
    · refine Wp.branch rfl (fun h1 => ?_) (fun h1 => ?_)
      · have q1 : opN Bt i = 1 := of_decide_eq_true h1
        refine pur ?_
        exact ⟨true, by simp [q1], ⟨rfl, rfl, rfl, rfl, rfl, rfl, rfl, rfl, trivial⟩, rfl, LeL.refl _⟩
      have q1 : ¬ opN Bt i = 1 := of_decide_eq_false h1
      refine pur ?_
      refine Wp.branch rfl (fun h2 => ?_) (fun h2 => ?_)
      · have q2 : opN Bt i = 25 := of_decide_eq_true h2
        refine pur ?_
        exact ⟨true, by simp [q2], ⟨rfl, rfl, rfl, rfl, rfl, rfl, rfl, rfl, trivial⟩, rfl, LeL.refl _⟩
      have q2 : ¬ opN Bt i = 25 := of_decide_eq_false h2
      refine pur ?_
      exact ⟨decide (opN Bt i = 19), by simp [q1, q2], ⟨rfl, rfl, rfl, rfl, rfl, rfl, rfl, rfl, trivial⟩, rfl, LeL.refl _⟩
    rintro z hz
    refine Wp.branch rfl (fun hz1 => ?_) (fun hz1 => ?_)
    · have hop := hz.1 hz1
      obtain ⟨k, k1, k2⟩ := (goodV_name (X := ⟨Bt, names, cons, datas, []⟩) hop).1 hgi
      subst k1
      have hkl : k < names.length := (List.getElem?_eq_some_iff.1 k2).1
      obtain ⟨nb, no, e3, _, hEn⟩ := hSn.at (i := k) (r := [.string (ndAt Bt i).text]) (by
        have k2 : names[k]? = some (textN Bt i) := k2
        unfold strRs; rw [List.getElem?_map, k2]
        show some [Value.string (ofL (bs (ndAt Bt i).text))] = _
        rw [ofL_bs])
      subst e3
      refine pur ?_
      refine Wp.draw rfl [0,1,2,3,4,5,6,7,8,9,10,11,12,13,14,15,16,17,18] 19 19 _ rfl (by decide +kernel) (fun _ h => h) ?_
      refine pur ?_
      refine G.idx k rfl rfl rfl (by infer_instance) rfl (by infer_instance) (fun _ => ⟨rfl, hkl⟩) ?_
      refine pur ?_
      refine Wp.branch rfl (fun h5 => ?_) (fun h5 => ?_)
      · exfalso
        simp at h5
        omega
      refine pur ?_
      refine Wp.branch rfl (fun h6 => ?_) (fun h6 => ?_)
      · have hne : ¬ opN Bt i = 1 := by simpa using h6
        have hbi : opN Bt i = 25 ∨ opN Bt i = 19 := by
          rcases hop with q | q | q
          · exact absurd q hne
          · exact .inl q
          · exact .inr q
        refine pur ?_
        refine S.idx k rfl rfl rfl rfl hkl ?_
        refine WpO.storeRow1 1 k rfl rfl rfl (by simp [boolRows]; omega) rfl rfl Keeps.none (hone _) ?_
        dsimp only [List.set]
        have hbs : (boolRows ow).set k [.bool true] = boolRows (ow.set k true) := by simp [boolRows, List.map_set]
        rw [hbs]
        refine pur ?_
        rw [hwr i (by omega)]
        refine Round.mk (i + 1, ow.set k true) (by show _ - (i + 1) < _ - i; omega) ⟨by show i + 1 ≤ _; omega, by simpa using howl, fun k' hk' => ?_⟩ ⟨rfl, rfl, rfl, rfl, trivial⟩ (fun k s => s.tail)
        show (ow.set k true)[k']? = some true ↔ ∃ j, j < i + 1 ∧ _
        rw [List.getElem?_set]
        by_cases e : k = k'
        · subst e
          rw [if_pos rfl, if_pos (by omega)]
          exact ⟨fun _ => ⟨i, by omega, hbi, hv⟩, fun _ => rfl⟩
        · rw [if_neg e, how k' hk']
          constructor
          · rintro ⟨j, j1, j2, j3⟩; exact ⟨j, by omega, j2, j3⟩
          · rintro ⟨j, j1, j2, j3⟩
            by_cases e2 : j = i
            · subst e2; rw [hv] at j3; omega
            · exact ⟨j, by omega, j2, j3⟩
      · have hne : opN Bt i = 1 := by simpa using h6
        refine pur ?_
        rw [hwr i (by omega)]
        exact Round.mk (i + 1, ow) (by show _ - (i + 1) < _ - i; omega) ⟨by show i + 1 ≤ _; omega, howl, hskip (by omega)⟩ ⟨rfl, rfl, rfl, rfl, trivial⟩ (fun k s => s.tail)
    have hz3 : ¬ (opN Bt i = 1 ∨ opN Bt i = 25 ∨ opN Bt i = 19) := fun q => by rw [hz.2 q] at hz1; cases hz1
    have hsk := hskip (by omega)
    refine pur ?_
    refine Wp.meet (α := Bool) (fun z => [(1, .v (.pointer (some ⟨b1, 0, none⟩))), (3, .v (.pointer (some ⟨b3, 0, none⟩))), (6, .v (.slice (some ⟨bo, 0, none⟩) names.length names.length)), (7, .v (.int .i64 i)), (8, .v (.pointer (some ⟨b8, 0, none⟩))), (9, .v (.int .i64 v)), (110, .v (.int .i64 (opN Bt i))), (142, .v (.bool z))]) (fun _ => ptA b8 38 [.int .i64 (opN Bt i), .string (ndAt Bt i).text, .int .i64 (ndAt Bt i).num, .slice ka (kidsN Bt i).length kc] :: ownA 4 1 (some ⟨bo, 0, none⟩) names.length (boolRows ow) :: ptA b3 32 (bdCs ⟨Bt, ref, names, cons, datas, groups⟩ ⟨(a1, c1), (some ⟨rb, ro, none⟩, c2), (a3, c3), (a4, c4), (a5, c5), (a6, c6)⟩) :: ptA b1 24 [.slice (some ⟨tb1, tp, none⟩) Bt.length tc] :: MB) (fun z => z = true ↔ (opN Bt i = 2 ∨ opN Bt i = 30 ∨ opN Bt i = 22)) ?_ ?_
    · refine Wp.branch rfl (fun h1 => ?_) (fun h1 => ?_)
      · have q1 : opN Bt i = 2 := of_decide_eq_true h1
        refine pur ?_
        exact ⟨true, by simp [q1], ⟨rfl, rfl, rfl, rfl, rfl, rfl, rfl, rfl, trivial⟩, rfl, LeL.refl _⟩
      have q1 : ¬ opN Bt i = 2 := of_decide_eq_false h1
      refine pur ?_
      refine Wp.branch rfl (fun h2 => ?_) (fun h2 => ?_)
      · have q2 : opN Bt i = 30 := of_decide_eq_true h2
        refine pur ?_
        exact ⟨true, by simp [q2], ⟨rfl, rfl, rfl, rfl, rfl, rfl, rfl, rfl, trivial⟩, rfl, LeL.refl _⟩
      have q2 : ¬ opN Bt i = 30 := of_decide_eq_false h2
      refine pur ?_
      exact ⟨decide (opN Bt i = 22), by simp [q1, q2], ⟨rfl, rfl, rfl, rfl, rfl, rfl, rfl, rfl, trivial⟩, rfl, LeL.refl _⟩
    clear hz hz1
    rintro z hz
    refine Wp.branch rfl (fun hz1 => ?_) (fun hz1 => ?_)
    · have hop := hz.1 hz1
      obtain ⟨k, c, k1, k2, k3, k4⟩ := (goodV_con (X := ⟨Bt, names, cons, datas, []⟩) hop).1 hgi
      subst k1
      have k2 : cons[k]? = some c := k2
      have k3 : c.1 = bs (ndAt Bt i).text := k3
      have hkl : k < cons.length := (List.getElem?_eq_some_iff.1 k2).1
      obtain ⟨nb, no, e3, _, hEn⟩ := hSc.at (i := k) (r := [.string (ndAt Bt i).text, .int .i64 c.2.1, .int .i64 c.2.2]) (by
        rw [List.getElem?_map, k2]
        show some [Value.string (ofL c.1), .int .i64 c.2.1, .int .i64 c.2.2] = _
        rw [k3, ofL_bs])
      subst e3
      refine pur ?_
      refine Wp.draw rfl [0,1,2,3,4,5,6,7,8,9,10,11,12,13,14,15,16,17,18,19] 20 20 _ rfl (by decide +kernel) (fun _ h => h) ?_
      refine pur ?_
      refine G.idx k rfl rfl rfl (by infer_instance) rfl (by infer_instance) (fun _ => ⟨rfl, hkl⟩) ?_
      refine pur ?_
      refine Wp.branch rfl (fun h5 => ?_) (fun h5 => ?_)
      · exfalso
        simp at h5
        omega
      refine pur ?_
      refine Wp.draw rfl [0,1,2,3,4,5,6,7,8,9,10,11,12,13,14] 15 15 _ rfl (by decide +kernel) (fun _ h => h) ?_
      refine pur ?_
      refine G.idx k rfl rfl rfl (by infer_instance) rfl (by infer_instance) (fun _ => ⟨rfl, hkl⟩) ?_
      refine pur ?_
      refine Wp.branch rfl (fun h5 => ?_) (fun h5 => ?_)
      · exfalso
        simp at h5
        exact h5.2 (k4 h5.1)
      refine pur ?_
      rw [hwr i (by omega)]
      exact Round.mk (i + 1, ow) (by show _ - (i + 1) < _ - i; omega) ⟨by show i + 1 ≤ _; omega, howl, hsk⟩ ⟨rfl, rfl, rfl, rfl, trivial⟩ (fun k s => s.tail)
    have hz4 : ¬ (opN Bt i = 2 ∨ opN Bt i = 30 ∨ opN Bt i = 22) := fun q => by rw [hz.2 q] at hz1; cases hz1
    refine pur ?_
    refine Wp.meet (α := Bool) (fun z => [(1, .v (.pointer (some ⟨b1, 0, none⟩))), (3, .v (.pointer (some ⟨b3, 0, none⟩))), (6, .v (.slice (some ⟨bo, 0, none⟩) names.length names.length)), (7, .v (.int .i64 i)), (8, .v (.pointer (some ⟨b8, 0, none⟩))), (9, .v (.int .i64 v)), (110, .v (.int .i64 (opN Bt i))), (181, .v (.bool z))]) (fun _ => ptA b8 38 [.int .i64 (opN Bt i), .string (ndAt Bt i).text, .int .i64 (ndAt Bt i).num, .slice ka (kidsN Bt i).length kc] :: ownA 4 1 (some ⟨bo, 0, none⟩) names.length (boolRows ow) :: ptA b3 32 (bdCs ⟨Bt, ref, names, cons, datas, groups⟩ ⟨(a1, c1), (some ⟨rb, ro, none⟩, c2), (a3, c3), (a4, c4), (a5, c5), (a6, c6)⟩) :: ptA b1 24 [.slice (some ⟨tb1, tp, none⟩) Bt.length tc] :: MB) (fun z => z = true ↔ (opN Bt i = 21 ∨ opN Bt i = 24)) ?_ ?_
    · refine Wp.branch rfl (fun h1 => ?_) (fun h1 => ?_)
      · have q1 : opN Bt i = 21 := of_decide_eq_true h1
        refine pur ?_
        exact ⟨true, by simp [q1], ⟨rfl, rfl, rfl, rfl, rfl, rfl, rfl, rfl, trivial⟩, rfl, LeL.refl _⟩
      have q1 : ¬ opN Bt i = 21 := of_decide_eq_false h1
      refine pur ?_
      exact ⟨decide (opN Bt i = 24), by simp [q1], ⟨rfl, rfl, rfl, rfl, rfl, rfl, rfl, rfl, trivial⟩, rfl, LeL.refl _⟩
    clear hz hz1
    rintro z hz
    refine Wp.branch rfl (fun hz1 => ?_) (fun hz1 => ?_)
    · have hop := hz.1 hz1
      obtain ⟨k, d, k1, k2, k3⟩ := (goodV_dat (X := ⟨Bt, names, cons, datas, []⟩) hop).1 hgi
      subst k1
      have k2 : datas[k]? = some d := k2
      have k3 : d.1 = bs (ndAt Bt i).text := k3
      have hkl : k < datas.length := (List.getElem?_eq_some_iff.1 k2).1
      obtain ⟨nb, no, e3, _, hEn⟩ := hSd.at (i := k) (r := [.string (ndAt Bt i).text, .int .i64 d.2]) (by
        rw [List.getElem?_map, k2]
        show some [Value.string (ofL d.1), .int .i64 d.2] = _
        rw [k3, ofL_bs])
      subst e3
      refine pur ?_
      refine Wp.draw rfl [0,1,2,3,4,5,6,7,8,9,10,11,12,13,14,15,16,17,18,19] 20 20 _ rfl (by decide +kernel) (fun _ h => h) ?_
      refine pur ?_
      refine G.idx k rfl rfl rfl (by infer_instance) rfl (by infer_instance) (fun _ => ⟨rfl, hkl⟩) ?_
      refine pur ?_
      refine Wp.branch rfl (fun h5 => ?_) (fun h5 => ?_)
      · exfalso
        simp at h5
        omega
      refine pur ?_
      rw [hwr i (by omega)]
      exact Round.mk (i + 1, ow) (by show _ - (i + 1) < _ - i; omega) ⟨by show i + 1 ≤ _; omega, howl, hsk⟩ ⟨rfl, rfl, rfl, rfl, trivial⟩ (fun k s => s.tail)
    have hz5 : ¬ (opN Bt i = 21 ∨ opN Bt i = 24) := fun q => by rw [hz.2 q] at hz1; cases hz1
    refine pur ?_
    refine Wp.branch rfl (fun h1 => ?_) (fun h1 => ?_)
    · have q1 : opN Bt i = 23 := of_decide_eq_true h1
      obtain ⟨k1, k2⟩ := (goodV_tv (X := ⟨Bt, names, cons, datas, []⟩) q1).1 hgi
      refine pur ?_
      refine Wp.branch rfl (fun h5 => ?_) (fun h5 => ?_)
      · exfalso
        simp at h5
        omega
      refine pur ?_
      rw [hwr i (by omega)]
      exact Round.mk (i + 1, ow) (by show _ - (i + 1) < _ - i; omega) ⟨by show i + 1 ≤ _; omega, howl, hsk⟩ ⟨rfl, rfl, rfl, rfl, trivial⟩ (fun k s => s.tail)
    have q1 : ¬ opN Bt i = 23 := of_decide_eq_false h1
    have hv1 : v = -1 := by
      unfold GoodV at hgi
      rwa [if_neg hz3, if_neg hz4, if_neg hz5, if_neg q1] at hgi
    refine pur ?_
    refine Wp.branch rfl (fun h5 => ?_) (fun h5 => ?_)
    · exfalso
      simp at h5
      omega
    refine pur ?_
    rw [hwr i (by omega)]
    exact Round.mk (i + 1, ow) (by show _ - (i + 1) < _ - i; omega) ⟨by show i + 1 ≤ _; omega, howl, hsk⟩ ⟨rfl, rfl, rfl, rfl, trivial⟩ (fun k s => s.tail)
  have hil : i = Bt.length := by have := of_decide_eq_false h; omega
  subst hil
  have howF : ∀ k : Nat, k < names.length → ow[k]? = some (decide (6 ≤ k)) := fun k hk => by
    have h1 := how k hk
    have h2 : 6 ≤ k ↔ ∃ j, j < Bt.length ∧ (opN Bt j = 25 ∨ opN Bt j = 19) ∧ refAt ref j = k := hm.own k hk
    rw [← h2] at h1
    obtain ⟨b, hb⟩ : ∃ b, ow[k]? = some b := ⟨_, List.getElem?_eq_getElem (by omega)⟩
    rw [hb] at h1 ⊢
    by_cases q : 6 ≤ k
    · rw [h1.2 q]; simp [q]
    · cases b with
      | true => exact absurd (h1.1 rfl) q
      | false => simp [q]
  refine pur ?_
  refine Wp.loopI (α := Nat) 0 (fun x => [(1, .v (.pointer (some ⟨b1, 0, none⟩))), (3, .v (.pointer (some ⟨b3, 0, none⟩))), (6, .v (.slice (some ⟨bo, 0, none⟩) names.length names.length)), (10, .v (.int .i64 x))])
    (fun _ => ownA 4 1 (some ⟨bo, 0, none⟩) names.length (boolRows ow) :: ptA b3 32 (bdCs ⟨Bt, ref, names, cons, datas, groups⟩ ⟨(a1, c1), (a2, c2), (a3, c3), (a4, c4), (a5, c5), (a6, c6)⟩) :: ptA b1 24 [.slice ta Bt.length tc] :: MB) (fun x => names.length - x) (fun x => x ≤ names.length) (Nat.zero_le _) ⟨rfl, rfl, rfl, rfl, trivial⟩ (LeL.refl _) ?_
  rintro i hi
  refine pur ?_
  refine Wp.branch rfl (fun h => ?_) (fun h => ?_)
  · have hil : i < names.length := by have := of_decide_eq_true h; omega
    refine pur ?_
    refine S.idx i rfl rfl rfl rfl hil ?_
    refine S.load (v := .bool (decide (6 ≤ i))) rfl rfl (by infer_instance) (own_ent 0 i rfl (hbg _ _ _ (howF i hil))) ?_
    refine pur ?_
    refine WpO.q rfl rfl (Qt.bneq rfl rfl) ?_
    refine pur ?_
    refine Wp.branch rfl (fun h5 => ?_) (fun h5 => ?_)
    · exfalso
      by_cases q : 6 ≤ i
      · simp [q] at h5; omega
      · simp [q] at h5; omega
    refine pur ?_
    rw [hwr i (by omega)]
    exact Round.mk (i + 1) (by omega) (by omega) ⟨rfl, rfl, rfl, rfl, trivial⟩ (LeL.refl _)
  refine pur ?_
  refine WpO.make names.length names.length rfl rfl rfl rfl rfl (Nat.le_refl _) (by omega) rfl rfl rfl rfl (fun _ => Keeps.none) fun bs => ?_
  refine pur ?_
  obtain ⟨gk, hgk1, hSg, hgl⟩ := hWR.groups
  have hgk1 : gk.length = groups.length := hgk1
  have hSg : Sl MB a6 c6 2 (grRows groups gk) := hSg
  have hgl : ∀ (i : Nat) (g : Grp) (key : Option Addr × Nat), groups[i]? = some g → gk[i]? = some key → Sl MB key.1 key.2 1 (ints g.2) := hgl
  have hgrn : groups.length ≤ 36000000 := hB.gl
  have hgnd : (groups.flatMap (·.2)).Nodup := hm.gnd
  have hgrg : ∀ v : Int, v ∈ groups.flatMap (·.2) → 6 ≤ v ∧ v < (names.length : Int) := hm.grg
  have hgcl : ∀ j, j < Bt.length → opN Bt j = 19 → refAt ref j ∈ groups.flatMap (·.2) := hm.gcl
  refine Wp.loopI (α := Nat × List Bool) (0, List.replicate names.length false) (fun x => [(1, .v (.pointer (some ⟨b1, 0, none⟩))), (3, .v (.pointer (some ⟨b3, 0, none⟩))), (11, .v (.slice (some ⟨bs, 0, none⟩) names.length names.length)), (12, .v (.int .i64 x.1))])
    (fun x => ownA 4 1 (some ⟨bs, 0, none⟩) names.length (boolRows x.2) :: ptA b3 32 (bdCs ⟨Bt, ref, names, cons, datas, groups⟩ ⟨(a1, c1), (a2, c2), (a3, c3), (a4, c4), (a5, c5), (a6, c6)⟩) :: ptA b1 24 [.slice ta Bt.length tc] :: MB) (fun x => groups.length - x.1) (fun x => x.1 ≤ groups.length ∧ x.2.length = names.length ∧ ∀ k : Nat, k < names.length → (x.2[k]? = some true ↔ (k : Int) ∈ (groups.take x.1).flatMap (·.2)))
    ⟨Nat.zero_le _, by simp, fun k hk => by simp [hk]⟩ ⟨rfl, rfl, rfl, rfl, trivial⟩ (fun k s => by rw [← boolRows_new]; exact Sat.cons_mono (fun k s => s.tail) s) ?_
  rintro ⟨i, sn⟩ ⟨hi, hsl, hsn⟩
  simp only [] at hi hsl hsn ⊢
  refine pur ?_
  refine Wp.branch rfl (fun h => ?_) (fun h => ?_)
  · have hil : i < groups.length := by have := of_decide_eq_true h; simpa [bdCs] using this
    obtain ⟨g, hgi⟩ : ∃ g, groups[i]? = some g := ⟨_, List.getElem?_eq_getElem hil⟩
    obtain ⟨⟨key1, key2⟩, hki⟩ : ∃ key, gk[i]? = some key := ⟨_, List.getElem?_eq_getElem (by omega)⟩
    have hSv := hgl i g (key1, key2) hgi hki
    have hgb := hB.small hs |>.vars g (List.mem_of_getElem? hgi)
    have hgb2 : g.2.length ≤ 6006 := by
      have := flat_le2 (List.mem_of_getElem? hgi)
      have := nodup_range (m := names.length) hgnd fun v hv => by obtain ⟨a, b⟩ := hgrg v hv; exact ⟨by omega, b⟩
      omega
    obtain ⟨gb, go, e4, _, hEg⟩ := hSg.at (i := i) (r := [.int .i64 g.1, .slice key1 g.2.length key2]) (by unfold grRows; rw [List.getElem?_zipWith, hgi, hki])
    subst e4
    have htk : groups.take (i + 1) = groups.take i ++ [g] := by rw [List.take_add_one, hgi]; rfl
    refine pur ?_
    refine Wp.loopI (α := Nat × List Bool) (0, sn) (fun x => [(1, .v (.pointer (some ⟨b1, 0, none⟩))), (3, .v (.pointer (some ⟨b3, 0, none⟩))), (11, .v (.slice (some ⟨bs, 0, none⟩) names.length names.length)), (12, .v (.int .i64 i)), (13, .v (.int .i64 x.1))])
      (fun x => ownA 4 1 (some ⟨bs, 0, none⟩) names.length (boolRows x.2) :: ptA b3 32 (bdCs ⟨Bt, ref, names, cons, datas, groups⟩ ⟨(a1, c1), (a2, c2), (a3, c3), (a4, c4), (a5, c5), (some ⟨gb, go, none⟩, c6)⟩) :: ptA b1 24 [.slice ta Bt.length tc] :: MB) (fun x => g.2.length - x.1) (fun x => x.1 ≤ g.2.length ∧ x.2.length = names.length ∧ ∀ k : Nat, k < names.length → (x.2[k]? = some true ↔ (k : Int) ∈ (groups.take i).flatMap (·.2) ++ g.2.take x.1))
      ⟨Nat.zero_le _, hsl, fun k hk => by rw [hsn k hk]; simp⟩ ⟨rfl, rfl, rfl, rfl, rfl, trivial⟩ (LeL.refl _) ?_
    clear hsn hsl
    rintro ⟨j, sn⟩ ⟨hj, hsl, hsn⟩
    simp only [] at hj hsl hsn ⊢
    refine pur ?_
    refine S.idx i rfl rfl rfl rfl hil ?_
    refine pur ?_
    refine Wp.branch rfl (fun h2 => ?_) (fun h2 => ?_)
    · have hjl : j < g.2.length := by have := of_decide_eq_true h2; omega
      have hget := List.getElem?_eq_getElem hjl
      generalize g.2[j] = v at hget
      obtain ⟨vb, vo, e5, hEv⟩ := ints_at hSv hget
      have e5 : key1 = some ⟨vb, vo, none⟩ := e5
      subst e5
      have hsplit : groups = groups.take i ++ (g :: groups.drop (i + 1)) := by rw [← drop_get hgi, List.take_append_drop]
      have hvsplit : g.2 = g.2.take j ++ (v :: g.2.drop (j + 1)) := by rw [← drop_get hget, List.take_append_drop]
      have hflat : groups.flatMap (·.2) = ((groups.take i).flatMap (·.2) ++ g.2.take j) ++ (v :: (g.2.drop (j + 1) ++ (groups.drop (i + 1)).flatMap (·.2))) := by
        conv => lhs; rw [hsplit, List.flatMap_append, List.flatMap_cons, hvsplit]
        simp
      have hvm : v ∈ groups.flatMap (·.2) := by rw [hflat]; simp
      have hvn : v ∉ (groups.take i).flatMap (·.2) ++ g.2.take j := fun hq => by
        rw [hflat] at hgnd
        exact (List.nodup_append.1 hgnd).2.2 v hq v (by simp) rfl
      obtain ⟨v6, vl⟩ := hgrg v hvm
      obtain ⟨k, rfl⟩ : ∃ k : Nat, v = k := ⟨v.toNat, by omega⟩
      have hkl : k < names.length := by omega
      have hkf : sn[k]? = some false := by
        obtain ⟨b, hb⟩ : ∃ b, sn[k]? = some b := ⟨_, List.getElem?_eq_getElem (by omega)⟩
        cases b with
        | false => exact hb
        | true => exact absurd ((hsn k hkl).1 hb) hvn
      refine pur ?_
      refine S.idx i rfl rfl rfl rfl hil ?_
      refine pur ?_
      refine S.idx j rfl rfl rfl rfl hjl ?_
      refine pur ?_
      refine G.idx k rfl rfl rfl (by infer_instance) rfl (by infer_instance) (fun _ => ⟨rfl, hkl⟩) ?_
      refine G.loadIf (v := .bool false) rfl rfl rfl (by infer_instance) (by infer_instance) (fun _ => own_ent 0 k rfl (hbg _ _ _ hkf)) ?_
      refine pur ?_
      refine Wp.branch rfl (fun h5 => ?_) (fun h5 => ?_)
      · exfalso
        simp [bdCs] at h5
        omega
      refine pur ?_
      refine S.idx k rfl rfl rfl rfl hkl ?_
      refine WpO.storeRow1 0 k rfl rfl rfl (by rw [hbl]; omega) rfl rfl Keeps.none (hone _) ?_
      dsimp only [List.set]
      have hbs : (boolRows sn).set k [.bool true] = boolRows (sn.set k true) := by simp [boolRows, List.map_set]
      rw [hbs]
      refine pur ?_
      rw [hwr j (by omega)]
      refine Round.mk (j + 1, sn.set k true) (by show _ - (j + 1) < _ - j; omega) ⟨by show j + 1 ≤ _; omega, by simpa using hsl, fun k' hk' => ?_⟩ ⟨rfl, rfl, rfl, rfl, rfl, trivial⟩ (LeL.refl _)
      show (sn.set k true)[k']? = some true ↔ _ ∈ _ ++ g.2.take (j + 1)
      rw [List.getElem?_set, List.take_add_one, hget, ← List.append_assoc]
      by_cases e : k = k'
      · subst e
        rw [if_pos rfl, if_pos (by omega)]
        simp
      · rw [if_neg e, hsn k' hk', show (some (k : Int)).toList = [(k : Int)] from rfl, List.mem_append (t := [(k : Int)])]
        constructor
        · exact fun q => .inl q
        · rintro (q | q)
          · exact q
          · have : (k' : Int) = k := by simpa using q
            omega
    · have hjl : j = g.2.length := by have := of_decide_eq_false h2; omega
      rw [hjl, List.take_length] at hsn
      refine pur ?_
      rw [hwr i (by omega)]
      refine Round.mk (i + 1, sn) (by show _ - (i + 1) < _ - i; omega) ⟨by show i + 1 ≤ _; omega, hsl, fun k hk => ?_⟩ ⟨rfl, rfl, rfl, rfl, trivial⟩ (LeL.refl _)
      show _ ↔ _ ∈ (groups.take (i + 1)).flatMap (·.2)
      rw [hsn k hk, htk]; simp
  have hil : i = groups.length := by have := of_decide_eq_false h; simp [bdCs] at this; omega
  rw [hil, List.take_length] at hsn
  refine pur ?_
  refine Wp.loopI (α := Nat) 0 (fun x => [(1, .v (.pointer (some ⟨b1, 0, none⟩))), (3, .v (.pointer (some ⟨b3, 0, none⟩))), (11, .v (.slice (some ⟨bs, 0, none⟩) names.length names.length)), (15, .v (.int .i64 x))])
    (fun _ => ownA 4 1 (some ⟨bs, 0, none⟩) names.length (boolRows sn) :: ptA b3 32 (bdCs ⟨Bt, ref, names, cons, datas, groups⟩ ⟨(a1, c1), (a2, c2), (a3, c3), (a4, c4), (a5, c5), (a6, c6)⟩) :: ptA b1 24 [.slice ta Bt.length tc] :: MB) (fun x => Bt.length - x) (fun x => x ≤ Bt.length) (Nat.zero_le _) ⟨rfl, rfl, rfl, rfl, trivial⟩ (LeL.refl _) ?_
  clear hil h hi
  rintro i hi
  refine pur ?_
  refine Wp.branch rfl (fun h => ?_) (fun h => ?_)
  · have hil : i < Bt.length := by have := of_decide_eq_true h; omega
    obtain ⟨tb1, tp, ka, kc, e1, hE, hS⟩ := hB.tr.ok.wf.at hTM hil
    subst e1
    obtain ⟨rb, ro, e2, _, hEr⟩ := hSr.at (ints_get (l := ref) (i := i) (by omega))
    subst e2
    have hgi := hgood i hil
    unfold Good at hgi
    have hkk : ∃ k : Nat, decide (opN Bt i = 19) = true → refAt ref i = k ∧ k < names.length ∧ sn[k]? = some true := by
      by_cases q : opN Bt i = 19
      · obtain ⟨k, k1, k2⟩ := (goodV_name (X := ⟨Bt, names, cons, datas, []⟩) (.inr (.inr q))).1 hgi
        have hkl : k < names.length := (List.getElem?_eq_some_iff.1 k2).1
        refine ⟨k, fun _ => ⟨k1, hkl, (hsn k hkl).2 ?_⟩⟩
        rw [← k1]; exact hgcl i hil q
      · exact ⟨0, fun h => absurd (of_decide_eq_true h) q⟩
    obtain ⟨k, hk3⟩ := hkk
    generalize refAt ref i = v at hgi hEr hk3
    refine pur ?_
    refine S.idx i rfl rfl rfl rfl hil ?_
    refine pur ?_
    refine G.idx i rfl rfl rfl (by infer_instance) rfl (by infer_instance) (fun _ => ⟨rfl, by show i < ref.length; omega⟩) ?_
    refine pur ?_
    refine G.idx k rfl rfl rfl (by infer_instance) rfl (by infer_instance) (fun h => ⟨(hk3 h).1, (hk3 h).2.1⟩) ?_
    refine G.loadIf (v := .bool true) rfl rfl rfl (by infer_instance) (by infer_instance) (fun h => own_ent 0 k rfl (hbg _ _ _ (hk3 h).2.2)) ?_
    refine pur ?_
    refine Wp.branch rfl (fun h5 => ?_) (fun h5 => ?_)
    · exfalso
      simp at h5
    refine pur ?_
    rw [hwr i (by omega)]
    exact Round.mk (i + 1) (by omega) (by omega) ⟨rfl, rfl, rfl, rfl, trivial⟩ (LeL.refl _)
  refine pur ?_
  exact Wp.ret (RetL rfl (fun k s => hML k (Sat.drop [_, _, _] s)) ⟨rfl, rfl⟩)
end Go.Proofs.Ytibkdjjdfcpdaaa
end
