/- Parts of a proof: Tb Tc Td Te Tr Tf Tg. -/
import Derived.Test.YtibkdjjdfcpdaaaMb
import Derived.Shelf.Strings.Repeat
set_option linter.unusedVariables false
set_option linter.unusedSimpArgs false
set_option linter.unusedSectionVars false
section
namespace Go.Proofs.Ytibkdjjdfcpdaaa
open Go Go.Ab
attribute [local irreducible] Wp WpO Qt OpT Ct Ent

/-- How deep each node stands above its lowest leaf. -/
def kidMax (acc : List Nat) (ks : List Nat) : Nat := ks.foldl (fun m j => max m (acc.getD j 0)) 0
def deeps (kss : List (List Nat)) : List Nat := kss.foldl (fun acc ks => acc ++ [kidMax acc ks + 1]) []
def depthOf (kss : List (List Nat)) : Nat := (deeps kss).foldl max 0

def natRows (l : List Nat) : List (List Value) := l.map fun (x : Nat) => [.int .i64 (x : Int)]

theorem deeps_length (kss : List (List Nat)) : (deeps kss).length = kss.length := by
  have h : ∀ (l : List (List Nat)) (acc : List Nat), (l.foldl (fun acc ks => acc ++ [kidMax acc ks + 1]) acc).length = acc.length + l.length := by
    intro l
    induction l with
    | nil => intro acc; simp
    | cons x l ih => intro acc; rw [List.foldl_cons, ih]; simp; omega
  have := h kss []
  simpa [deeps] using this
theorem deeps_snoc (kss : List (List Nat)) (ks : List Nat) : deeps (kss ++ [ks]) = deeps kss ++ [kidMax (deeps kss) ks + 1] := by simp [deeps]
theorem kidMax_snoc (acc ks : List Nat) (k : Nat) : kidMax acc (ks ++ [k]) = max (kidMax acc ks) (acc.getD k 0) := by simp [kidMax]
/-- The row under way at node i: the nodes before it are done, its own stands at m. -/
def deepRow (n : Nat) (dl : List Nat) (m : Nat) : List (List Value) := natRows (dl ++ m :: List.replicate (n - dl.length - 1) 0)
theorem natRows_get (l : List Nat) (i x : Nat) (h : l[i]? = some x) : (natRows l)[i]? = some [.int .i64 (x : Int)] := by simp [natRows, h]
theorem natRows_set (l : List Nat) (i x : Nat) : (natRows l).set i [.int .i64 (x : Int)] = natRows (l.set i x) := by simp [natRows, List.map_set]
theorem natRows_one (l : List Nat) : ∀ r ∈ natRows l, r.length = 1 := fun r hr => by
  simp only [natRows, List.mem_map] at hr
  obtain ⟨x, _, rfl⟩ := hr; rfl
theorem deepRow_get_lt {n : Nat} {dl : List Nat} {m k : Nat} (h : k < dl.length) : (deepRow n dl m)[k]? = some [.int .i64 ((dl.getD k 0 : Nat) : Int)] :=
  natRows_get _ _ _ (by rw [List.getElem?_append_left h]; simp [h])
theorem deepRow_get_eq {n : Nat} {dl : List Nat} {m : Nat} : (deepRow n dl m)[dl.length]? = some [.int .i64 (m : Int)] := natRows_get _ _ _ (by simp)
theorem deepRow_set {n : Nat} {dl : List Nat} {m m' : Nat} : (deepRow n dl m).set dl.length [.int .i64 (m' : Int)] = deepRow n dl m' := by
  unfold deepRow; rw [natRows_set]; simp
theorem deepRow_length {n : Nat} {dl : List Nat} {m : Nat} (h : dl.length < n) : (deepRow n dl m).length = n := by simp [deepRow, natRows]; omega

theorem kidMax_le {acc : List Nat} {M : Nat} (h : ∀ x ∈ acc, x ≤ M) (ks : List Nat) : kidMax acc ks ≤ M := by
  have : ∀ (l : List Nat) (m : Nat), m ≤ M → l.foldl (fun m j => max m (acc.getD j 0)) m ≤ M := by
    intro l
    induction l with
    | nil => intro m hm; exact hm
    | cons j l ih =>
      intro m hm
      refine ih _ (Nat.max_le.2 ⟨hm, ?_⟩)
      rw [List.getD_eq_getElem?_getD]
      cases hj : acc[j]? with
      | none => simp
      | some x => exact h x (List.mem_of_getElem? hj)
  exact this ks 0 (Nat.zero_le _)
theorem deeps_le (kss : List (List Nat)) : ∀ x ∈ deeps kss, x ≤ kss.length := by
  have h : ∀ (l : List (List Nat)) (acc : List Nat) (M : Nat), (∀ x ∈ acc, x ≤ M) → ∀ x ∈ l.foldl (fun acc ks => acc ++ [kidMax acc ks + 1]) acc, x ≤ M + l.length := by
    intro l
    induction l with
    | nil => intro acc M hM x hx; exact hM x hx
    | cons k l ih =>
      intro acc M hM x hx
      have := ih (acc ++ [kidMax acc k + 1]) (M + 1) (fun y hy => by
        rcases List.mem_append.1 hy with hy | hy
        · have := hM y hy; omega
        · have := kidMax_le hM k; simp at hy; omega) x hx
      simp only [List.length_cons]; omega
  intro x hx
  have := h kss [] 0 nofun x hx
  omega

theorem depth_ct (t : List Nd) (a : Option Addr) (c : Nat) (L : List Assn) (hT : TreeR L a c t) (kss : List (List Nat)) (hk : t.map Nd.kids = kss.map (fun l => l.map Int.ofNat)) (hlt : ∀ (i : Nat) (ks : List Nat), kss[i]? = some ks → ∀ j ∈ ks, j < i) (hn : t.length ≤ 1073741824) (hkb : ∀ nd ∈ t, nd.kids.length ≤ 1073741824) :
    Ct Try.prog 37 #[.slice a t.length c] L (ret fun v L' => v = .int .i64 (depthOf kss) ∧ L' = L) := by
  have hkl : kss.length = t.length := by have := congrArg List.length hk; simpa using this.symm
  refine Ct.body Try.func37 rfl Try.ntmps37 Try.results37 rfl ?_
  refine pur ?_
  refine WpO.make t.length t.length rfl rfl rfl rfl rfl (Nat.le_refl _) (by omega) rfl rfl rfl rfl (fun _ => Keeps.none) fun bd => ?_
  refine pur ?_
  refine Wp.loopI (α := Nat) 0
    (fun i => [(3, .v (.slice (some ⟨bd, 0, none⟩) t.length t.length)), (4, .v (.int .i64 ((deeps (kss.take i)).foldl max 0 : Nat))), (12, .v (.slice a t.length c)), (13, .v (.int .i64 t.length)), (14, .v (.int .i64 i))])
    (fun i => ownA 3 1 (some ⟨bd, 0, none⟩) t.length (natRows (deeps (kss.take i) ++ List.replicate (t.length - i) 0)) :: L)
    (fun i => t.length - i) (fun i => i ≤ t.length) (Nat.zero_le _) ⟨rfl, rfl, rfl, rfl, rfl, trivial⟩ ?_ ?_
  · simp only [natRows, List.take_zero, deeps, List.foldl_nil, List.nil_append, Nat.sub_zero, List.map_replicate]; exact LeL.refl _
  intro i hi
  refine pur ?_
  refine Wp.branch rfl (fun h => ?_) (fun h => ?_)
  · have hit : i < t.length := by simpa using h
    obtain ⟨nd, hnd⟩ : ∃ nd, t[i]? = some nd := ⟨_, List.getElem?_eq_getElem hit⟩
    obtain ⟨ks, hks⟩ : ∃ ks, kss[i]? = some ks := ⟨_, List.getElem?_eq_getElem (by omega)⟩
    have hkbi := hkb nd (List.mem_of_getElem? hnd)
    have hkids : nd.kids = ks.map Int.ofNat := by
      have := congrArg (fun l => l[i]?) hk; simp [hnd, hks] at this; exact this
    have hdl : (deeps (kss.take i)).length = i := by rw [deeps_length, List.length_take]; omega
    obtain ⟨b, o, ka, kc, rfl, hE, hKs⟩ := hT.at hnd
    have hrow : natRows (deeps (kss.take i) ++ List.replicate (t.length - i) 0) = deepRow t.length (deeps (kss.take i)) 0 := by
      unfold deepRow; rw [hdl, show t.length - i = (t.length - i - 1) + 1 from by omega, List.replicate_succ]; simp
    rw [hrow]
    generalize hdd : deeps (kss.take i) = dl at *
    subst hdl
    refine pur ?_
    refine S.idx dl.length rfl rfl rfl rfl hit ?_
    refine pur ?_
    refine S.loadN rfl rfl hE.cons rfl ?_
    refine WpO.alloc rfl rfl (fun _ => Keeps.none) fun bn => ?_
    refine pur ?_
    refine Wp.loopI (α := Nat) 0
      (fun j => [(3, .v (.slice (some ⟨bd, 0, none⟩) t.length t.length)), (4, .v (.int .i64 (dl.foldl max 0 : Nat))), (5, .v (.int .i64 dl.length)), (12, .v (.slice (some ⟨b, o, none⟩) t.length c)), (13, .v (.int .i64 t.length)), (14, .v (.int .i64 dl.length)),
        (20, .v (.slice ka nd.kids.length kc)), (21, .v (.int .i64 nd.kids.length)), (22, .v (.int .i64 j))])
      (fun j => ownA 3 1 (some ⟨bd, 0, none⟩) t.length (deepRow t.length dl (kidMax dl (ks.take j))) :: L)
      (fun j => nd.kids.length - j) (fun j => j ≤ nd.kids.length) (Nat.zero_le _) ⟨rfl, rfl, rfl, rfl, rfl, rfl, rfl, rfl, rfl, trivial⟩ (fun _ s => s.tail) ?_
    intro j hj
    refine pur ?_
    refine Wp.branch rfl (fun h2 => ?_) (fun h2 => ?_)
    · have hjk : j < nd.kids.length := by simpa using h2
      have hjk' : j < ks.length := by rw [hkids] at hjk; simpa using hjk
      obtain ⟨kj, hkj⟩ : ∃ kj, ks[j]? = some kj := ⟨_, List.getElem?_eq_getElem hjk'⟩
      have hkj' : nd.kids[j]? = some (kj : Int) := by rw [hkids]; simp [hkj]
      obtain ⟨b2, o2, rfl, hE2⟩ := ints_at hKs hkj'
      have hkl2 : kj < dl.length := hlt _ _ hks _ (List.mem_of_getElem? hkj)
      refine pur ?_
      refine S.idx j rfl rfl rfl rfl hjk ?_
      refine pur ?_
      have hR := Ent.own (L := ownA 3 1 (some ⟨bd, 0, none⟩) t.length (deepRow t.length dl (kidMax dl (ks.take j))) :: L) 0 rfl
      have hR1 := hR.imp fun k hr => (hr _ _ deepRow_get_eq).2
      have hR2 := hR.imp fun k hr => (hr _ _ (deepRow_get_lt hkl2)).2
      refine Wp.draw rfl [0,1,2,3,4,5,6,7,8,9,10,11,12] 12 12 _ rfl (by decide +kernel) (fun _ h => h) ?_
      refine pur ?_
      refine S.idx dl.length rfl rfl rfl rfl hit ?_
      refine pur ?_
      refine S.idx kj rfl rfl rfl rfl (by omega) ?_
      refine pur ?_
      refine S.idx dl.length rfl rfl rfl rfl hit ?_
      refine WpO.storeRow1 0 dl.length rfl rfl rfl (by rw [deepRow_length hit]; exact hit) rfl rfl Keeps.last (natRows_one _) ?_
      rw [show max ((kidMax dl (ks.take j) : Nat) : Int) ((dl.getD kj 0 : Nat) : Int) = ((max (kidMax dl (ks.take j)) (dl.getD kj 0) : Nat) : Int) from by omega, deepRow_set]
      refine pur ?_
      refine Round.mk (j + 1) (by omega) (by omega) ⟨rfl, rfl, rfl, rfl, rfl, rfl, rfl, rfl, ?_, trivial⟩ ?_
      · show some (AV.v (.int .i64 (IntKind.i64.wrap ((j : Int) + 1)))) = _
        rw [wrap_id (by omega) (by omega)]; rfl
      · rw [List.take_add_one, hkj, Option.toList_some, kidMax_snoc]; exact LeL.refl _
    · have hjn : j = nd.kids.length := by have := h2; simp at this; omega
      refine pur ?_
      have htk : ks.take j = ks := List.take_of_length_le (by rw [hjn, hkids]; simp)
      rw [htk]
      have hR := Ent.own (L := ownA 3 1 (some ⟨bd, 0, none⟩) t.length (deepRow t.length dl (kidMax dl ks)) :: L) 0 rfl
      have hR1 := hR.imp fun k hr => (hr _ _ deepRow_get_eq).2
      refine S.idx dl.length rfl rfl rfl rfl hit ?_
      refine pur ?_
      refine S.idx dl.length rfl rfl rfl rfl hit ?_
      refine WpO.storeRow1 0 dl.length rfl rfl rfl (by rw [deepRow_length hit]; exact hit) rfl rfl Keeps.none (natRows_one _) ?_
      have hkm : kidMax dl ks ≤ 1073741824 := kidMax_le (fun x hx => by
        rw [← hdd] at hx; have := deeps_le _ x hx; rw [List.length_take] at this; omega) ks
      rw [wrap_id (by omega) (by omega), show ((kidMax dl ks : Nat) : Int) + 1 = ((kidMax dl ks + 1 : Nat) : Int) from by omega, deepRow_set]
      clear hR hR1
      have hR := Ent.own (L := ownA 3 1 (some ⟨bd, 0, none⟩) t.length (deepRow t.length dl (kidMax dl ks + 1)) :: L) 0 rfl
      have hR1 := hR.imp fun k hr => (hr _ _ deepRow_get_eq).2
      refine pur ?_
      refine S.idx dl.length rfl rfl rfl rfl hit ?_
      refine pur ?_
      have hsn : kss.take (dl.length + 1) = kss.take dl.length ++ [ks] := by rw [List.take_add_one, hks]; rfl
      refine Round.mk (dl.length + 1) (by omega) (by omega) ⟨rfl, ?_, rfl, rfl, ?_, trivial⟩ ?_
      · show some (AV.v (.int .i64 (max ((dl.foldl max 0 : Nat) : Int) ((kidMax dl ks + 1 : Nat) : Int)))) = _
        rw [hsn, deeps_snoc, hdd, List.foldl_append, List.foldl_cons, List.foldl_nil]
        congr 3; omega
      · show some (AV.v (.int .i64 (IntKind.i64.wrap ((dl.length : Int) + 1)))) = _
        rw [wrap_id (by omega) (by omega)]; rfl
      · rw [hsn, deeps_snoc, hdd]
        unfold deepRow
        rw [List.append_assoc, List.singleton_append, show t.length - (dl.length + 1) = t.length - dl.length - 1 from by omega]
        exact LeL.refl _
  · have hin : i = t.length := by have := h; simp at this; omega
    refine pur ?_
    refine Wp.ret (Ret 1 rfl ⟨?_, rfl⟩)
    rw [List.take_of_length_le (by omega)]; rfl
end Go.Proofs.Ytibkdjjdfcpdaaa
end

section
namespace Go.Proofs.Ytibkdjjdfcpdaaa
open Go Go.Ab
attribute [local irreducible] Wp WpO Qt OpT Ct Ent

instance : UByte Try.prog 5 := ⟨Try.underlying5⟩
/-- A text of these bytes. -/
def ofL (l : List UInt8) : ByteArray := ⟨l.toArray⟩
theorem bs_ofL (l : List UInt8) : bs (ofL l) = l := rfl
theorem ofL_bs (s : ByteArray) : ofL (bs s) = s := by cases s; simp [ofL, bs]
theorem extract_ofL (s : ByteArray) (l h : Nat) : s.extract l h = ofL (((bs s).take h).drop l) := by
  rw [← ofL_bs (s.extract l h)]
  congr 1
  show (s.extract l h).data.toList = _
  rw [ByteArray.data_extract, Array.toList_extract]; simp [List.extract_eq_drop_take', bs]

theorem equal_ct (xs ys : List Int) (a1 a2 : Option Addr) (c1 c2 : Nat) (L : List Assn) (h1 : Sl L a1 c1 1 (ints xs)) (h2 : Sl L a2 c2 1 (ints ys)) (hx : xs.length < 1073741824) :
    Ct Try.prog 28 #[.slice a1 xs.length c1, .slice a2 ys.length c2] L (ret fun v L' => v = .bool (decide (xs = ys)) ∧ L' = L) := by
  refine Ct.body Try.func28 rfl Try.ntmps28 Try.results28 rfl ?_
  refine pur ?_
  refine Wp.branch rfl (fun h => ?_) (fun h => ?_)
  · refine pur ?_
    refine Wp.ret (Ret 0 rfl ⟨?_, rfl⟩)
    have : xs ≠ ys := fun e => by subst e; simp at h
    simp [this]
  have hl : xs.length = ys.length := by
    have := h; simp at this; omega
  refine pur ?_
  refine Wp.loopI (α := Nat) 0 (fun i => [(0, .v (.slice a1 xs.length c1)), (1, .v (.slice a2 ys.length c2)), (12, .v (.int .i64 xs.length)), (13, .v (.int .i64 i))]) (fun _ => L) (fun i => xs.length - i) (fun i => i ≤ xs.length ∧ xs.take i = ys.take i) ⟨Nat.zero_le _, rfl⟩ ⟨rfl, rfl, rfl, rfl, trivial⟩ (LeL.refl _) ?_
  rintro i ⟨hi, ht⟩
  refine pur ?_
  refine Wp.branch rfl (fun h => ?_) (fun h => ?_)
  · have hix : i < xs.length := by simpa using h
    have hiy : i < ys.length := by omega
    obtain ⟨b1, o1, rfl, e1⟩ := ints_at h1 (List.getElem?_eq_getElem hix)
    obtain ⟨b2, o2, rfl, e2⟩ := ints_at h2 (List.getElem?_eq_getElem hiy)
    refine pur ?_
    refine Wp.draw rfl [0,1,2,3,4,5,6,7,8] 9 9 _ rfl (by decide +kernel) (fun _ h => h) ?_
    refine pur ?_
    refine S.idx i rfl rfl rfl rfl hix ?_
    refine pur ?_
    refine S.idx i rfl rfl rfl rfl hiy ?_
    refine pur ?_
    refine Wp.branch rfl (fun h => ?_) (fun h => ?_)
    · refine pur ?_
      refine Wp.ret (Ret 0 rfl ⟨?_, rfl⟩)
      have : xs ≠ ys := fun e => by subst e; simp at h
      simp [this]
    · refine pur ?_
      refine Round.mk (i + 1) (by omega) ⟨by omega, ?_⟩ ⟨rfl, rfl, rfl, ?_, trivial⟩ (LeL.refl _)
      · have : xs[i] = ys[i] := by simpa using h
        rw [List.take_add_one, List.take_add_one, ht, List.getElem?_eq_getElem hix, List.getElem?_eq_getElem hiy, this]
      · show some (AV.v (.int .i64 (IntKind.i64.wrap ((i : Int) + 1)))) = _
        rw [wrap_id (by omega) (by omega)]; rfl
  · have hix : xs.length ≤ i := by simpa using h
    refine pur ?_
    refine Wp.ret (Ret 0 rfl ⟨?_, rfl⟩)
    rw [List.take_of_length_le hix, List.take_of_length_le (by omega)] at ht
    simp [ht]

/-- A node as a part. -/
def letterF (op : Int) : UInt8 :=
  if 1 ≤ op ∧ op ≤ 13 then 101 else if 25 ≤ op ∧ op ≤ 32 then 112 else if op = 23 then 118 else if op = 24 then 116 else if op = 14 then 97 else if op = 15 then 114 else if op = 16 then 103 else if op = 17 then 108
  else if op = 18 then 100 else if op = 19 then 99 else if op = 21 then 113 else if op = 22 then 107 else 63
theorem letterF_lt (op : Int) : (letterF op).toNat < 128 := by
  unfold letterF
  repeat' split
  all_goals decide

theorem letter_ct (op : Int) (L : List Assn) : Ct Try.prog 33 #[.int .i64 op] L (ret fun v L' => v = .int .u8 (letterF op).toNat ∧ L' = L) := by
  refine Ct.body Try.func33 rfl Try.ntmps33 Try.results33 rfl ?_
  iterate 12
    refine pur ?_
    refine Wp.branch rfl (fun h => ?_) (fun h => ?_)
    · refine pur ?_
      refine Wp.ret (Ret 0 rfl ⟨?_, rfl⟩)
      simp only [Bool.and_eq_true, decide_eq_true_eq, Bool.and_eq_false_iff, decide_eq_false_iff_not] at *
      unfold letterF
      first
      | (rw [if_pos (by omega)]; rfl)
      | (rw [if_neg (by omega), if_pos (by omega)]; rfl)
      | (rw [if_neg (by omega), if_neg (by omega), if_pos (by omega)]; rfl)
      | (rw [if_neg (by omega), if_neg (by omega), if_neg (by omega), if_pos (by omega)]; rfl)
      | (rw [if_neg (by omega), if_neg (by omega), if_neg (by omega), if_neg (by omega), if_pos (by omega)]; rfl)
      | (rw [if_neg (by omega), if_neg (by omega), if_neg (by omega), if_neg (by omega), if_neg (by omega), if_pos (by omega)]; rfl)
      | (rw [if_neg (by omega), if_neg (by omega), if_neg (by omega), if_neg (by omega), if_neg (by omega), if_neg (by omega), if_pos (by omega)]; rfl)
      | (rw [if_neg (by omega), if_neg (by omega), if_neg (by omega), if_neg (by omega), if_neg (by omega), if_neg (by omega), if_neg (by omega), if_pos (by omega)]; rfl)
      | (rw [if_neg (by omega), if_neg (by omega), if_neg (by omega), if_neg (by omega), if_neg (by omega), if_neg (by omega), if_neg (by omega), if_neg (by omega), if_pos (by omega)]; rfl)
      | (rw [if_neg (by omega), if_neg (by omega), if_neg (by omega), if_neg (by omega), if_neg (by omega), if_neg (by omega), if_neg (by omega), if_neg (by omega), if_neg (by omega), if_pos (by omega)]; rfl)
      | (rw [if_neg (by omega), if_neg (by omega), if_neg (by omega), if_neg (by omega), if_neg (by omega), if_neg (by omega), if_neg (by omega), if_neg (by omega), if_neg (by omega), if_neg (by omega), if_pos (by omega)]; rfl)
      | (rw [if_neg (by omega), if_neg (by omega), if_neg (by omega), if_neg (by omega), if_neg (by omega), if_neg (by omega), if_neg (by omega), if_neg (by omega), if_neg (by omega), if_neg (by omega), if_neg (by omega), if_pos (by omega)]; rfl)
  refine pur ?_
  refine Wp.ret (Ret 0 rfl ⟨?_, rfl⟩)
  simp only [Bool.and_eq_true, decide_eq_true_eq, Bool.and_eq_false_iff, decide_eq_false_iff_not] at *
  unfold letterF
  rw [if_neg (by omega), if_neg (by omega), if_neg (by omega), if_neg (by omega), if_neg (by omega), if_neg (by omega), if_neg (by omega), if_neg (by omega), if_neg (by omega), if_neg (by omega), if_neg (by omega), if_neg (by omega)]; rfl

/-- Runes of a set cut off ahead. -/
theorem cutLeft_ct (s set : ByteArray) (L : List Assn) (hs : ∀ c ∈ bs s, c.toNat < 128) (ht : ∀ c ∈ bs set, c.toNat < 128) (hl : (bs s).length < 1073741824) :
    Ct Try.prog 73 #[.string s, .string set] L (ret fun v L' => v = .string (ofL ((bs s).dropWhile (fun c => decide (c ∈ bs set)))) ∧ L' = L) := by
  refine Ct.body Try.func73 rfl Try.ntmps73 Try.results73 rfl ?_
  refine pur ?_
  refine WpO.range rfl rfl (fun _ => Keeps.none) fun b1 => ?_
  refine pur ?_
  refine Wp.loopI (α := Nat) 0 (fun p => [(0, .v (.string s)), (1, .v (.string set)), (11, .v (.pointer (some ⟨b1, 0, none⟩)))]) (fun p => itA b1 s p :: L) (fun p => (bs s).length - p)
    (fun p => p ≤ (bs s).length ∧ (bs s).dropWhile (fun c => decide (c ∈ bs set)) = ((bs s).drop p).dropWhile (fun c => decide (c ∈ bs set))) ⟨Nat.zero_le _, rfl⟩ ⟨rfl, rfl, rfl, trivial⟩ (LeL.refl _) ?_
  rintro p ⟨hp, hd⟩
  refine pur ?_
  rcases Nat.lt_or_ge p (bs s).length with hlt | hge
  · have hpc := List.getElem?_eq_getElem hlt
    refine WpO.nextAscii 0 (bs s)[p] rfl rfl rfl hpc (hs _ (List.getElem_mem hlt)) Keeps.none ?_
    generalize hc : (bs s)[p] = c at *
    refine pur ?_
    refine WpO.range rfl rfl (fun _ => Keeps.none) fun b2 => ?_
    refine pur ?_
    refine Wp.loopI (α := Nat) 0 (fun q => [(0, .v (.string s)), (1, .v (.string set)), (11, .v (.pointer (some ⟨b1, 0, none⟩))), (5, .v (.int .i64 p)), (6, .v (.int .i32 c.toNat)), (17, .v (.pointer (some ⟨b2, 0, none⟩))), (7, .v (.bool (decide (c ∈ (bs set).take q))))])
      (fun q => itA b2 set q :: itA b1 s (p + 1) :: L) (fun q => (bs set).length - q) (fun q => q ≤ (bs set).length) (Nat.zero_le _) ⟨rfl, rfl, rfl, rfl, rfl, rfl, by rw [show decide (c ∈ (bs set).take 0) = false from by simp]; rfl, trivial⟩ (LeL.refl _) ?_
    intro q hq
    refine pur ?_
    rcases Nat.lt_or_ge q (bs set).length with hlt2 | hge2
    · have hqc := List.getElem?_eq_getElem hlt2
      refine WpO.nextAscii 0 (bs set)[q] rfl rfl rfl hqc (ht _ (List.getElem_mem hlt2)) Keeps.none ?_
      generalize hc2 : (bs set)[q] = c2 at *
      refine pur ?_
      refine Round.mk (q + 1) (by omega) (by omega) ⟨rfl, rfl, rfl, rfl, rfl, rfl, ?_, trivial⟩ (LeL.refl _)
      show some (AV.v (.bool (decide (c ∈ (bs set).take q) || decide ((c.toNat : Int) = (c2.toNat : Int))))) = _
      rw [List.take_add_one, hqc]
      have : ((c.toNat : Int) = (c2.toNat : Int)) ↔ c = c2 := by rw [Int.natCast_inj]; exact UInt8.toNat_inj
      simp [this, Bool.decide_or]
    · refine WpO.nextEnd 0 rfl rfl rfl hge2 Keeps.none ?_
      refine pur ?_
      rw [List.take_of_length_le hge2]
      have hdc : (bs s).drop p = c :: (bs s).drop (p + 1) := by rw [List.drop_eq_getElem_cons hlt, hc]
      refine Wp.branch rfl (fun h => ?_) (fun h => ?_)
      · have hnot : c ∉ bs set := by simpa using h
        refine pur ?_
        refine S.sliceS p (bs s).length rfl rfl (Bd.at p rfl (by infer_instance) (fun _ => rfl)) Bd.no ⟨hp, Nat.le_refl _⟩ ?_
        refine pur ?_
        refine Wp.ret (Ret 2 rfl ⟨?_, rfl⟩)
        rw [extract_ofL, hd, hdc, List.dropWhile_cons_of_neg (by simpa using hnot), List.take_length, hdc]
      · have hin : c ∈ bs set := by simpa using h
        refine pur ?_
        refine Round.mk (p + 1) (by omega) ⟨by omega, ?_⟩ ⟨rfl, rfl, rfl, trivial⟩ (fun _ s => s.tail)
        rw [hd, hdc, List.dropWhile_cons_of_pos (by simpa using hin)]
  · refine WpO.nextEnd 0 rfl rfl rfl hge Keeps.none ?_
    refine pur ?_
    refine Wp.ret (Ret 1 rfl ⟨?_, rfl⟩)
    rw [hd, List.drop_eq_nil_of_le hge]; rfl
end Go.Proofs.Ytibkdjjdfcpdaaa
end

section
namespace Go.Proofs.Ytibkdjjdfcpdaaa
open Go Go.Ab
attribute [local irreducible] Wp WpO Qt OpT Ct Ent

def runR (set l : List UInt8) : List UInt8 := l.dropWhile (fun c => decide (c ∈ set))
def runOk (set l : List UInt8) (lo hi : Int) : Bool := decide (lo ≤ (l.length : Int) - ((runR set l).length : Int)) && decide ((l.length : Int) - ((runR set l).length : Int) ≤ hi)
def wholeF (set l : List UInt8) (lo hi : Int) : Bool := runOk set l lo hi && decide (runR set l = [])
def preF (p l : List UInt8) : Bool := decide (p.length ≤ l.length) && decide (l.take p.length = p)
def sufF (p l : List UInt8) : Bool := decide (p.length ≤ l.length) && decide (l.drop (l.length - p.length) = p)
theorem runR_len (set l : List UInt8) : (runR set l).length ≤ l.length := List.IsSuffix.length_le (List.dropWhile_suffix _)
theorem runR_mem {set l : List UInt8} {c : UInt8} (h : c ∈ runR set l) : c ∈ l := (List.dropWhile_suffix _).subset h
theorem preF_len {l : List UInt8} (h : preF [101] l = true) : 1 ≤ l.length := by
  unfold preF at h; rw [Bool.and_eq_true] at h; simpa using h.1

theorem run_ct (s of : ByteArray) (lo hi : Int) (L : List Assn) (hs : ∀ c ∈ bs s, c.toNat < 128) (ht : ∀ c ∈ bs of, c.toNat < 128) (hl : (bs s).length < 1073741824) :
    Ct Try.prog 54 #[.string s, .string of, .int .i64 lo, .int .i64 hi] L (ret fun v L' => v = .tuple #[.string (ofL (runR (bs of) (bs s))), .bool (runOk (bs of) (bs s) lo hi)] ∧ L' = L) := by
  refine Ct.body Try.func54 rfl Try.ntmps54 Try.results54 rfl ?_
  refine pur ?_
  refine WpO.callq Try.call73 rfl rfl (cutLeft_ct s of L hs ht hl) Keeps.none ?_
  refine pur ?_
  refine Wp.ret (Ret 0 rfl ⟨?_, rfl⟩)
  have h1 := runR_len (bs of) (bs s)
  show Value.tuple #[.string (ofL (runR (bs of) (bs s))), .bool (decide (lo ≤ IntKind.i64.wrap (((bs s).length : Int) - ((bs (ofL (runR (bs of) (bs s)))).length : Int))) && decide (IntKind.i64.wrap (((bs s).length : Int) - ((bs (ofL (runR (bs of) (bs s)))).length : Int)) ≤ hi))] = _
  rw [bs_ofL, wrap_id (by omega) (by omega)]; rfl

theorem whole_ct (s of : ByteArray) (lo hi : Int) (L : List Assn) (hs : ∀ c ∈ bs s, c.toNat < 128) (ht : ∀ c ∈ bs of, c.toNat < 128) (hl : (bs s).length < 1073741824) :
    Ct Try.prog 53 #[.string s, .string of, .int .i64 lo, .int .i64 hi] L (ret fun v L' => v = .bool (wholeF (bs of) (bs s) lo hi) ∧ L' = L) := by
  refine Ct.body Try.func53 rfl Try.ntmps53 Try.results53 rfl ?_
  refine pur ?_
  refine WpO.callq Try.call54 rfl rfl (run_ct s of lo hi L hs ht hl) Keeps.none ?_
  refine pur ?_
  exact Wp.ret (Ret 0 rfl ⟨rfl, rfl⟩)

theorem hasPrefix0_ct (s p : ByteArray) (L : List Assn) (hl : (bs s).length < 1073741824) :
    Ct Try.prog 74 #[.string s, .string p] L (ret fun v L' => v = .bool (preF (bs p) (bs s)) ∧ L' = L) := by
  refine Ct.body Try.func74 rfl Try.ntmps74 Try.results74 rfl ?_
  refine pur ?_
  refine G.sliceS 0 (bs p).length rfl rfl rfl (by infer_instance) Bd.no (Bd.at _ rfl (by infer_instance) (fun _ => rfl)) (fun h => ⟨Nat.zero_le _, by simpa using h⟩) ?_
  rw [extract_ofL, List.drop_zero]
  refine pur ?_
  refine Wp.ret (Ret 0 rfl ⟨?_, rfl⟩)
  show Value.bool (decide (((bs p).length : Int) ≤ ((bs s).length : Int)) && decide (bs (ofL ((bs s).take (bs p).length)) = bs p)) = _
  unfold preF; rw [bs_ofL]; simp only [Int.ofNat_le]
theorem hasPrefix_ct (s p : ByteArray) (L : List Assn) (hl : (bs s).length < 1073741824) :
    Ct Try.prog 55 #[.string s, .string p] L (ret fun v L' => v = .bool (preF (bs p) (bs s)) ∧ L' = L) := by
  refine Ct.body Try.func55 rfl Try.ntmps55 Try.results55 rfl ?_
  refine pur ?_
  refine WpO.callq Try.call74 rfl rfl (hasPrefix0_ct s p L hl) Keeps.none ?_
  refine pur ?_
  exact Wp.ret (Ret 0 rfl ⟨rfl, rfl⟩)
theorem hasSuffix0_ct (s p : ByteArray) (L : List Assn) (hl : (bs s).length < 1073741824) :
    Ct Try.prog 75 #[.string s, .string p] L (ret fun v L' => v = .bool (sufF (bs p) (bs s)) ∧ L' = L) := by
  refine Ct.body Try.func75 rfl Try.ntmps75 Try.results75 rfl ?_
  refine pur ?_
  refine G.sliceS ((bs s).length - (bs p).length) (bs s).length rfl rfl rfl (by infer_instance) (Bd.at _ rfl (by infer_instance) (fun h => ?_)) Bd.no (fun h => ⟨by omega, Nat.le_refl _⟩) ?_
  · have h' : (bs p).length ≤ (bs s).length := by simpa using h
    rw [wrap_id (by omega) (by omega)]; omega
  rw [extract_ofL, List.take_length]
  refine pur ?_
  refine Wp.ret (Ret 0 rfl ⟨?_, rfl⟩)
  show Value.bool (decide (((bs p).length : Int) ≤ ((bs s).length : Int)) && decide (bs (ofL ((bs s).drop ((bs s).length - (bs p).length))) = bs p)) = _
  unfold sufF; rw [bs_ofL]; simp only [Int.ofNat_le]
theorem hasSuffix_ct (s p : ByteArray) (L : List Assn) (hl : (bs s).length < 1073741824) :
    Ct Try.prog 56 #[.string s, .string p] L (ret fun v L' => v = .bool (sufF (bs p) (bs s)) ∧ L' = L) := by
  refine Ct.body Try.func56 rfl Try.ntmps56 Try.results56 rfl ?_
  refine pur ?_
  refine WpO.callq Try.call75 rfl rfl (hasSuffix0_ct s p L hl) Keeps.none ?_
  refine pur ?_
  exact Wp.ret (Ret 0 rfl ⟨rfl, rfl⟩)
theorem suf_sub {n : Nat} {b : Bool} {l : List UInt8} (hl : n < 1073741824) (h : (b && sufF [100] l) = true) (hn : n = l.length := by rfl) : IntKind.i64.wrap ((n : Int) - 1) = ((n - 1 : Nat) : Int) := by
  rw [Bool.and_eq_true] at h
  have h2 := h.2
  unfold sufF at h2; rw [Bool.and_eq_true] at h2
  have : 1 ≤ l.length := by simpa using h2.1
  subst hn
  rw [wrap_id (by omega) (by omega)]; omega

/-- May a node have these parts? -/
def shapedF (op : Int) (l : List UInt8) : Bool :=
  if op = 6 then wholeF [101] l 2 9 else
  if op = 7 then runOk [112] l 1 8 && decide (runR [112] l = [101]) else
  if op = 8 then decide (l = [100, 101]) else
  if op = 9 then decide (l = [101, 101, 101]) else
  if op = 10 then preF [101] l && wholeF [97] (l.drop 1) 1 6000 else
  if op = 11 then wholeF [101] l 2 8 else
  if op = 12 then wholeF [101] l 0 6000 else
  if op = 13 ∨ op = 16 then decide (l = [101, 101]) else
  if op = 17 then decide (l = [101]) else
  if op = 14 then decide (l = [112, 114]) else
  if op = 15 then decide (l = [108, 100]) || sufF [100] l && wholeF [103] (l.take (l.length - 1)) 1 6000 else
  if op = 18 then wholeF [99] l 0 6000 else
  if op = 19 then runOk [112] l 0 8 && decide (runR [112] l = [114]) else
  if op = 20 then wholeF [99, 113] l 0 6000 else
  if op = 21 then runOk [118] l 0 8 && wholeF [107] (runR [118] l) 1 6000 else
  if op = 22 ∨ op = 24 then wholeF [118, 116] l 0 8 else
  if op = 30 then wholeF [112] l 0 8 else
  if op = 31 then wholeF [112] l 2 8 else
  if op = 32 then wholeF [112] l 0 6000 else
  decide (l = []) && (decide (1 ≤ op) && decide (op ≤ 5) || decide (op = 23) || decide (25 ≤ op) && decide (op ≤ 29))

set_option maxHeartbeats 4000000 in
theorem shaped_ct (op : Int) (s : ByteArray) (L : List Assn) (hs : ∀ c ∈ bs s, c.toNat < 128) (hl : (bs s).length < 1073741824) :
    Ct Try.prog 34 #[.int .i64 op, .string s] L (ret fun v L' => v = .bool (shapedF op (bs s)) ∧ L' = L) := by
  have hr : ∀ set : List UInt8, ∀ c ∈ bs (ofL (runR set (bs s))), c.toNat < 128 := fun set c hc => hs c (runR_mem (bs_ofL _ ▸ hc))
  have hrl : ∀ set : List UInt8, (bs (ofL (runR set (bs s)))).length < 1073741824 := fun set => by
    rw [bs_ofL]; have := runR_len set (bs s); omega
  refine Ct.body Try.func34 rfl Try.ntmps34 Try.results34 rfl ?_
  refine pur ?_
  refine Wp.branch rfl (fun h => ?_) (fun h => ?_)
  · obtain rfl : op = 6 := by simpa using h
    refine pur ?_
    refine WpO.callq Try.call53 rfl rfl (whole_ct s ⟨#[101]⟩ 2 9 L hs (by decide) hl) Keeps.none ?_
    refine pur ?_
    exact Wp.ret (Ret 0 rfl ⟨rfl, rfl⟩)
  have n6 : op ≠ 6 := by simpa using h
  refine pur ?_
  refine Wp.branch rfl (fun h => ?_) (fun h => ?_)
  · obtain rfl : op = 7 := by simpa using h
    refine pur ?_
    refine WpO.callq Try.call54 rfl rfl (run_ct s ⟨#[112]⟩ 1 8 L hs (by decide) hl) Keeps.none ?_
    refine pur ?_
    exact Wp.ret (Ret 0 rfl ⟨rfl, rfl⟩)
  have n7 : op ≠ 7 := by simpa using h
  refine pur ?_
  refine Wp.branch rfl (fun h => ?_) (fun h => ?_)
  · obtain rfl : op = 8 := by simpa using h
    refine pur ?_
    exact Wp.ret (Ret 0 rfl ⟨rfl, rfl⟩)
  have n8 : op ≠ 8 := by simpa using h
  refine pur ?_
  refine Wp.branch rfl (fun h => ?_) (fun h => ?_)
  · obtain rfl : op = 9 := by simpa using h
    refine pur ?_
    exact Wp.ret (Ret 0 rfl ⟨rfl, rfl⟩)
  have n9 : op ≠ 9 := by simpa using h
  refine pur ?_
  refine Wp.branch rfl (fun h => ?_) (fun h => ?_)
  · obtain rfl : op = 10 := by simpa using h
    refine pur ?_
    refine WpO.callq Try.call55 rfl rfl (hasPrefix_ct s ⟨#[101]⟩ L hl) Keeps.none ?_
    refine pur ?_
    refine G.sliceS 1 (bs s).length rfl rfl rfl (by infer_instance) (Bd.at 1 rfl (by infer_instance) (fun _ => rfl)) Bd.no (fun h => ⟨preF_len h, Nat.le_refl _⟩) ?_
    rw [extract_ofL, List.take_length]
    refine WpO.callqg Try.call53 rfl rfl (.cons rfl (by infer_instance) (.cons rfl (by infer_instance) (.cons rfl (by infer_instance) (.cons rfl (by infer_instance) .nil)))) (fun _ => whole_ct _ ⟨#[97]⟩ 1 6000 L (fun c hc => hs c (List.mem_of_mem_drop (bs_ofL _ ▸ hc))) (by decide) (by rw [bs_ofL, List.length_drop]; omega)) Keeps.none ?_
    refine pur ?_
    exact Wp.ret (Ret 0 rfl ⟨rfl, rfl⟩)
  have n10 : op ≠ 10 := by simpa using h
  refine pur ?_
  refine Wp.branch rfl (fun h => ?_) (fun h => ?_)
  · obtain rfl : op = 11 := by simpa using h
    refine pur ?_
    refine WpO.callq Try.call53 rfl rfl (whole_ct s ⟨#[101]⟩ 2 8 L hs (by decide) hl) Keeps.none ?_
    refine pur ?_
    exact Wp.ret (Ret 0 rfl ⟨rfl, rfl⟩)
  have n11 : op ≠ 11 := by simpa using h
  refine pur ?_
  refine Wp.branch rfl (fun h => ?_) (fun h => ?_)
  · obtain rfl : op = 12 := by simpa using h
    refine pur ?_
    refine WpO.callq Try.call53 rfl rfl (whole_ct s ⟨#[101]⟩ 0 6000 L hs (by decide) hl) Keeps.none ?_
    refine pur ?_
    exact Wp.ret (Ret 0 rfl ⟨rfl, rfl⟩)
  have n12 : op ≠ 12 := by simpa using h
  refine pur ?_
  refine Wp.branch rfl (fun h => ?_) (fun h => ?_)
  · obtain rfl : op = 13 := by simpa using h
    refine pur ?_
    exact Wp.ret (Ret 0 rfl ⟨rfl, rfl⟩)
  have n13 : op ≠ 13 := by simpa using h
  refine pur ?_
  refine Wp.branch rfl (fun h => ?_) (fun h => ?_)
  · obtain rfl : op = 16 := by simpa using h
    refine pur ?_
    exact Wp.ret (Ret 0 rfl ⟨rfl, rfl⟩)
  have n16 : op ≠ 16 := by simpa using h
  refine pur ?_
  refine pur ?_
  refine Wp.branch rfl (fun h => ?_) (fun h => ?_)
  · obtain rfl : op = 17 := by simpa using h
    refine pur ?_
    exact Wp.ret (Ret 0 rfl ⟨rfl, rfl⟩)
  have n17 : op ≠ 17 := by simpa using h
  refine pur ?_
  refine Wp.branch rfl (fun h => ?_) (fun h => ?_)
  · obtain rfl : op = 14 := by simpa using h
    refine pur ?_
    exact Wp.ret (Ret 0 rfl ⟨rfl, rfl⟩)
  have n14 : op ≠ 14 := by simpa using h
  refine pur ?_
  refine Wp.branch rfl (fun h => ?_) (fun h => ?_)
  · obtain rfl : op = 15 := by simpa using h
    refine pur ?_
    refine WpO.callqg Try.call56 rfl rfl (.cons rfl (by infer_instance) (.cons rfl (by infer_instance) .nil)) (fun _ => hasSuffix_ct s ⟨#[100]⟩ L hl) Keeps.none ?_
    refine pur ?_
    refine G.sliceS 0 ((bs s).length - 1) rfl rfl rfl (by infer_instance) Bd.no (Bd.at _ rfl (by infer_instance) (fun h => suf_sub hl h)) (fun _ => ⟨Nat.zero_le _, by omega⟩) ?_
    rw [extract_ofL, List.drop_zero]
    refine WpO.callqg Try.call53 rfl rfl (.cons rfl (by infer_instance) (.cons rfl (by infer_instance) (.cons rfl (by infer_instance) (.cons rfl (by infer_instance) .nil)))) (fun _ => whole_ct _ ⟨#[103]⟩ 1 6000 L (fun c hc => hs c (List.mem_of_mem_take (bs_ofL _ ▸ hc))) (by decide) (by rw [bs_ofL, List.length_take]; omega)) Keeps.none ?_
    refine pur ?_
    exact Wp.ret (Ret 0 rfl ⟨rfl, rfl⟩)
  have n15 : op ≠ 15 := by simpa using h
  refine pur ?_
  refine Wp.branch rfl (fun h => ?_) (fun h => ?_)
  · obtain rfl : op = 18 := by simpa using h
    refine pur ?_
    refine WpO.callq Try.call53 rfl rfl (whole_ct s ⟨#[99]⟩ 0 6000 L hs (by decide) hl) Keeps.none ?_
    refine pur ?_
    exact Wp.ret (Ret 0 rfl ⟨rfl, rfl⟩)
  have n18 : op ≠ 18 := by simpa using h
  refine pur ?_
  refine Wp.branch rfl (fun h => ?_) (fun h => ?_)
  · obtain rfl : op = 19 := by simpa using h
    refine pur ?_
    refine WpO.callq Try.call54 rfl rfl (run_ct s ⟨#[112]⟩ 0 8 L hs (by decide) hl) Keeps.none ?_
    refine pur ?_
    exact Wp.ret (Ret 0 rfl ⟨rfl, rfl⟩)
  have n19 : op ≠ 19 := by simpa using h
  refine pur ?_
  refine Wp.branch rfl (fun h => ?_) (fun h => ?_)
  · obtain rfl : op = 20 := by simpa using h
    refine pur ?_
    refine WpO.callq Try.call53 rfl rfl (whole_ct s ⟨#[99, 113]⟩ 0 6000 L hs (by decide) hl) Keeps.none ?_
    refine pur ?_
    exact Wp.ret (Ret 0 rfl ⟨rfl, rfl⟩)
  have n20 : op ≠ 20 := by simpa using h
  refine pur ?_
  refine Wp.branch rfl (fun h => ?_) (fun h => ?_)
  · obtain rfl : op = 21 := by simpa using h
    refine pur ?_
    refine WpO.callq Try.call54 rfl rfl (run_ct s ⟨#[118]⟩ 0 8 L hs (by decide) hl) Keeps.none ?_
    refine pur ?_
    refine WpO.callqg Try.call53 rfl rfl (.cons rfl (by infer_instance) (.cons rfl (by infer_instance) (.cons rfl (by infer_instance) (.cons rfl (by infer_instance) .nil)))) (fun _ => whole_ct _ ⟨#[107]⟩ 1 6000 L (hr [118]) (by decide) (hrl [118])) Keeps.none ?_
    refine pur ?_
    exact Wp.ret (Ret 0 rfl ⟨rfl, rfl⟩)
  have n21 : op ≠ 21 := by simpa using h
  refine pur ?_
  refine Wp.branch rfl (fun h => ?_) (fun h => ?_)
  · obtain rfl : op = 22 := by simpa using h
    refine pur ?_
    refine WpO.callq Try.call53 rfl rfl (whole_ct s ⟨#[118, 116]⟩ 0 8 L hs (by decide) hl) Keeps.none ?_
    refine pur ?_
    exact Wp.ret (Ret 0 rfl ⟨rfl, rfl⟩)
  have n22 : op ≠ 22 := by simpa using h
  refine pur ?_
  refine Wp.branch rfl (fun h => ?_) (fun h => ?_)
  · obtain rfl : op = 24 := by simpa using h
    refine pur ?_
    refine WpO.callq Try.call53 rfl rfl (whole_ct s ⟨#[118, 116]⟩ 0 8 L hs (by decide) hl) Keeps.none ?_
    refine pur ?_
    exact Wp.ret (Ret 0 rfl ⟨rfl, rfl⟩)
  have n24 : op ≠ 24 := by simpa using h
  refine pur ?_
  refine pur ?_
  refine Wp.branch rfl (fun h => ?_) (fun h => ?_)
  · obtain rfl : op = 30 := by simpa using h
    refine pur ?_
    refine WpO.callq Try.call53 rfl rfl (whole_ct s ⟨#[112]⟩ 0 8 L hs (by decide) hl) Keeps.none ?_
    refine pur ?_
    exact Wp.ret (Ret 0 rfl ⟨rfl, rfl⟩)
  have n30 : op ≠ 30 := by simpa using h
  refine pur ?_
  refine Wp.branch rfl (fun h => ?_) (fun h => ?_)
  · obtain rfl : op = 31 := by simpa using h
    refine pur ?_
    refine WpO.callq Try.call53 rfl rfl (whole_ct s ⟨#[112]⟩ 2 8 L hs (by decide) hl) Keeps.none ?_
    refine pur ?_
    exact Wp.ret (Ret 0 rfl ⟨rfl, rfl⟩)
  have n31 : op ≠ 31 := by simpa using h
  refine pur ?_
  refine Wp.branch rfl (fun h => ?_) (fun h => ?_)
  · obtain rfl : op = 32 := by simpa using h
    refine pur ?_
    refine WpO.callq Try.call53 rfl rfl (whole_ct s ⟨#[112]⟩ 0 6000 L hs (by decide) hl) Keeps.none ?_
    refine pur ?_
    exact Wp.ret (Ret 0 rfl ⟨rfl, rfl⟩)
  have n32 : op ≠ 32 := by simpa using h
  refine pur ?_
  refine Wp.ret (Ret 0 rfl ⟨?_, rfl⟩)
  unfold shapedF
  simp only [n6, n7, n8, n9, n10, n11, n12, n13, n16, n17, n14, n15, n18, n19, n20, n21, n22, n24, n30, n31, n32, if_false, or_self]
end Go.Proofs.Ytibkdjjdfcpdaaa
end

section
namespace Go.Proofs.Ytibkdjjdfcpdaaa
open Go Go.Ab
attribute [local irreducible] Wp WpO Qt OpT Ct Ent

def smallB (c : UInt8) : Bool := decide ((97 : Int) ≤ (c.toNat : Int)) && decide ((c.toNat : Int) ≤ 122) || decide ((c.toNat : Int) = 95)
def largeB (c : UInt8) : Bool := decide ((65 : Int) ≤ (c.toNat : Int)) && decide ((c.toNat : Int) ≤ 90)
def digitB (c : UInt8) : Bool := decide ((48 : Int) ≤ (c.toNat : Int)) && decide ((c.toNat : Int) ≤ 57)
def innerB (c : UInt8) : Bool := ((smallB c || largeB c) || digitB c) || decide ((c.toNat : Int) = 39)

theorem isSmall_ct (c : UInt8) (L : List Assn) : Ct Try.prog 91 #[.int .u8 c.toNat] L (ret fun v L' => v = .bool (smallB c) ∧ L' = L) := by
  refine Ct.body Try.func91 rfl Try.ntmps91 Try.results91 rfl ?_
  refine pur ?_
  exact Wp.ret (Ret 0 rfl ⟨rfl, rfl⟩)
theorem isLarge_ct (c : UInt8) (L : List Assn) : Ct Try.prog 79 #[.int .u8 c.toNat] L (ret fun v L' => v = .bool (largeB c) ∧ L' = L) := by
  refine Ct.body Try.func79 rfl Try.ntmps79 Try.results79 rfl ?_
  refine pur ?_
  exact Wp.ret (Ret 0 rfl ⟨rfl, rfl⟩)
theorem isDigit_ct (c : UInt8) (L : List Assn) : Ct Try.prog 76 #[.int .u8 c.toNat] L (ret fun v L' => v = .bool (digitB c) ∧ L' = L) := by
  refine Ct.body Try.func76 rfl Try.ntmps76 Try.results76 rfl ?_
  refine pur ?_
  exact Wp.ret (Ret 0 rfl ⟨rfl, rfl⟩)
theorem isInner_ct (c : UInt8) (L : List Assn) : Ct Try.prog 78 #[.int .u8 c.toNat] L (ret fun v L' => v = .bool (innerB c) ∧ L' = L) := by
  refine Ct.body Try.func78 rfl Try.ntmps78 Try.results78 rfl ?_
  refine pur ?_
  refine WpO.callq Try.call91 rfl rfl (isSmall_ct c L) Keeps.none ?_
  refine pur ?_
  refine WpO.callqg Try.call79 rfl rfl (.cons rfl (by infer_instance) .nil) (fun _ => isLarge_ct c L) Keeps.none ?_
  refine pur ?_
  refine WpO.callqg Try.call76 rfl rfl (.cons rfl (by infer_instance) .nil) (fun _ => isDigit_ct c L) Keeps.none ?_
  refine pur ?_
  exact Wp.ret (Ret 0 rfl ⟨rfl, rfl⟩)

/-- How many bytes of a kind a text begins with. -/
theorem span_ct (s : ByteArray) (f : FuncId) (p : UInt8 → Bool) (L : List Assn) (hc : ∀ (args : Array Value) (w : World), Sem.run Try.prog (callFunc f args) w = .ok (.enter f args) w)
    (hf : ∀ c : UInt8, Ct Try.prog f #[.int .u8 c.toNat] L (ret fun v L' => v = .bool (p c) ∧ L' = L)) (hl : (bs s).length < 1073741824) :
    Ct Try.prog 77 #[.string s, .func (.func f) #[] #[]] L (ret fun v L' => v = .int .i64 (((bs s).takeWhile p).length : Nat) ∧ L' = L) := by
  refine Ct.body Try.func77 rfl Try.ntmps77 Try.results77 rfl ?_
  refine pur ?_
  refine Wp.loopI (α := Nat) 0 (fun i => [(0, .v (.string s)), (1, .v (.func (.func f) #[] #[])), (7, .v (.int .i64 (bs s).length)), (8, .v (.int .i64 i))]) (fun _ => L) (fun i => (bs s).length - i) (fun i => i ≤ (bs s).length ∧ ((bs s).takeWhile p).length = i + (((bs s).drop i).takeWhile p).length) ⟨Nat.zero_le _, by simp⟩ ⟨rfl, rfl, rfl, rfl, trivial⟩ (LeL.refl _) ?_
  rintro i ⟨hi, ht⟩
  refine pur ?_
  refine Wp.branch rfl (fun h => ?_) (fun h => ?_)
  · have hix : i < (bs s).length := by simpa using h
    have hd := List.drop_eq_getElem_cons hix
    refine pur ?_
    refine S.index (bs s)[i] i rfl rfl rfl rfl (List.getElem?_eq_getElem hix) ?_
    refine WpO.callc hc rfl rfl (.cons rfl (by infer_instance) .nil) (hf _) fun v L' ⟨e1, e2⟩ => ⟨Keeps.none, ?_⟩
    subst e1; subst e2
    refine pur ?_
    refine Wp.branch rfl (fun h => ?_) (fun h => ?_)
    · refine pur ?_
      refine Wp.ret (Ret 0 rfl ⟨?_, rfl⟩)
      rw [ht, hd, List.takeWhile_cons_of_neg (by simpa using h)]; simp
    · refine pur ?_
      refine Round.mk (i + 1) (by omega) ⟨by omega, ?_⟩ ⟨rfl, rfl, rfl, ?_, trivial⟩ (LeL.refl _)
      · rw [ht, hd, List.takeWhile_cons_of_pos (by simpa using h)]; simp; omega
      · show some (AV.v (.int .i64 (IntKind.i64.wrap ((i : Int) + 1)))) = _
        rw [wrap_id (by omega) (by omega)]; rfl
  · have hix : (bs s).length ≤ i := by simpa using h
    refine pur ?_
    refine Wp.ret (Ret 0 rfl ⟨?_, rfl⟩)
    have : ((bs s).takeWhile p).length = (bs s).length := by
      rw [ht, List.drop_eq_nil_of_le hix]; simp only [List.takeWhile_nil, List.length_nil]; omega
    rw [this]

def keys : List (List UInt8) := [[100, 97, 116, 97], [108, 101, 116], [105, 110], [119, 104, 101, 114, 101], [99, 97, 115, 101], [111, 102], [105, 102], [116, 104, 101, 110], [101, 108, 115, 101]]
def keyF (l : List UInt8) : Bool := decide (l ∈ keys)
theorem isKey_ct (s : ByteArray) (L : List Assn) : Ct Try.prog 80 #[.string s] L (ret fun v L' => v = .bool (keyF (bs s)) ∧ L' = L) := by
  refine Ct.body Try.func80 rfl Try.ntmps80 Try.results80 rfl ?_
  iterate 9
    refine pur ?_
    refine Wp.branch rfl (fun h => ?_) (fun h => ?_)
    · refine pur ?_
      refine Wp.ret (Ret 0 rfl ⟨?_, rfl⟩)
      rw [of_decide_eq_true h]; rfl
  refine pur ?_
  refine Wp.ret (Ret 0 rfl ⟨?_, rfl⟩)
  simp only [decide_eq_false_iff_not] at *
  unfold keyF keys
  rw [decide_eq_false (by simp only [List.mem_cons, List.not_mem_nil, or_false, not_or]; (repeat' constructor) <;> assumption)]

def badName (l : List UInt8) : Bool := (((decide (l = []) || decide ((32 : Int) < (l.length : Int))) || digitB (l.headD 0)) || decide (((l.headD 0).toNat : Int) = 39)) || decide (((l.takeWhile innerB).length : Int) < (l.length : Int))
def nameF (l : List UInt8) : Int := if badName l = true then 0 else if largeB (l.headD 0) = true then 2 else if keyF l = true then 6 else if l = [95] then 7 else 1
theorem head_get {l : List UInt8} (h : l ≠ []) : l[0]? = some (l.headD 0) := by cases l with | nil => exact absurd rfl h | cons a l => rfl
theorem name_ct (s : ByteArray) (L : List Assn) (hl : (bs s).length < 1073741824) : Ct Try.prog 57 #[.string s] L (ret fun v L' => v = .int .i64 (nameF (bs s)) ∧ L' = L) := by
  refine Ct.body Try.func57 rfl Try.ntmps57 Try.results57 rfl ?_
  have hd : ∀ b : Bool, (!(decide (bs s = []) || b)) = true → (bs s)[0]? = some ((bs s).headD 0) := fun b h => head_get (by intro e; rw [e] at h; simp at h)
  refine pur ?_
  refine G.index ((bs s).headD 0) 0 rfl rfl rfl (by infer_instance) rfl (by infer_instance) (fun _ => rfl) (fun h => hd _ h) ?_
  refine WpO.callqg Try.call76 rfl rfl (.cons rfl (by infer_instance) .nil) (fun _ => isDigit_ct _ L) Keeps.none ?_
  refine pur ?_
  refine G.index ((bs s).headD 0) 0 rfl rfl rfl (by infer_instance) rfl (by infer_instance) (fun _ => rfl) (fun h => hd _ (by rw [Bool.or_assoc] at h; exact h)) ?_
  refine pur ?_
  refine WpO.callqg Try.call77 rfl rfl (.cons rfl (by infer_instance) (.cons rfl (by infer_instance) .nil)) (fun _ => span_ct s 78 innerB L Try.call78 (fun c => isInner_ct c L) hl) Keeps.none ?_
  refine pur ?_
  refine Wp.branch rfl (fun h => ?_) (fun h => ?_)
  · refine pur ?_
    refine Wp.ret (Ret 0 rfl ⟨?_, rfl⟩)
    have hb : badName (bs s) = true := h
    unfold nameF; rw [if_pos hb]
  have hne : bs s ≠ [] := fun e => by rw [e] at h; simp at h
  have hb : badName (bs s) = false := h
  refine pur ?_
  refine S.index ((bs s).headD 0) 0 rfl rfl rfl rfl (head_get hne) ?_
  refine WpO.callq Try.call79 rfl rfl (isLarge_ct _ L) Keeps.none ?_
  refine pur ?_
  refine Wp.branch rfl (fun h2 => ?_) (fun h2 => ?_)
  · refine pur ?_
    refine Wp.ret (Ret 0 rfl ⟨?_, rfl⟩)
    unfold nameF; rw [hb, h2]; rfl
  refine pur ?_
  refine WpO.callq Try.call80 rfl rfl (isKey_ct s L) Keeps.none ?_
  refine pur ?_
  refine Wp.branch rfl (fun h3 => ?_) (fun h3 => ?_)
  · refine pur ?_
    refine Wp.ret (Ret 0 rfl ⟨?_, rfl⟩)
    unfold nameF; rw [hb, h2, h3]; rfl
  refine pur ?_
  refine Wp.branch rfl (fun h4 => ?_) (fun h4 => ?_)
  · refine pur ?_
    refine Wp.ret (Ret 0 rfl ⟨?_, rfl⟩)
    have h4' : bs s = [95] := of_decide_eq_true h4
    unfold nameF; rw [hb, h2, h3, if_pos h4']; rfl
  · refine pur ?_
    refine Wp.ret (Ret 0 rfl ⟨?_, rfl⟩)
    have h4' : ¬ bs s = [95] := of_decide_eq_false h4
    unfold nameF; rw [hb, h2, h3, if_neg h4']; rfl
end Go.Proofs.Ytibkdjjdfcpdaaa
end

section
/- The shelf's contract of strings.Repeat, laid at this program (the table was read off by the kit's own command, at home). -/
namespace Go.Proofs.Ytibkdjjdfcpdaaa
open Go Go.Shelf Go.Proofs Go.RowKit Go.Ab
def lays105_ren : Ren := {
  f := fun x => match x with
    | 105 => 38
    | 212 => 61
    | 99 => 55
    | 165 => 62
    | 166 => 63
    | 170 => 64
    | 169 => 65
    | 263 => 82
    | 264 => 83
    | 206 => 74
    | 240 => 84
    | 241 => 85
    | 276 => 92
    | 277 => 93
    | n => n
  t := fun x => match x with
    | 9 => 9
    | 3 => 3
    | 4 => 4
    | 20 => 20
    | 0 => 0
    | 46 => 118
    | 109 => 119
    | 5 => 5
    | 72 => 123
    | 76 => 126
    | 51 => 147
    | 146 => 148
    | 53 => 150
    | 148 => 151
    | 70 => 121
    | 37 => 75
    | 75 => 125
    | 127 => 153
    | 164 => 161
    | 80 => 129
    | n => n
  g := fun n => n }
theorem lays105 : Lays.n105 Try.prog lays105_ren where
  mixed := by kernel_rfl
  f99 := Try.func55.trans (by kernel_rfl)
  f105 := Try.func38.trans (by kernel_rfl)
  f165 := Try.func62.trans (by kernel_rfl)
  f166 := Try.func63.trans (by kernel_rfl)
  f169 := Try.func65.trans (by kernel_rfl)
  f170 := Try.func64.trans (by kernel_rfl)
  f206 := Try.func74.trans (by kernel_rfl)
  f212 := Try.func61.trans (by kernel_rfl)
  f240 := Try.func84.trans (by kernel_rfl)
  f241 := Try.func85.trans (by kernel_rfl)
  f263 := Try.func82.trans (by kernel_rfl)
  f264 := Try.func83.trans (by kernel_rfl)
  f276 := Try.func92.trans (by kernel_rfl)
  f277 := Try.func93.trans (by kernel_rfl)
  t0 := Try.underlying0
  a0 := Try.isAgg0
  z0 := Try.sizeOf0
  v0 := Try.zeroValue0
  t3 := Try.underlying3
  a3 := Try.isAgg3
  z3 := Try.sizeOf3
  v3 := Try.zeroValue3
  t4 := Try.underlying4
  a4 := Try.isAgg4
  z4 := Try.sizeOf4
  v4 := Try.zeroValue4
  t5 := Try.underlying5
  a5 := Try.isAgg5
  z5 := Try.sizeOf5
  v5 := Try.zeroValue5
  t9 := Try.underlying9
  a9 := Try.isAgg9
  z9 := Try.sizeOf9
  v9 := Try.zeroValue9
  t20 := Try.underlying20
  a20 := Try.isAgg20
  z20 := Try.sizeOf20
  v20 := Try.zeroValue20
  t37 := Try.underlying75
  a37 := Try.isAgg75
  z37 := Try.sizeOf75
  v37 := Try.zeroValue75
  t46 := Try.underlying118
  a46 := Try.isAgg118
  z46 := Try.sizeOf118
  v46 := Try.zeroValue118
  t51 := Try.underlying147
  a51 := Try.isAgg147
  z51 := Try.sizeOf147
  v51 := Try.zeroValue147
  t53 := Try.underlying150
  a53 := Try.isAgg150
  z53 := Try.sizeOf150
  v53 := Try.zeroValue150
  t70 := Try.underlying121
  a70 := Try.isAgg121
  z70 := Try.sizeOf121
  v70 := Try.zeroValue121
  t72 := Try.underlying123
  a72 := Try.isAgg123
  z72 := Try.sizeOf123
  v72 := Try.zeroValue123
  t75 := Try.underlying125
  a75 := Try.isAgg125
  z75 := Try.sizeOf125
  v75 := Try.zeroValue125
  t76 := Try.underlying126
  a76 := Try.isAgg126
  z76 := Try.sizeOf126
  v76 := Try.zeroValue126
  t109 := Try.underlying119
  a109 := Try.isAgg119
  z109 := Try.sizeOf119
  v109 := Try.zeroValue119
  t127 := Try.underlying153
  a127 := Try.isAgg153
  z127 := Try.sizeOf153
  v127 := Try.zeroValue153
  t146 := Try.underlying148
  a146 := Try.isAgg148
  z146 := Try.sizeOf148
  v146 := Try.zeroValue148
  t148 := Try.underlying151
  a148 := Try.isAgg151
  z148 := Try.sizeOf151
  v148 := Try.zeroValue151
  t164 := Try.underlying161
  a164 := Try.isAgg161
  z164 := Try.sizeOf161
  v164 := Try.zeroValue161

theorem extra105 : Builder.Extra Try.prog lays105_ren where
  sizeBuilder := by kernel_rfl
  liesBuilder := by kernel_rfl
  t5 := Try.underlying5
  a5 := Try.isAgg5
  z5 := Try.sizeOf5
  v5 := Try.zeroValue5
  infoByte := by kernel_rfl
  cellsByte := by kernel_rfl
  sizeByte := by kernel_rfl
  neB5 := by decide

theorem below_le {w w' : World} (h : Below w.heap.size w w') : Hp.le (hp w) (hp w') := ⟨fun b o e => by
  show w'.heap[b]? = some o
  rw [h.block b (lt_of_hp e)]; exact e, by show (w.os, w.output) = (w'.os, w'.output); rw [h.os, h.output], h.size⟩
/-- What the shelf says of a function that writes to nothing that was there. -/
theorem Ct.ofBelow {P : Program} {f : FuncId} {args : Array Value} {L : List Assn} {v : Value} (h : ∀ w, Calls P f args w fun e w' => e = .returned v ∧ Below w.heap.size w w') : Ct P f args L (ret fun r L' => r = v ∧ L' = L) := fun w hw =>
  (h w).mono fun e w' ⟨e1, e2⟩ => by
    subst e1
    exact ⟨nofun, L, ⟨rfl, rfl⟩, Sat.mono (below_le e2) hw⟩
theorem repeat_ct (s : ByteArray) (c : Nat) (L : List Assn) (hc : c ≤ 9223372036854775807) (hlen : s.size * c ≤ 140737488355328) :
    Ct Try.prog 38 #[.string s, .int .i64 c] L (ret fun v L' => v = .string ⟨(Lib.repeatL s.data.toList c).toArray⟩ ∧ L' = L) :=
  Ct.ofBelow fun w => Any.strings_Repeat lays105 extra105 s c w hc hlen
end Go.Proofs.Ytibkdjjdfcpdaaa
end

section
namespace Go.Proofs.Ytibkdjjdfcpdaaa
open Go Go.Ab
attribute [local irreducible] Wp WpO Qt OpT Ct Ent

/-- The operators: text, level, side. -/
def opList : List (List UInt8 × Int × Int) := [([36], 0, 1), ([124, 124], 2, 1), ([38, 38], 3, 1), ([61, 61], 4, 2), ([47, 61], 4, 2), ([60], 4, 2), ([60, 61], 4, 2), ([62], 4, 2), ([62, 61], 4, 2), ([58], 5, 1), ([43], 6, 0), ([45], 6, 0), ([42], 7, 0), ([46], 9, 1)]
def opRow (o : List UInt8 × Int × Int) : List Value := [.string (ofL o.1), .int .i64 o.2.1, .int .i64 o.2.2]

theorem Sl.ofPt {L : List Assn} {b e sz c : Nat} {vs : List Value} {rows : List (List Value)} (i : Nat) (hi : L[i]? = some (ptA b e vs)) (hv : rows.flatten = vs) (hr : ∀ r ∈ rows, r.length = sz) (hc : rows.length ≤ c) : Sl L (some ⟨b, 0, none⟩) c sz rows :=
  ⟨hc, ⟨b, 0, fun _ => rfl, hr, Ent.at hi (RowsAt.mono _ _ _ _) fun _ hp => (ownA.ofPt (e := e) (b := b) (c := rows.length) hv hr rfl hp).rowsAt⟩⟩

set_option maxHeartbeats 2000000 in
theorem operators_ct (L : List Assn) : Ct Try.prog 59 #[] L (ret fun v L' => ∃ b, v = .slice (some ⟨b, 0, none⟩) 14 14 ∧ L' = ptA b 115 (opList.map opRow).flatten :: L) := by
  refine Ct.body Try.func59 rfl Try.ntmps59 Try.results59 rfl ?_
  refine pur ?_
  refine S.build rfl rfl rfl ?_
  refine S.build rfl rfl rfl ?_
  refine S.build rfl rfl rfl ?_
  refine S.build rfl rfl rfl ?_
  refine S.build rfl rfl rfl ?_
  refine S.build rfl rfl rfl ?_
  refine S.build rfl rfl rfl ?_
  refine S.build rfl rfl rfl ?_
  refine S.build rfl rfl rfl ?_
  refine S.build rfl rfl rfl ?_
  refine S.build rfl rfl rfl ?_
  refine S.build rfl rfl rfl ?_
  refine S.build rfl rfl rfl ?_
  refine S.build rfl rfl rfl ?_
  refine WpO.buildSlice rfl rfl rfl rfl rfl rfl rfl (fun _ => Keeps.none) fun b => ?_
  refine pur ?_
  exact Wp.ret (Ret 0 rfl ⟨b, rfl, rfl⟩)

/-- The first row with the property. -/
def idxOf (p : List Value → Bool) (rows : List (List Value)) : Int := if (rows.takeWhile (fun r => !p r)).length < rows.length then ((rows.takeWhile (fun r => !p r)).length : Int) else -1
theorem indexFunc_ct (rows : List (List Value)) (a : Option Addr) (c : Nat) (f : FuncId) (cap : Array Value) (p : List Value → Bool) (L : List Assn) (hS : Sl L a c 3 rows) (hc : ∀ (args : Array Value) (w : World), Sem.run Try.prog (callFunc f args) w = .ok (.enter f args) w)
    (hf : ∀ r ∈ rows, Ct Try.prog f ([Value.agg r.toArray] ++ cap.toList).toArray L (ret fun v L' => v = .bool (p r) ∧ L' = L)) (hl : rows.length < 1073741824) :
    Ct Try.prog 81 #[.slice a rows.length c, .func (.func f) #[] cap] L (ret fun v L' => v = .int .i64 (idxOf p rows) ∧ L' = L) := by
  refine Ct.body Try.func81 rfl Try.ntmps81 Try.results81 rfl ?_
  refine pur ?_
  refine Wp.loopI (α := Nat) 0 (fun i => [(0, .v (.slice a rows.length c)), (1, .v (.func (.func f) #[] cap)), (7, .v (.int .i64 rows.length)), (8, .v (.int .i64 i))]) (fun _ => L) (fun i => rows.length - i) (fun i => i ≤ rows.length ∧ (rows.takeWhile (fun r => !p r)).length = i + ((rows.drop i).takeWhile (fun r => !p r)).length) ⟨Nat.zero_le _, by simp⟩ ⟨rfl, rfl, rfl, rfl, trivial⟩ (LeL.refl _) ?_
  rintro i ⟨hi, ht⟩
  refine pur ?_
  refine Wp.branch rfl (fun h => ?_) (fun h => ?_)
  · have hix : i < rows.length := by simpa using h
    have hd := List.drop_eq_getElem_cons hix
    obtain ⟨b, o, rfl, hr3, hE⟩ := hS.at (List.getElem?_eq_getElem hix)
    refine pur ?_
    refine S.idx i rfl rfl rfl rfl hix ?_
    refine S.loadN rfl rfl hE hr3 ?_
    refine WpO.callc hc rfl rfl (.cons rfl (by infer_instance) .nil) (hf _ (List.getElem_mem hix)) fun v L' ⟨e1, e2⟩ => ⟨Keeps.none, ?_⟩
    subst e1; subst e2
    refine pur ?_
    refine Wp.branch rfl (fun h => ?_) (fun h => ?_)
    · refine pur ?_
      refine Wp.ret (Ret 0 rfl ⟨?_, rfl⟩)
      unfold idxOf
      rw [ht, hd, List.takeWhile_cons_of_neg (by simpa using h)]; simp [hix]
    · refine pur ?_
      refine Round.mk (i + 1) (by omega) ⟨by omega, ?_⟩ ⟨rfl, rfl, rfl, ?_, trivial⟩ (LeL.refl _)
      · rw [ht, hd, List.takeWhile_cons_of_pos (by simpa using h)]; simp; omega
      · show some (AV.v (.int .i64 (IntKind.i64.wrap ((i : Int) + 1)))) = _
        rw [wrap_id (by omega) (by omega)]; rfl
  · have hix : rows.length ≤ i := by simpa using h
    refine pur ?_
    refine Wp.ret (Ret 0 rfl ⟨?_, rfl⟩)
    unfold idxOf
    rw [if_neg (by rw [ht]; omega)]
theorem containsFunc_ct (rows : List (List Value)) (a : Option Addr) (c : Nat) (f : FuncId) (cap : Array Value) (p : List Value → Bool) (L : List Assn) (hS : Sl L a c 3 rows) (hc : ∀ (args : Array Value) (w : World), Sem.run Try.prog (callFunc f args) w = .ok (.enter f args) w)
    (hf : ∀ r ∈ rows, Ct Try.prog f ([Value.agg r.toArray] ++ cap.toList).toArray L (ret fun v L' => v = .bool (p r) ∧ L' = L)) (hl : rows.length < 1073741824) :
    Ct Try.prog 58 #[.slice a rows.length c, .func (.func f) #[] cap] L (ret fun v L' => v = .bool (rows.any p) ∧ L' = L) := by
  refine Ct.body Try.func58 rfl Try.ntmps58 Try.results58 rfl ?_
  refine pur ?_
  refine WpO.callq Try.call81 rfl rfl (indexFunc_ct rows a c f cap p L hS hc hf hl) Keeps.none ?_
  refine pur ?_
  refine Wp.ret (Ret 0 rfl ⟨?_, rfl⟩)
  have key : ∀ l : List (List Value), decide ((l.takeWhile (fun r => !p r)).length < l.length) = l.any p := fun l => by
    induction l with
    | nil => rfl
    | cons r l ih =>
      cases h : p r with
      | true => rw [List.takeWhile_cons_of_neg (by simp [h])]; simp [h]
      | false => rw [List.takeWhile_cons_of_pos (by simp [h])]; simp [h]; rw [← ih]
  show Value.bool (decide (0 ≤ idxOf p rows)) = _
  rw [← key rows]
  unfold idxOf
  split
  · rename_i h; simp [h]
  · rename_i h; simp [h]

theorem named1_ct (r : List Value) (o : List UInt8 × Int × Int) (hr : r = opRow o) (b : Nat) (op num : Int) (txt : ByteArray) (kv : Value) (L : List Assn) (hb : Ent L (CellsAt b 0 [.int .i64 op, .string txt, .int .i64 num, kv])) :
    Ct Try.prog 60 ([Value.agg r.toArray] ++ (#[Value.pointer (some ⟨b, 0, none⟩)] : Array Value).toList).toArray L (ret fun v L' => v = .bool (decide (o.1 = bs txt)) ∧ L' = L) := by
  subst hr
  refine Ct.body Try.func60 rfl Try.ntmps60 Try.results60 rfl ?_
  refine pur ?_
  refine WpO.box rfl rfl rfl (fun _ => Keeps.none) fun b2 => ?_
  refine pur ?_
  exact Wp.ret (Ret 1 rfl ⟨rfl, rfl⟩)

def tyNames (kind : Int) (l : List UInt8) (k : Int) : Bool :=
  (((decide (kind = 2) || (decide (l = [40, 41]) && decide (k = 0))) || (decide (l = [91, 93]) && decide (k = 1))) || (decide (l = [45, 62]) && decide (k = 2))) || (decide (2 ≤ k) && decide (l = [40] ++ List.replicate (k - 1).toNat 44 ++ [41]))
/-- May a node have this text? -/
def namedF (op : Int) (l : List UInt8) (k : Int) : Bool :=
  if op = 1 ∨ op = 19 ∨ op = 23 ∨ op = 25 then decide (nameF l = 1) else
  if op = 21 ∨ op = 22 then decide (nameF l = 2) else
  if op = 2 then (decide (nameF l = 2) || decide (l = [40, 41])) else
  if op = 30 then ((decide (nameF l = 2) || (decide (l = [40, 41]) && decide (k = 0))) || (decide (l = [58]) && decide (k = 2))) else
  if op = 24 then tyNames (nameF l) l k else
  if op = 13 then opList.any (fun o => decide (o.1 = l)) else
  if op = 5 then true else
  if op = 29 then decide ((l.length : Int) ≤ 64) else decide (l = [])

theorem bs_append (a b : ByteArray) : bs (a ++ b) = bs a ++ bs b := by simp [bs]
theorem repeatL_comma (k : Nat) : Lib.repeatL [44] k = List.replicate k 44 := by
  have := Lib.repeatL_replicate 44 1 k
  simpa using this

set_option maxHeartbeats 4000000 in
theorem named_ct (op num : Int) (txt : ByteArray) (kv : Value) (k : Nat) (L : List Assn) (hl : (bs txt).length < 1073741824) (hk : k < 1073741824) :
    Ct Try.prog 35 #[.agg #[.int .i64 op, .string txt, .int .i64 num, kv], .int .i64 k] L (ret fun v L' => v = .bool (namedF op (bs txt) k) ∧ L' = L) := by
  refine Ct.body Try.func35 rfl Try.ntmps35 Try.results35 rfl ?_
  refine pur ?_
  refine WpO.box (vs := [.int .i64 op, .string txt, .int .i64 num, kv]) rfl rfl rfl (fun _ => Keeps.none) fun b => ?_
  have hb : Ent (ptA b 38 [.int .i64 op, .string txt, .int .i64 num, kv] :: L) (CellsAt b 0 [.int .i64 op, .string txt, .int .i64 num, kv]) := Ent.pt 0 4 rfl rfl
  refine pur ?_
  refine WpO.callq Try.call57 rfl rfl (name_ct txt _ hl) Keeps.none ?_
  iterate 4
    refine pur ?_
    refine Wp.branch rfl (fun h => ?_) (fun h => ?_)
    · refine pur ?_
      refine Wp.ret (Ret 1 rfl ⟨?_, rfl⟩)
      have h' := of_decide_eq_true h
      unfold namedF; rw [if_pos (by omega)]
  iterate 2
    refine pur ?_
    refine Wp.branch rfl (fun h => ?_) (fun h => ?_)
    · refine pur ?_
      refine Wp.ret (Ret 1 rfl ⟨?_, rfl⟩)
      simp only [decide_eq_true_eq, decide_eq_false_iff_not] at *
      unfold namedF; rw [if_neg (by omega), if_pos (by omega)]
  refine pur ?_
  refine Wp.branch rfl (fun h => ?_) (fun h => ?_)
  · refine pur ?_
    refine Wp.ret (Ret 1 rfl ⟨?_, rfl⟩)
    simp only [decide_eq_true_eq, decide_eq_false_iff_not] at *
    unfold namedF; rw [if_neg (by omega), if_neg (by omega), if_pos (by omega)]
  refine pur ?_
  refine Wp.branch rfl (fun h => ?_) (fun h => ?_)
  · refine pur ?_
    refine Wp.ret (Ret 1 rfl ⟨?_, rfl⟩)
    simp only [decide_eq_true_eq, decide_eq_false_iff_not] at *
    unfold namedF; rw [if_neg (by omega), if_neg (by omega), if_neg (by omega), if_pos (by omega)]
  refine pur ?_
  refine Wp.branch rfl (fun h => ?_) (fun h => ?_)
  · refine pur ?_
    refine Wp.draw rfl [0,1,2,3,4,5,6,7,8,9,10,11,12,13,14,15,16,17,18,19,20,21,22,23,24,25,26,27,28,29,30,31,32,33,34,35,36,37,38,39,40,41,42,43] 44 44 _ rfl (by decide +kernel) (fun _ h => h) ?_
    refine pur ?_
    refine WpO.callqg (v := .string (ofL (List.replicate (k - 1) 44))) Try.call38 rfl rfl (.cons rfl (by infer_instance) (.cons rfl (by infer_instance) .nil)) (fun hg => ?_) (Keeps.drop []) ?_
    · have h2 : 2 ≤ k := by rw [Bool.and_eq_true] at hg; have := of_decide_eq_true hg.2; omega
      rw [wrap_id (by omega) (by omega), show ((k : Int) - 1) = ((k - 1 : Nat) : Int) from by omega]
      have hr := repeat_ct ⟨#[44]⟩ (k - 1) (ptA b 38 [.int .i64 op, .string txt, .int .i64 num, kv] :: L) (by omega) (by show 1 * (k - 1) ≤ _; omega)
      rw [show (⟨#[44]⟩ : ByteArray).data.toList = [44] from rfl, repeatL_comma] at hr
      exact hr
    refine pur ?_
    refine G.sadd rfl rfl rfl (by infer_instance) rfl (by infer_instance) (fun _ => by rw [bs_ofL, List.length_replicate]; show 1 + _ < _; omega) ?_
    refine G.sadd rfl rfl rfl (by infer_instance) rfl (by infer_instance) (fun _ => by rw [bs_append, List.length_append, bs_ofL, List.length_replicate]; show 1 + _ + 1 < _; omega) ?_
    refine pur ?_
    refine Wp.ret (Ret 1 rfl ⟨?_, rfl⟩)
    simp only [decide_eq_true_eq, decide_eq_false_iff_not] at *
    unfold namedF tyNames; rw [if_neg (by omega), if_neg (by omega), if_neg (by omega), if_neg (by omega), if_pos (by omega), bs_append, bs_append, bs_ofL, show ((k : Int) - 1).toNat = k - 1 from by omega]
  refine pur ?_
  refine Wp.branch rfl (fun h => ?_) (fun h => ?_)
  · refine pur ?_
    refine WpO.call Try.call59 rfl rfl (operators_ct _) fun v L' ⟨b2, e1, e2⟩ => ⟨Keeps.none, ?_⟩
    subst e1; subst e2
    refine S.makeFunc rfl (.cons rfl (by infer_instance) .nil) ?_
    have hS : Sl (ptA b2 115 (opList.map opRow).flatten :: ptA b 38 [.int .i64 op, .string txt, .int .i64 num, kv] :: L) (some ⟨b2, 0, none⟩) 14 3 (opList.map opRow) := Sl.ofPt 0 rfl rfl (by simp [opList, opRow]) (by decide)
    refine WpO.callq Try.call58 rfl rfl (containsFunc_ct (opList.map opRow) _ 14 _ _ (fun r => match r with | [.string t, _, _] => decide (bs t = bs txt) | _ => false) _ hS Try.call60 (fun r hr => ?_) (by decide)) Keeps.none ?_
    · simp only [List.mem_map] at hr
      obtain ⟨o, _, rfl⟩ := hr
      exact named1_ct _ o rfl b op num txt kv _ hb.cons
    refine pur ?_
    refine Wp.ret (Ret 2 rfl ⟨?_, rfl⟩)
    simp only [decide_eq_true_eq, decide_eq_false_iff_not] at *
    unfold namedF; rw [if_neg (by omega), if_neg (by omega), if_neg (by omega), if_neg (by omega), if_neg (by omega), if_pos (by omega)]
    rw [List.any_map]; rfl
  refine pur ?_
  refine Wp.branch rfl (fun h => ?_) (fun h => ?_)
  · refine pur ?_
    refine Wp.ret (Ret 1 rfl ⟨?_, rfl⟩)
    simp only [decide_eq_true_eq, decide_eq_false_iff_not] at *
    unfold namedF; rw [if_neg (by omega), if_neg (by omega), if_neg (by omega), if_neg (by omega), if_neg (by omega), if_neg (by omega), if_pos (by omega)]
  refine pur ?_
  refine Wp.branch rfl (fun h => ?_) (fun h => ?_)
  · refine pur ?_
    refine Wp.ret (Ret 1 rfl ⟨?_, rfl⟩)
    simp only [decide_eq_true_eq, decide_eq_false_iff_not] at *
    unfold namedF; rw [if_neg (by omega), if_neg (by omega), if_neg (by omega), if_neg (by omega), if_neg (by omega), if_neg (by omega), if_neg (by omega), if_pos (by omega)]
  refine pur ?_
  refine Wp.ret (Ret 1 rfl ⟨?_, rfl⟩)
  simp only [decide_eq_true_eq, decide_eq_false_iff_not] at *
  unfold namedF; rw [if_neg (by omega), if_neg (by omega), if_neg (by omega), if_neg (by omega), if_neg (by omega), if_neg (by omega), if_neg (by omega), if_neg (by omega)]
end Go.Proofs.Ytibkdjjdfcpdaaa
end

section
namespace Go.Proofs.Ytibkdjjdfcpdaaa
open Go Go.Ab
attribute [local irreducible] Wp WpO Qt OpT Ct Ent

def numberedF (op num : Int) : Bool :=
  if op = 3 ∨ op = 27 then decide (0 ≤ num)
  else if op = 4 ∨ op = 28 then decide (0 ≤ num) && decide (num ≤ 255)
  else decide (num = 0)

theorem numbered_ct (op num : Int) (s : ByteArray) (kv : Value) (L : List Assn) :
    Ct Try.prog 36 #[.agg #[.int .i64 op, .string s, .int .i64 num, kv]] L (ret fun v L' => v = .bool (numberedF op num) ∧ L' = L) := by
  refine Ct.body Try.func36 rfl Try.ntmps36 Try.results36 rfl ?_
  refine pur ?_
  refine WpO.box rfl rfl rfl (fun _ => Keeps.none) fun b => ?_
  refine pur ?_
  refine Wp.branch rfl (fun h1 => ?_) (fun h1 => ?_)
  · refine pur ?_
    refine Wp.ret (Ret 1 rfl ⟨?_, rfl⟩)
    simp at h1
    simp [numberedF, h1]
  refine pur ?_
  refine Wp.branch rfl (fun h2 => ?_) (fun h2 => ?_)
  · refine pur ?_
    refine Wp.ret (Ret 1 rfl ⟨?_, rfl⟩)
    simp at h1 h2
    simp [numberedF, h2]
  refine pur ?_
  refine Wp.branch rfl (fun h3 => ?_) (fun h3 => ?_)
  · refine pur ?_
    refine Wp.ret (Ret 1 rfl ⟨?_, rfl⟩)
    simp at h1 h2 h3
    simp [numberedF, h3]
  refine pur ?_
  refine Wp.branch rfl (fun h4 => ?_) (fun h4 => ?_)
  · refine pur ?_
    refine Wp.ret (Ret 1 rfl ⟨?_, rfl⟩)
    simp at h1 h2 h3 h4
    simp [numberedF, h4]
  refine pur ?_
  refine Wp.ret (Ret 1 rfl ⟨?_, rfl⟩)
  simp at h1 h2 h3 h4
  simp [numberedF, h1, h2, h3, h4]

/-! ## The whole tree -/
def natI (l : List Nat) : List Int := l.map fun (x : Nat) => (x : Int)
def opAt (t : List Nd) (j : Nat) : Int := ((t[j]?).map Nd.op).getD 0
def goodF (ops : List Int) (nd : Nd) : Bool := shapedF nd.op (ops.map letterF) && namedF nd.op (bs nd.text) nd.kids.length && numberedF nd.op nd.num
/-- The nodes that nobody has as a part yet, node by node; none: the tree is not sound. -/
def runs (good : List Int → Nd → Bool) (t : List Nd) : List Nd → Nat → List Nat → Option (List Nat)
  | [], _, free => some free
  | nd :: r, i, free =>
    if ((decide (nd.kids.length ≤ free.length) && decide (nd.kids = natI (free.drop (free.length - nd.kids.length)))) && !(decide (nd.op = 20) && decide (i + 1 < t.length))) && good ((free.drop (free.length - nd.kids.length)).map (opAt t)) nd = true
    then runs good t r (i + 1) (free.take (free.length - nd.kids.length) ++ [i]) else none
def kssOf (t : List Nd) : List (List Nat) := t.map fun nd => nd.kids.map Int.toNat
def checkF (good : List Int → Nd → Bool) (t : List Nd) : Int :=
  if 1 ≤ t.length ∧ t.length ≤ 6000 ∧ opAt t (t.length - 1) = 20 then
    match runs good t t 0 [] with
    | some free => if free.length = 1 ∧ depthOf (kssOf t) ≤ 300 then 0 else 7
    | none => 7
  else 7
theorem natRows_eq (l : List Nat) : natRows l = ints (natI l) := by simp [natRows, ints, natI]

/-- What is known of a tree that comes in. -/
structure Small (t : List Nd) : Prop where
  len : t.length ≤ 1048576
  kids : ∀ nd ∈ t, nd.kids.length ≤ 1048576
  text : ∀ nd ∈ t, (bs nd.text).length ≤ 1048576
  num : ∀ nd ∈ t, nd.num ≤ 9223372036854775807

structure St where
  i : Nat
  free : List Nat
  kss : List (List Nat)
  a : Option Addr
  c : Nat
structure StOk (t : List Nd) (x : St) : Prop where
  le : x.i ≤ t.length
  run : runs goodF t t 0 [] = runs goodF t (t.drop x.i) x.i x.free
  lt : ∀ j ∈ x.free, j < x.i
  fl : x.free.length ≤ x.i
  kl : x.kss.length = x.i
  ks : (t.take x.i).map Nd.kids = x.kss.map natI
  kb : ∀ (j : Nat) (ks : List Nat), x.kss[j]? = some ks → ∀ k ∈ ks, k < j

theorem checkF_none {good : List Int → Nd → Bool} {t : List Nd} (h : runs good t t 0 [] = none) : checkF good t = 7 := by unfold checkF; rw [h]; simp
theorem sub_nat {a b : Nat} (h : b ≤ a) : ((a : Int) - (b : Int)) = ((a - b : Nat) : Int) := by omega
theorem runs_yes {good : List Int → Nd → Bool} {t r : List Nd} {nd : Nd} {i : Nat} {free : List Nat} (h1 : nd.kids.length ≤ free.length) (h2 : nd.kids = natI (free.drop (free.length - nd.kids.length))) (h3 : ¬ (nd.op = 20 ∧ i + 1 < t.length)) (h4 : good ((free.drop (free.length - nd.kids.length)).map (opAt t)) nd = true) :
    runs good t (nd :: r) i free = runs good t r (i + 1) (free.take (free.length - nd.kids.length) ++ [i]) := by
  rw [runs, if_pos]
  simp only [Bool.and_eq_true, decide_eq_true_eq, Bool.not_eq_true', Bool.and_eq_false_iff, decide_eq_false_iff_not]
  exact ⟨⟨⟨h1, h2⟩, by by_cases q : nd.op = 20; · exact .inr fun q2 => h3 ⟨q, q2⟩
                       · exact .inl q⟩, h4⟩
theorem runs_bad {good : List Int → Nd → Bool} {t r : List Nd} {nd : Nd} {i : Nat} {free : List Nat} (h4 : good ((free.drop (free.length - nd.kids.length)).map (opAt t)) nd = false) : runs good t (nd :: r) i free = none := by
  rw [runs, if_neg]
  intro hh
  rw [Bool.and_eq_true, h4] at hh
  exact absurd hh.2 (by decide)
def letters (t : List Nd) (l : List Nat) : List UInt8 := (l.map (opAt t)).map letterF

set_option maxHeartbeats 4000000 in
theorem check_ct (t : List Nd) (a : Option Addr) (c : Nat) (L : List Assn) (hT : TreeR L a c t) (hs : Small t) :
    Ct Try.prog 13 #[.agg #[.slice a t.length c]] L (ret fun v L' => v = .int .i64 (checkF goodF t) ∧ L' = L) := by
  have hlen := hs.len
  refine Ct.body Try.func13 rfl Try.ntmps13 Try.results13 rfl ?_
  refine pur ?_
  refine WpO.box (vs := [.slice a t.length c]) rfl rfl rfl (fun _ => Keeps.none) fun b1 => ?_
  refine pur ?_
  obtain ⟨bn, on, hbn⟩ : ∃ bn on, t ≠ [] → a = some ⟨bn, on, none⟩ ∧ Ent L (CellsAt bn (on + (t.length - 1) * 4 + 0) [.int .i64 (opAt t (t.length - 1))]) := by
    by_cases h0 : t = []
    · exact ⟨0, 0, fun h => absurd h0 h⟩
    · have hl : t.length - 1 < t.length := by have := List.length_pos_iff.2 h0; omega
      obtain ⟨b, o, ka, kc, h1, h2, _⟩ := hT.at (List.getElem?_eq_getElem hl)
      refine ⟨b, o, fun _ => ⟨h1, ?_⟩⟩
      have := Ent.sub 1 (j := 0) h2 rfl
      unfold opAt; rw [List.getElem?_eq_getElem hl]; exact this
  have hlast : ∀ b : Bool, (!(decide (IntKind.i64.wrap ((t.length : Int) - 1) < 0) || b)) = true → t ≠ [] := fun b h e => by
    subst e
    rw [show decide (IntKind.i64.wrap ((([] : List Nd).length : Int) - 1) < 0) = true from by decide] at h
    simp at h
  refine G.idxO (b := bn) (o := on) (t.length - 1) rfl rfl rfl (by infer_instance) rfl (by infer_instance) (fun h => ?_) ?_
  · have h0 := hlast _ h
    have := List.length_pos_iff.2 h0
    exact ⟨(hbn h0).1, by rw [wrap_id (by omega) (by omega)]; omega, by omega⟩
  refine pur ?_
  refine G.loadIf (v := .int .i64 (opAt t (t.length - 1))) rfl rfl rfl (by infer_instance) (by infer_instance) (fun h => (hbn (hlast _ h)).2.cons) ?_
  refine pur ?_
  refine Wp.branch rfl (fun h => ?_) (fun h => ?_)
  · refine pur ?_
    refine Wp.ret (Ret 1 rfl ⟨?_, rfl⟩)
    unfold checkF
    rw [if_neg]
    rintro ⟨h1, h2, h3⟩
    rw [h3, wrap_id (by omega) (by omega)] at h
    simp at h; omega
  obtain ⟨hl1, hl2, hl3⟩ : 1 ≤ t.length ∧ t.length ≤ 6000 ∧ opAt t (t.length - 1) = 20 := by
    rw [wrap_id (by omega) (by omega)] at h
    simp only [Bool.or_eq_false_iff, decide_eq_false_iff_not, Bool.not_eq_false', decide_eq_true_eq] at h
    obtain ⟨⟨q1, q2⟩, q3⟩ := h
    exact ⟨by omega, by omega, q3⟩
  clear hbn hlast
  refine pur ?_
  refine Wp.parts (L' := ownA 3 1 none 0 (natRows []) :: ptA b1 24 [.slice a t.length c] :: L) (fun k hk => Sat.ownNil hk) ?_
  rw [wrap_id (by omega) (by omega)]
  refine Wp.loopI (α := St) ⟨0, [], [], none, 0⟩
    (fun x => [(1, .v (.pointer (some ⟨b1, 0, none⟩))), (3, .v (.int .i64 ((t.length : Int) - 1))), (4, .v (.slice x.a x.free.length x.c)), (31, .v (.slice a t.length c)), (32, .v (.int .i64 t.length)), (33, .v (.int .i64 x.i))])
    (fun x => ownA 3 1 x.a x.c (natRows x.free) :: ptA b1 24 [.slice a t.length c] :: L)
    (fun x => t.length - x.i) (StOk t) ⟨Nat.zero_le _, rfl, nofun, Nat.le_refl _, rfl, rfl, fun j ks h => by simp at h⟩ ⟨rfl, rfl, rfl, rfl, rfl, rfl, trivial⟩ (LeL.refl _) ?_
  rintro ⟨i, free, kss, fa, fc⟩ ⟨q1, q2, q3, q4, q5, q6, q7⟩
  simp only [] at q1 q2 q3 q4 q5 q6 q7
  show Wp _ _ _ _ [_, _, (4, .v (.slice fa free.length fc)), _, _, (33, .v (.int .i64 i))] _ (ownA _ _ fa fc (natRows free) :: _)
  refine pur ?_
  refine Wp.branch rfl (fun h => ?_) (fun h => ?_)
  · have hit : i < t.length := by simpa using h
    have hnd := List.getElem?_eq_getElem hit
    have hdrop := List.drop_eq_getElem_cons hit
    generalize t[i] = nd at hnd hdrop
    have hkl := hs.kids nd (List.mem_of_getElem? hnd)
    have htl := hs.text nd (List.mem_of_getElem? hnd)
    obtain ⟨b, o, ka, kc, rfl, hE, hKs⟩ := hT.at hnd
    refine pur ?_
    refine S.idx i rfl rfl rfl rfl hit ?_
    refine S.loadN rfl rfl hE.cons.cons rfl ?_
    refine WpO.alloc rfl rfl (fun _ => Keeps.none) fun bn => ?_
    refine pur ?_
    rw [wrap_id (by omega) (by omega)]
    refine Wp.know (fun k hs => own_know 1 rfl hs) fun hk => ?_
    have hfc : free.length ≤ fc := by have := hk.1; simpa [natRows] using this
    have hfs : (natRows free).drop (free.length - nd.kids.length) = ints (natI (free.drop (free.length - nd.kids.length))) := by rw [← natRows_eq]; simp [natRows]
    have hfl : (natI (free.drop (free.length - nd.kids.length))).length = free.length - (free.length - nd.kids.length) := by simp [natI]
    refine Wp.draw rfl [0,1,2,3,4,5,6,7,8,9,10,11,12,13,14,15,16,17,18,19,20] 21 21 _ rfl (by decide +kernel) (fun _ h => h) ?_
    refine pur ?_
    refine G.sliceL (free.length - nd.kids.length) free.length rfl rfl rfl (by infer_instance) (Bd.at _ rfl (by infer_instance) (fun h => sub_nat (by simpa using h))) Bd.no (fun _ => ⟨by omega, hfc⟩) ?_
    refine WpO.callqg (v := .bool (decide (nd.kids = natI (free.drop (free.length - nd.kids.length))))) Try.call28 rfl rfl (.cons rfl (by infer_instance) (.cons rfl (by infer_instance) .nil)) (fun hg => ?_) (Keeps.drop []) ?_
    · have hS := (Sl.own (L := ptA bn 38 [.int .i64 nd.op, .string nd.text, .int .i64 nd.num, .slice ka nd.kids.length kc] :: ownA 3 1 fa fc (natRows free) :: ptA b1 24 [.slice (some ⟨b, o, none⟩) t.length c] :: L) 1 rfl hk).drop (free.length - nd.kids.length) (by simp [natRows])
      rw [hfs] at hS
      have he := equal_ct nd.kids (natI (free.drop (free.length - nd.kids.length))) ka _ kc _ _ hKs.cons.cons.cons hS (by omega)
      rw [hfl] at he
      exact he
    refine pur ?_
    refine Wp.branch rfl (fun h => ?_) (fun h => ?_)
    · refine pur ?_
      refine Wp.ret (Ret 3 rfl ⟨?_, rfl⟩)
      rw [checkF_none]
      rw [q2, hdrop]
      unfold runs
      rw [if_neg]
      intro hh
      simp only [Bool.and_eq_true, decide_eq_true_eq, Bool.not_eq_true', Bool.and_eq_false_iff, decide_eq_false_iff_not, Bool.or_eq_true, Bool.not_eq_false'] at h hh
      obtain ⟨⟨⟨w1, w2⟩, w3⟩, _⟩ := hh
      rcases h with (h | h) | ⟨h1, h2⟩
      · omega
      · exact absurd w2 (by simpa using h)
      · rcases w3 with w3 | w3
        · exact w3 h1
        · omega
    simp only [Bool.or_eq_false_iff, decide_eq_false_iff_not, Bool.not_eq_false', decide_eq_true_eq, Bool.and_eq_false_iff] at h
    obtain ⟨⟨w1, w2⟩, w3⟩ := h
    have w1' : nd.kids.length ≤ free.length := by omega
    generalize hfs' : free.drop (free.length - nd.kids.length) = fs at *
    have hfsl : fs.length = nd.kids.length := by rw [w2]; simp [natI]
    have hfsm : ∀ j ∈ fs, j < i := fun j hj => q3 j (by rw [← hfs'] at hj; exact List.mem_of_mem_drop hj)
    refine pur ?_
    refine WpO.make 0 nd.kids.length rfl rfl rfl rfl rfl (Nat.zero_le _) (by omega) rfl rfl rfl rfl (fun _ => Keeps.none) fun bl => ?_
    refine pur ?_
    refine Wp.loopI (α := Nat × Option Addr × Nat) (0, some ⟨bl, 0, none⟩, nd.kids.length)
      (fun y => [(1, .v (.pointer (some ⟨b1, 0, none⟩))), (3, .v (.int .i64 ((t.length : Int) - 1))), (4, .v (.slice fa free.length fc)), (31, .v (.slice (some ⟨b, o, none⟩) t.length c)), (32, .v (.int .i64 t.length)), (33, .v (.int .i64 i)),
        (5, .v (.int .i64 i)), (6, .v (.pointer (some ⟨bn, 0, none⟩))), (7, .v (.int .i64 ((free.length : Int) - (nd.kids.length : Int)))), (8, .v (.slice y.2.1 y.1 y.2.2)), (70, .v (.slice ka nd.kids.length kc)), (71, .v (.int .i64 nd.kids.length)), (72, .v (.int .i64 y.1))])
      (fun y => ownA 5 1 y.2.1 y.2.2 (u8s (letters t (fs.take y.1))) :: ptA bn 38 [.int .i64 nd.op, .string nd.text, .int .i64 nd.num, .slice ka nd.kids.length kc] :: ownA 3 1 fa fc (natRows free) :: ptA b1 24 [.slice (some ⟨b, o, none⟩) t.length c] :: L)
      (fun y => nd.kids.length - y.1) (fun y => y.1 ≤ nd.kids.length) (Nat.zero_le _) ⟨rfl, rfl, rfl, rfl, rfl, rfl, rfl, rfl, rfl, rfl, rfl, rfl, rfl, trivial⟩ (LeL.refl _) ?_
    · rintro ⟨j, la, lc⟩ hj
      simp only [] at hj
      show Wp _ _ _ _ [_, _, _, _, _, _, _, _, _, (8, .v (.slice la j lc)), _, _, (72, .v (.int .i64 j))] _ (ownA _ _ la lc (u8s (letters t (fs.take j))) :: _)
      refine pur ?_
      refine Wp.branch rfl (fun h => ?_) (fun h => ?_)
      · have hjk : j < nd.kids.length := by simpa using h
        have hjf : j < fs.length := by omega
        have hkj : nd.kids[j]? = some ((fs[j] : Nat) : Int) := by rw [w2]; simp [natI, hjf]
        have hfj := List.getElem?_eq_getElem hjf
        have hlt2 := hfsm _ (List.getElem_mem hjf)
        generalize fs[j] = kj at hkj hfj hlt2
        obtain ⟨b2, o2, rfl, e2⟩ := ints_at hKs hkj
        have hkt : kj < t.length := by omega
        obtain ⟨b3, o3, ka3, kc3, e3, hE3, _⟩ := hT.at (List.getElem?_eq_getElem hkt)
        cases e3
        have hop : (t[kj]).op = opAt t kj := by unfold opAt; rw [List.getElem?_eq_getElem hkt]; rfl
        rw [hop] at hE3
        refine pur ?_
        refine S.idx j rfl rfl rfl rfl hjk ?_
        refine pur ?_
        refine S.idx kj rfl rfl rfl rfl hkt ?_
        refine pur ?_
        refine WpO.callq Try.call33 rfl rfl (letter_ct _ _) Keeps.none ?_
        refine WpO.buildSlice rfl rfl rfl rfl rfl rfl rfl (fun _ => Keeps.none) fun bs1 => ?_
        have hll : (u8s (letters t (fs.take j))).length = j := by simp [u8s, letters]; omega
        refine WpO.appendLit 0 [[.int .u8 ((letterF (opAt t kj)).toNat : Int)]] rfl rfl rfl rfl hll.symm rfl rfl rfl rfl rfl rfl rfl (by rw [hll]; simp; omega) (fun _ _ => Keeps.none) fun a2 k2 => ?_
        refine pur ?_
        refine Round.mk (j + 1, a2, k2) (by simp only []; omega) (by simp only []; omega) ⟨rfl, rfl, rfl, rfl, rfl, rfl, rfl, rfl, rfl, ?_, rfl, rfl, ?_, trivial⟩ ?_
        · show some (AV.v (.slice a2 (u8s (letters t (fs.take j)) ++ [[Value.int .u8 ((letterF (opAt t kj)).toNat : Int)]]).length k2)) = _
          rw [List.length_append, hll]; rfl
        · show some (AV.v (.int .i64 (IntKind.i64.wrap ((j : Int) + 1)))) = _
          rw [wrap_id (by omega) (by omega)]; rfl
        · have : u8s (letters t (fs.take j)) ++ [[.int .u8 ((letterF (opAt t kj)).toNat : Int)]] = u8s (letters t (fs.take (j + 1))) := by
            rw [List.take_add_one, hfj]; simp [u8s, letters]
          rw [this]; exact LeL.refl _
      · have hjk : j = nd.kids.length := by have := h; simp at this; omega
        subst hjk
        have htk : fs.take nd.kids.length = fs := List.take_of_length_le (by omega)
        rw [htk]
        have hll : (u8s (letters t fs)).length = nd.kids.length := by simp [u8s, letters]; omega
        refine pur ?_
        refine WpO.know (fun k hs => own_know 0 rfl hs) fun hkl' => ?_
        refine S.bytesStr (letters t fs) rfl rfl (Sl.own 0 rfl hkl') (by simp [letters]; omega) ?_
        have hlt3 : ∀ ch ∈ bs (⟨(letters t fs).toArray⟩ : ByteArray), ch.toNat < 128 := by
          show ∀ ch ∈ letters t fs, _
          intro ch hch
          simp only [letters, List.mem_map] at hch
          obtain ⟨_, _, rfl⟩ := hch
          exact letterF_lt _
        refine WpO.callq Try.call34 rfl rfl (shaped_ct nd.op ⟨(letters t fs).toArray⟩ _ hlt3 (by show (letters t fs).length < _; simp [letters]; omega)) Keeps.none ?_
        refine pur ?_
        refine G.loadN rfl rfl rfl (by infer_instance) (Ent.pt 1 4 rfl rfl) rfl ?_
        refine pur ?_
        refine WpO.callqg Try.call35 rfl rfl (.cons rfl (by infer_instance) (.cons rfl (by infer_instance) .nil)) (fun _ => named_ct nd.op nd.num nd.text _ nd.kids.length _ (by omega) (by omega)) Keeps.none ?_
        refine pur ?_
        refine G.loadN rfl rfl rfl (by infer_instance) (Ent.pt 1 4 rfl rfl) rfl ?_
        refine WpO.callqg Try.call36 rfl rfl (.cons rfl (by infer_instance) .nil) (fun _ => numbered_ct nd.op nd.num nd.text _ _) Keeps.none ?_
        refine pur ?_
        refine Wp.branch rfl (fun h => ?_) (fun h => ?_)
        · refine pur ?_
          refine Wp.ret (Ret 4 rfl ⟨?_, rfl⟩)
          rw [checkF_none]
          rw [q2, hdrop]
          apply runs_bad
          rw [hfs']
          have h' : (!shapedF nd.op (letters t fs) || !namedF nd.op (bs nd.text) nd.kids.length || !numberedF nd.op nd.num) = true := h
          rw [show goodF (fs.map (opAt t)) nd = !(!shapedF nd.op (letters t fs) || !namedF nd.op (bs nd.text) nd.kids.length || !numberedF nd.op nd.num) from by unfold goodF letters; simp, h']; rfl
        · have hgood : goodF (fs.map (opAt t)) nd = true := by
            have h' : (!shapedF nd.op (letters t fs) || !namedF nd.op (bs nd.text) nd.kids.length || !numberedF nd.op nd.num) = false := h
            rw [show goodF (fs.map (opAt t)) nd = !(!shapedF nd.op (letters t fs) || !namedF nd.op (bs nd.text) nd.kids.length || !numberedF nd.op nd.num) from by unfold goodF letters; simp, h']; rfl
          have w3' : ¬ (nd.op = 20 ∧ i + 1 < t.length) := by
            rintro ⟨h1, h2⟩
            rcases w3 with h3 | h3
            · exact h3 h1
            · omega
          have w4 : runs goodF t t 0 [] = runs goodF t (t.drop (i + 1)) (i + 1) (free.take (free.length - nd.kids.length) ++ [i]) := by
            rw [q2, hdrop]
            exact runs_yes w1' (by rw [hfs']; exact w2) w3' (by rw [hfs']; exact hgood)
          have hfa : fa = none ∨ ∃ b o, fa = some ⟨b, o, none⟩ := by
            rcases hk.2.2 with ⟨q, _⟩ | q
            · exact .inl q
            · exact .inr q
          have htk2 : (natRows free).take (free.length - nd.kids.length) = natRows (free.take (free.length - nd.kids.length)) := by simp [natRows]
          have htl2 : (natRows (free.take (free.length - nd.kids.length))).length = free.length - nd.kids.length := by simp [natRows]
          refine pur ?_
          refine S.sliceL 0 (free.length - nd.kids.length) rfl rfl Bd.no (Bd.at _ rfl (by infer_instance) (fun _ => sub_nat w1')) ⟨Nat.zero_le _, by omega⟩ ?_
          rw [slA_zero hfa, Nat.sub_zero, Nat.sub_zero]
          refine WpO.parts (L' := ownA 3 1 fa fc (natRows (free.take (free.length - nd.kids.length))) :: ptA b1 24 [.slice (some ⟨b, o, none⟩) t.length c] :: L) (fun k hs => LeL.head (fun _ h => htk2 ▸ h.take _) k hs.tail.tail) ?_
          refine pur ?_
          refine WpO.buildSlice rfl rfl rfl rfl rfl rfl rfl (fun _ => Keeps.none) fun bs1 => ?_
          refine WpO.appendLit 0 [[.int .i64 (i : Int)]] rfl rfl rfl rfl htl2.symm rfl rfl rfl rfl rfl rfl rfl (by rw [htl2]; simp; omega) (fun _ _ => Keeps.none) fun a2 k2 => ?_
          refine pur ?_
          refine Round.mk ⟨i + 1, free.take (free.length - nd.kids.length) ++ [i], kss ++ [fs], a2, k2⟩ (by simp only []; omega) ⟨hit, w4, ?_, ?_, ?_, ?_, ?_⟩ ⟨rfl, rfl, ?_, rfl, rfl, ?_, trivial⟩ ?_
          · intro j hj
            rcases List.mem_append.1 hj with hj | hj
            · have := q3 j (List.mem_of_mem_take hj); show j < i + 1; omega
            · simp at hj; subst hj; exact Nat.lt_succ_self _
          · simp; omega
          · simp [q5]
          · show (t.take (i + 1)).map Nd.kids = _
            rw [List.take_add_one, hnd, List.map_append, q6]; simp [w2]
          · intro j ks hj k hk
            simp only [] at hj
            rcases Nat.lt_or_ge j kss.length with hl | hl
            · rw [List.getElem?_append_left hl] at hj; exact q7 j ks hj k hk
            · rw [List.getElem?_append_right hl] at hj
              have hj0 : j - kss.length = 0 := by
                have := (List.getElem?_eq_some_iff.1 hj).1; simp at this; omega
              rw [hj0] at hj; simp at hj; subst hj
              have := hfsm k hk; omega
          · show some (AV.v (.slice a2 (natRows (free.take (free.length - nd.kids.length)) ++ [[Value.int .i64 (i : Int)]]).length k2)) = some (AV.v (.slice a2 (free.take (free.length - nd.kids.length) ++ [i]).length k2))
            simp [natRows]
          · show some (AV.v (.int .i64 (IntKind.i64.wrap ((i : Int) + 1)))) = _
            rw [wrap_id (by omega) (by omega)]; rfl
          · have : natRows (free.take (free.length - nd.kids.length)) ++ [[.int .i64 (i : Int)]] = natRows (free.take (free.length - nd.kids.length) ++ [i]) := by simp [natRows]
            rw [this]; exact LeL.refl _
  · have hin : i = t.length := by have := h; simp at this; omega
    subst hin
    have hall : runs goodF t t 0 [] = some free := by rw [q2, List.drop_length]; rfl
    have hkss : kss = kssOf t := by
      rw [List.take_length] at q6
      unfold kssOf
      rw [show t.map (fun nd => nd.kids.map Int.toNat) = (t.map Nd.kids).map (List.map Int.toNat) from by simp, q6]
      rw [List.map_map]
      symm
      have : (List.map Int.toNat ∘ natI) = id := by funext l; simp [natI, Function.comp_def]
      rw [this, List.map_id]
    refine pur ?_
    have hdc := depth_ct t a c (ownA 3 1 fa fc (natRows free) :: ptA b1 24 [.slice a t.length c] :: L) hT.cons.cons (kssOf t) (by rw [← hkss]; rw [List.take_length] at q6; exact q6) (by rw [← hkss]; exact q7) (by omega) (fun nd hnd => by have := hs.kids nd hnd; omega)
    refine WpO.callqg Try.call37 rfl rfl (.cons rfl (by infer_instance) .nil) (fun _ => hdc) Keeps.none ?_
    refine pur ?_
    refine Wp.branch rfl (fun h => ?_) (fun h => ?_)
    · refine pur ?_
      refine Wp.ret (Ret 2 rfl ⟨?_, rfl⟩)
      unfold checkF
      rw [if_pos ⟨hl1, hl2, hl3⟩, hall]
      simp only [Bool.or_eq_true, Bool.not_eq_true', decide_eq_false_iff_not, decide_eq_true_eq] at h
      simp only []
      rw [if_neg (by omega)]
    · refine pur ?_
      refine Wp.ret (Ret 2 rfl ⟨?_, rfl⟩)
      unfold checkF
      rw [if_pos ⟨hl1, hl2, hl3⟩, hall]
      simp only [Bool.or_eq_false_iff, Bool.not_eq_false', decide_eq_false_iff_not, decide_eq_true_eq] at h
      simp only []
      rw [if_pos (by omega)]
end Go.Proofs.Ytibkdjjdfcpdaaa
end
