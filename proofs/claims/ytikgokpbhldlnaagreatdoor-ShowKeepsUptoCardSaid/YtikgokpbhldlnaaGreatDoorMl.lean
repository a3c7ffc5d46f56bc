/- Parts of a proof: Sq Sr Ss St. -/
import Derived.Test.YtikgokpbhldlnaaGreatDoorMk
import Derived.Test.YtikgokpbhldlnaaGreatDoorMd
set_option linter.unusedVariables false
set_option linter.unusedSimpArgs false
set_option linter.unusedSectionVars false
section
namespace Go.Proofs.YtikgokpbhldlnaaGreatDoor
open Go Go.Ab
attribute [local irreducible] Wp WpO Qt OpT Ct Ent WpQ StQ

/-! ## The texts of tokens, as the document has them -/
theorem dec_big {n : Nat} (h : ¬ n < 10) : Lib.decDigits n = Lib.decDigits (n / 10) ++ [UInt8.ofNat (48 + n % 10)] := by rw [Lib.decDigits, dif_neg h]
theorem dig8 {n : Nat} (h : n < 10) : IntKind.u8.wrap (IntKind.i64.wrap (48 + (n : Int))) = ((UInt8.ofNat (48 + n)).toNat : Int) := by
  rw [show IntKind.i64.wrap (48 + (n : Int)) = ((48 + n : Nat) : Int) from by rw [wrap_id (by omega) (by omega)]; omega, u8n (by omega)]
theorem one8 (c : UInt8) : ∀ r ∈ u8s [c], r.length = 1 := by intro r hr; simp [u8s] at hr; subst hr; rfl
set_option maxHeartbeats 2000000 in
theorem rdigits_ct (n : Nat) : n ≤ 9223372036854775807 → ∀ L : List Assn, Ct Tryz.prog 206 #[.int .i64 n] L (ret fun v L' => v = .string (ofL (Lib.decDigits n)) ∧ L' = L) := by
  induction n using Nat.strongRecOn with
  | _ n ih =>
  intro hn L
  refine Ct.body Tryz.func206 rfl Tryz.ntmps206 Tryz.results206 rfl ?_
  refine pur ?_
  refine Wp.branch rfl (fun h => ?_) (fun h => ?_)
  · have h10 : n < 10 := by have := of_decide_eq_true h; omega
    refine pur ?_
    rw [dig8 h10]
    refine WpO.buildSlice rfl rfl rfl rfl rfl rfl rfl (fun _ => Keeps.none) fun b => ?_
    refine S.bytesStr [UInt8.ofNat (48 + n)] rfl rfl (Sl.ofPt 0 rfl rfl (one8 _) (Nat.le_refl _)) rfl ?_
    refine pur ?_
    refine Wp.ret (Ret 1 rfl ⟨?_, rfl⟩)
    rw [Lib.decDigits_one h10]; rfl
  · have h10 : ¬ n < 10 := by have := of_decide_eq_false h; omega
    have hq : IntKind.i64.wrap ((n : Int).tdiv 10) = ((n / 10 : Nat) : Int) := by rw [Int.tdiv_eq_ediv_of_nonneg (by omega), wrap_id (by omega) (by omega)]; omega
    have hr : ((n : Int).tmod 10) = ((n % 10 : Nat) : Int) := by rw [Int.tmod_eq_emod_of_nonneg (by omega)]; omega
    have hd := nDigits_le 19 (n / 10) (by omega)
    rw [← Lib.decDigits_length] at hd
    have hfin : ofL (Lib.decDigits (n / 10)) ++ ofL [UInt8.ofNat (48 + n % 10)] = ofL (Lib.decDigits n) := by rw [ofL_app, dec_big h10]
    have hc := ih (n / 10) (by omega) (by omega)
    refine pur ?_
    refine Wp.drawQ rfl ?_
    show WpQ _ _ _ _ 11 _ _ _ _
    refine WpQ.q 0 rfl rfl (by decide +kernel) (Qt.move rfl) ?_
    refine WpQ.q 1 rfl rfl (by decide +kernel) (Qt.quo rfl rfl (by decide)) ?_
    rw [hq]
    refine WpQ.q 3 rfl rfl (by decide +kernel) (Qt.move rfl) ?_
    refine WpQ.q 4 rfl rfl (by decide +kernel) (Qt.rem rfl rfl (by decide)) ?_
    rw [hr]
    refine WpQ.q 5 rfl rfl (by decide +kernel) (Qt.bin rfl rfl rfl) ?_
    refine WpQ.q 6 rfl rfl (by decide +kernel) (Qt.convInt rfl) ?_
    rw [dig8 (show n % 10 < 10 by omega)]
    refine WpQ.two 2 7 (by decide +kernel) ?_ ?_
    · refine StQ.callq rfl Tryz.call206 rfl rfl (hc L) ?_
      refine WpQ.one 7 (by decide +kernel) ?_
      refine StQ.buildSlice rfl rfl rfl rfl rfl rfl rfl rfl fun b => ?_
      refine WpQ.one 8 (by decide +kernel) ?_
      refine StQ.q rfl rfl (Qt.bytesStr (l := [UInt8.ofNat (48 + n % 10)]) rfl (fun _ => Sl.ofPt 0 rfl rfl (one8 _) (Nat.le_refl _)) (fun _ => rfl)) ?_
      refine WpQ.one 9 (by decide +kernel) ?_
      refine StQ.q rfl rfl (Qt.sadd (by rw [bs_ofL]; show _ + 1 < _; omega) rfl rfl) ?_
      refine WpQ.one 10 (by decide +kernel) ?_
      refine StQ.q rfl rfl (Qt.assign rfl) ?_
      refine WpQ.done (by decide +kernel) ?_
      refine pur ?_
      exact Wp.ret (Ret 1 rfl ⟨congrArg Value.string hfin, rfl⟩)
    · refine StQ.buildSlice rfl rfl rfl rfl rfl rfl rfl rfl fun b => ?_
      refine WpQ.two 2 8 (by decide +kernel) ?_ ?_
      · refine StQ.callq rfl Tryz.call206 rfl rfl (hc _) ?_
        refine WpQ.one 8 (by decide +kernel) ?_
        refine StQ.q rfl rfl (Qt.bytesStr (l := [UInt8.ofNat (48 + n % 10)]) rfl (fun _ => Sl.ofPt 0 rfl rfl (one8 _) (Nat.le_refl _)) (fun _ => rfl)) ?_
        refine WpQ.one 9 (by decide +kernel) ?_
        refine StQ.q rfl rfl (Qt.sadd (by rw [bs_ofL]; show _ + 1 < _; omega) rfl rfl) ?_
        refine WpQ.one 10 (by decide +kernel) ?_
        refine StQ.q rfl rfl (Qt.assign rfl) ?_
        refine WpQ.done (by decide +kernel) ?_
        refine pur ?_
        exact Wp.ret (Ret 1 rfl ⟨congrArg Value.string hfin, rfl⟩)
      · refine StQ.q rfl rfl (Qt.bytesStr (l := [UInt8.ofNat (48 + n % 10)]) rfl (fun _ => Sl.ofPt 0 rfl rfl (one8 _) (Nat.le_refl _)) (fun _ => rfl)) ?_
        refine WpQ.one 2 (by decide +kernel) ?_
        refine StQ.callq rfl Tryz.call206 rfl rfl (hc _) ?_
        refine WpQ.one 9 (by decide +kernel) ?_
        refine StQ.q rfl rfl (Qt.sadd (by rw [bs_ofL]; show _ + 1 < _; omega) rfl rfl) ?_
        refine WpQ.one 10 (by decide +kernel) ?_
        refine StQ.q rfl rfl (Qt.assign rfl) ?_
        refine WpQ.done (by decide +kernel) ?_
        refine pur ?_
        exact Wp.ret (Ret 1 rfl ⟨congrArg Value.string hfin, rfl⟩)
end Go.Proofs.YtikgokpbhldlnaaGreatDoor
end

section
namespace Go.Proofs.YtikgokpbhldlnaaGreatDoor
open Go Go.Ab
attribute [local irreducible] Wp WpO Qt OpT Ct Ent

theorem digs_cut {i : Nat} (h : i < 16) : ((⟨#[48, 49, 50, 51, 52, 53, 54, 55, 56, 57, 97, 98, 99, 100, 101, 102]⟩ : ByteArray)).extract i (i + 1) = ofL [digs.getD i 0] := by
  rw [extract_ofL]
  congr 1
  show (digs.take (i + 1)).drop i = _
  rw [List.take_add_one, digs_get h, Option.toList_some, List.drop_append_of_le_length (by rw [List.length_take]; have : digs.length = 16 := rfl; omega)]
  rw [List.drop_eq_nil_of_le (by rw [List.length_take]; omega)]; rfl
set_option maxHeartbeats 1000000 in
theorem rescape_ct (c : Nat) (hc : c ≤ 255) (L : List Assn) : Ct Tryz.prog 207 #[.int .i64 c] L (ret fun v L' => v = .tuple #[.string (ofL (escT c)), .int .i64 0] ∧ L' = L) := by
  refine Ct.body Tryz.func207 rfl Tryz.ntmps207 Tryz.results207 rfl ?_
  refine pur ?_
  refine Wp.branch rfl (fun h => ?_) (fun h => ?_)
  · simp only [Bool.or_eq_true, decide_eq_true_eq] at h; omega
  refine pur ?_
  refine Wp.branch rfl (fun h1 => ?_) (fun h1 => ?_)
  · have h1' : c = 10 := by have := of_decide_eq_true h1; omega
    refine pur ?_
    refine Wp.ret (Ret 0 rfl ⟨?_, rfl⟩)
    subst h1'; rfl
  have n1 : ¬ c = 10 := by have := of_decide_eq_false h1; omega
  refine pur ?_
  refine Wp.branch rfl (fun h1 => ?_) (fun h1 => ?_)
  · have h1' : c = 9 := by have := of_decide_eq_true h1; omega
    refine pur ?_
    refine Wp.ret (Ret 0 rfl ⟨?_, rfl⟩)
    subst h1'; rfl
  have n2 : ¬ c = 9 := by have := of_decide_eq_false h1; omega
  refine pur ?_
  refine Wp.branch rfl (fun h1 => ?_) (fun h1 => ?_)
  · have h1' : c = 92 ∨ c = 39 ∨ c = 34 := by simp only [Bool.or_eq_true, decide_eq_true_eq] at h1; omega
    refine pur ?_
    rw [u8n hc]
    refine WpO.buildSlice rfl rfl rfl rfl rfl rfl rfl (fun _ => Keeps.none) fun b => ?_
    refine S.bytesStr [UInt8.ofNat c] rfl rfl (Sl.ofPt 0 rfl rfl (one8 _) (Nat.le_refl _)) rfl ?_
    refine S.sadd rfl rfl rfl (by rw [show ((⟨[UInt8.ofNat c].toArray⟩ : ByteArray)) = ofL [UInt8.ofNat c] from rfl, bs_ofL]; show 1 + 1 < _; omega) ?_
    refine pur ?_
    refine Wp.ret (Ret 1 rfl ⟨?_, rfl⟩)
    unfold escT; rw [if_neg n1, if_neg n2, if_pos h1']
    show Value.tuple #[.string (ofL [92] ++ ofL [UInt8.ofNat c]), _] = _
    rw [ofL_app]; rfl
  have n3 : ¬ (c = 92 ∨ c = 39 ∨ c = 34) := by simp only [Bool.or_eq_false_iff, decide_eq_false_iff_not] at h1; omega
  refine pur ?_
  refine Wp.branch rfl (fun h1 => ?_) (fun h1 => ?_)
  · have h1' : 32 ≤ c ∧ c ≤ 126 := by simp only [Bool.and_eq_true, decide_eq_true_eq] at h1; omega
    refine pur ?_
    rw [u8n hc]
    refine WpO.buildSlice rfl rfl rfl rfl rfl rfl rfl (fun _ => Keeps.none) fun b => ?_
    refine S.bytesStr [UInt8.ofNat c] rfl rfl (Sl.ofPt 0 rfl rfl (one8 _) (Nat.le_refl _)) rfl ?_
    refine pur ?_
    refine Wp.ret (Ret 1 rfl ⟨?_, rfl⟩)
    unfold escT; rw [if_neg n1, if_neg n2, if_neg n3, if_pos h1']; rfl
  have n4 : ¬ (32 ≤ c ∧ c ≤ 126) := by simp only [Bool.and_eq_false_iff, decide_eq_false_iff_not] at h1; omega
  have hq : IntKind.i64.wrap ((c : Int).tdiv 16) = ((c / 16 : Nat) : Int) := by rw [Int.tdiv_eq_ediv_of_nonneg (by omega), wrap_id (by omega) (by omega)]; omega
  have hr : ((c : Int).tmod 16) = ((c % 16 : Nat) : Int) := by rw [Int.tmod_eq_emod_of_nonneg (by omega)]; omega
  refine pur ?_
  refine Wp.draw rfl [0,1,2,3,4,5,6,7,8,9,10,11,12,13,14,15,16,17] 18 18 _ rfl (by decide +kernel) (fun _ h => h) ?_
  refine pur ?_
  refine S.quo rfl rfl rfl (by decide) ?_
  refine pur ?_
  refine S.quo rfl rfl rfl (by decide) ?_
  rw [hq]
  refine pur ?_
  refine S.sliceS (c / 16) (c / 16 + 1) rfl rfl (Bd.at _ rfl (by infer_instance) (fun _ => rfl)) (Bd.at _ rfl (by infer_instance) (fun _ => by rw [wrap_id (by omega) (by omega)]; rfl)) ⟨Nat.le_succ _, by show _ ≤ 16; omega⟩ ?_
  rw [digs_cut (by omega)]
  refine S.sadd rfl rfl rfl (by rw [bs_ofL]; show 2 + 1 < _; omega) ?_
  refine pur ?_
  refine S.rem rfl rfl rfl (by decide) ?_
  refine pur ?_
  refine S.rem rfl rfl rfl (by decide) ?_
  rw [hr]
  refine pur ?_
  refine S.sliceS (c % 16) (c % 16 + 1) rfl rfl (Bd.at _ rfl (by infer_instance) (fun _ => rfl)) (Bd.at _ rfl (by infer_instance) (fun _ => by rw [wrap_id (by omega) (by omega)]; rfl)) ⟨Nat.le_succ _, by show _ ≤ 16; omega⟩ ?_
  rw [digs_cut (by omega)]
  refine S.sadd rfl rfl rfl (by rw [bs_append, bs_ofL, bs_ofL, List.length_append]; show 2 + 1 + 1 < _; omega) ?_
  refine pur ?_
  refine Wp.ret (Ret 0 rfl ⟨?_, rfl⟩)
  unfold escT; rw [if_neg n1, if_neg n2, if_neg n3, if_neg n4]
  show Value.tuple #[.string (ofL [92, 120] ++ ofL [digs.getD (c / 16) 0] ++ ofL [digs.getD (c % 16) 0]), _] = _
  rw [ofL_app, ofL_app]; rfl

set_option maxHeartbeats 1000000 in
theorem rquote_ct (s : List UInt8) (hs : s.length ≤ 1048576) (L : List Assn) : Ct Tryz.prog 208 #[.string (ofL s)] L (ret fun v L' => v = .string (ofL (quoteT s)) ∧ L' = L) := by
  refine Ct.body Tryz.func208 rfl Tryz.ntmps208 Tryz.results208 rfl ?_
  refine Wp.parts (L' := ownA 5 1 none 0 (u8s []) :: L) (fun _ q => Sat.ownNil q) ?_
  refine pur ?_
  refine Wp.loopI (α := Nat × Option Addr × Nat) (0, none, 0) (fun y => [(0, .v (.string (ofL s))), (3, .v (.slice y.2.1 (quoteT (s.take y.1)).length y.2.2)), (4, .v (.int .i64 y.1))])
    (fun y => ownA 5 1 y.2.1 y.2.2 (u8s (quoteT (s.take y.1))) :: L) (fun y => s.length - y.1) (fun y => y.1 ≤ s.length) (Nat.zero_le _) ⟨rfl, rfl, rfl, trivial⟩ (LeL.refl _) ?_
  rintro ⟨i, x⟩ hi
  simp only [] at hi
  show Wp _ _ _ _ [_, (3, .v (.slice x.1 (quoteT (s.take i)).length x.2)), (4, .v (.int .i64 i))] _ (ownA 5 1 x.1 x.2 (u8s (quoteT (s.take i))) :: L)
  have hql := quoteT_len (s.take i)
  rw [List.length_take] at hql
  refine pur ?_
  refine Wp.branch rfl (fun h => ?_) (fun h => ?_)
  · have hix : i < s.length := by have := of_decide_eq_true h; rw [bs_ofL] at this; omega
    have hg := List.getElem?_eq_getElem hix
    generalize s[i] = c at hg
    have hc8 : c.toNat ≤ 255 := by have := c.toNat_lt; omega
    have h4 := escT_len c.toNat
    refine pur ?_
    refine S.index c i rfl rfl rfl rfl (by rw [bs_ofL]; exact hg) ?_
    refine pur ?_
    rw [wrap_id (by omega) (by omega)]
    refine WpO.callq Tryz.call207 rfl rfl (rescape_ct c.toNat hc8 _) Keeps.none ?_
    refine pur ?_
    refine WpO.appendS 0 rfl rfl rfl rfl (u8s_length _).symm rfl rfl (by rw [u8s_length, bs_ofL]; omega) (fun _ _ => Keeps.none) fun a2 k2 => ?_
    rw [u8s_app, u8s_length, bs_ofL, ← quote_snoc s i c hg]
    refine pur ?_
    exact Round.mk (i + 1, a2, k2) (by simp only []; omega) hix ⟨rfl, rfl, inc_e (by omega), trivial⟩ (LeL.refl _)
  · have hin : s.length ≤ i := by have := of_decide_eq_false h; rw [bs_ofL] at this; omega
    rw [List.take_of_length_le hin]
    refine pur ?_
    refine WpO.know (fun k q => own_know 0 rfl q) fun hkn => ?_
    refine S.bytesStr (quoteT s) rfl rfl (Sl.own 0 rfl hkn) rfl ?_
    refine pur ?_
    exact Wp.ret (Ret 1 rfl ⟨rfl, rfl⟩)

theorem mark_am {s : List UInt8} (h : s ∈ isMarkL) : amF s marksT = true := by
  have : (isMarkL.all fun s => amF s marksT) = true := by decide +kernel
  rw [List.all_eq_true] at this; exact this s h
theorem op_am {s : List UInt8} (h : s ∈ opTexts) : amF s opsT = true := by
  have : (opTexts.all fun s => amF s opsT) = true := by decide +kernel
  rw [List.all_eq_true] at this; exact this s h
theorem mark_short {s : List UInt8} (h : s ∈ isMarkL) : s.length < 100 := by
  have : (isMarkL.all fun s => decide (s.length < 100)) = true := by decide +kernel
  rw [List.all_eq_true] at this; exact of_decide_eq_true (this s h)
theorem op_short {s : List UInt8} (h : s ∈ opTexts) : s.length < 100 := by
  have : (opTexts.all fun s => decide (s.length < 100)) = true := by decide +kernel
  rw [List.all_eq_true] at this; exact of_decide_eq_true (this s h)
set_option maxHeartbeats 4000000 in
theorem rone_ct (k : Tok) (hk : TokOk k) (L : List Assn) : Ct Tryz.prog 179 #[.agg #[.int .i64 k.kind, .string (ofL k.text), .int .i64 k.num, .int .i64 k.pos]] L (ret fun v L' => v = .tuple #[.string (ofL (tokText k)), .bool true] ∧ L' = L) := by
  refine Ct.body Tryz.func179 rfl Tryz.ntmps179 Tryz.results179 rfl ?_
  refine pur ?_
  refine WpO.box (vs := [.int .i64 k.kind, .string (ofL k.text), .int .i64 k.num, .int .i64 k.pos]) rfl rfl rfl (fun _ => Keeps.none) fun b1 => ?_
  cases hk with
  | int n p h h2 =>
    obtain ⟨c, rfl⟩ := Int.eq_ofNat_of_zero_le h
    refine pur ?_
    refine Wp.draw rfl [0,1,3,4,5,2,6,7] 8 8 _ rfl (by decide +kernel) (fun _ h => h) ?_
    refine pur ?_
    refine WpO.callq Tryz.call206 rfl rfl (rdigits_ct c (by omega) _) (Keeps.by fun _ h => h) ?_
    refine pur ?_
    exact Wp.ret (Ret 1 rfl ⟨rfl, rfl⟩)
  | chr n p h h2 =>
    obtain ⟨c, rfl⟩ := Int.eq_ofNat_of_zero_le h
    have h4 := escT_len c
    refine pur ?_
    refine WpO.callq Tryz.call207 rfl rfl (rescape_ct c (by omega) _) Keeps.none ?_
    refine pur ?_
    refine S.sadd rfl rfl rfl (by rw [bs_ofL]; show 1 + _ < _; omega) ?_
    refine S.sadd rfl rfl rfl (by rw [bs_append, bs_ofL, List.length_append]; show 1 + _ + 1 < _; omega) ?_
    refine pur ?_
    refine Wp.ret (Ret 1 rfl ⟨?_, rfl⟩)
    show Value.tuple #[.string (ofL [39] ++ ofL (escT c) ++ ofL [39]), _] = _
    rw [ofL_app, ofL_app]; rfl
  | str s p h =>
    have hql := quoteT_len s
    refine pur ?_
    refine WpO.callq Tryz.call208 rfl rfl (rquote_ct s h _) Keeps.none ?_
    refine S.sadd rfl rfl rfl (by rw [bs_ofL]; show 1 + _ < _; omega) ?_
    refine S.sadd rfl rfl rfl (by rw [bs_append, bs_ofL, List.length_append]; show 1 + _ + 1 < _; omega) ?_
    refine pur ?_
    refine Wp.ret (Ret 1 rfl ⟨?_, rfl⟩)
    show Value.tuple #[.string (ofL [34] ++ ofL (quoteT s) ++ ofL [34]), _] = _
    rw [ofL_app, ofL_app]; rfl
  | mark s p h =>
    have hsl := mark_short h
    refine pur ?_
    refine Wp.draw rfl [0,1,2,3,4,5,6,7,8,9] 10 10 _ rfl (by decide +kernel) (fun _ h => h) ?_
    refine pur ?_
    refine WpO.callqg Tryz.call162 rfl rfl (.cons rfl (by infer_instance) (.cons rfl (by infer_instance) .nil)) (fun _ => among_ct (ofL s) ⟨marksT.toArray⟩ _ (by rw [bs_ofL]; omega) (by decide)) (Keeps.by fun _ h => h) ?_
    rw [bs_ofL, show amF s (bs (⟨marksT.toArray⟩ : ByteArray)) = true from mark_am h]
    refine pur ?_
    exact Wp.ret (Ret 1 rfl ⟨rfl, rfl⟩)
  | op s p h =>
    have hsl := op_short h
    refine pur ?_
    refine Wp.draw rfl [0,1,2,3,4,5,6,7,8,9] 10 10 _ rfl (by decide +kernel) (fun _ h => h) ?_
    refine pur ?_
    refine WpO.callqg Tryz.call162 rfl rfl (.cons rfl (by infer_instance) (.cons rfl (by infer_instance) .nil)) (fun _ => among_ct (ofL s) ⟨opsT.toArray⟩ _ (by rw [bs_ofL]; omega) (by decide)) (Keeps.by fun _ h => h) ?_
    rw [bs_ofL, show amF s (bs (⟨opsT.toArray⟩ : ByteArray)) = true from op_am h]
    refine pur ?_
    exact Wp.ret (Ret 1 rfl ⟨rfl, rfl⟩)
  | name s kk p h h2 =>
    have hsl := nameF_len (s := s) (by omega)
    have hfin : Value.tuple #[.string (ofL s), .bool (true && decide (kk = kk))] = Value.tuple #[.string (ofL (tokText ⟨kk, s, 0, p⟩)), .bool true] := by
      rw [name_tok h, decide_eq_true rfl]; rfl
    refine pur ?_
    refine Wp.branch rfl (fun _ => ?_) (fun g1 => ?_)
    · refine pur ?_
      refine Wp.draw rfl [0,1,2,3,4,5,7,8,6,9,10,11,12] 13 13 _ rfl (by decide +kernel) (fun _ h => h) ?_
      refine pur ?_
      refine WpO.callqg Tryz.call125 rfl rfl (.cons rfl (by infer_instance) .nil) (fun _ => rname_ct (ofL s) _ (by rw [bs_ofL]; omega)) (Keeps.by fun _ h => h) ?_
      rw [bs_ofL, h2]
      refine pur ?_
      exact Wp.ret (Ret 1 rfl ⟨hfin, rfl⟩)
    refine pur ?_
    refine Wp.branch rfl (fun _ => ?_) (fun g2 => ?_)
    · refine pur ?_
      refine Wp.draw rfl [0,1,2,3,4,5,7,8,6,9,10,11,12] 13 13 _ rfl (by decide +kernel) (fun _ h => h) ?_
      refine pur ?_
      refine WpO.callqg Tryz.call125 rfl rfl (.cons rfl (by infer_instance) .nil) (fun _ => rname_ct (ofL s) _ (by rw [bs_ofL]; omega)) (Keeps.by fun _ h => h) ?_
      rw [bs_ofL, h2]
      refine pur ?_
      exact Wp.ret (Ret 1 rfl ⟨hfin, rfl⟩)
    refine pur ?_
    refine Wp.branch rfl (fun _ => ?_) (fun g3 => ?_)
    · refine pur ?_
      refine Wp.draw rfl [0,1,2,3,4,5,7,8,6,9,10,11,12] 13 13 _ rfl (by decide +kernel) (fun _ h => h) ?_
      refine pur ?_
      refine WpO.callqg Tryz.call125 rfl rfl (.cons rfl (by infer_instance) .nil) (fun _ => rname_ct (ofL s) _ (by rw [bs_ofL]; omega)) (Keeps.by fun _ h => h) ?_
      rw [bs_ofL, h2]
      refine pur ?_
      exact Wp.ret (Ret 1 rfl ⟨hfin, rfl⟩)
    · exfalso
      have q1 : ¬ kk = 1 := of_decide_eq_false g1
      have q2 : ¬ kk = 2 := of_decide_eq_false g2
      have q3 : ¬ kk = 6 := of_decide_eq_false g3
      omega
end Go.Proofs.YtikgokpbhldlnaaGreatDoor
end

section
namespace Go.Proofs.YtikgokpbhldlnaaGreatDoor
open Go Go.Ab
attribute [local irreducible] Wp WpO Qt OpT Ct Ent

set_option maxHeartbeats 2000000 in
theorem rtext_ct (l : List Tok) (hok : AllOk l) (a : Option Addr) (c : Nat) (L : List Assn) (hS : Sl L a c 4 (l.map tokRow)) (hl : l.length ≤ 100000) :
    Ct Tryz.prog 127 #[.slice a l.length c] L (ret fun v L' => v = .tuple #[.string (ofL (joinT (l.map tokText))), .int .i64 0] ∧ L' = L) := by
  refine Ct.body Tryz.func127 rfl Tryz.ntmps127 Tryz.results127 rfl ?_
  refine Wp.parts (L' := ownA 5 1 none 0 (u8s []) :: L) (fun _ q => Sat.ownNil q) ?_
  refine pur ?_
  refine Wp.loopI (α := Nat × Option Addr × Nat) (0, none, 0) (fun y => [(0, .v (.slice a l.length c)), (4, .v (.slice y.2.1 (joinT ((l.take y.1).map tokText)).length y.2.2)), (5, .v (.int .i64 y.1))])
    (fun y => ownA 5 1 y.2.1 y.2.2 (u8s (joinT ((l.take y.1).map tokText))) :: L) (fun y => l.length - y.1) (fun y => y.1 ≤ l.length) (Nat.zero_le _) ⟨rfl, rfl, rfl, trivial⟩ (LeL.refl _) ?_
  rintro ⟨i, x⟩ hi
  simp only [] at hi
  show Wp _ _ _ _ [_, (4, .v (.slice x.1 (joinT ((l.take i).map tokText)).length x.2)), (5, .v (.int .i64 i))] _ (ownA 5 1 x.1 x.2 (u8s (joinT ((l.take i).map tokText))) :: L)
  have hjl := toks_len (l := l.take i) (fun k hk => hok k (List.mem_of_mem_take hk))
  rw [List.length_take] at hjl
  have hjl' : (joinT ((l.take i).map tokText)).length ≤ 100000 * 4194401 := Nat.le_trans hjl (Nat.mul_le_mul_right _ (by omega))
  refine pur ?_
  refine Wp.branch rfl (fun h => ?_) (fun h => ?_)
  · have hix := lt_len h
    have hg := List.getElem?_eq_getElem hix
    have hk := hok _ (List.getElem_mem hix)
    generalize l[i] = k at hg hk
    have htl := tok_len hk
    obtain ⟨b, o, rfl, _, hE⟩ := hS.at (i := i) (r := tokRow k) (by simp [hg])
    have hsn := toks_snoc l i k hg
    refine pur ?_
    refine S.idx i rfl rfl rfl rfl hix ?_
    refine S.loadN rfl rfl hE.cons rfl ?_
    refine WpO.callq Tryz.call179 rfl rfl (rone_ct k hk _) Keeps.none ?_
    refine pur ?_
    refine Wp.branch rfl (fun h2 => ?_) (fun h2 => ?_)
    · have h0 : ¬ i = 0 := by have := of_decide_eq_true h2; omega
      rw [if_neg h0] at hsn
      refine pur ?_
      refine WpO.buildSlice rfl rfl rfl rfl rfl rfl rfl (fun _ => Keeps.none) fun bs1 => ?_
      refine WpO.appendLit 0 [[.int .u8 32]] rfl rfl rfl rfl (u8s_length _).symm rfl rfl rfl rfl rfl rfl rfl (by rw [u8s_length]; show (_ + 1) * 1 ≤ _; omega) (fun _ _ => Keeps.none) fun a1 k1 => ?_
      rw [show u8s (joinT ((l.take i).map tokText)) ++ [[Value.int .u8 32]] = u8s (joinT ((l.take i).map tokText) ++ [32]) from u8s_app _ [32], u8s_length]
      refine pur ?_
      refine WpO.appendS 0 rfl rfl rfl rfl (u8s_length _).symm rfl rfl (by rw [u8s_length, bs_ofL, List.length_append]; show (_ + 1 + _) * 1 ≤ _; omega) (fun _ _ => Keeps.none) fun a2 k2 => ?_
      rw [u8s_app, u8s_length, bs_ofL, ← hsn]
      refine pur ?_
      exact Round.mk (i + 1, a2, k2) (by simp only []; omega) hix ⟨rfl, rfl, inc_e (by omega), trivial⟩ (LeL.refl _)
    · have h0 : i = 0 := by have := of_decide_eq_false h2; omega
      rw [if_pos h0, List.append_nil] at hsn
      refine pur ?_
      refine WpO.appendS 0 rfl rfl rfl rfl (u8s_length _).symm rfl rfl (by rw [u8s_length, bs_ofL]; omega) (fun _ _ => Keeps.none) fun a2 k2 => ?_
      rw [u8s_app, u8s_length, bs_ofL, ← hsn]
      refine pur ?_
      exact Round.mk (i + 1, a2, k2) (by simp only []; omega) hix ⟨rfl, rfl, inc_e (by omega), trivial⟩ (LeL.refl _)
  · have hin : l.length ≤ i := by have := of_decide_eq_false h; omega
    rw [List.take_of_length_le hin]
    refine pur ?_
    refine WpO.know (fun k q => own_know 0 rfl q) fun hkn => ?_
    refine S.bytesStr (joinT (l.map tokText)) rfl rfl (Sl.own 0 rfl hkn) rfl ?_
    refine pur ?_
    exact Wp.ret (Ret 1 rfl ⟨rfl, rfl⟩)

/-! ## The document's writer -/
@[reducible] def rm (bw : Nat) (nv : Value) (x : Option Addr × Nat) (st : PSt) (L : List Assn) : List Assn :=
  ptA bw 66 [nv, .slice x.1 st.1.length x.2, .bool st.2] :: ownA 5 1 x.1 x.2 (u8s st.1) :: L
def tx (l : List Tok) : List (List UInt8) := l.map tokText
theorem tx_app (l r : List Tok) : tx (l ++ r) = tx l ++ tx r := by simp [tx]
theorem tok_mk (s : List UInt8) : tokText (mkT s) = s := by
  have : markK s = 7 ∨ markK s = 8 ∨ markK s = 1 ∨ markK s = 2 ∨ markK s = 6 := by
    unfold markK
    split
    · exact .inl rfl
    · split
      · exact .inr (.inl rfl)
      · rename_i h
        rcases nameF_vals s with q | q | q | q | ⟨q, _⟩ <;> simp [q] at h ⊢
  unfold tokText mkT
  rw [if_neg (by show ¬ markK s = 3; omega), if_neg (by show ¬ markK s = 4; omega), if_neg (by show ¬ markK s = 5; omega)]
theorem tx_mk (l : List (List UInt8)) : tx (mk l) = l := by
  unfold tx mk
  rw [List.map_map]
  exact (List.map_congr_left fun s _ => tok_mk s).trans (List.map_id l)
set_option maxHeartbeats 1000000 in
theorem put_ct (bw : Nat) (nv : Value) (x : Option Addr × Nat) (st : PSt) (s : ByteArray) (L : List Assn) (hs : (bs s).length < 1073741824) (hb : st.1.length ≤ 8001) :
    Ct Tryz.prog 61 #[.pointer (some ⟨bw, 0, none⟩), .string s] (rm bw nv x st L) (ret fun _ L' => ∃ x', L' = rm bw nv x' (putF st (bs s)) L) := by
  obtain ⟨b, big⟩ := st
  simp only [] at hb
  refine Ct.body Tryz.func61 rfl Tryz.ntmps61 Tryz.results61 rfl ?_
  refine pur ?_
  rw [wrap_id (i := (b.length : Int) + ((bs s).length : Int)) (by omega) (by omega), wrap_id (by omega) (by omega)]
  refine Wp.branch rfl (fun h => ?_) (fun h => ?_)
  · have h' : big = true ∨ 8001 < b.length + (bs s).length + 1 := by
      simp only [Bool.or_eq_true, decide_eq_true_eq] at h
      rcases h with h | h
      · exact .inl h
      · right; omega
    have hp : putF (b, big) (bs s) = (b, true) := by unfold putF; rw [if_pos h']
    rw [hp]
    refine pur ?_
    exact Wp.ret (Ret 0 rfl ⟨x, rfl⟩)
  have h' : ¬ (big = true ∨ 8001 < b.length + (bs s).length + 1) := by
    simp only [Bool.or_eq_false_iff, decide_eq_false_iff_not] at h
    rintro (q | q)
    · rw [q] at h; cases h.1
    · omega
  have hbig : big = false := by
    cases big with
    | true => exact absurd (.inl rfl) h'
    | false => rfl
  subst hbig
  have hp : putF (b, false) (bs s) = ((if b = [] then [] else b ++ [32]) ++ bs s, false) := by unfold putF; rw [if_neg h']
  rw [hp]
  refine pur ?_
  refine Wp.branch rfl (fun h => ?_) (fun h => ?_)
  · have h0 : ¬ b = [] := by
      have := of_decide_eq_true h
      intro q; rw [q] at this; simp at this
    rw [if_neg h0]
    refine pur ?_
    refine WpO.buildSlice rfl rfl rfl rfl rfl rfl rfl (fun _ => Keeps.none) fun bs1 => ?_
    refine WpO.appendLit 1 [[.int .u8 32]] rfl rfl rfl rfl (u8s_length _).symm rfl rfl rfl rfl rfl rfl rfl (by rw [u8s_length]; show (b.length + 1) * 1 ≤ _; omega) (fun _ _ => Keeps.none) fun a1 k1 => ?_
    rw [show u8s b ++ [[Value.int .u8 32]] = u8s (b ++ [32]) from u8s_app _ [32], u8s_length]
    refine pur ?_
    refine WpO.appendS 1 rfl rfl rfl rfl (u8s_length _).symm rfl rfl (by rw [u8s_length, List.length_append]; show (_ + 1 + _) * 1 ≤ _; omega) (fun _ _ => Keeps.none) fun a2 k2 => ?_
    rw [u8s_app, u8s_length]
    refine pur ?_
    exact RetN 0 rfl ⟨(a2, k2), rfl⟩
  · have h0 : b = [] := by
      have : ¬ ((0 : Int) < (b.length : Int)) := of_decide_eq_false h
      exact List.length_eq_zero_iff.1 (by omega)
    subst h0
    refine pur ?_
    refine WpO.appendS 1 rfl rfl rfl rfl (u8s_length _).symm rfl rfl (by rw [u8s_length]; show (0 + _) * 1 ≤ _; omega) (fun _ _ => Keeps.none) fun a2 k2 => ?_
    rw [u8s_app, u8s_length]
    refine pur ?_
    exact RetN 0 rfl ⟨(a2, k2), rfl⟩
theorem putL_ct (bw : Nat) (nv : Value) (x : Option Addr × Nat) (st : PSt) (s : ByteArray) (l : List UInt8) (hl : bs s = l) (L : List Assn) (hs : (bs s).length < 1073741824) (hb : st.1.length ≤ 8001) :
    Ct Tryz.prog 61 #[.pointer (some ⟨bw, 0, none⟩), .string s] (rm bw nv x st L) (ret fun _ L' => ∃ x', L' = rm bw nv x' (puts st [l]) L) := by
  subst hl; exact put_ct bw nv x st s L hs hb
theorem rname_wct (bw : Nat) (nv : Value) (x : Option Addr × Nat) (st : PSt) (s : ByteArray) (L : List Assn) (hs : (bs s).length < 1073741824) (hb : st.1.length ≤ 8001) :
    Ct Tryz.prog 60 #[.pointer (some ⟨bw, 0, none⟩), .string s] (rm bw nv x st L) (ret fun _ L' => ∃ x', L' = rm bw nv x' (puts st (tx (nmT (bs s)))) L) := by
  refine Ct.body Tryz.func60 rfl Tryz.ntmps60 Tryz.results60 rfl ?_
  refine pur ?_
  refine Wp.branch rfl (fun h => ?_) (fun h => ?_)
  · have h' : bs s = [40, 41] := of_decide_eq_true h
    have hn : tx (nmT (bs s)) = [[40], [41]] := by unfold nmT; rw [if_pos h', tx_mk]
    rw [hn]
    refine pur ?_
    refine WpO.call Tryz.call61 rfl rfl (putL_ct bw nv x st ⟨#[40]⟩ [40] rfl L (by decide) hb) fun v L' ⟨x1, e⟩ => ⟨Keeps.none, ?_⟩
    subst e
    refine pur ?_
    refine WpO.call Tryz.call61 rfl rfl (putL_ct bw nv x1 _ ⟨#[41]⟩ [41] rfl L (by decide) (puts_len _ _ hb)) fun v L' ⟨x2, e⟩ => ⟨Keeps.none, ?_⟩
    subst e
    refine pur ?_
    exact RetN 0 rfl ⟨x2, rfl⟩
  · have h' : ¬ bs s = [40, 41] := of_decide_eq_false h
    have hn : tx (nmT (bs s)) = [bs s] := by unfold nmT; rw [if_neg h', tx_mk]
    rw [hn]
    refine pur ?_
    refine WpO.call Tryz.call61 rfl rfl (putL_ct bw nv x st s (bs s) rfl L hs hb) fun v L' ⟨x1, e⟩ => ⟨Keeps.none, ?_⟩
    subst e
    refine pur ?_
    exact RetN 0 rfl ⟨x1, rfl⟩
theorem rtoken_ct (bw : Nat) (nv : Value) (x : Option Addr × Nat) (st : PSt) (k : Tok) (hk : TokOk k) (L : List Assn) (hb : st.1.length ≤ 8001) :
    Ct Tryz.prog 62 #[.pointer (some ⟨bw, 0, none⟩), .agg #[.int .i64 k.kind, .string (ofL k.text), .int .i64 k.num, .int .i64 k.pos]] (rm bw nv x st L) (ret fun _ L' => ∃ x', L' = rm bw nv x' (puts st (tx [k])) L) := by
  have htl := tok_len hk
  refine Ct.body Tryz.func62 rfl Tryz.ntmps62 Tryz.results62 rfl ?_
  refine pur ?_
  refine WpO.box (vs := [.int .i64 k.kind, .string (ofL k.text), .int .i64 k.num, .int .i64 k.pos]) rfl rfl rfl (fun _ => Keeps.none) fun b1 => ?_
  refine pur ?_
  refine S.loadN (vs := tokRow k) rfl rfl (Ent.pt 0 4 rfl rfl) rfl ?_
  refine WpO.buildSlice rfl rfl rfl rfl rfl rfl rfl (fun _ => Keeps.none) fun b2 => ?_
  have hS : ∀ M, Sl (ptA b2 48 (tokRow k) :: M) (some ⟨b2, 0, none⟩) 1 4 ([k].map tokRow) := fun M => Sl.ofPt 0 rfl (by simp) (by intro r hr; simp at hr; subst hr; rfl) (Nat.le_refl _)
  refine WpO.callq Tryz.call127 rfl rfl (rtext_ct [k] (by intro q hq; simp at hq; subst hq; exact hk) (some ⟨b2, 0, none⟩) 1 _ (hS _) (by show 1 ≤ 100000; decide)) Keeps.none ?_
  rw [show joinT ([k].map tokText) = tokText k from by simp [joinT]]
  refine WpO.parts (L' := rm bw nv x st L) (fun _ q => q.tail.tail) ?_
  refine pur ?_
  refine WpO.call Tryz.call61 rfl rfl (putL_ct bw nv x st (ofL (tokText k)) (tokText k) rfl L (by rw [bs_ofL]; omega) hb) fun v L' ⟨x1, e⟩ => ⟨Keeps.none, ?_⟩
  subst e
  refine pur ?_
  exact RetN 0 rfl ⟨x1, rfl⟩

/-- What the nodes below put. -/
def RNodeOk (t : List Nd) (a : Option Addr) (c : Nat) (bw : Nat) (N : Nat → List UInt8 → List Tok) (j : Nat) : Prop :=
  ∀ (sep : ByteArray) (x : Option Addr × Nat) (st : PSt) (L : List Assn), TreeR L a c t → (bs sep).length < 1073741824 → st.1.length ≤ 8001 →
    Ct Tryz.prog 37 #[.pointer (some ⟨bw, 0, none⟩), .int .i64 j, .string sep] (rm bw (.slice a t.length c) x st L) (ret fun _ L' => ∃ x', L' = rm bw (.slice a t.length c) x' (puts st (tx (N j (bs sep)))) L)
section
variable {t : List Nd} {a : Option Addr} {c bw : Nat} {N : Nat → List UInt8 → List Tok} {j : Nat}
theorem rnodeL_ct (hN : RNodeOk t a c bw N j) (sep : ByteArray) (r : List Tok) (hr : N j (bs sep) = r) (x : Option Addr × Nat) (st : PSt) (L : List Assn) (hT : TreeR L a c t) (hs : (bs sep).length < 1073741824) (hb : st.1.length ≤ 8001) :
    Ct Tryz.prog 37 #[.pointer (some ⟨bw, 0, none⟩), .int .i64 j, .string sep] (rm bw (.slice a t.length c) x st L) (ret fun _ L' => ∃ x', L' = rm bw (.slice a t.length c) x' (puts st (tx r)) L) := by
  subst hr; exact hN sep x st L hT hs hb
theorem rin_ct (hN : RNodeOk t a c bw N j) (w : Bool) (sep : ByteArray) (hr : N j (bs sep) = N j [61]) (x : Option Addr × Nat) (st : PSt) (L : List Assn) (hT : TreeR L a c t) (hs : (bs sep).length < 1073741824) (hb : st.1.length ≤ 8001) :
    Ct Tryz.prog 63 #[.pointer (some ⟨bw, 0, none⟩), .int .i64 j, .bool w, .string sep] (rm bw (.slice a t.length c) x st L) (ret fun _ L' => ∃ x', L' = rm bw (.slice a t.length c) x' (puts st (tx (closedT N j w))) L) := by
  refine Ct.body Tryz.func63 rfl Tryz.ntmps63 Tryz.results63 rfl ?_
  refine pur ?_
  refine Wp.branch rfl (fun h => ?_) (fun h => ?_)
  · subst h
    have hc : tx (closedT N j true) = [[40]] ++ (tx (N j [61]) ++ [[41]]) := by unfold closedT; rw [if_pos rfl, tx_app, tx_app, tx_mk, tx_mk, List.append_assoc]
    rw [hc, puts_app, puts_app]
    refine pur ?_
    refine WpO.call Tryz.call61 rfl rfl (putL_ct bw _ x st ⟨#[40]⟩ [40] rfl L (by decide) hb) fun v L' ⟨x1, e⟩ => ⟨Keeps.none, ?_⟩
    subst e
    refine pur ?_
    refine WpO.call Tryz.call37 rfl rfl (rnodeL_ct hN sep _ hr x1 _ L hT hs (puts_len _ _ hb)) fun v L' ⟨x2, e⟩ => ⟨Keeps.none, ?_⟩
    subst e
    refine pur ?_
    refine WpO.call Tryz.call61 rfl rfl (putL_ct bw _ x2 _ ⟨#[41]⟩ [41] rfl L (by decide) (puts_len _ _ (puts_len _ _ hb))) fun v L' ⟨x3, e⟩ => ⟨Keeps.none, ?_⟩
    subst e
    refine pur ?_
    exact RetN 0 rfl ⟨x3, rfl⟩
  · subst h
    have hc : tx (closedT N j false) = tx (N j [61]) := by unfold closedT; rfl
    rw [hc]
    refine pur ?_
    refine WpO.call Tryz.call37 rfl rfl (rnodeL_ct hN sep _ hr x _ L hT hs hb) fun v L' ⟨x2, e⟩ => ⟨Keeps.none, ?_⟩
    subst e
    refine pur ?_
    exact RetN 0 rfl ⟨x2, rfl⟩
theorem rop_ct (hj : j < t.length) (x : Option Addr × Nat) (st : PSt) (L : List Assn) (hT : TreeR L a c t) :
    Ct Tryz.prog 65 #[.pointer (some ⟨bw, 0, none⟩), .int .i64 j] (rm bw (.slice a t.length c) x st L) (ret fun v L' => v = .int .i64 (ndOf t j).op ∧ L' = rm bw (.slice a t.length c) x st L) := by
  obtain ⟨b, o, ka, kc, rfl, hE, _⟩ := hT.at (ndOf_some hj)
  refine Ct.body Tryz.func65 rfl Tryz.ntmps65 Tryz.results65 rfl ?_
  refine pur ?_
  refine S.idx j rfl rfl rfl rfl hj ?_
  refine pur ?_
  exact Wp.ret (Ret 0 rfl ⟨rfl, rfl⟩)
theorem ropen_ct (hj : j < t.length) (x : Option Addr × Nat) (st : PSt) (L : List Assn) (hT : TreeR L a c t) :
    Ct Tryz.prog 64 #[.pointer (some ⟨bw, 0, none⟩), .int .i64 j] (rm bw (.slice a t.length c) x st L) (ret fun v L' => v = .bool (reachF t j) ∧ L' = rm bw (.slice a t.length c) x st L) := by
  refine Ct.body Tryz.func64 rfl Tryz.ntmps64 Tryz.results64 rfl ?_
  refine pur ?_
  refine WpO.callq Tryz.call65 rfl rfl (rop_ct hj x st L hT) Keeps.none ?_
  refine pur ?_
  refine Wp.ret (Ret 0 rfl ⟨?_, rfl⟩)
  unfold reachF
  congr 1
  rw [Bool.eq_iff_iff]
  simp only [Bool.or_eq_true, decide_eq_true_eq, or_assoc]
theorem rcon_ct (hj : j < t.length) (hsm : Small t) (x : Option Addr × Nat) (st : PSt) (L : List Assn) (hT : TreeR L a c t) :
    Ct Tryz.prog 180 #[.pointer (some ⟨bw, 0, none⟩), .int .i64 j] (rm bw (.slice a t.length c) x st L) (ret fun v L' => v = .bool (decide ((ndOf t j).op = 24) && decide (nameF (bs (ndOf t j).text) = 2)) ∧ L' = rm bw (.slice a t.length c) x st L) := by
  have hT' := hT
  have htx := hsm.text (ndOf t j) (List.mem_of_getElem? (ndOf_some hj))
  obtain ⟨b, o, ka, kc, rfl, hE, _⟩ := hT.at (ndOf_some hj)
  refine Ct.body Tryz.func180 rfl Tryz.ntmps180 Tryz.results180 rfl ?_
  refine pur ?_
  refine WpO.callq Tryz.call65 rfl rfl (rop_ct hj x st L hT') Keeps.none ?_
  refine pur ?_
  refine G.idx j rfl rfl rfl (by infer_instance) rfl (by infer_instance) (fun _ => ⟨rfl, hj⟩) ?_
  refine pur ?_
  refine WpO.callqg Tryz.call125 rfl rfl (.cons rfl (by infer_instance) .nil) (fun _ => rname_ct (ndOf t j).text _ (by omega)) Keeps.none ?_
  refine pur ?_
  exact Wp.ret (Ret 0 rfl ⟨rfl, rfl⟩)
end
end Go.Proofs.YtikgokpbhldlnaaGreatDoor
end

section
namespace Go.Proofs.YtikgokpbhldlnaaGreatDoor
open Go Go.Ab
attribute [local irreducible] Wp WpO Qt OpT Ct Ent

/-! ## What kinds of parts nodes have -/
theorem cls112 {o : Int} (h : classF o = 112) : 25 ≤ o ∧ o ≤ 32 := by
  unfold classF at h
  split at h
  · exact absurd h (by decide)
  split at h
  · assumption
  split at h
  · exact absurd h (by decide)
  split at h
  · exact absurd h (by decide)
  split at h
  · exact absurd h (by decide)
  · exact absurd h (by decide)
theorem cls116 {o : Int} (h : classF o = 116) : o = 23 ∨ o = 24 := by
  unfold classF at h
  split at h
  · exact absurd h (by decide)
  split at h
  · exact absurd h (by decide)
  split at h
  · assumption
  split at h
  · exact absurd h (by decide)
  split at h
  · exact absurd h (by decide)
  · exact absurd h (by decide)
theorem mem_tw {p : Int → Bool} : ∀ {l : List Int} {x : Int}, x ∈ l.takeWhile p → p x = true
  | [], _, h => by cases h
  | y :: l, x, h => by
    by_cases hy : p y = true
    · rw [List.takeWhile_cons_of_pos hy] at h
      rcases List.mem_cons.1 h with rfl | h
      · exact hy
      · exact mem_tw h
    · rw [List.takeWhile_cons_of_neg hy] at h; cases h
structure RK (op : Int) (ops : List Int) : Prop where
  p30 : op = 30 → ∀ o ∈ ops, 25 ≤ o ∧ o ≤ 32
  p24 : op = 24 ∨ op = 22 → ∀ o ∈ ops, o = 23 ∨ o = 24
  p21 : op = 21 → ∀ o ∈ ops, o = 22 ∨ o = 23
  pini : op = 7 ∨ op = 19 → ∀ o ∈ ops.take (ops.length - 1), 25 ≤ o ∧ o ≤ 32
  p14 : op = 14 → 25 ≤ ops.getD 0 0 ∧ ops.getD 0 0 ≤ 32
  p10 : op = 10 → ∀ o ∈ ops.drop 1, o = 14
theorem mem_cls {ops : List Int} {o : Int} (h : o ∈ ops) : classF o ∈ cls ops := List.mem_map.2 ⟨o, h, rfl⟩
theorem rk_of {op : Int} {ops : List Int} {s : List UInt8} (hp : partsF op ops s = true) : RK op ops := by
  constructor
  · rintro rfl o ho
    exact cls112 ((allF_len (parts30 hp).1).1 _ (mem_cls ho))
  · rintro (rfl | rfl) o ho
    · exact cls116 ((allF_len (parts24 hp).1).1 _ (mem_cls ho))
    · have h : allF 116 (cls ops) 0 8 = true := by simpa [partsF] using hp
      exact cls116 ((allF_len h).1 _ (mem_cls ho))
  · rintro rfl o ho
    have h : (decide (((ops.takeWhile (fun x => decide (x = 23))).length : Int) ≤ 8) && onlyF 22 (ops.drop (ops.takeWhile (fun x => decide (x = 23))).length) 1 6000) = true := by simpa [partsF] using hp
    rw [Bool.and_eq_true] at h
    rw [← List.take_append_drop (ops.takeWhile (fun x => decide (x = 23))).length ops] at ho
    rcases List.mem_append.1 ho with ho | ho
    · right
      have e : ops.take (ops.takeWhile (fun x => decide (x = 23))).length = ops.takeWhile (fun x => decide (x = 23)) := by
        obtain ⟨r, hr⟩ := List.takeWhile_prefix (fun x => decide (x = 23)) (l := ops)
        conv => lhs; rw [← hr]
        rw [List.take_append_of_le_length (by rw [hr]; exact Nat.le_refl _), hr]
        exact List.take_length
      rw [e] at ho
      have := mem_tw ho
      exact of_decide_eq_true this
    · left; exact (onlyF_len h.2).1 o ho
  · rintro (rfl | rfl) o ho
    · have h : ((decide ((2 : Int) ≤ (ops.length : Int)) && allF 112 ((cls ops).take (ops.length - 1)) 1 8) && decide (((at0 (cls ops) (ops.length - 1)).toNat : Int) = 101)) = true := by simpa [partsF] using hp
      simp only [Bool.and_eq_true] at h
      refine cls112 ((allF_len h.1.2).1 _ ?_)
      unfold cls; rw [← List.map_take]; exact mem_cls ho
    · have h : ((decide ((1 : Int) ≤ (ops.length : Int)) && allF 112 ((cls ops).take (ops.length - 1)) 0 8) && decide (ops.getD (ops.length - 1) 0 = 15)) = true := by simpa [partsF] using hp
      simp only [Bool.and_eq_true] at h
      refine cls112 ((allF_len h.1.2).1 _ ?_)
      unfold cls; rw [← List.map_take]; exact mem_cls ho
  · rintro rfl
    have h : ((decide ((ops.length : Int) = 2) && decide (((at0 (cls ops) 0).toNat : Int) = 112)) && decide (ops.getD 1 0 = 15)) = true := by simpa [partsF] using hp
    simp only [Bool.and_eq_true, decide_eq_true_eq] at h
    obtain ⟨o, r, rfl⟩ : ∃ o r, ops = o :: r := by
      cases ops with
      | nil => simp at h
      | cons o r => exact ⟨o, r, rfl⟩
    have h1 : ((classF o).toNat : Int) = 112 := h.1.2
    have h2 : classF o = 112 := UInt8.toNat_inj.1 (by show (classF o).toNat = 112; omega)
    exact cls112 h2
  · rintro rfl o ho
    have h : ((decide ((2 : Int) ≤ (ops.length : Int)) && decide (((at0 (cls ops) 0).toNat : Int) = 101)) && onlyF 14 (ops.drop 1) 1 6000) = true := by simpa [partsF] using hp
    rw [Bool.and_eq_true] at h
    exact (onlyF_len h.2).1 o ho

structure RKd (t : List Nd) (a : Option Addr) (c bw : Nat) (N : Nat → List UInt8 → List Tok) (fs : List Nat) (ka : Option Addr) (kc : Nat) (L : List Assn) : Prop where
  hN : ∀ j ∈ fs, RNodeOk t a c bw N j
  lt : ∀ j ∈ fs, j < t.length
  sm : Small t
  tr : TreeR L a c t
  sl : Sl L ka kc 1 (ints (natI fs))
  fl : fs.length ≤ 1048576
  sp : ∀ j ∈ fs, (ndOf t j).op ≠ 15 ∧ (ndOf t j).op ≠ 16 ∧ (ndOf t j).op ≠ 17 → ∀ s s', N j s = N j s'
section
variable {t : List Nd} {a : Option Addr} {c bw : Nat} {N : Nat → List UInt8 → List Tok} {fs : List Nat} {ka : Option Addr} {kc : Nat} {L : List Assn}
theorem RKd.kid (C : RKd t a c bw N fs ka kc L) {k j : Nat} (h : fs[k]? = some j) : ∃ b o, ka = some ⟨b, o, none⟩ ∧ Ent L (CellsAt b (o + k * 1) [.int .i64 (j : Int)]) := ints_at C.sl (natI_get h)
theorem RKd.kid2 {b o : Nat} (C : RKd t a c bw N fs (some ⟨b, o, none⟩) kc L) {k j : Nat} (h : fs[k]? = some j) : Ent L (CellsAt b (o + k * 1) [.int .i64 (j : Int)]) := by
  obtain ⟨b', o', e, hE⟩ := C.kid h
  simp only [Option.some.injEq, Addr.mk.injEq, and_true] at e
  obtain ⟨rfl, rfl⟩ := e
  exact hE
theorem RKd.cap (C : RKd t a c bw N fs ka kc L) : fs.length ≤ kc := by
  have := C.sl.cap
  rwa [ints_length, show (natI fs).length = fs.length from by simp [natI]] at this
theorem RKd.init {l : List Nat} {z : Nat} (C : RKd t a c bw N (l ++ [z]) ka kc L) : RKd t a c bw N l ka kc L :=
  ⟨fun j hj => C.hN j (by simp [hj]), fun j hj => C.lt j (by simp [hj]), C.sm, C.tr, by
    have := C.sl.take l.length
    rwa [show (ints (natI (l ++ [z]))).take l.length = ints (natI l) from by simp [ints, natI]] at this, by have := C.fl; simp at this; omega, fun j hj => C.sp j (by simp [hj])⟩
theorem RKd.rest {j : Nat} {r : List Nat} (C : RKd t a c bw N (j :: r) ka kc L) : RKd t a c bw N r (slA ka kc 1 1) (kc - 1) L :=
  ⟨fun k hk => C.hN k (by simp [hk]), fun k hk => C.lt k (by simp [hk]), C.sm, C.tr, C.sl.drop 1 (by simp [ints, natI]), by have := C.fl; simp at this; omega, fun k hk => C.sp k (by simp [hk])⟩
theorem RKd.cons (C : RKd t a c bw N fs ka kc L) {A : Assn} : RKd t a c bw N fs ka kc (A :: L) := ⟨C.hN, C.lt, C.sm, C.tr.cons, C.sl.cons, C.fl, C.sp⟩
theorem rinW_ct {j : Nat} (hN : RNodeOk t a c bw N j) (w w' : Bool) (hw : w = w') (sep : ByteArray) (hr : N j (bs sep) = N j [61]) (x : Option Addr × Nat) (st : PSt) (L : List Assn) (hT : TreeR L a c t) (hs : (bs sep).length < 1073741824) (hb : st.1.length ≤ 8001) :
    Ct Tryz.prog 63 #[.pointer (some ⟨bw, 0, none⟩), .int .i64 j, .bool w, .string sep] (rm bw (.slice a t.length c) x st L) (ret fun _ L' => ∃ x', L' = rm bw (.slice a t.length c) x' (puts st (tx (closedT N j w'))) L) := by
  subst hw; exact rin_ct hN w sep hr x st L hT hs hb
set_option maxHeartbeats 1000000 in
theorem rlist_ct (C : RKd t a c bw N fs ka kc L) (m sep : ByteArray) (l : List UInt8) (hm : bs m = l) (hml : (bs m).length < 1073741824) (hsl : (bs sep).length < 1073741824) (hsp : ∀ j ∈ fs, N j (bs sep) = N j [61]) (x : Option Addr × Nat) (st : PSt) (hb : st.1.length ≤ 8001) :
    Ct Tryz.prog 67 #[.pointer (some ⟨bw, 0, none⟩), .slice ka fs.length kc, .string m, .string sep] (rm bw (.slice a t.length c) x st L) (ret fun _ L' => ∃ x', L' = rm bw (.slice a t.length c) x' (puts st (tx (betweenT N l fs))) L) := by
  have hfl := C.fl
  refine Ct.body Tryz.func67 rfl Tryz.ntmps67 Tryz.results67 rfl ?_
  refine pur ?_
  refine Wp.loopI (α := Nat × Option Addr × Nat) (0, x) (fun y => [(0, .v (.pointer (some ⟨bw, 0, none⟩))), (1, .v (.slice ka fs.length kc)), (2, .v (.string m)), (3, .v (.string sep)), (8, .v (.int .i64 y.1))])
    (fun y => rm bw (.slice a t.length c) y.2 (puts st (tx (betweenT N l (fs.take y.1)))) L) (fun y => fs.length - y.1) (fun y => y.1 ≤ fs.length) (Nat.zero_le _) ⟨rfl, rfl, rfl, rfl, rfl, trivial⟩ (LeL.refl _) ?_
  rintro ⟨i, x⟩ hi
  simp only [] at hi
  show Wp _ _ _ _ [_, _, _, _, (8, .v (.int .i64 i))] _ (rm bw (.slice a t.length c) x (puts st (tx (betweenT N l (fs.take i)))) L)
  refine pur ?_
  refine Wp.branch rfl (fun h => ?_) (fun h => ?_)
  · have hix := lt_len h
    have hg := List.getElem?_eq_getElem hix
    have hmem := List.getElem_mem hix
    generalize fs[i] = j at hg hmem
    obtain ⟨b2, o2, rfl, hE2⟩ := C.kid hg
    have hsn := between_snoc (N := N) l fs i j hg
    have hnext : puts st (tx (betweenT N l (fs.take (i + 1)))) = puts (puts (puts st (tx (betweenT N l (fs.take i)))) (if i = 0 then [] else [l])) (tx (N j [61])) := by
      rw [hsn]
      unfold btw
      rw [tx_app, tx_app, puts_app, puts_app]
      split
      · rfl
      · rw [tx_mk]
    refine pur ?_
    refine Wp.branch rfl (fun h2 => ?_) (fun h2 => ?_)
    · have h0 : ¬ i = 0 := by have := of_decide_eq_true h2; omega
      rw [if_neg h0] at hnext
      refine pur ?_
      refine WpO.call Tryz.call61 rfl rfl (putL_ct bw _ x _ m l hm L hml (puts_len _ _ hb)) fun v L' ⟨x1, e⟩ => ⟨Keeps.none, ?_⟩
      subst e
      refine pur ?_
      refine S.idx i rfl rfl rfl rfl hix ?_
      refine pur ?_
      refine WpO.call Tryz.call37 rfl rfl (rnodeL_ct (C.hN j hmem) sep _ (hsp j hmem) x1 _ L C.tr hsl (puts_len _ _ (puts_len _ _ hb))) fun v L' ⟨x2, e⟩ => ⟨Keeps.none, ?_⟩
      subst e
      refine pur ?_
      refine Round.mk (i + 1, x2) (by simp only []; omega) hix ⟨rfl, rfl, rfl, rfl, inc_e (by omega), trivial⟩ ?_
      show LeL _ (rm bw _ x2 (puts st (tx (betweenT N l (fs.take (i + 1))))) L)
      rw [hnext]; exact LeL.refl _
    · have h0 : i = 0 := by have := of_decide_eq_false h2; omega
      rw [if_pos h0, puts_nil] at hnext
      refine pur ?_
      refine S.idx i rfl rfl rfl rfl hix ?_
      refine pur ?_
      refine WpO.call Tryz.call37 rfl rfl (rnodeL_ct (C.hN j hmem) sep _ (hsp j hmem) x _ L C.tr hsl (puts_len _ _ hb)) fun v L' ⟨x2, e⟩ => ⟨Keeps.none, ?_⟩
      subst e
      refine pur ?_
      refine Round.mk (i + 1, x2) (by simp only []; omega) hix ⟨rfl, rfl, rfl, rfl, inc_e (by omega), trivial⟩ ?_
      show LeL _ (rm bw _ x2 (puts st (tx (betweenT N l (fs.take (i + 1))))) L)
      rw [hnext]; exact LeL.refl _
  · have hin : fs.length ≤ i := by have := of_decide_eq_false h; omega
    refine pur ?_
    refine RetN 0 rfl ⟨x, ?_⟩
    rw [List.take_of_length_le hin]; rfl
theorem args_next (st : PSt) (fs : List Nat) (i j : Nat) (hg : fs[i]? = some j) : puts st (tx (argsT t N (fs.take (i + 1)))) = puts (puts st (tx (argsT t N (fs.take i)))) (tx (closedT N j (wantedF t j))) := by
  have hsn := flat_snoc (fun j => closedT N j (wantedF t j)) fs i j hg
  unfold argsT
  rw [hsn, tx_app, puts_app]
set_option maxHeartbeats 2000000 in
theorem rapats_ct (C : RKd t a c bw N fs ka kc L) (hp : ∀ j ∈ fs, 25 ≤ (ndOf t j).op ∧ (ndOf t j).op ≤ 32) (x : Option Addr × Nat) (st : PSt) (hb : st.1.length ≤ 8001) :
    Ct Tryz.prog 66 #[.pointer (some ⟨bw, 0, none⟩), .slice ka fs.length kc] (rm bw (.slice a t.length c) x st L) (ret fun _ L' => ∃ x', L' = rm bw (.slice a t.length c) x' (puts st (tx (argsT t N fs))) L) := by
  have hfl := C.fl
  refine Ct.body Tryz.func66 rfl Tryz.ntmps66 Tryz.results66 rfl ?_
  refine pur ?_
  refine Wp.loopI (α := Nat × Option Addr × Nat) (0, x) (fun y => [(0, .v (.pointer (some ⟨bw, 0, none⟩))), (1, .v (.slice ka fs.length kc)), (4, .v (.int .i64 y.1))])
    (fun y => rm bw (.slice a t.length c) y.2 (puts st (tx (argsT t N (fs.take y.1)))) L) (fun y => fs.length - y.1) (fun y => y.1 ≤ fs.length) (Nat.zero_le _) ⟨rfl, rfl, rfl, trivial⟩ (LeL.refl _) ?_
  rintro ⟨i, x⟩ hi
  simp only [] at hi
  show Wp _ _ _ _ [_, _, (4, .v (.int .i64 i))] _ (rm bw (.slice a t.length c) x (puts st (tx (argsT t N (fs.take i)))) L)
  refine pur ?_
  refine Wp.branch rfl (fun h => ?_) (fun h => ?_)
  · have hix := lt_len h
    have hg := List.getElem?_eq_getElem hix
    have hmem := List.getElem_mem hix
    generalize fs[i] = j at hg hmem
    have hj := C.lt j hmem
    have hpj := hp j hmem
    obtain ⟨b2, o2, rfl, hE2⟩ := C.kid hg
    obtain ⟨bt, ot, ka2, kc2, rfl, hE, _⟩ := C.tr.at (ndOf_some hj)
    have hnext := args_next (N := N) (t := t) st fs i j hg
    have hw : (decide ((ndOf t j).op = 30) && decide (0 < ((ndOf t j).kids.length : Int))) = wantedF t j := by
      unfold wantedF
      rw [decide_eq_false (p := (ndOf t j).op = 24) (by omega)]; simp
    refine pur ?_
    refine Wp.draw rfl [0,1,2,3,4,5,6,7,8,9,10,11,12] 12 12 _ rfl (by decide +kernel) (fun _ h => h) ?_
    refine pur ?_
    refine S.idx i rfl rfl rfl rfl hix ?_
    refine pur ?_
    refine S.idx j rfl rfl rfl rfl hj ?_
    refine S.loadN rfl rfl hE.cons.cons rfl ?_
    refine WpO.alloc rfl rfl (fun _ => Keeps.by fun _ s => s.tail) fun b5 => ?_
    refine pur ?_
    refine Wp.parts LeL.third ?_
    refine Wp.draw rfl [0,1,2,3,4,5,6,7,8,9,10,11,12,13,14] 15 15 (ptA b5 36 [.int .i64 (ndOf t j).op, .string (ndOf t j).text, .int .i64 (ndOf t j).num, .slice ka2 (ndOf t j).kids.length kc2] :: L) rfl (by decide +kernel) (fun _ h => h.tail.tail) ?_
    refine pur ?_
    refine S.idx i rfl rfl rfl rfl hix ?_
    refine pur ?_
    refine WpO.call Tryz.call63 rfl rfl (rinW_ct (C.hN j hmem) _ _ hw ⟨#[]⟩ (C.sp j hmem (by omega) _ _) x _ _ C.tr.cons (by decide) (puts_len _ _ hb)) fun v L' ⟨x2, e⟩ => ⟨by subst e; exact Keeps.by fun _ h => h.tail.tail, ?_⟩
    subst e
    rw [← hnext]
    refine pur ?_
    exact Round.mk (i + 1, x2) (by simp only []; omega) hix ⟨rfl, rfl, inc_e (by omega), trivial⟩ LeL.drop3
  · have hin : fs.length ≤ i := by have := of_decide_eq_false h; omega
    refine pur ?_
    refine RetN 0 rfl ⟨x, ?_⟩
    rw [List.take_of_length_le hin]; rfl
set_option maxHeartbeats 2000000 in
theorem ratypes_ct (C : RKd t a c bw N fs ka kc L) (hp : ∀ j ∈ fs, (ndOf t j).op = 23 ∨ (ndOf t j).op = 24) (x : Option Addr × Nat) (st : PSt) (hb : st.1.length ≤ 8001) :
    Ct Tryz.prog 128 #[.pointer (some ⟨bw, 0, none⟩), .slice ka fs.length kc] (rm bw (.slice a t.length c) x st L) (ret fun _ L' => ∃ x', L' = rm bw (.slice a t.length c) x' (puts st (tx (argsT t N fs))) L) := by
  have hfl := C.fl
  refine Ct.body Tryz.func128 rfl Tryz.ntmps128 Tryz.results128 rfl ?_
  refine pur ?_
  refine Wp.loopI (α := Nat × Option Addr × Nat) (0, x) (fun y => [(0, .v (.pointer (some ⟨bw, 0, none⟩))), (1, .v (.slice ka fs.length kc)), (4, .v (.int .i64 y.1))])
    (fun y => rm bw (.slice a t.length c) y.2 (puts st (tx (argsT t N (fs.take y.1)))) L) (fun y => fs.length - y.1) (fun y => y.1 ≤ fs.length) (Nat.zero_le _) ⟨rfl, rfl, rfl, trivial⟩ (LeL.refl _) ?_
  rintro ⟨i, x⟩ hi
  simp only [] at hi
  show Wp _ _ _ _ [_, _, (4, .v (.int .i64 i))] _ (rm bw (.slice a t.length c) x (puts st (tx (argsT t N (fs.take i)))) L)
  refine pur ?_
  refine Wp.branch rfl (fun h => ?_) (fun h => ?_)
  · have hix := lt_len h
    have hg := List.getElem?_eq_getElem hix
    have hmem := List.getElem_mem hix
    generalize fs[i] = j at hg hmem
    have hj := C.lt j hmem
    have hpj := hp j hmem
    have hTr := C.tr
    obtain ⟨b2, o2, rfl, hE2⟩ := C.kid hg
    obtain ⟨bt, ot, ka2, kc2, rfl, hE, _⟩ := C.tr.at (ndOf_some hj)
    have hnext := args_next (N := N) (t := t) st fs i j hg
    have hw : (decide ((ndOf t j).op = 24) && decide (bs (ndOf t j).text = [45, 62]) || decide ((ndOf t j).op = 24) && decide (nameF (bs (ndOf t j).text) = 2) && decide (0 < ((ndOf t j).kids.length : Int))) = wantedF t j := by
      unfold wantedF
      rw [decide_eq_false (p := (ndOf t j).op = 30) (by omega)]
      cases decide ((ndOf t j).op = 24) <;> cases decide (bs (ndOf t j).text = [45, 62]) <;> cases decide (nameF (bs (ndOf t j).text) = 2) <;> cases decide (0 < ((ndOf t j).kids.length : Int)) <;> rfl
    refine pur ?_
    refine Wp.draw rfl [0,1,2,3,4,5,6,7,8,9,10,11,12] 12 12 _ rfl (by decide +kernel) (fun _ h => h) ?_
    refine pur ?_
    refine S.idx i rfl rfl rfl rfl hix ?_
    refine pur ?_
    refine S.idx j rfl rfl rfl rfl hj ?_
    refine S.loadN rfl rfl hE.cons.cons rfl ?_
    refine WpO.alloc rfl rfl (fun _ => Keeps.by fun _ s => s.tail) fun b5 => ?_
    refine pur ?_
    refine Wp.parts LeL.third ?_
    refine Wp.draw rfl [0,1,2,3,4,5,6,7,8,9,10,11,12,13,14,15,16,17,18,19,20,21,22,23,24,25,26,27] 28 28 (ptA b5 36 [.int .i64 (ndOf t j).op, .string (ndOf t j).text, .int .i64 (ndOf t j).num, .slice ka2 (ndOf t j).kids.length kc2] :: L) rfl (by decide +kernel) (fun _ h => h.tail.tail) ?_
    refine pur ?_
    refine S.idx i rfl rfl rfl rfl hix ?_
    refine pur ?_
    refine G.idx i rfl rfl rfl (by infer_instance) rfl (by infer_instance) (fun _ => ⟨rfl, hix⟩) ?_
    refine pur ?_
    refine WpO.callqg Tryz.call180 rfl rfl (.cons rfl (by infer_instance) (.cons rfl (by infer_instance) .nil)) (fun _ => rcon_ct hj C.sm x _ _ hTr.cons) (Keeps.by fun _ h => h.tail.tail) ?_
    refine pur ?_
    refine WpO.call Tryz.call63 rfl rfl (rinW_ct (C.hN j hmem) _ _ hw ⟨#[]⟩ (C.sp j hmem (by omega) _ _) x _ _ C.tr.cons (by decide) (puts_len _ _ hb)) fun v L' ⟨x2, e⟩ => ⟨by subst e; exact Keeps.by fun _ h => h.tail.tail, ?_⟩
    subst e
    rw [← hnext]
    refine pur ?_
    exact Round.mk (i + 1, x2) (by simp only []; omega) hix ⟨rfl, rfl, inc_e (by omega), trivial⟩ LeL.drop3
  · have hin : fs.length ≤ i := by have := of_decide_eq_false h; omega
    refine pur ?_
    refine RetN 0 rfl ⟨x, ?_⟩
    rw [List.take_of_length_le hin]; rfl
end
end Go.Proofs.YtikgokpbhldlnaaGreatDoor
end
