/- Parts of a proof: Ca Cb Cc Cd Ce Cf Cg. -/
import Derived.Test.YtikgokpbhldlnaaGreatDoorYMk
import Derived.Test.YtikgokpbhldlnaaGreatDoorYQa
import Derived.Shelf.Strconv.ParseIntPublic10
import Derived.Lib.Bytealg
import Derived.WideLaws
set_option linter.unusedVariables false
set_option linter.unusedSimpArgs false
set_option linter.unusedSectionVars false
section
/- The shelf's contracts of strconv.ParseInt and strconv.toError, laid at this program (the table was read off by the kit's own command, at home). -/
namespace Go.Proofs.YtikgokpbhldlnaaGreatDoor
open Go Go.Shelf Go.Proofs Go.RowKit Go.Ab
def lays174_ren : Ren := {
  f := fun x => match x with
    | 174 => 97
    | 247 => 151
    | 245 => 152
    | 287 => 193
    | 279 => 194
    | 280 => 195
    | 281 => 196
    | 282 => 197
    | 321 => 213
    | 322 => 214
    | 316 => 215
    | 171 => 111
    | 205 => 216
    | 243 => 170
    | 246 => 205
    | 283 => 223
    | 284 => 224
    | 285 => 225
    | 286 => 226
    | 129 => 233
    | 317 => 232
    | 318 => 234
    | 319 => 235
    | 320 => 236
    | 337 => 241
    | 338 => 242
    | n => n
  t := fun x => match x with
    | 9 => 9
    | 3 => 3
    | 2 => 2
    | 75 => 91
    | 85 => 124
    | 4 => 4
    | 167 => 169
    | 5 => 5
    | 53 => 166
    | 175 => 170
    | 46 => 145
    | 168 => 172
    | 37 => 64
    | 0 => 0
    | 210 => 185
    | 21 => 21
    | 127 => 135
    | 145 => 198
    | 143 => 196
    | 171 => 191
    | 173 => 194
    | 212 => 200
    | 51 => 163
    | 20 => 20
    | 213 => 201
    | 232 => 204
    | 233 => 205
    | 80 => 95
    | n => n
  g := fun x => match x with
    | 15 => 0
    | 16 => 1
    | 17 => 3
    | 18 => 4
    | 19 => 5
    | n => n }
theorem lays174 : LaysC.n174 Tryz.prog lays174_ren where
  mixed := by kernel_rfl
  f129 := Tryz.func233.trans (by kernel_rfl)
  f171 := Tryz.func111.trans (by kernel_rfl)
  f174 := Tryz.func97.trans (by kernel_rfl)
  f205 := Tryz.func216.trans (by kernel_rfl)
  f243 := Tryz.func170.trans (by kernel_rfl)
  f245 := Tryz.func152.trans (by kernel_rfl)
  f246 := Tryz.func205.trans (by kernel_rfl)
  f247 := Tryz.func151.trans (by kernel_rfl)
  f279 := Tryz.func194.trans (by kernel_rfl)
  f280 := Tryz.func195.trans (by kernel_rfl)
  f281 := Tryz.func196.trans (by kernel_rfl)
  f282 := Tryz.func197.trans (by kernel_rfl)
  f283 := Tryz.func223.trans (by kernel_rfl)
  f284 := Tryz.func224.trans (by kernel_rfl)
  f285 := Tryz.func225.trans (by kernel_rfl)
  f286 := Tryz.func226.trans (by kernel_rfl)
  f287 := Tryz.func193.trans (by kernel_rfl)
  f316 := Tryz.func215.trans (by kernel_rfl)
  f317 := Tryz.func232.trans (by kernel_rfl)
  f318 := Tryz.func234.trans (by kernel_rfl)
  f319 := Tryz.func235.trans (by kernel_rfl)
  f320 := Tryz.func236.trans (by kernel_rfl)
  f321 := Tryz.func213.trans (by kernel_rfl)
  f322 := Tryz.func214.trans (by kernel_rfl)
  f337 := Tryz.func241.trans (by kernel_rfl)
  f338 := Tryz.func242.trans (by kernel_rfl)
  t0 := Tryz.underlying0
  a0 := Tryz.isAgg0
  z0 := Tryz.sizeOf0
  v0 := Tryz.zeroValue0
  t2 := Tryz.underlying2
  a2 := Tryz.isAgg2
  z2 := Tryz.sizeOf2
  v2 := Tryz.zeroValue2
  t3 := Tryz.underlying3
  a3 := Tryz.isAgg3
  z3 := Tryz.sizeOf3
  v3 := Tryz.zeroValue3
  t4 := Tryz.underlying4
  a4 := Tryz.isAgg4
  z4 := Tryz.sizeOf4
  v4 := Tryz.zeroValue4
  t5 := Tryz.underlying5
  a5 := Tryz.isAgg5
  z5 := Tryz.sizeOf5
  v5 := Tryz.zeroValue5
  t9 := Tryz.underlying9
  a9 := Tryz.isAgg9
  z9 := Tryz.sizeOf9
  v9 := Tryz.zeroValue9
  t20 := Tryz.underlying20
  a20 := Tryz.isAgg20
  z20 := Tryz.sizeOf20
  v20 := Tryz.zeroValue20
  t21 := Tryz.underlying21
  a21 := Tryz.isAgg21
  z21 := Tryz.sizeOf21
  v21 := Tryz.zeroValue21
  t37 := Tryz.underlying64
  a37 := Tryz.isAgg64
  z37 := Tryz.sizeOf64
  v37 := Tryz.zeroValue64
  t46 := Tryz.underlying145
  a46 := Tryz.isAgg145
  z46 := Tryz.sizeOf145
  v46 := Tryz.zeroValue145
  t51 := Tryz.underlying163
  a51 := Tryz.isAgg163
  z51 := Tryz.sizeOf163
  v51 := Tryz.zeroValue163
  t53 := Tryz.underlying166
  a53 := Tryz.isAgg166
  z53 := Tryz.sizeOf166
  v53 := Tryz.zeroValue166
  t75 := Tryz.underlying91
  a75 := Tryz.isAgg91
  z75 := Tryz.sizeOf91
  v75 := Tryz.zeroValue91
  t85 := Tryz.underlying124
  a85 := Tryz.isAgg124
  z85 := Tryz.sizeOf124
  v85 := Tryz.zeroValue124
  t127 := Tryz.underlying135
  a127 := Tryz.isAgg135
  z127 := Tryz.sizeOf135
  v127 := Tryz.zeroValue135
  t143 := Tryz.underlying196
  a143 := Tryz.isAgg196
  z143 := Tryz.sizeOf196
  v143 := Tryz.zeroValue196
  t145 := Tryz.underlying198
  a145 := Tryz.isAgg198
  z145 := Tryz.sizeOf198
  v145 := Tryz.zeroValue198
  t167 := Tryz.underlying169
  a167 := Tryz.isAgg169
  z167 := Tryz.sizeOf169
  v167 := Tryz.zeroValue169
  t168 := Tryz.underlying172
  a168 := Tryz.isAgg172
  z168 := Tryz.sizeOf172
  v168 := Tryz.zeroValue172
  t171 := Tryz.underlying191
  a171 := Tryz.isAgg191
  z171 := Tryz.sizeOf191
  v171 := Tryz.zeroValue191
  t173 := Tryz.underlying194
  a173 := Tryz.isAgg194
  z173 := Tryz.sizeOf194
  v173 := Tryz.zeroValue194
  t175 := Tryz.underlying170
  a175 := Tryz.isAgg170
  z175 := Tryz.sizeOf170
  v175 := Tryz.zeroValue170
  t210 := Tryz.underlying185
  a210 := Tryz.isAgg185
  z210 := Tryz.sizeOf185
  v210 := Tryz.zeroValue185
  t212 := Tryz.underlying200
  a212 := Tryz.isAgg200
  z212 := Tryz.sizeOf200
  v212 := Tryz.zeroValue200
  t213 := Tryz.underlying201
  a213 := Tryz.isAgg201
  z213 := Tryz.sizeOf201
  t232 := Tryz.underlying204
  a232 := Tryz.isAgg204
  z232 := Tryz.sizeOf204
  v232 := Tryz.zeroValue204
  t233 := Tryz.underlying205
  a233 := Tryz.isAgg205
  z233 := Tryz.sizeOf205
  v233 := Tryz.zeroValue205
  g15 := by kernel_rfl
  g16 := by kernel_rfl
  g17 := by kernel_rfl
  g18 := by kernel_rfl
  g19 := by kernel_rfl
  t80 := Tryz.underlying95
  a80 := Tryz.isAgg95
  z80 := Tryz.sizeOf95
  v80 := Tryz.zeroValue95
  i0 := by kernel_rfl
  i2 := by kernel_rfl
  i3 := by kernel_rfl
  i4 := by kernel_rfl
  i5 := by kernel_rfl
  i9 := by kernel_rfl
  i20 := by kernel_rfl
  i21 := by kernel_rfl
  i37 := by kernel_rfl
  i46 := by kernel_rfl
  i51 := by kernel_rfl
  i53 := by kernel_rfl
  i75 := by kernel_rfl
  i80 := by kernel_rfl
  i85 := by kernel_rfl
  i127 := by kernel_rfl
  i143 := by kernel_rfl
  i145 := by kernel_rfl
  i167 := by kernel_rfl
  i168 := by kernel_rfl
  i171 := by kernel_rfl
  i173 := by kernel_rfl
  i175 := by kernel_rfl
  i210 := by kernel_rfl
  i212 := by kernel_rfl
  i232 := by kernel_rfl
  i233 := by kernel_rfl
  m15 := by kernel_rfl
  m16 := by kernel_rfl
  m17 := by kernel_rfl
  m18 := by kernel_rfl
  m19 := by kernel_rfl
  c0 := by kernel_rfl
  c2 := by kernel_rfl
  c3 := by kernel_rfl
  c4 := by kernel_rfl
  c5 := by kernel_rfl
  c9 := by kernel_rfl
  c20 := by kernel_rfl
  c21 := by kernel_rfl
  c37 := by kernel_rfl
  c46 := by kernel_rfl
  c51 := by kernel_rfl
  c53 := by kernel_rfl
  c75 := by kernel_rfl
  c80 := by kernel_rfl
  c85 := by kernel_rfl
  c127 := by kernel_rfl
  c143 := by kernel_rfl
  c145 := by kernel_rfl
  c167 := by kernel_rfl
  c168 := by kernel_rfl
  c171 := by kernel_rfl
  c173 := by kernel_rfl
  c175 := by kernel_rfl
  c210 := by kernel_rfl
  c212 := by kernel_rfl
  c213 := by kernel_rfl
  c232 := by kernel_rfl
  c233 := by kernel_rfl
/-- The memory has the two errors of strconv. -/
structure ErrL (L : List Assn) : Prop where
  syn : ∀ w, Sat (hp w) L → ∃ te pe, w.cell? ⟨0, 0, none⟩ = some (.iface te pe)
  rng : ∀ w, Sat (hp w) L → ∃ te pe, w.cell? ⟨1, 0, none⟩ = some (.iface te pe)
theorem ErrL.wk {L L' : List Assn} (h : ErrL L) (hL : LeL L' L) : ErrL L' := ⟨fun w hw => h.syn w (hL _ hw), fun w hw => h.rng w (hL _ hw)⟩
theorem ErrL.cons {L : List Assn} {A : Assn} (h : ErrL L) : ErrL (A :: L) := h.wk fun _ s => s.tail
theorem bytes_le {w : World} {e : TypeId} {s : ByteArray} : Hp.le (hp w) (hp (Lib.bytesWorld w e s)) := by
  rw [hp_bytes]
  refine ⟨fun b o e1 => ?_, rfl⟩
  rw [hp_push]
  have := lt_of_hp e1
  rw [if_neg (by omega)]; exact e1
theorem digit_nat {c : UInt8} (h : digitB c = true) : 48 ≤ c.toNat ∧ c.toNat ≤ 57 := by
  unfold digitB at h; simp at h; omega
theorem uintM_num : ∀ (l : List UInt8) (v : Nat), (∀ c ∈ l, digitB c = true) → v ≤ 9223372036854775807 → (match numL l v with
    | some u => u ≤ 9223372036854775807 ∧ Lib.parseUintM (2 ^ 64 - 1) v l = .ok u
    | none => Lib.parseUintM (2 ^ 64 - 1) v l = .range ∨ ∃ u, 9223372036854775808 ≤ u ∧ Lib.parseUintM (2 ^ 64 - 1) v l = .ok u)
  | [], v, _, hv => ⟨hv, rfl⟩
  | c :: r, v, hd, hv => by
    have hc := digit_nat (hd c (by simp))
    unfold numL Lib.parseUintM
    rw [if_pos hc]
    by_cases h : (9223372036854775807 - (c.toNat - 48)) / 10 < v
    · rw [if_pos h]
      simp only []
      have big : ∀ (l : List UInt8) (v : Nat), (∀ c ∈ l, digitB c = true) → 9223372036854775808 ≤ v → Lib.parseUintM (2 ^ 64 - 1) v l = .range ∨ ∃ u, 9223372036854775808 ≤ u ∧ Lib.parseUintM (2 ^ 64 - 1) v l = .ok u := by
        intro l
        induction l with
        | nil => exact fun v _ hv => .inr ⟨v, hv, rfl⟩
        | cons c r ih =>
          intro v hd hv
          unfold Lib.parseUintM
          rw [if_pos (digit_nat (hd c (by simp)))]
          split
          · exact .inl rfl
          · split
            · exact .inl rfl
            · exact ih _ (fun c hc => hd c (by simp [hc])) (by omega)
      split
      · exact .inl rfl
      · split
        · exact .inl rfl
        · exact big r _ (fun c hc => hd c (by simp [hc])) (by omega)
    · rw [if_neg h]
      have h2 : 10 * v + (c.toNat - 48) ≤ 9223372036854775807 := by omega
      have := uintM_num r (10 * v + (c.toNat - 48)) (fun c hc => hd c (by simp [hc])) h2
      rw [if_neg (by omega), if_neg (by omega), Nat.mul_comm v 10]
      exact this
theorem int_num (l : List UInt8) (hne : l ≠ []) (hd : ∀ c ∈ l, digitB c = true) : match numL l 0 with
    | some u => Lib.parseIntB 64 l = .ok u
    | none => Lib.parseIntB 64 l = .range := by
  have h := uintM_num l 0 hd (by omega)
  obtain ⟨c, r, rfl⟩ := List.exists_cons_of_ne_nil hne
  have hc := digit_nat (hd c (by simp))
  have hu : Lib.parseUintB 64 (if c.toNat = 43 ∨ c.toNat = 45 then r else c :: r) = Lib.parseUintM (2 ^ 64 - 1) 0 (c :: r) := by
    rw [if_neg (by omega)]; unfold Lib.parseUintB; rw [if_neg (by simp)]
  unfold Lib.parseIntB
  simp only []
  rw [hu]
  cases hn : numL (c :: r) 0 with
  | some u =>
    rw [hn] at h
    obtain ⟨h1, h2⟩ := h
    simp only [h2]
    rw [if_neg (by omega), if_neg (by omega), if_neg (by omega)]
  | none =>
    rw [hn] at h
    rcases h with h | ⟨u, h1, h2⟩
    · simp only [h]
    · simp only [h2]
      rw [if_pos (by constructor <;> omega)]
theorem pint_ct (s : ByteArray) (L : List Assn) (hE : ErrL L) (hne : bs s ≠ []) (hd : ∀ c ∈ bs s, digitB c = true) (hl : (bs s).length < 1073741824) :
    Ct Tryz.prog 97 #[.string s, .int .i64 10, .int .i64 64] L (ret fun v L' => (∃ z e, v = .tuple #[.int .i64 z, e] ∧ match numL (bs s) 0 with
      | some u => z = u ∧ e = .nilIface
      | none => ∃ t p, e = .iface t p) ∧ L' = L) := fun w hw => by
  have h := int_num (bs s) hne hd
  have hs : s.size < 1073741824 := hl
  cases hn : numL (bs s) 0 with
  | some u =>
    rw [hn] at h
    refine (Any.strconv_ParseInt_10_at64_ok lays174 s (by omega) u h w).mono fun e w' ⟨e1, e2⟩ => ?_
    subst e1
    refine ⟨nofun, L, ⟨⟨_, _, rfl, rfl, rfl⟩, rfl⟩, ?_⟩
    rcases e2 with rfl | ⟨t, rfl⟩
    · exact hw
    · exact Sat.mono bytes_le hw
  | none =>
    rw [hn] at h
    obtain ⟨te, pe, hv⟩ := hE.rng w hw
    refine (Any.strconv_ParseInt_10_at64_range lays174 s (by omega) h _ w hv (.inr ⟨te, pe, rfl⟩)).mono fun e w' ⟨N, e1, _, _, e2⟩ => ?_
    subst e1
    exact ⟨nofun, L, ⟨⟨_, _, rfl, _, _, rfl⟩, rfl⟩, Sat.mono (below_le e2) hw⟩
theorem toErr_ct (fn s : ByteArray) (base bits : Int) (L : List Assn) (hE : ErrL L) (hl : (bs s).length < 1073741824) :
    Ct Tryz.prog 152 #[.string fn, .string s, .int .i64 base, .int .i64 bits, .iface 169 (.int .i64 2)] L (ret fun v L' => (∃ t p, v = .iface t p) ∧ L' = L) := fun w hw => by
  have hs : s.size < 1073741824 := hl
  obtain ⟨te, pe, hv⟩ := hE.syn w hw
  refine (Any.strconv_toError_syntax { lays174 with } fn s base bits _ w (by omega) hv (.inr ⟨te, pe, rfl⟩)).mono fun e w' ⟨N, e1, _, _, e2⟩ => ?_
  subst e1
  exact ⟨nofun, L, ⟨⟨_, _, rfl⟩, rfl⟩, Sat.mono (below_le e2) hw⟩
end Go.Proofs.YtikgokpbhldlnaaGreatDoor
end
section
/- scan: symbols, marks, operators; strings.IndexByte. -/
namespace Go.Ab
open Go
section
variable {P : Program} {n : Nat} {ops : Array Oper} {Q : Post} {m m' : Md} {rest : List Oper} {E : Env} {D : List Deferred} {L : List Assn} {ty : TypeId} {pos : String} {af : Array Edge} {x y : Operand} {c1 c2 g : Bool} {d : Nat} {t : TypeId}
/-- A call of a function that the model stands in for, and that leaves memory as it is. -/
theorem OpT.ext {dd : Option Tmp} {gd : Option (Nat × Bool)} {f : FuncId} {args : List Operand} {tys : Array TypeId} {vs : List Value} {v : Value} (hc : ∀ w, Sem.run P (callFunc f vs.toArray) w = .ok (.value v) w) (hargs : evs args E = some vs) :
    OpT P E L ⟨dd, .call ⟨.value (.func f), args.toArray, tys⟩, ty, pos, af, gd⟩ (fun r L' => r = v ∧ L' = L) noPanic := fun a w K Q0 h1 h2 hK _ => by
  unfold Oper.wp
  have hm := evs_sat hargs h1
  have he : (execOp a.eval ⟨dd, .call ⟨.value (.func f), args.toArray, tys⟩, ty, pos, af, gd⟩).run P w = .ok (.value v) w := by
    show (callFunc f ((#[] ++ args.toArray.map a.eval) ++ #[])).run P w = _
    have : (#[] ++ args.toArray.map a.eval) ++ #[] = vs.toArray := by rw [← hm]; simp
    rw [this]; exact hc w
  rw [he]
  exact hK _ _ _ ⟨rfl, rfl⟩ h2
theorem WpO.ext [Nxt m m'] {f : FuncId} {args : List Operand} {tys : Array TypeId} {vs : List Value} {v : Value} (hc : ∀ w, Sem.run P (callFunc f vs.toArray) w = .ok (.value v) w) (h0 : Nat.blt d n = true) (hargs : evs args E = some vs) (hk : Keeps m L)
    (h : WpO P n ops Q m' rest ((d, .v v) :: E) D L) : WpO P n ops Q m (⟨some d, .call ⟨.value (.func f), args.toArray, tys⟩, ty, pos, af, Option.none⟩ :: rest) E D L :=
  WpO.op rfl h0 (OpT.ext hc hargs) nofun fun _ _ ⟨e1, e2⟩ => by subst e1; subst e2; exact ⟨hk, h⟩
end
end Go.Ab
namespace Go.Proofs.YtikgokpbhldlnaaGreatDoor
open Go Go.Ab
attribute [local irreducible] Wp WpO Qt OpT Ct Ent
theorem run_ixb (s : ByteArray) (c : UInt8) (w : World) : Sem.run Tryz.prog (callFunc 212 #[.string s, .int .u8 c.toNat]) w = .ok (.value (.int .i64 (Lib.indexByte (bs s) c))) w := by
  rw [run_callFunc_extern (e := Extern.BytealgIndexByte.indexByte) Tryz.func212 (by kernel_rfl) (by kernel_rfl) (by kernel_rfl) (by kernel_rfl), Lib.run_indexByteString]
  show Result.ok _ _ = _
  have : (c.toNat : Int).toNat.toUInt8 = c := by simp
  rw [this]
theorem ixb_spec (c : UInt8) : ∀ l : List UInt8, Lib.indexByte l c = if c ∈ l then ((l.takeWhile fun x => !decide (x = c)).length : Int) else -1
  | [] => rfl
  | b :: l => by
    unfold Lib.indexByte
    by_cases h : b = c
    · subst h
      rw [if_pos (by simp), if_pos (by simp), List.takeWhile_cons_of_neg (by simp)]; rfl
    · have ih := ixb_spec c l
      rw [if_neg (by simpa using h), List.takeWhile_cons_of_pos (by simpa using h)]
      by_cases hm : c ∈ l
      · rw [if_pos hm] at ih
        rw [ih, if_neg (by rw [beq_iff_eq]; omega), if_pos (List.mem_cons_of_mem _ hm), List.length_cons]; omega
      · rw [if_neg hm] at ih
        rw [ih, if_pos (by decide), if_neg (fun q => by rcases List.mem_cons.1 q with q | q; exact h q.symm; exact hm q)]
theorem sixb_ct (s : ByteArray) (c : UInt8) (L : List Assn) : Ct Tryz.prog 150 #[.string s, .int .u8 c.toNat] L (ret fun v L' => v = .int .i64 (Lib.indexByte (bs s) c) ∧ L' = L) := by
  have h : Ct Tryz.prog 192 #[.string s, .int .u8 c.toNat] L (ret fun v L' => v = .int .i64 (Lib.indexByte (bs s) c) ∧ L' = L) := by
    refine Ct.body Tryz.func192 rfl Tryz.ntmps192 Tryz.results192 rfl ?_
    refine pur ?_
    refine WpO.ext (run_ixb s c) rfl rfl Keeps.none ?_
    refine pur ?_
    exact Wp.ret (Ret 0 rfl ⟨rfl, rfl⟩)
  refine Ct.body Tryz.func150 rfl Tryz.ntmps150 Tryz.results150 rfl ?_
  refine pur ?_
  refine WpO.callq Tryz.call192 rfl rfl h Keeps.none ?_
  refine pur ?_
  exact Wp.ret (Ret 0 rfl ⟨rfl, rfl⟩)
theorem isSym_ct (c : UInt8) (L : List Assn) : Ct Tryz.prog 99 #[.int .u8 c.toNat] L (ret fun v L' => v = .bool (symB c) ∧ L' = L) := by
  refine Ct.body Tryz.func99 rfl Tryz.ntmps99 Tryz.results99 rfl ?_
  refine pur ?_
  refine WpO.callq Tryz.call150 rfl rfl (sixb_ct _ c L) Keeps.none ?_
  refine pur ?_
  refine Wp.ret (Ret 0 rfl ⟨?_, rfl⟩)
  congr 2
  rw [ixb_spec]
  refine propext ?_
  show (0 : Int) ≤ (if c ∈ [(33 : UInt8), 35, 36, 37, 38, 42, 43, 46, 47, 60, 61, 62, 63, 64, 92, 94, 124, 45, 126, 58] then _ else -1) ↔ _
  split
  · rename_i h; exact ⟨fun _ => h, fun _ => by omega⟩
  · rename_i h; exact ⟨fun q => by omega, fun q => absurd q h⟩
theorem isMark2_ct (s : ByteArray) (L : List Assn) : Ct Tryz.prog 100 #[.string s] L (ret fun v L' => v = .bool (decide (bs s ∈ isMarkL)) ∧ L' = L) := by
  refine Ct.body Tryz.func100 rfl Tryz.ntmps100 Tryz.results100 rfl ?_
  iterate 13
    refine pur ?_
    refine Wp.branch rfl (fun h => ?_) (fun h => ?_)
    · refine pur ?_
      refine Wp.ret (Ret 0 rfl ⟨?_, rfl⟩)
      rw [of_decide_eq_true h]; rfl
  refine pur ?_
  refine Wp.ret (Ret 0 rfl ⟨?_, rfl⟩)
  simp only [decide_eq_false_iff_not] at *
  unfold isMarkL
  rw [decide_eq_false (by simp only [List.mem_cons, List.not_mem_nil, or_false, not_or]; (repeat' constructor) <;> assumption)]
theorem isOp2_ct (s : ByteArray) (L : List Assn) : Ct Tryz.prog 101 #[.string s] L (ret fun v L' => v = .bool (decide (bs s ∈ opTexts)) ∧ L' = L) := by
  refine Ct.body Tryz.func101 rfl Tryz.ntmps101 Tryz.results101 rfl ?_
  iterate 14
    refine pur ?_
    refine Wp.branch rfl (fun h => ?_) (fun h => ?_)
    · refine pur ?_
      refine Wp.ret (Ret 0 rfl ⟨?_, rfl⟩)
      rw [of_decide_eq_true h]; rfl
  refine pur ?_
  refine Wp.ret (Ret 0 rfl ⟨?_, rfl⟩)
  simp only [decide_eq_false_iff_not] at *
  unfold opTexts opList
  rw [decide_eq_false (by simp only [List.map_cons, List.map_nil, List.mem_cons, List.not_mem_nil, or_false, not_or]; (repeat' constructor) <;> assumption)]
theorem blank2_ct (c : UInt8) (L : List Assn) : Ct Tryz.prog 89 #[.int .u8 c.toNat] L (ret fun v L' => v = .bool (decide (c ∈ [(32 : UInt8), 9, 10, 13])) ∧ L' = L) := by
  refine Ct.body Tryz.func89 rfl Tryz.ntmps89 Tryz.results89 rfl ?_
  refine pur ?_
  refine Wp.ret (Ret 0 rfl ⟨?_, rfl⟩)
  congr 1
  have h : ∀ n : Nat, n < 256 → decide (c.toNat = n) = decide (c = UInt8.ofNat n) := fun n hn => decide_eq_decide.2 ⟨fun e => by subst e; simp, fun e => by subst e; simp; omega⟩
  simp only [List.mem_cons, List.not_mem_nil, or_false, Bool.decide_or]
  have e1 : decide ((c.toNat : Int) = 32) = decide (c = 32) := by rw [show decide ((c.toNat : Int) = 32) = decide (c.toNat = 32) from decide_eq_decide.2 (by omega)]; exact h 32 (by decide)
  have e2 : decide ((c.toNat : Int) = 9) = decide (c = 9) := by rw [show decide ((c.toNat : Int) = 9) = decide (c.toNat = 9) from decide_eq_decide.2 (by omega)]; exact h 9 (by decide)
  have e3 : decide ((c.toNat : Int) = 10) = decide (c = 10) := by rw [show decide ((c.toNat : Int) = 10) = decide (c.toNat = 10) from decide_eq_decide.2 (by omega)]; exact h 10 (by decide)
  have e4 : decide ((c.toNat : Int) = 13) = decide (c = 13) := by rw [show decide ((c.toNat : Int) = 13) = decide (c.toNat = 13) from decide_eq_decide.2 (by omega)]; exact h 13 (by decide)
  rw [e1, e2, e3, e4, Bool.or_assoc, Bool.or_assoc]
theorem dash2_ct (c : UInt8) (L : List Assn) : Ct Tryz.prog 149 #[.int .u8 c.toNat] L (ret fun v L' => v = .bool (dash c) ∧ L' = L) := by
  refine Ct.body Tryz.func149 rfl Tryz.ntmps149 Tryz.results149 rfl ?_
  refine pur ?_
  exact Wp.ret (Ret 0 rfl ⟨rfl, rfl⟩)
theorem cut_drop (s : ByteArray) (p : Nat) : s.extract p (bs s).length = ofL ((bs s).drop p) := by
  rw [extract_ofL, List.take_of_length_le (Nat.le_refl _)]
/-! ## The scanner -/
/-- The scanner lies in block b; its tokens. -/
@[reducible] def xm (b : Nat) (s : ByteArray) (p : Nat) (q : Option Addr × Nat) (ts : List Tok) (L : List Assn) : List Assn :=
  ptA b 81 [.string s, .int .i64 p, .slice q.1 ts.length q.2] :: ownA 48 4 q.1 q.2 (ts.map tokRow) :: L
theorem rest_ct (b : Nat) (s : ByteArray) (p : Nat) (q : Option Addr × Nat) (ts : List Tok) (L : List Assn) (hp : p ≤ (bs s).length) :
    Ct Tryz.prog 88 #[.pointer (some ⟨b, 0, none⟩)] (xm b s p q ts L) (ret fun v L' => v = .string (ofL ((bs s).drop p)) ∧ L' = xm b s p q ts L) := by
  refine Ct.body Tryz.func88 rfl Tryz.ntmps88 Tryz.results88 rfl ?_
  refine pur ?_
  refine Wp.draw rfl [0,1,2,3,4,5,6,7,8,9] 10 10 _ rfl (by decide +kernel) (fun _ h => h) ?_
  refine pur ?_
  refine S.sliceS p (bs s).length rfl rfl (Bd.at p rfl (by infer_instance) (fun _ => rfl)) Bd.no ⟨hp, Nat.le_refl _⟩ ?_
  refine pur ?_
  refine Wp.ret (Ret 0 rfl ⟨?_, rfl⟩)
  rw [cut_drop]
end Go.Proofs.YtikgokpbhldlnaaGreatDoor
end
section
/- scan: put, skip. -/
namespace Go.Proofs.YtikgokpbhldlnaaGreatDoor
open Go Go.Ab
attribute [local irreducible] Wp WpO Qt OpT Ct Ent
theorem LeL.keep2 {A B C : Assn} {L : List Assn} : LeL (A :: B :: C :: L) (A :: B :: L) := fun _ s => Sat.cons_mono (fun _ s => Sat.cons_mono (fun _ s => s.tail) s) s
set_option maxHeartbeats 1000000 in
theorem put_ct (b : Nat) (s : ByteArray) (p : Nat) (q : Option Addr × Nat) (ts : List Tok) (kind : Int) (tx : ByteArray) (num : Int) (n : Nat) (L : List Assn) (hp : p + n < 1073741824) (ht : ts.length < 1073741824) :
    Ct Tryz.prog 95 #[.pointer (some ⟨b, 0, none⟩), .agg #[.int .i64 kind, .string tx, .int .i64 num, .int .i64 0], .int .i64 n] (xm b s p q ts L) (ret fun v L' => ∃ q', L' = xm b s (p + n) q' (ts ++ [⟨kind, bs tx, num, p⟩]) L) := by
  refine Ct.body Tryz.func95 rfl Tryz.ntmps95 Tryz.results95 rfl ?_
  refine pur ?_
  refine WpO.box (vs := [.int .i64 kind, .string tx, .int .i64 num, .int .i64 0]) rfl rfl rfl (fun _ => Keeps.none) fun b4 => ?_
  refine pur ?_
  have hV : tokRow ⟨kind, bs tx, num, p⟩ = [.int .i64 kind, .string tx, .int .i64 num, .int .i64 p] := by unfold tokRow; simp only [ofL_bs]
  refine Wp.draw rfl [0,1,2,3,4,5,6,7,8,9,10] 10 10 (ptA b4 48 [.int .i64 kind, .string tx, .int .i64 num, .int .i64 p] :: ptA b 81 [.string s, .int .i64 p, .slice q.1 ts.length q.2] :: L) rfl (by decide +kernel) (fun _ h => LeL.keep2 _ h) ?_
  refine pur ?_
  refine S.loadN (vs := [.int .i64 kind, .string tx, .int .i64 num, .int .i64 p]) rfl rfl (Ent.pt 0 4 rfl rfl) rfl ?_
  refine WpO.buildSlice rfl rfl rfl rfl rfl rfl rfl (fun _ => Keeps.by fun _ h => LeL.keep2 _ h.tail) fun b6 => ?_
  refine WpO.appendLit 2 [tokRow ⟨kind, bs tx, num, p⟩] rfl rfl rfl rfl (List.length_map ..).symm rfl rfl (by rw [hV]; rfl) rfl rfl rfl rfl (by simp; omega) (fun _ _ => Keeps.by fun _ h => LeL.keep2 _ h) fun a2 k2 => ?_
  rw [show (ts.map tokRow ++ [tokRow ⟨kind, bs tx, num, p⟩]) = (ts ++ [(⟨kind, bs tx, num, p⟩ : Tok)]).map tokRow from by simp, List.length_map]
  refine pur ?_
  rw [nat_add (by omega)]
  exact RetN 1 rfl ⟨(a2, k2), rfl⟩
/-- A line comment: where it ends. -/
def lineF (l : List UInt8) (a : Nat) : Nat :=
  let n := a + twL dash l a
  if (decide (a + 2 ≤ n) && (decide (n = l.length) || !symB (at0 l n))) = true then n + twL noNl l n else a
theorem drop_tw (p : UInt8 → Bool) (l : List UInt8) (a : Nat) : (((l.drop a).takeWhile p).length : Int) = (twL p l a : Nat) := rfl
theorem tw_split {p q : UInt8 → Bool} (h : ∀ x, p x = true → q x = true) : ∀ m : List UInt8, (m.takeWhile q).length = (m.takeWhile p).length + ((m.drop (m.takeWhile p).length).takeWhile q).length
  | [] => rfl
  | x :: m => by
    by_cases hx : p x = true
    · rw [List.takeWhile_cons_of_pos hx, List.takeWhile_cons_of_pos (h x hx), List.length_cons, List.length_cons, List.drop_succ_cons, tw_split h m]; omega
    · rw [List.takeWhile_cons_of_neg hx]; simp
theorem twL_split {p q : UInt8 → Bool} (h : ∀ x, p x = true → q x = true) (l : List UInt8) (a : Nat) : twL q l a = twL p l a + twL q l (a + twL p l a) := by
  unfold twL
  rw [tw_split h (l.drop a), List.drop_drop]
theorem dash_noNl : ∀ x, dash x = true → noNl x = true := fun x h => by
  unfold dash at h; unfold noNl
  have := of_decide_eq_true h
  rw [this]; decide
theorem noNl_eq : (fun x : UInt8 => !decide (x = 10)) = noNl := by
  funext x
  unfold noNl
  congr 1
  exact decide_eq_decide.2 ⟨fun e => by subst e; rfl, fun e => by
    have : x.toNat = 10 := by omega
    exact UInt8.toNat.inj this⟩
theorem tw_all {p : UInt8 → Bool} : ∀ {m : List UInt8}, (∀ x ∈ m, p x = true) → m.takeWhile p = m
  | [], _ => rfl
  | x :: m, h => by rw [List.takeWhile_cons_of_pos (h x (by simp)), tw_all fun y hy => h y (by simp [hy])]
theorem ixb_nl (l : List UInt8) (p : Nat) (hp : p ≤ l.length) : (0 ≤ Lib.indexByte (l.drop p) 10 → Lib.indexByte (l.drop p) 10 = (twL noNl l p : Nat)) ∧ (¬ 0 ≤ Lib.indexByte (l.drop p) 10 → p + twL noNl l p = l.length) := by
  rw [ixb_spec, noNl_eq]
  by_cases h : (10 : UInt8) ∈ l.drop p
  · rw [if_pos h]; exact ⟨fun _ => rfl, fun q => by omega⟩
  · rw [if_neg h]
    refine ⟨fun q => by omega, fun _ => ?_⟩
    unfold twL
    rw [tw_all fun x hx => ?_, List.length_drop]
    · omega
    · rw [← noNl_eq]; simp only [Bool.not_eq_true', decide_eq_false_iff_not]
      exact fun e => h (e ▸ hx)
set_option maxHeartbeats 2000000 in
theorem line_ct (b : Nat) (s : ByteArray) (p : Nat) (q : Option Addr × Nat) (ts : List Tok) (L : List Assn) (hp : p ≤ (bs s).length) (hl : (bs s).length < 1073741824) :
    Ct Tryz.prog 90 #[.pointer (some ⟨b, 0, none⟩)] (xm b s p q ts L) (ret fun v L' => L' = xm b s (lineF (bs s) p) q ts L) := by
  have hn := twL_le dash (bs s) p hp
  refine Ct.body Tryz.func90 rfl Tryz.ntmps90 Tryz.results90 rfl ?_
  refine pur ?_
  refine WpO.callq Tryz.call88 rfl rfl (rest_ct b s p q ts L hp) Keeps.none ?_
  refine WpO.callq Tryz.call87 rfl rfl (span_ct (ofL ((bs s).drop p)) 149 dash _ Tryz.call149 (fun c => dash2_ct c _) (by rw [bs_ofL, List.length_drop]; omega)) Keeps.none ?_
  rw [bs_ofL, drop_tw]
  refine pur ?_
  refine Wp.draw rfl [0,1,2,3,4,5,6,7,8,9,10,11,12,13,14,15,16,17,18,19,20,21,22,23,24,25,26,27,28,29] 30 30 _ rfl (by decide +kernel) (fun _ h => h) ?_
  refine pur ?_
  rw [nat_add (by omega)]
  refine G.index (at0 (bs s) (p + twL dash (bs s) p)) (p + twL dash (bs s) p) rfl rfl rfl (by infer_instance) rfl (by infer_instance) (fun _ => rfl) (fun h => at0_some ?_) ?_
  · simp only [Bool.and_eq_true, decide_eq_true_eq] at h
    omega
  refine pur ?_
  refine WpO.callqg Tryz.call99 rfl rfl (.cons rfl (by infer_instance) .nil) (fun _ => isSym_ct _ _) (Keeps.by fun _ h => h) ?_
  refine pur ?_
  have hc : (decide (((twL dash (bs s) p : Nat) : Int) < 2) || (decide (((p + twL dash (bs s) p : Nat) : Int) < (bs s).length) && symB (at0 (bs s) (p + twL dash (bs s) p)))) = !(decide (p + 2 ≤ p + twL dash (bs s) p) && (decide (p + twL dash (bs s) p = (bs s).length) || !symB (at0 (bs s) (p + twL dash (bs s) p)))) := by
    rw [show decide (((twL dash (bs s) p : Nat) : Int) < 2) = !decide (p + 2 ≤ p + twL dash (bs s) p) from by rw [← decide_not]; exact decide_eq_decide.2 (by omega)]
    rw [show decide (((p + twL dash (bs s) p : Nat) : Int) < (bs s).length) = !decide (p + twL dash (bs s) p = (bs s).length) from by rw [← decide_not]; exact decide_eq_decide.2 (by omega)]
    cases decide (p + 2 ≤ p + twL dash (bs s) p) <;> cases decide (p + twL dash (bs s) p = (bs s).length) <;> cases symB (at0 (bs s) (p + twL dash (bs s) p)) <;> rfl
  rw [hc]
  refine Wp.branch rfl (fun h => ?_) (fun h => ?_)
  · have hf : lineF (bs s) p = p := by
      unfold lineF; rw [if_neg]
      intro q
      rw [q] at h; cases h
    refine pur ?_
    refine Wp.ret (Ret 0 rfl ?_)
    rw [hf]; rfl
  have hf : lineF (bs s) p = p + twL noNl (bs s) p := by
    have := twL_split dash_noNl (bs s) p
    unfold lineF; rw [if_pos ((by rwa [Bool.not_eq_false'] at h))]; omega
  obtain ⟨h1, h2⟩ := ixb_nl (bs s) p hp
  have h3 := twL_le noNl (bs s) p hp
  refine pur ?_
  refine WpO.callq Tryz.call88 rfl rfl (rest_ct b s p q ts L hp) Keeps.none ?_
  refine WpO.callq Tryz.call150 rfl rfl (sixb_ct (ofL ((bs s).drop p)) 10 _) Keeps.none ?_
  rw [bs_ofL]
  refine pur ?_
  refine Wp.branch rfl (fun h => ?_) (fun h => ?_)
  · rw [h1 (of_decide_eq_true h)]
    refine pur ?_
    rw [nat_add (by omega)]
    refine Wp.ret (Ret 0 rfl ?_)
    rw [hf]; rfl
  · refine pur ?_
    refine RetN 0 rfl ?_
    rw [hf, h2 (of_decide_eq_false h)]; rfl
end Go.Proofs.YtikgokpbhldlnaaGreatDoor
end
section
/- scan: nested comments, skip. -/
namespace Go.Proofs.YtikgokpbhldlnaaGreatDoor
open Go Go.Ab
attribute [local irreducible] Wp WpO Qt OpT Ct Ent
theorem pre2 (x y : UInt8) (l : List UInt8) (n : Nat) : preF [x, y] (l.drop n) = true ↔ n + 1 < l.length ∧ at0 l n = x ∧ at0 l (n + 1) = y := by
  rcases Nat.lt_or_ge (n + 1) l.length with h | h
  · have h1 := List.drop_eq_getElem_cons (show n < l.length by omega)
    have h2 := List.drop_eq_getElem_cons h
    have e1 : l[n] = at0 l n := by have := at0_some (show n < l.length by omega); rw [List.getElem?_eq_getElem (by omega)] at this; exact Option.some.inj this
    have e2 : l[n + 1] = at0 l (n + 1) := by have := at0_some h; rw [List.getElem?_eq_getElem h] at this; exact Option.some.inj this
    rw [h1, h2, e1, e2]
    simp [preF, h]
  · have h3 : (l.drop n).length ≤ 1 := by rw [List.length_drop]; omega
    have h4 : ¬ (n + 1 < l.length) := by omega
    simp only [h4, false_and, iff_false]
    intro q
    unfold preF at q
    rw [Bool.and_eq_true] at q
    have := of_decide_eq_true q.1
    simp only [List.length_cons, List.length_nil] at this; omega
/-- Where a nested comment ends that begins at a; -1: it has no end; a: none begins. -/
def nestedF (l : List UInt8) (a : Nat) : Int := if preF [123, 45] (l.drop a) = true then nestF l l.length 1 (a + 2) else a
theorem nestF_end {l : List UInt8} {d n : Nat} (hd : 1 ≤ d) (hn : l.length ≤ n + 1) : ∀ f, nestF l f d n = -1
  | 0 => by obtain ⟨d, rfl⟩ := Nat.exists_eq_add_of_le' hd; rfl
  | f + 1 => by obtain ⟨d, rfl⟩ := Nat.exists_eq_add_of_le' hd; unfold nestF; rw [if_pos hn]
theorem concF : Tryz.prog.concrete 78 = true := by kernel_rfl
set_option maxHeartbeats 4000000 in
theorem nested_ct (b : Nat) (s : ByteArray) (p : Nat) (q : Option Addr × Nat) (ts : List Tok) (L : List Assn) (hp : p ≤ (bs s).length) (hl : (bs s).length < 1073741824) :
    Ct Tryz.prog 91 #[.pointer (some ⟨b, 0, none⟩)] (xm b s p q ts L) (retP (fun v L' => 0 ≤ nestedF (bs s) p ∧ L' = xm b s (nestedF (bs s) p).toNat q ts L) (fun v L' => nestedF (bs s) p < 0 ∧ v = .iface 78 (.int .i64 p) ∧ L' = L)) := by
  have hdl : ∀ n, (bs (ofL ((bs s).drop n))).length < 1073741824 := fun n => by rw [bs_ofL, List.length_drop]; omega
  refine Ct.body Tryz.func91 rfl Tryz.ntmps91 Tryz.results91 rfl ?_
  refine pur ?_
  refine WpO.callq Tryz.call88 rfl rfl (rest_ct b s p q ts L hp) Keeps.none ?_
  refine WpO.callq Tryz.call80 rfl rfl (hasPrefix_ct (ofL ((bs s).drop p)) ⟨#[123, 45]⟩ _ (hdl p)) Keeps.none ?_
  rw [bs_ofL]
  refine pur ?_
  refine Wp.branch rfl (fun h => ?_) (fun h => ?_)
  · have h0 : ¬ preF [123, 45] ((bs s).drop p) = true := by
      rw [Bool.not_eq_true]; rwa [Bool.not_eq_true'] at h
    have hf : nestedF (bs s) p = p := by unfold nestedF; rw [if_neg h0]
    refine pur ?_
    refine Wp.ret (Ret 0 rfl ⟨by omega, ?_⟩)
    rw [hf]; rfl
  have h0 : preF [123, 45] ((bs s).drop p) = true := by rwa [Bool.not_eq_false'] at h
  have hf : nestedF (bs s) p = nestF (bs s) (bs s).length 1 (p + 2) := by unfold nestedF; rw [if_pos h0]
  have hp0 := ((pre2 _ _ _ _).1 h0)
  rw [hf]
  generalize hT : nestF (bs s) (bs s).length 1 (p + 2) = T
  refine pur ?_
  refine Wp.loopI (α := Nat × Nat) (0, p) (fun x => [(0, .v (.pointer (some ⟨b, 0, none⟩))), (2, .v (.int .i64 p)), (3, .v (.int .i64 x.1))]) (fun x => xm b s x.2 q ts L) (fun x => (bs s).length - x.2)
    (fun x => x.2 ≤ (bs s).length ∧ x.1 ≤ x.2 ∧ (x = (0, p) ∨ (1 ≤ x.1 ∧ ∃ f, (bs s).length ≤ x.2 + f ∧ nestF (bs s) f x.1 x.2 = T))) ⟨hp, Nat.zero_le _, .inl rfl⟩ ⟨rfl, rfl, rfl, trivial⟩ (LeL.refl _) ?_
  rintro ⟨d, n⟩ ⟨h1, h1', h2⟩
  simp only [] at h1 h1' h2
  refine pur ?_
  refine WpO.callq Tryz.call88 rfl rfl (rest_ct b s n q ts L h1) Keeps.none ?_
  refine WpO.callq Tryz.call80 rfl rfl (hasPrefix_ct (ofL ((bs s).drop n)) ⟨#[123, 45]⟩ _ (hdl n)) Keeps.none ?_
  rw [bs_ofL]
  refine pur ?_
  refine Wp.branch rfl (fun h => ?_) (fun h => ?_)
  · have hx := (pre2 _ _ _ _).1 h
    refine pur ?_
    rw [show IntKind.i64.wrap ((n : Int) + 2) = ((n + 2 : Nat) : Int) from nat_add (b := 2) (by omega)]
    refine Round.mk (d + 1, n + 2) (by simp only []; omega) ⟨by simp only []; omega, by simp only []; omega, .inr ⟨by simp only []; omega, ?_⟩⟩ ⟨rfl, rfl, inc_e (by omega), trivial⟩ (LeL.refl _)
    rcases h2 with h2 | ⟨hd, f, hf1, hf2⟩
    · simp only [Prod.mk.injEq] at h2
      obtain ⟨rfl, rfl⟩ := h2
      exact ⟨_, by simp only []; omega, hT⟩
    · obtain ⟨f, rfl⟩ : ∃ f', f = f' + 1 := ⟨f - 1, by omega⟩
      obtain ⟨d, rfl⟩ := Nat.exists_eq_add_of_le' hd
      unfold nestF at hf2
      rw [if_neg (by omega), if_pos hx.2] at hf2
      exact ⟨f, by simp only []; omega, hf2⟩
  have hx0 : ¬ preF [123, 45] ((bs s).drop n) = true := by rw [Bool.not_eq_true]; exact h
  obtain ⟨hd, f, hf1, hf2⟩ : 1 ≤ d ∧ ∃ f, (bs s).length ≤ n + f ∧ nestF (bs s) f d n = T := by
    rcases h2 with h2 | h2
    · simp only [Prod.mk.injEq] at h2
      obtain ⟨rfl, rfl⟩ := h2
      exact absurd h0 hx0
    · exact h2
  refine pur ?_
  refine WpO.callq Tryz.call88 rfl rfl (rest_ct b s n q ts L h1) Keeps.none ?_
  refine WpO.callq Tryz.call80 rfl rfl (hasPrefix_ct (ofL ((bs s).drop n)) ⟨#[45, 125]⟩ _ (hdl n)) Keeps.none ?_
  rw [bs_ofL]
  refine pur ?_
  refine Wp.branch rfl (fun h => ?_) (fun h => ?_)
  · have hx := (pre2 _ _ _ _).1 h
    obtain ⟨f, rfl⟩ : ∃ f', f = f' + 1 := ⟨f - 1, by omega⟩
    obtain ⟨d, rfl⟩ := Nat.exists_eq_add_of_le' hd
    have hx0' : ¬ (at0 (bs s) n = 123 ∧ at0 (bs s) (n + 1) = 45) := fun e => hx0 ((pre2 _ _ _ _).2 ⟨hx.1, e⟩)
    unfold nestF at hf2
    rw [if_neg (by omega), if_neg hx0', if_pos hx.2] at hf2
    refine pur ?_
    rw [show IntKind.i64.wrap ((n : Int) + 2) = ((n + 2 : Nat) : Int) from nat_add (b := 2) (by omega), show IntKind.i64.wrap (((d + 1 : Nat) : Int) - 1) = (d : Nat) from by rw [wrap_id (by omega) (by omega)]; omega]
    refine Wp.branch rfl (fun h => ?_) (fun h => ?_)
    · have hd0 : d = 0 := by have := of_decide_eq_true h; omega
      subst hd0
      have hT2 : T = ((n + 2 : Nat) : Int) := by rw [← hf2]; cases f <;> rfl
      refine pur ?_
      refine Wp.ret (Ret 0 rfl ⟨by omega, ?_⟩)
      rw [hT2]; rfl
    · have hd0 : d ≠ 0 := by have := of_decide_eq_false h; omega
      refine pur ?_
      exact Round.mk (d, n + 2) (by simp only []; omega) ⟨by simp only []; omega, by simp only []; omega, .inr ⟨by simp only []; omega, f, by simp only []; omega, hf2⟩⟩ ⟨rfl, rfl, rfl, trivial⟩ (LeL.refl _)
  have hx1 : ¬ preF [45, 125] ((bs s).drop n) = true := by rw [Bool.not_eq_true]; exact h
  refine pur ?_
  refine Wp.draw rfl [0,1,2,3,4,5,6,7,8,9,10] 11 11 _ rfl (by decide +kernel) (fun _ h => h) ?_
  refine pur ?_
  refine Wp.branch rfl (fun h => ?_) (fun h => ?_)
  · have hn : n = (bs s).length := by have := of_decide_eq_true h; omega
    have hT2 : T = -1 := by rw [← hf2]; exact nestF_end hd (by omega) f
    refine pur ?_
    refine S.mkiface concF rfl rfl ?_
    refine WpO.parts (LeL.drop 2 _) ?_
    refine WpO.panic rfl ⟨rfl, _, rfl, by omega, rfl, rfl⟩
  · have hn : n < (bs s).length := by have := of_decide_eq_false h; omega
    refine pur ?_
    rw [show IntKind.i64.wrap ((n : Int) + 1) = ((n + 1 : Nat) : Int) from nat_add (b := 1) (by omega)]
    refine Round.mk (d, n + 1) (by simp only []; omega) ⟨hn, by simp only []; omega, .inr ⟨hd, ?_⟩⟩ ⟨rfl, rfl, rfl, trivial⟩ (LeL.refl _)
    · obtain ⟨f, rfl⟩ : ∃ f', f = f' + 1 := ⟨f - 1, by omega⟩
      refine ⟨f, by simp only []; omega, ?_⟩
      rcases Nat.lt_or_ge (n + 1) (bs s).length with hlt | hge
      · obtain ⟨d, rfl⟩ := Nat.exists_eq_add_of_le' hd
        have e1 : ¬ (at0 (bs s) n = 123 ∧ at0 (bs s) (n + 1) = 45) := fun e => hx0 ((pre2 _ _ _ _).2 ⟨hlt, e⟩)
        have e2 : ¬ (at0 (bs s) n = 45 ∧ at0 (bs s) (n + 1) = 125) := fun e => hx1 ((pre2 _ _ _ _).2 ⟨hlt, e⟩)
        unfold nestF at hf2
        rw [if_neg (by omega), if_neg e1, if_neg e2] at hf2
        exact hf2
      · rw [nestF_end hd hge] at hf2
        rw [← hf2]; exact nestF_end hd (by simp only []; omega) f
end Go.Proofs.YtikgokpbhldlnaaGreatDoor
end
section
/- scan: skip. -/
namespace Go.Proofs.YtikgokpbhldlnaaGreatDoor
open Go Go.Ab
attribute [local irreducible] Wp WpO Qt OpT Ct Ent
def blankB (c : UInt8) : Bool := decide (c ∈ [(32 : UInt8), 9, 10, 13])
/-- Behind blanks and a line's comment. -/
def skip1 (l : List UInt8) (a : Nat) : Nat := lineF l (a + twL blankB l a)
/-- Over blanks and comments: to a place, or a fault at one. -/
def skipF (l : List UInt8) : Nat → Nat → Except Nat Nat
  | 0, a => .ok a
  | f + 1, a => if nestedF l (skip1 l a) < 0 then .error (skip1 l a) else if (nestedF l (skip1 l a)).toNat = a then .ok a else skipF l f (nestedF l (skip1 l a)).toNat
theorem lineF_le {l : List UInt8} {a : Nat} (h : a ≤ l.length) : a ≤ lineF l a ∧ lineF l a ≤ l.length := by
  have h1 := twL_le dash l a h
  have h2 := twL_le noNl l _ h1
  unfold lineF
  simp only []
  split <;> omega
theorem nestF_ge {l : List UInt8} : ∀ (f d n : Nat), 0 ≤ nestF l f d n → (n : Int) ≤ nestF l f d n
  | f, 0, n, _ => by cases f <;> simp [nestF]
  | 0, d + 1, n, h => by simp [nestF] at h
  | f + 1, d + 1, n, h => by
    unfold nestF at h ⊢
    split at h
    · omega
    split at h
    · rename_i h1 h2
      rw [if_neg h1, if_pos h2]
      have := nestF_ge f (d + 2) (n + 2) h; omega
    split at h
    · rename_i h1 h2 h3
      rw [if_neg h1, if_neg h2, if_pos h3]
      have := nestF_ge f d (n + 2) h; omega
    · rename_i h1 h2 h3
      rw [if_neg h1, if_neg h2, if_neg h3]
      have := nestF_ge f (d + 1) (n + 1) h; omega
theorem nestedF_le {l : List UInt8} {a : Nat} (h : a ≤ l.length) (h0 : 0 ≤ nestedF l a) : (a : Int) ≤ nestedF l a ∧ nestedF l a ≤ l.length := by
  unfold nestedF at h0 ⊢
  split at h0
  · rename_i hp
    rw [if_pos hp]
    have hx := (pre2 _ _ _ _).1 hp
    have h1 := nestF_le (l := l) l.length 1 (a + 2) (by omega)
    have h2 := nestF_ge _ _ _ h0
    omega
  · rename_i hp
    rw [if_neg hp]; omega
theorem skip1_le {l : List UInt8} {a : Nat} (h : a ≤ l.length) : a ≤ skip1 l a ∧ skip1 l a ≤ l.length := by
  have h1 := twL_le blankB l a h
  have h2 := lineF_le h1
  unfold skip1; omega
set_option maxHeartbeats 4000000 in
theorem skip_ct (b : Nat) (s : ByteArray) (p : Nat) (q : Option Addr × Nat) (ts : List Tok) (L : List Assn) (hp : p ≤ (bs s).length) (hl : (bs s).length < 1073741824) (f : Nat) (hf : (bs s).length < p + f) :
    Ct Tryz.prog 47 #[.pointer (some ⟨b, 0, none⟩)] (xm b s p q ts L) (retP (fun v L' => ∃ p', skipF (bs s) f p = .ok p' ∧ L' = xm b s p' q ts L) (fun v L' => ∃ p' : Nat, skipF (bs s) f p = .error p' ∧ v = .iface 78 (.int .i64 p') ∧ L' = L)) := by
  generalize hR : skipF (bs s) f p = R
  refine Ct.body Tryz.func47 rfl Tryz.ntmps47 Tryz.results47 rfl ?_
  refine pur ?_
  refine Wp.loopI (α := Nat × Nat) (f, p) (fun x => [(0, .v (.pointer (some ⟨b, 0, none⟩)))]) (fun x => xm b s x.2 q ts L) (fun x => x.1)
    (fun x => x.2 ≤ (bs s).length ∧ (bs s).length < x.2 + x.1 ∧ skipF (bs s) x.1 x.2 = R) ⟨hp, hf, hR⟩ ⟨rfl, trivial⟩ (LeL.refl _) ?_
  rintro ⟨f', n⟩ ⟨h1, h2, h3⟩
  simp only [] at h1 h2 h3
  obtain ⟨g, rfl⟩ : ∃ g, f' = g + 1 := ⟨f' - 1, by omega⟩
  have ht := twL_le blankB (bs s) n h1
  have hs1 := skip1_le h1
  rw [skipF] at h3
  refine pur ?_
  refine Wp.draw rfl [0,1,2,3,4,5,6,7,8,9,10] 10 10 _ rfl (by decide +kernel) (fun _ h => h) ?_
  refine pur ?_
  refine WpO.callq Tryz.call88 rfl rfl (rest_ct b s n q ts L h1) (Keeps.by fun _ h => h) ?_
  refine WpO.callq Tryz.call87 rfl rfl (span_ct (ofL ((bs s).drop n)) 89 blankB _ Tryz.call89 (fun c => blank2_ct c _) (by rw [bs_ofL, List.length_drop]; omega)) (Keeps.by fun _ h => h) ?_
  rw [bs_ofL, drop_tw]
  refine pur ?_
  rw [nat_add (by omega)]
  refine WpO.call Tryz.call90 rfl rfl (line_ct b s (n + twL blankB (bs s) n) q ts L ht hl) fun v L' e => ⟨Keeps.none, ?_⟩
  subst e
  refine pur ?_
  refine WpO.callP Tryz.call91 rfl rfl (nested_ct b s (skip1 (bs s) n) q ts L hs1.2 hl) (fun v L' ⟨e1, e2, e3⟩ => ?_) fun v L' ⟨e1, e2⟩ => ⟨Keeps.none, ?_⟩
  · refine ⟨rfl, v, rfl, skip1 (bs s) n, ?_, e2, e3⟩
    rw [← h3, if_pos e1]
  subst e2
  have hne := nestedF_le hs1.2 e1
  refine pur ?_
  refine Wp.branch rfl (fun h => ?_) (fun h => ?_)
  · have hq : (nestedF (bs s) (skip1 (bs s) n)).toNat = n := by have := of_decide_eq_true h; omega
    refine pur ?_
    refine Wp.ret (Ret 0 rfl ⟨n, ?_, ?_⟩)
    · rw [← h3, if_neg (by omega), if_pos hq]
    · rw [hq]; rfl
  · have hq : ¬ (nestedF (bs s) (skip1 (bs s) n)).toNat = n := by have := of_decide_eq_false h; omega
    refine pur ?_
    refine Round.mk (g, (nestedF (bs s) (skip1 (bs s) n)).toNat) (by simp only []; omega) ⟨by simp only []; omega, by simp only []; omega, ?_⟩ ⟨rfl, trivial⟩ (LeL.refl _)
    rw [← h3, if_neg (by omega), if_neg hq]
end Go.Proofs.YtikgokpbhldlnaaGreatDoor
end
section
/- The calculus: shifts, an or of bytes, interface values that are nil or not, type assertions. -/
namespace Go.Ab
open Go
class UIface (P : Program) (t : TypeId) : Prop where h : ∃ ms, P.underlying t = some (.interface ms)
section
variable {P : Program} {n : Nat} {ops : Array Oper} {Q : Post} {m m' : Md} {rest : List Oper} {E : Env} {D : List Deferred} {L : List Assn} {ty : TypeId} {pos : String} {af : Array Edge} {x y : Operand} {c1 c2 g : Bool} {d : Nat} {t u : TypeId}
theorem Qt.shl {dd : Option Tmp} {gd : Option (Nat × Bool)} {k yk : IntKind} {a b : Int} (hx : opv x E = some (c1, .int k a)) [Imp g c1] (hy : opv y E = some (c2, .int yk b)) [Imp g c2] (hb : ¬ b < 0) :
    Qt P E L ⟨dd, .binOp .shl t x y u, ty, pos, af, gd⟩ g (.int k (k.wrap (a * 2 ^ min b.toNat k.bits))) :=
  .of2 (fun ρ w h1 h2 => by
    simp only [execOp, h1, h2]
    refine run_v ?_
    rw [run_ok (run_eqGuard (by simp) (by simp) w)]
    show (Op.shift .shl k a yk b).run P w = _
    unfold Op.shift
    rw [if_neg hb]; rfl) (EvG.of hx) (EvG.of hy)
theorem S.shl [Nxt m m'] {k yk : IntKind} {a b r : Int} (h0 : Nat.blt d n = true) (hx : opv x E = some (true, .int k a)) (hy : opv y E = some (true, .int yk b)) (hb : ¬ b < 0) (hr : k.wrap (a * 2 ^ min b.toNat k.bits) = r)
    (h : WpO P n ops Q m' rest ((d, .v (.int k r)) :: E) D L) : WpO P n ops Q m (⟨some d, .binOp .shl t x y u, ty, pos, af, none⟩ :: rest) E D L := by
  subst hr
  exact WpO.q rfl h0 (Qt.shl hx hy hb) h
def orB (a b : Int) : Int := IntKind.u8.wrap (BitVec.ofInt IntKind.u8.bits a ||| BitVec.ofInt IntKind.u8.bits b).toNat
theorem Qt.bor {dd : Option Tmp} {gd : Option (Nat × Bool)} {a b : Int} (hx : opv x E = some (c1, .int .u8 a)) [Imp g c1] (hy : opv y E = some (c2, .int .u8 b)) [Imp g c2] :
    Qt P E L ⟨dd, .binOp .or t x y u, ty, pos, af, gd⟩ g (.int .u8 (orB a b)) :=
  .of2 (fun ρ w h1 h2 => by
    simp only [execOp, h1, h2]
    refine run_v ?_
    rw [run_ok (run_eqGuard (by simp) (by simp) w)]
    rfl) (EvG.of hx) (EvG.of hy)
theorem S.bor [Nxt m m'] {a b : Int} (h0 : Nat.blt d n = true) (hx : opv x E = some (true, .int .u8 a)) (hy : opv y E = some (true, .int .u8 b))
    (h : WpO P n ops Q m' rest ((d, .v (.int .u8 (orB a b))) :: E) D L) : WpO P n ops Q m (⟨some d, .binOp .or t x y u, ty, pos, af, none⟩ :: rest) E D L := WpO.q rfl h0 (Qt.bor hx hy) h
def nilB : Value → Option Bool
  | .nilIface => some true
  | .iface _ _ => some false
  | _ => none
theorem run_eqNil {v : Value} {b : Bool} (hv : nilB v = some b) (hu : ∃ ms, P.underlying t = some (.interface ms)) (w : World) : (Op.equal t v .nilIface).run P w = .ok b w := by
  obtain ⟨ms, hu⟩ := hu
  unfold Op.equal
  rw [show Op.maxDepth = 9999 + 1 from rfl]
  unfold Op.equalIn
  rw [run_ok (run_u hu w)]
  cases v <;> simp only [nilB, Option.some.injEq, reduceCtorEq] at hv
  all_goals (subst hv; rfl)
def nilCmp (op : BinOp) (b : Bool) : Option Bool :=
  match op with
  | .eql => some b
  | .neq => some !b
  | _ => none
theorem Qt.isNil {dd : Option Tmp} {gd : Option (Nat × Bool)} {op : BinOp} {v : Value} {b r : Bool} [hu : UIface P t] (hx : opv x E = some (c1, v)) [Imp g c1] (hv : nilB v = some b) (hr : nilCmp op b = some r) :
    Qt P E L ⟨dd, .binOp op t x (.const .nilIface) u, ty, pos, af, gd⟩ g (.bool r) :=
  .of2 (fun ρ w h1 h2 => by
    have hg : (eqGuard op t x (.const .nilIface) v .nilIface).run P w = .ok () w := by
      cases v <;> simp only [nilB, reduceCtorEq] at hv
      · cases op <;> rfl
      · rw [eqGuard_nil_constR]; rfl
    simp only [execOp, h1, h2]
    refine run_v ?_
    rw [run_ok hg]
    have he := run_eqNil hv hu.h w
    cases op <;> simp only [nilCmp, Option.some.injEq, reduceCtorEq] at hr <;> subst hr
    · have : binOp .eql t v .nilIface = (do pure (.bool (← Op.equal t v .nilIface))) := by
        cases v <;> simp only [nilB, reduceCtorEq] at hv <;> rfl
      rw [this, run_ok he]; rfl
    · have : binOp .neq t v .nilIface = (do pure (.bool (!(← Op.equal t v .nilIface)))) := by
        cases v <;> simp only [nilB, reduceCtorEq] at hv <;> rfl
      rw [this, run_ok he]; rfl) (EvG.of hx) (EvG.of (x := .const .nilIface) (c := true) rfl)
theorem S.isNil [Nxt m m'] {op : BinOp} {v : Value} {b r : Bool} [UIface P t] (h0 : Nat.blt d n = true) (hx : opv x E = some (true, v)) (hv : nilB v = some b) (hr : nilCmp op b = some r)
    (h : WpO P n ops Q m' rest ((d, .v (.bool r)) :: E) D L) : WpO P n ops Q m (⟨some d, .binOp op t x (.const .nilIface) u, ty, pos, af, none⟩ :: rest) E D L := WpO.q rfl h0 (Qt.isNil hx hv hr) h
/-- A type assertion with a second result, of an interface value that holds a value of a type that is no interface. -/
theorem Qt.assert {dd : Option Tmp} {gd : Option (Nat × Bool)} {a : TypeId} {w0 : Value} [hn : NotIface P a] (hx : opv x E = some (c1, .iface a w0)) [Imp g c1] :
    Qt P E L ⟨dd, .typeAssert x t a true, ty, pos, af, gd⟩ g (.tuple #[w0, .bool true]) :=
  .of1 (fun ρ w h1 => by
    show (do pure (Next.value (← Instr.typeAssert (ρ x) t a true)) : Sem Next).run P w = _
    rw [h1]
    refine run_v ?_
    obtain ⟨ds, hd, hne⟩ := hn.h
    unfold Instr.typeAssert
    rw [run_ok (run_u hd w)]
    cases ds <;> first | exact absurd rfl (hne _) | (simp only [if_true]; rfl)) (EvG.of hx)
theorem S.assert [Nxt m m'] {a : TypeId} {w0 : Value} [NotIface P a] (h0 : Nat.blt d n = true) (hx : opv x E = some (true, .iface a w0))
    (h : WpO P n ops Q m' rest ((d, .v (.tuple #[w0, .bool true])) :: E) D L) : WpO P n ops Q m (⟨some d, .typeAssert x t a true, ty, pos, af, none⟩ :: rest) E D L := WpO.q rfl h0 (Qt.assert hx) h
end
end Go.Ab
end
section
/- strconv.ParseUint of two bytes, at base 16. -/
namespace Go.Proofs.YtikgokpbhldlnaaGreatDoor
open Go Go.Ab
instance : UIface Tryz.prog 91 := ⟨_, Tryz.underlying91⟩
instance : UIface Tryz.prog 20 := ⟨_, Tryz.underlying20⟩
attribute [local irreducible] Wp WpO Qt OpT Ct Ent
theorem concE : Tryz.prog.concrete 169 = true := by kernel_rfl
theorem lower_ct (c : UInt8) (L : List Assn) : Ct Tryz.prog 213 #[.int .u8 c.toNat] L (ret fun v L' => v = .int .u8 (orB c.toNat 32) ∧ L' = L) := by
  refine Ct.body Tryz.func213 rfl Tryz.ntmps213 Tryz.results213 rfl ?_
  refine pur ?_
  refine S.bor rfl rfl rfl ?_
  refine pur ?_
  exact Wp.ret (Ret 0 rfl ⟨rfl, rfl⟩)
/-- A digit of ParseUint's; -1: it is none. -/
def duF (c : UInt8) : Int :=
  if (decide ((48 : Int) ≤ c.toNat) && decide ((c.toNat : Int) ≤ 57)) = true then IntKind.u8.wrap ((c.toNat : Int) - 48) else
  if (decide ((97 : Int) ≤ orB c.toNat 32) && decide (orB c.toNat 32 ≤ 122)) = true then IntKind.u8.wrap (IntKind.u8.wrap (orB c.toNat 32 - 97) + 10) else -1
theorem du_hex_all : ∀ n : Fin 256, (duF (UInt8.ofNat n) = -1 ∨ 0 ≤ duF (UInt8.ofNat n)) ∧ hexF (UInt8.ofNat n) = if duF (UInt8.ofNat n) < 16 then duF (UInt8.ofNat n) else -1 := by decide +kernel
theorem du_hex (c : UInt8) : (duF c = -1 ∨ 0 ≤ duF c) ∧ hexF c = if duF c < 16 then duF c else -1 := by
  have := du_hex_all ⟨c.toNat, c.toNat_lt⟩
  simpa using this
theorem u64_id {z : Int} (h1 : 0 ≤ z) (h2 : z < 18446744073709551616) : IntKind.u64.wrap z = z := IntWalk.u64_in z ⟨h1, by omega⟩
def puF (l : List UInt8) : Option Int := match l with
  | [x, y] => if 0 ≤ hexF x ∧ 0 ≤ hexF y then some (16 * hexF x + hexF y) else none
  | _ => none
set_option maxHeartbeats 4000000 in
theorem puint_ct (s : ByteArray) (x y : UInt8) (hs : bs s = [x, y]) (L : List Assn) :
    Ct Tryz.prog 193 #[.string s, .int .i64 16, .int .i64 8] L (ret fun v L' => v = (match puF (bs s) with
      | some u => .tuple #[.int .u64 u, .nilIface]
      | none => .tuple #[.int .u64 0, .iface 169 (.int .i64 2)]) ∧ L' = L) := by
  have hlen : (bs s).length = 2 := by rw [hs]; rfl
  refine Ct.body Tryz.func193 rfl Tryz.ntmps193 Tryz.results193 rfl ?_
  refine pur ?_
  refine Wp.branch rfl (fun h => ?_) (fun h => ?_)
  · have := of_decide_eq_true h; rw [hs] at this; cases this
  clear h
  refine pur ?_
  refine S.shl (r := 256) rfl rfl rfl (by decide) (by decide) ?_
  refine pur ?_
  refine WpO.strBytes rfl rfl fun bb bc hbc => ?_
  refine pur ?_
  rw [show IntKind.u64.wrap (256 - 1) = 255 from by decide]
  refine Wp.loopI (α := Nat × Int) (0, 0) (fun z => [(1, .v (.int .i64 16)), (8, .v (.bool false)), (9, .v (.string s)), (10, .v (.int .u64 1152921504606846976)), (11, .v (.int .u64 255)), (12, .v (.bool false)), (13, .v (.int .u64 z.2)), (99, .v (.slice (some ⟨bb, 0, none⟩) (bs s).length bc)), (100, .v (.int .i64 (bs s).length)), (101, .v (.int .i64 z.1))])
    (fun _ => CellsAt bb 0 (u8s (bs s)).flatten :: L) (fun z => (bs s).length - z.1)
    (fun z => (z.1 = 0 ∧ z.2 = 0) ∨ (z.1 = 1 ∧ 0 ≤ hexF x ∧ z.2 = hexF x) ∨ (z.1 = 2 ∧ 0 ≤ hexF x ∧ 0 ≤ hexF y ∧ z.2 = 16 * hexF x + hexF y)) (.inl ⟨rfl, rfl⟩) ⟨rfl, rfl, rfl, rfl, rfl, rfl, rfl, rfl, rfl, rfl, trivial⟩ (LeL.refl _) ?_
  rintro ⟨i, n⟩ hi
  simp only at hi
  have hx15 := hexF_le x
  have hy15 := hexF_le y
  refine pur ?_
  refine Wp.branch rfl (fun h => ?_) (fun h => ?_)
  · have hix : i < (bs s).length := by have := of_decide_eq_true h; omega
    obtain ⟨b2, o2, e2, _, hE⟩ := (Sl.ofCells (L := CellsAt bb 0 (u8s (bs s)).flatten :: L) (Ent.of_head (CellsAt.mono _ _ _) fun _ h => h) hbc).at (i := i) (r := [.int .u8 ((bs s)[i].toNat : Int)]) (by simp [u8s, List.getElem?_eq_getElem hix])
    obtain ⟨rfl, rfl⟩ : bb = b2 ∧ 0 = o2 := by simpa using e2
    have hci : (i = 0 ∧ n = 0 ∧ (bs s)[i] = x) ∨ (i = 1 ∧ n = hexF x ∧ 0 ≤ hexF x ∧ (bs s)[i] = y) := by
      rcases hi with ⟨rfl, rfl⟩ | ⟨rfl, q1, q2⟩ | ⟨rfl, _⟩
      · exact .inl ⟨rfl, rfl, by simp only [hs, List.getElem_cons_zero]⟩
      · exact .inr ⟨rfl, q2, q1, by simp only [hs, List.getElem_cons_succ, List.getElem_cons_zero]⟩
      · omega
    generalize hc : (bs s)[i] = c at hE hci
    have hbad : hexF c < 0 → puF (bs s) = none := fun q => by
      rw [hs]
      show (if 0 ≤ hexF x ∧ 0 ≤ hexF y then some (16 * hexF x + hexF y) else none) = none
      rw [if_neg]
      rcases hci with ⟨_, _, rfl⟩ | ⟨_, _, _, rfl⟩ <;> omega
    obtain ⟨hneg, hhx⟩ := du_hex c
    refine pur ?_
    refine S.idx i rfl rfl rfl rfl hix ?_
    refine pur ?_
    refine Wp.branch rfl (fun h => ?_) (fun h => ?_)
    · exfalso; simp at h
    clear h
    refine pur ?_
    refine Wp.branch rfl (fun h1 => ?_) (fun h1 => ?_)
    · have hdu : duF c = IntKind.u8.wrap ((c.toNat : Int) - 48) := by unfold duF; rw [if_pos h1]
      have hnn : duF c ≠ -1 := by
        rw [Bool.and_eq_true, decide_eq_true_eq, decide_eq_true_eq] at h1
        rw [hdu]; simp only [IntKind.wrap, IntKind.signed, IntKind.bits]; omega
      refine pur ?_
      rw [show IntKind.u8.wrap 16 = 16 from by decide]
      refine Wp.branch rfl (fun h9 => ?_) (fun h9 => ?_)
      · have hd9 : ¬ duF c < 16 := by have := of_decide_eq_true h9; rw [hdu]; omega
        refine pur ?_
        refine S.mkiface concE rfl rfl ?_
        refine pur ?_
        refine Wp.ret (Ret 1 rfl ⟨?_, rfl⟩)
        rw [hbad (by rw [hhx, if_neg hd9]; decide)]
      have hd9 : duF c < 16 := by have := of_decide_eq_false h9; rw [hdu]; omega
      have hd0 : 0 ≤ duF c := by
        rcases hneg with q | q
        · exact absurd q hnn
        · exact q
      rw [if_pos hd9] at hhx
      have hm0 : n * 16 + duF c ≤ 255 := by omega
      rw [← hdu]
      refine pur ?_
      refine Wp.branch rfl (fun h10 => ?_) (fun h10 => ?_)
      · exfalso; have := of_decide_eq_true h10; omega
      refine pur ?_
      simp only []
      rw [show IntKind.u64.wrap 16 = 16 from by decide, u64_id (z := n * 16) (by omega) (by omega), u64_id (z := duF c) hd0 (by omega), u64_id (z := n * 16 + duF c) (by omega) (by omega)]
      refine Wp.branch rfl (fun h11 => ?_) (fun h11 => ?_)
      · exfalso
        simp only [Bool.or_eq_true, decide_eq_true_eq] at h11
        omega
      refine pur ?_
      refine Round.mk (i + 1, n * 16 + duF c) (by simp only []; omega) ?_ ⟨rfl, rfl, rfl, rfl, rfl, rfl, rfl, rfl, rfl, inc_e (by omega), trivial⟩ (LeL.refl _)
      rcases hci with ⟨rfl, rfl, rfl⟩ | ⟨rfl, rfl, q, rfl⟩
      · exact .inr (.inl ⟨rfl, by omega, by simp only []; omega⟩)
      · exact .inr (.inr ⟨rfl, q, by omega, by simp only []; omega⟩)
    have hdu0 : duF c = if (decide ((97 : Int) ≤ orB c.toNat 32) && decide (orB c.toNat 32 ≤ 122)) = true then IntKind.u8.wrap (IntKind.u8.wrap (orB c.toNat 32 - 97) + 10) else -1 := by unfold duF; rw [if_neg (by rw [h1]; decide)]
    refine pur ?_
    refine WpO.callq Tryz.call213 rfl rfl (lower_ct c _) Keeps.none ?_
    refine pur ?_
    refine WpO.callqg Tryz.call213 rfl rfl (.cons rfl (by infer_instance) .nil) (fun _ => lower_ct c _) Keeps.none ?_
    refine pur ?_
    refine Wp.branch rfl (fun h2 => ?_) (fun h2 => ?_)
    · have hdu : duF c = IntKind.u8.wrap (IntKind.u8.wrap (orB c.toNat 32 - 97) + 10) := by rw [hdu0, if_pos h2]
      have hnn : duF c ≠ -1 := by
        rw [Bool.and_eq_true, decide_eq_true_eq, decide_eq_true_eq] at h2
        rw [hdu]; simp only [IntKind.wrap, IntKind.signed, IntKind.bits]; omega
      refine pur ?_
      refine WpO.callq Tryz.call213 rfl rfl (lower_ct c _) Keeps.none ?_
      refine pur ?_
      rw [show IntKind.u8.wrap 16 = 16 from by decide]
      refine Wp.branch rfl (fun h9 => ?_) (fun h9 => ?_)
      · have hd9 : ¬ duF c < 16 := by have := of_decide_eq_true h9; rw [hdu]; omega
        refine pur ?_
        refine S.mkiface concE rfl rfl ?_
        refine pur ?_
        refine Wp.ret (Ret 1 rfl ⟨?_, rfl⟩)
        rw [hbad (by rw [hhx, if_neg hd9]; decide)]
      have hd9 : duF c < 16 := by have := of_decide_eq_false h9; rw [hdu]; omega
      have hd0 : 0 ≤ duF c := by
        rcases hneg with q | q
        · exact absurd q hnn
        · exact q
      rw [if_pos hd9] at hhx
      have hm0 : n * 16 + duF c ≤ 255 := by omega
      rw [← hdu]
      refine pur ?_
      refine Wp.branch rfl (fun h10 => ?_) (fun h10 => ?_)
      · exfalso; have := of_decide_eq_true h10; omega
      refine pur ?_
      simp only []
      rw [show IntKind.u64.wrap 16 = 16 from by decide, u64_id (z := n * 16) (by omega) (by omega), u64_id (z := duF c) hd0 (by omega), u64_id (z := n * 16 + duF c) (by omega) (by omega)]
      refine Wp.branch rfl (fun h11 => ?_) (fun h11 => ?_)
      · exfalso
        simp only [Bool.or_eq_true, decide_eq_true_eq] at h11
        omega
      refine pur ?_
      refine Round.mk (i + 1, n * 16 + duF c) (by simp only []; omega) ?_ ⟨rfl, rfl, rfl, rfl, rfl, rfl, rfl, rfl, rfl, inc_e (by omega), trivial⟩ (LeL.refl _)
      rcases hci with ⟨rfl, rfl, rfl⟩ | ⟨rfl, rfl, q, rfl⟩
      · exact .inr (.inl ⟨rfl, by omega, by simp only []; omega⟩)
      · exact .inr (.inr ⟨rfl, q, by omega, by simp only []; omega⟩)
    · have hdu : duF c = -1 := by rw [hdu0, if_neg (by rw [h2]; decide)]
      refine pur ?_
      refine S.mkiface concE rfl rfl ?_
      refine pur ?_
      refine Wp.ret (Ret 1 rfl ⟨?_, rfl⟩)
      rw [hbad (by rw [hhx, hdu]; decide)]
  · have hin : (bs s).length ≤ i := by have := of_decide_eq_false h; omega
    obtain ⟨rfl, q1, q2, rfl⟩ : i = 2 ∧ 0 ≤ hexF x ∧ 0 ≤ hexF y ∧ n = 16 * hexF x + hexF y := by
      rcases hi with ⟨rfl, _⟩ | ⟨rfl, _⟩ | q
      · omega
      · omega
      · exact q
    have hpu : puF (bs s) = some (16 * hexF x + hexF y) := by
      rw [hs]
      show (if 0 ≤ hexF x ∧ 0 ≤ hexF y then some (16 * hexF x + hexF y) else none) = _
      rw [if_pos ⟨q1, q2⟩]
    refine pur ?_
    refine WpO.callqg (v := .bool false) Tryz.call214 rfl rfl (.cons rfl (by infer_instance) .nil) (fun h => absurd h (by decide)) Keeps.none ?_
    refine pur ?_
    refine Wp.ret (Ret 1 rfl ⟨?_, rfl⟩)
    rw [hpu]
theorem spuint_ct (s : ByteArray) (x y : UInt8) (hs : bs s = [x, y]) (L : List Assn) (hE : ErrL L) :
    Ct Tryz.prog 198 #[.string s, .int .i64 16, .int .i64 8] L (ret fun v L' => (∃ z e, v = .tuple #[.int .u64 z, e] ∧ match puF (bs s) with
      | some u => z = u ∧ e = .nilIface
      | none => ∃ t p, e = .iface t p) ∧ L' = L) := by
  refine Ct.body Tryz.func198 rfl Tryz.ntmps198 Tryz.results198 rfl ?_
  refine pur ?_
  refine WpO.callq Tryz.call193 rfl rfl (puint_ct s x y hs L) Keeps.none ?_
  cases hp : puF (bs s) with
  | some u =>
    refine pur ?_
    refine S.isNil rfl rfl rfl rfl ?_
    refine pur ?_
    exact Wp.ret (Ret 0 rfl ⟨⟨_, _, rfl, rfl, rfl⟩, rfl⟩)
  | none =>
    refine pur ?_
    refine S.isNil rfl rfl rfl rfl ?_
    refine pur ?_
    refine WpO.call Tryz.call152 rfl rfl (toErr_ct _ s 16 8 L hE (by rw [hs]; show 2 < 1073741824; omega)) fun v L' ⟨⟨t, p, e⟩, e'⟩ => ⟨Keeps.none, ?_⟩
    subst e; subst e'
    refine pur ?_
    exact Wp.ret (Ret 0 rfl ⟨⟨_, _, rfl, _, _, rfl⟩, rfl⟩)
end Go.Proofs.YtikgokpbhldlnaaGreatDoor
end
