/- ShowRead, the second form: of a text that is read Show writes one that is read as the same, and writes it once more as it was; its tokens have one blank between (loiterlaw09.ShowRead answers true), wherever the text that it reads is of bulk at most 1048576. Conditions: those of the given row. -/
import Derived.Test.YtikgokpbhldlnaaGreatDoorCards
import Derived.Test.YtikgokpbhldlnaaGreatDoorTie
import Derived.Test.YtikgokpbhldlnaaGreatDoorYQh
import Derived.Test.YtikgokpbhldlnaaGreatDoorYRg
import Derived.WalkKit
import Derived.ProofKit
import Derived.OpenShut
import Derived.Deep.DeepHandedRow
import Derived.Lib.LaidTab
import Derived.Stop.LaidErr
import Derived.Lay
set_option linter.unusedVariables false
set_option linter.unusedSimpArgs false
set_option linter.unusedSectionVars false
section
/- ShowRead: from its contract to the statement. -/
namespace Go.Proofs.YtikgokpbhldlnaaGreatDoor.showRead
open Go Go.Ab Go.ChangeShapes Go.WideShapes Go.ChangeAt Go.RowKit
theorem own : ownKnob Tryz.prog.godebug = none := by kernel_rfl
theorem errs {W : World} (h : laidMetH Tryz.prog Rows.showReadUptoRow.laid W) : ErrL [exactA W] := by
  have h' : laidMet Tryz.prog Rows.showReadUptoRow.laid W := h
  exact errs_of h'.tail.tail.tail
theorem gTab : Tryz.prog.globalNamed "internal/strconv.uint64pow10" = some 3 := by kernel_rfl
theorem gTabType : (Tryz.prog.globals[3]?).map (·.type) = some 200 := by kernel_rfl
theorem cTab : Tryz.prog.cellsOf 200 = 20 := by kernel_rfl
theorem cU64 : Tryz.prog.cellsOf 166 = 1 := by kernel_rfl
theorem table {W : World} (h : laidMetH Tryz.prog Rows.showReadUptoRow.laid W) : Lib.TabIs Tryz.prog W "internal/strconv.uint64pow10" .u64 Lib.pow10Tab := by
  have h' : laidMet Tryz.prog Rows.showReadUptoRow.laid W := h
  exact Lib.tabIs_of_head (rest := [("strconv.ErrRange", Rows.laid_strconv_ErrRange), ("strconv.ErrSyntax", Rows.laid_strconv_ErrSyntax)]) gTab gTabType Tryz.underlying200 Tryz.underlying166 cU64 cTab h'.tail.tail
theorem tab_exact {W : World} (h : Lib.TabIs Tryz.prog W "internal/strconv.uint64pow10" .u64 Lib.pow10Tab) : TabL [exactA W] := fun w hw => by
  have hl := exact_le hw
  unfold Lib.TabIs World.var? at h ⊢
  rw [gTab] at h ⊢
  simp only [Option.bind_some] at h ⊢
  cases ho : W.heap[3]? with
  | none => rw [ho] at h; cases h
  | some o =>
    have h2 : w.heap[3]? = some o := hl _ o ho
    rw [ho] at h
    rw [h2]; exact h
theorem plainStr : Plain Tryz.prog 9 := .str Tryz.underlying9
set_option maxRecDepth 100000 in
theorem contract (H : Type) (enc : TypeId × Value → H) (W : World) (base : Nat) (args : Array Value) (ds gs : List (DataW H)) (before : List MemPlace)
    (hval : ∀ (j : Nat) t v, Tryz.f10.params[j]? = some t → args[j]? = some v → Value.okWide Tryz.prog W .any base t v)
    (hW : DataW.Whole enc Tryz.prog Tryz.f10.params.toList Rows.showReadSpec.vars false W args.toList ds gs before)
    (hcond : ∀ k, (Rows.OpenSpec.upto Rows.showReadSpec).cond = some k → k H (ds ++ gs) = true) (hL : laidMetH Tryz.prog Rows.showReadUptoRow.laid W) :
    Calls Tryz.prog 10 args W fun e W' => ∃ v, e = .returned v ∧ Rows.showReadSpec.post enc Tryz.prog Tryz.f10 false true false false W args v W' := by
  have hW' := hW
  obtain ⟨p, q, hA0, hV, rfl, hfz, hnd⟩ := hW
  have hA : DataW.TrodAll enc Tryz.prog W 0 (fun _ => true) true Tryz.f10.params.toList args.toList ds p := hA0
  rw [Tryz.params10] at hA hval
  obtain ⟨v0, vs0, d0, ds0, p0, q0, hargs, rfl, rfl, h0, r0⟩ := trodAll_cons hA
  obtain ⟨rfl, rfl, rfl⟩ := trodAll_nil r0
  obtain rfl : args = #[v0] := by cases args; simp_all
  obtain ⟨rfl, rfl⟩ := trodVars_none hV
  obtain ⟨s, rfl⟩ := okWide_string Tryz.underlying9 (hval 0 9 v0 rfl rfl)
  have hb : Rows.uptoBulkAll ([d0] ++ []) ≤ 1048576 := of_decide_eq_true (hcond _ rfl)
  have hlen : (bs s).length ≤ 1048576 := str_open h0 (by simpa [Rows.uptoBulkAll] using hb)
  refine (showRead_ct s _ (tab_exact (table hL)) (errs hL) hlen W (exact_sat W)).mono fun e W' ⟨_, L', hret, hs⟩ => ?_
  cases e with
  | returned v =>
    obtain ⟨rfl, rfl⟩ := hret
    refine ⟨_, rfl, post_same hW' (exact_le hs) (fun t ht => ?_) rfl (fun _ _ _ => trodAll_cons_mk (shut_bool Tryz.underlying4 _) trodAll_mk0) rfl rfl ?_⟩
    · rw [Tryz.params10] at ht
      obtain rfl : t = 9 := by simpa using ht
      exact plainStr
    · exact ok_one (by kernel_rfl) rfl (okWide_bool_mk Tryz.underlying4 _)
  | _ => exact hret.elim
abbrev args0 : Array Value := #[.string ⟨#[]⟩]
theorem reads (os : Os) {H : Type} (enc : TypeId × Value → H) : ∃ x, DataW.whole enc Tryz.prog ((World.laidAll Tryz.prog os Rows.showReadUptoRow.laid).forCall (fun _ _ => 0) ⟨#[], args0, []⟩).memory Tryz.f10.params.toList Rows.showReadSpec.vars false args0.toList 8 = some ([.lit (.string [])], [], x) :=
  ⟨[], by kernel_rfl⟩
set_option maxRecDepth 100000 in
theorem lifted (os : Os) (started : os.Started) (H : Type) (enc : TypeId × Value → H) (F : Stop.Interp) :
    ReturnsInHanded {} Tryz.checked os 10 .any ((Rows.OpenSpec.upto Rows.showReadSpec).preRow enc Tryz.prog Tryz.f10 Rows.showReadUptoRow.domain false Rows.showReadUptoRow.laid) (((Rows.OpenSpec.upto Rows.showReadSpec).at F).post enc Tryz.prog Tryz.f10 false true false false) := by
  obtain ⟨places, hx⟩ := reads os enc
  refine returnsInHanded_of_row (C := Tryz.checked) (s := Rows.OpenSpec.upto Rows.showReadSpec) own started (by kernel_rfl) Tryz.func10
    (witness_row_at (enc := enc) (C := Tryz.checked) false (World.laidAll Tryz.prog os Rows.showReadUptoRow.laid) args0 (World.laidAll_os _ _ _) (by kernel_rfl) (by kernel_rfl) (by kernel_rfl)
      (OpenSpec.preRow_of_cond 8 hx (by kernel_rfl) (fun k hk => by cases hk; kernel_rfl) (by kernel_rfl) (by show laidMet _ _ _; exact laidMet_laidAll _ (by kernel_rfl) (by kernel_rfl)))) ?_
  intro W base args ds gs before hval hW _ hc _ hL _ _
  exact contract H enc W base args ds gs before hval hW hc hL
theorem said : Rows.ShowReadUptoSaid :=
  OpenClaim.holds_of_cond 10 Tryz.f10 rfl rfl rfl rfl rfl rfl rfl ⟨rfl, rfl, rfl, rfl, rfl⟩ rfl rfl rfl rfl rfl (by kernel_rfl) Tryz.func10 (by kernel_rfl)
    (of_decide_eq_true (by kernel_rfl)) (by unfold Func.isWrapper; first | (rw [if_pos (by decide +kernel)]; kernel_rfl) | (rw [if_neg (by decide +kernel)]; exact ⟨rfl, rfl⟩))
    (fun os started H enc _ F => by rw [OpenClaim.pre_eq_preRow]; exact lifted os started H enc F)
theorem plain (f : FuncId) (fn : Func) (hf : Tryz.pinned.checked.prog.funcNamed "loiter/loiterlaw09.ShowRead" = some f) (hfn : Tryz.pinned.checked.prog.funcs[f]? = some fn) :
    true = Tryz.pinned.checked.prog.looks [] ∧ ∀ (j : Nat) t, fn.params[j]? = some t → Tryz.pinned.checked.prog.wantsStandIn t = false := by
  obtain rfl : f = 10 := Option.some.inj ((show Tryz.prog.funcNamed "loiter/loiterlaw09.ShowRead" = some 10 by kernel_rfl).symm.trans hf) |>.symm
  obtain rfl : fn = Tryz.f10 := (Option.some.inj (Tryz.func10.symm.trans hfn)).symm
  refine ⟨by kernel_rfl, fun j t ht => ?_⟩
  rw [Tryz.params10] at ht
  obtain rfl : t = 9 := by simpa using Array.mem_of_getElem? ht
  exact (show Tryz.prog.wantsStandIn 9 = false by kernel_rfl)
/-- ShowRead, the second form's card. -/
theorem card : Rows.ShowReadUptoCardSaid :=
  Claim7.holds_tied_plain_at .later [] _ _ _ _ said (fun _ h => by cases h) (by kernel_rfl) (fun _ h => by cases h) showReadUpto_row_tie rfl ⟨rfl, rfl⟩ (by kernel_rfl) rfl plain (by kernel_rfl)
end Go.Proofs.YtikgokpbhldlnaaGreatDoor.showRead
end
