/- ParseSound, the second form: what Parse answers is sound, and the place of a fault is that of a token, or the end of the text, or what scan names (loiterlaw08.ParseSound answers true), wherever the text that it reads is of bulk at most 1048576. Conditions: those of the given row. -/
import Derived.Test.YtikgokpbhldlnaaGreatDoorCards
import Derived.Test.YtikgokpbhldlnaaGreatDoorTie
import Derived.Test.YtikgokpbhldlnaaGreatDoorQh
import Derived.Test.YtikgokpbhldlnaaGreatDoorQj
import Derived.WalkKit
import Derived.ProofKit
import Derived.OpenShut
import Derived.Deep.DeepHandedRow
import Derived.Lib.LaidTab
import Derived.Stop.LaidErr
import Derived.Lay
set_option linter.unusedVariables false
set_option linter.unusedSimpArgs false
set_option linter.unusedSectionVars false
section
/- ParseSound: from its contract to the statement. -/
namespace Go.Proofs.YtikgokpbhldlnaaGreatDoor.parseSound
open Go Go.Ab Go.ChangeShapes Go.WideShapes Go.ChangeAt Go.RowKit

theorem own : ownKnob Tryz.prog.godebug = none := by kernel_rfl
theorem errs {W : World} (h : laidMetH Tryz.prog Rows.parseSoundUptoRow.laid W) : ErrL [exactA W] := by
  have h' : laidMet Tryz.prog Rows.parseSoundUptoRow.laid W := h
  exact errs_of h'.tail.tail.tail
theorem plainStr : Plain Tryz.prog 9 := .str Tryz.underlying9
set_option maxRecDepth 100000 in
theorem contract (H : Type) (enc : TypeId × Value → H) (W : World) (base : Nat) (args : Array Value) (ds gs : List (DataW H)) (before : List MemPlace)
    (hval : ∀ (j : Nat) t v, Tryz.f6.params[j]? = some t → args[j]? = some v → Value.okWide Tryz.prog W .any base t v)
    (hW : DataW.Whole enc Tryz.prog Tryz.f6.params.toList Rows.parseSoundSpec.vars false W args.toList ds gs before)
    (hcond : ∀ k, (Rows.OpenSpec.upto Rows.parseSoundSpec).cond = some k → k H (ds ++ gs) = true) (hL : laidMetH Tryz.prog Rows.parseSoundUptoRow.laid W) :
    Calls Tryz.prog 6 args W fun e W' => ∃ v, e = .returned v ∧ Rows.parseSoundSpec.post enc Tryz.prog Tryz.f6 false true false false W args v W' := by
  have hW' := hW
  obtain ⟨p, q, hA0, hV, rfl, hfz, hnd⟩ := hW
  have hA : DataW.TrodAll enc Tryz.prog W 0 (fun _ => true) true Tryz.f6.params.toList args.toList ds p := hA0
  rw [Tryz.params6] at hA hval
  obtain ⟨v0, vs0, d0, ds0, p0, q0, hargs, rfl, rfl, h0, r0⟩ := trodAll_cons hA
  obtain ⟨rfl, rfl, rfl⟩ := trodAll_nil r0
  obtain rfl : args = #[v0] := by cases args; simp_all
  obtain ⟨rfl, rfl⟩ := trodVars_none hV
  obtain ⟨s, rfl⟩ := okWide_string Tryz.underlying9 (hval 0 9 v0 rfl rfl)
  have hb : Rows.uptoBulkAll ([d0] ++ []) ≤ 1048576 := of_decide_eq_true (hcond _ rfl)
  have hlen : (bs s).length ≤ 1048576 := str_open h0 (by simpa [Rows.uptoBulkAll] using hb)
  refine (parseSound_ct s _ (errs hL) hlen W (exact_sat W)).mono fun e W' ⟨_, L', hret, hs⟩ => ?_
  cases e with
  | returned v =>
    obtain ⟨rfl, rfl⟩ := hret
    refine ⟨_, rfl, post_same hW' (exact_le hs) (fun t ht => ?_) rfl (fun _ _ _ => trodAll_cons_mk (shut_bool Tryz.underlying4 _) trodAll_mk0) rfl rfl ?_⟩
    · rw [Tryz.params6] at ht
      obtain rfl : t = 9 := by simpa using ht
      exact plainStr
    · exact ok_one (by kernel_rfl) rfl (okWide_bool_mk Tryz.underlying4 _)
  | _ => exact hret.elim

abbrev args0 : Array Value := #[.string ⟨#[]⟩]
theorem reads (os : Os) {H : Type} (enc : TypeId × Value → H) : ∃ x, DataW.whole enc Tryz.prog ((World.laidAll Tryz.prog os Rows.parseSoundUptoRow.laid).forCall (fun _ _ => 0) ⟨#[], args0, []⟩).memory Tryz.f6.params.toList Rows.parseSoundSpec.vars false args0.toList 8 = some ([.lit (.string [])], [], x) :=
  ⟨[], by kernel_rfl⟩
set_option maxRecDepth 100000 in
theorem lifted (os : Os) (started : os.Started) (H : Type) (enc : TypeId × Value → H) (F : Stop.Interp) :
    ReturnsInHanded {} Tryz.checked os 6 .any ((Rows.OpenSpec.upto Rows.parseSoundSpec).preRow enc Tryz.prog Tryz.f6 Rows.parseSoundUptoRow.domain false Rows.parseSoundUptoRow.laid) (((Rows.OpenSpec.upto Rows.parseSoundSpec).at F).post enc Tryz.prog Tryz.f6 false true false false) := by
  obtain ⟨places, hx⟩ := reads os enc
  refine returnsInHanded_of_row (C := Tryz.checked) (s := Rows.OpenSpec.upto Rows.parseSoundSpec) own started (by kernel_rfl) Tryz.func6
    (witness_row_at (enc := enc) (C := Tryz.checked) false (World.laidAll Tryz.prog os Rows.parseSoundUptoRow.laid) args0 (World.laidAll_os _ _ _) (by kernel_rfl) (by kernel_rfl) (by kernel_rfl)
      (OpenSpec.preRow_of_cond 8 hx (by kernel_rfl) (fun k hk => by cases hk; kernel_rfl) (by kernel_rfl) (by show laidMet _ _ _; exact laidMet_laidAll _ (by kernel_rfl) (by kernel_rfl)))) ?_
  intro W base args ds gs before hval hW _ hc _ hL _ _
  exact contract H enc W base args ds gs before hval hW hc hL

theorem said : Rows.ParseSoundUptoSaid :=
  OpenClaim.holds_of_cond 6 Tryz.f6 rfl rfl rfl rfl rfl rfl rfl ⟨rfl, rfl, rfl, rfl, rfl⟩ rfl rfl rfl rfl rfl (by kernel_rfl) Tryz.func6 (by kernel_rfl)
    (of_decide_eq_true (by kernel_rfl)) (by unfold Func.isWrapper; first | (rw [if_pos (by decide +kernel)]; kernel_rfl) | (rw [if_neg (by decide +kernel)]; exact ⟨rfl, rfl⟩))
    (fun os started H enc _ F => by rw [OpenClaim.pre_eq_preRow]; exact lifted os started H enc F)
theorem plain (f : FuncId) (fn : Func) (hf : Tryz.pinned.checked.prog.funcNamed "loiter/loiterlaw08.ParseSound" = some f) (hfn : Tryz.pinned.checked.prog.funcs[f]? = some fn) :
    true = Tryz.pinned.checked.prog.looks [] ∧ ∀ (j : Nat) t, fn.params[j]? = some t → Tryz.pinned.checked.prog.wantsStandIn t = false := by
  obtain rfl : f = 6 := Option.some.inj ((show Tryz.prog.funcNamed "loiter/loiterlaw08.ParseSound" = some 6 by kernel_rfl).symm.trans hf) |>.symm
  obtain rfl : fn = Tryz.f6 := (Option.some.inj (Tryz.func6.symm.trans hfn)).symm
  refine ⟨by kernel_rfl, fun j t ht => ?_⟩
  rw [Tryz.params6] at ht
  obtain rfl : t = 9 := by simpa using Array.mem_of_getElem? ht
  exact (show Tryz.prog.wantsStandIn 9 = false by kernel_rfl)

/-- ParseSound, the second form's card. -/
theorem card : Rows.ParseSoundUptoCardSaid :=
  Claim7.holds_tied_plain_at .later [] _ _ _ _ said (fun _ h => by cases h) (by kernel_rfl) (fun _ h => by cases h) parseSoundUpto_row_tie rfl ⟨rfl, rfl⟩ (by kernel_rfl) rfl plain (by kernel_rfl)
end Go.Proofs.YtikgokpbhldlnaaGreatDoor.parseSound
end
