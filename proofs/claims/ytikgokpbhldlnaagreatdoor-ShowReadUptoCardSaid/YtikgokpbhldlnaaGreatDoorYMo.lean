/- Parts of a proof: Pa. -/
import Derived.Test.YtikgokpbhldlnaaGreatDoorRows
import Derived.Test.YtikgokpbhldlnaaGreatDoorYMd
import Derived.Test.YtikgokpbhldlnaaGreatDoorYMe
import Derived.WalkKit
import Derived.RowKit
set_option linter.unusedVariables false
set_option linter.unusedSimpArgs false
set_option linter.unusedSectionVars false
section
/- A tree that comes in, as the reading of a statement has it; what stands behind a call that leaves memory as it was. -/
namespace Go.Proofs.YtikgokpbhldlnaaGreatDoor
open Go Go.Ab Go.ChangeShapes Go.WideShapes Go.Deep Go.RowKit
theorem cStr : Tryz.prog.cellsOf 9 = 1 := by kernel_rfl
section
variable {H : Type} {enc : TypeId × Value → H} {W : World}
instance : Inhabited (Nd × (Option Addr × Nat)) := ⟨(⟨0, .empty, 0, []⟩, (none, 0))⟩
/-! ## Behind a call that leaves memory as it was -/
theorem kept_le {W W' : World} (h : Hp.le (hp W) (hp W')) (may : MemPlace → Prop) : W.keptBut W' may := by
  have hm := h.m
  simp only [hp, Prod.mk.injEq] at hm
  refine ⟨hm.1.symm, hm.2.symm, fun i hi => ?_⟩
  have hs : W.heap[i]? = some W.heap[i] := Array.getElem?_eq_getElem hi
  have hs' : W'.heap[i]? = some W.heap[i] := h i _ hs
  rw [hs, hs']
  cases W.heap[i] with
  | cells c t fr => obtain ⟨lo, hi⟩ := fr; exact ⟨rfl, rfl, rfl, fun _ _ => rfl⟩
  | map es clock => exact .inr ⟨rfl, rfl⟩
  | _ => rfl
theorem frozen_le {W W' : World} (h : Hp.le (hp W) (hp W')) {b off : Nat} (hb : b < W.heap.size) (hf : W.frozen? ⟨b, off, none⟩ = false) : W'.frozen? ⟨b, off, none⟩ = false := by
  have hs : W.heap[b]? = some W.heap[b] := Array.getElem?_eq_getElem hb
  have hs' : W'.heap[b]? = some W.heap[b] := h b _ hs
  unfold World.frozen? at hf ⊢
  simp only [] at hf ⊢
  rw [hs] at hf
  rw [hs']; exact hf
theorem post_same {P : Program} {f : Func} {s : ChangeSpec} {apart fresh handsOn again : Bool} {W W' : World} {args : Array Value} {v : Value} {ds gs : List (DataW H)} {before : List MemPlace}
    (hW : DataW.Whole enc P f.params.toList s.vars apart W args.toList ds gs before) (hl : Hp.le (hp W) (hp W')) (hpl : ∀ t ∈ f.params.toList, Plain P t) (hv : s.vars = [])
    (hres : ∀ (b : Nat) (sp : Nat → Bool) (hd : Bool), DataW.TrodAll enc P W' b sp hd f.resultTypes.toList (v.resultList f.resultTypes.size) (s.fn H ds).results [])
    (hargs : (s.fn H ds).args = ds) (hvars : (s.fn H ds).vars = [])
    (hok : ∀ (j : Nat) (t : TypeId) (r : Value), f.resultTypes[j]? = some t → (v.resultList f.resultTypes.size)[j]? = some r → Value.okWide P W' .any 0 t r) :
    s.post enc P f apart fresh handsOn again W args v W' := by
  have hlt := hW.lt
  have hW' := hW
  obtain ⟨p, q, hA, hV, rfl, hz, hn⟩ := hW
  rw [hv] at hV
  obtain ⟨rfl, rfl⟩ := trodVars_none hV
  rw [List.append_nil] at hlt hz hn
  simp only [List.append_nil] at hW'
  have hre : ∀ sp : Nat → Bool, (∀ x ∈ p, sp x.block = true) → DataW.TrodAll enc P W' 0 sp true f.params.toList args.toList (s.fn H (ds ++ [])).args p := fun sp hs => by
    rw [List.append_nil, hargs]
    exact rereadAll hpl hl hA hs
  have hres' : ∀ (b : Nat) (sp : Nat → Bool) (hd : Bool), DataW.TrodAll enc P W' b sp hd f.resultTypes.toList (v.resultList f.resultTypes.size) (s.fn H (ds ++ [])).results [] := by rw [List.append_nil]; exact hres
  have hvr : ∀ sp : Nat → Bool, DataW.TrodVars enc P W' sp s.vars (s.fn H (ds ++ [])).vars [] := fun sp => by rw [List.append_nil, hvars, hv]; exact rfl
  refine ⟨ds, [], p, [], p, [], hW', hres' _ _ _, hre _ fun x hx => by simpa using hlt x hx, hvr _, kept_le hl _, fun _ => ?_⟩
  refine ⟨hok, _, _, ([] ++ p) ++ [], ⟨[] ++ p, [], trodAll_append (hre _ fun _ _ => rfl) (hres' _ _ _), hvr _, rfl, ?_, ?_⟩, ?_⟩
  · intro b off hb
    simp only [List.nil_append, List.append_nil] at hb
    exact frozen_le hl (hlt _ hb) (hz b off hb)
  · intro ha
    simpa using hn ha
  · intro x hx _
    simpa using hx
end
end Go.Proofs.YtikgokpbhldlnaaGreatDoor
end
