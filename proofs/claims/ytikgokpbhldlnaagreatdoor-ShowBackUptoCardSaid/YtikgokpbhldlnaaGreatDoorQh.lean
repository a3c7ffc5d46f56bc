/- Parts of a proof: Ne. -/
import Derived.Test.YtikgokpbhldlnaaGreatDoorMo
import Derived.Test.YtikgokpbhldlnaaGreatDoorQb
import Derived.WalkKit
import Derived.ProofKit
import Derived.OpenShut
import Derived.Deep.DeepHandedRow
import Derived.Lib.LaidTab
import Derived.Stop.LaidErr
import Derived.Lay
set_option linter.unusedVariables false
set_option linter.unusedSimpArgs false
set_option linter.unusedSectionVars false
section
/- What a row lays: the two errors of strconv. -/
namespace Go.Proofs.YtikgokpbhldlnaaGreatDoor
open Go Go.Ab Go.ChangeShapes Go.WideShapes Go.ChangeAt Go.RowKit Go.Extern.Stop Go.Stop Go.Extern
theorem gSyn : Tryz.prog.globalNamed "strconv.ErrSyntax" = some 0 := by kernel_rfl
theorem gRng : Tryz.prog.globalNamed "strconv.ErrRange" = some 1 := by kernel_rfl
theorem gSynT : (Tryz.prog.globals[0]?).map (·.type) = some 91 := by kernel_rfl
theorem gRngT : (Tryz.prog.globals[1]?).map (·.type) = some 91 := by kernel_rfl
theorem cErrS : Tryz.prog.cellsOf 198 = 1 := by kernel_rfl
theorem starErr : "*" ++ "errors.errorString" = "*errors.errorString" := by decide
theorem rowErr (u : TypeId) (h : Tryz.prog.typeName? 3 u = some "*errors.errorString") : u = 196 :=
  typeName_ptr_named (nm := "errors.errorString") (by rw [starErr]; kernel_rfl) (by kernel_rfl) (by decide) u (by rw [starErr]; exact h)
theorem errs_of {W : World} (h : laidMet Tryz.prog [("strconv.ErrRange", Rows.laid_strconv_ErrRange), ("strconv.ErrSyntax", Rows.laid_strconv_ErrSyntax)] W) : ErrL [exactA W] := by
  obtain ⟨a0, s0, hv, _⟩ := laid_sentinel h gRng gRngT Tryz.underlying91 rowErr Tryz.underlying196 Tryz.underlying198 rfl rfl Tryz.underlying9 cErrS cStr
  obtain ⟨a1, s1, hv1, _⟩ := laid_sentinel h.tail gSyn gSynT Tryz.underlying91 rowErr Tryz.underlying196 Tryz.underlying198 rfl rfl Tryz.underlying9 cErrS cStr
  have c0 := World.var?_cell gRng hv 0
  have c1 := World.var?_cell gSyn hv1 0
  exact ⟨fun w hw => ⟨_, _, cell_le (exact_le hw) (by simpa using c1)⟩, fun w hw => ⟨_, _, cell_le (exact_le hw) (by simpa using c0)⟩⟩
theorem str_open {H : Type} {enc : TypeId × Value → H} {W : World} {s : ByteArray} {d : DataW H} {ps : List MemPlace} (h : DataW.Trod enc Tryz.prog W 0 (fun _ => true) true 9 (.string s) d ps) (hb : Rows.uptoBulk d ≤ 1048576) : (bs s).length ≤ 1048576 := by
  obtain ⟨fuel, h⟩ := h
  change DataW.trod enc Tryz.prog W 0 (fun _ => true) true fuel 9 [.string s] = some (d, ps) at h
  obtain ⟨s', e1, e2, _⟩ := DataW.trod_string Tryz.underlying9 h
  have q := (List.cons.inj e1).1
  simp only [Value.string.injEq] at q
  subst q
  simp only [Prod.mk.injEq] at e2
  obtain ⟨rfl, _⟩ := e2
  simp only [Rows.uptoBulk] at hb
  show s.data.toList.length ≤ _
  omega
end Go.Proofs.YtikgokpbhldlnaaGreatDoor
end
