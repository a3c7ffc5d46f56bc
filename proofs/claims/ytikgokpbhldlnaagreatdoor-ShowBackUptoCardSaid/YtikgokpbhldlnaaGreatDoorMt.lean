/- Parts of a proof: Ty. -/
import Derived.Test.YtikgokpbhldlnaaGreatDoorMc
import Derived.Test.YtikgokpbhldlnaaGreatDoorProg
set_option linter.unusedVariables false
set_option linter.unusedSimpArgs false
set_option linter.unusedSectionVars false
section
/- What is known of this seat's types. Printed by gentypes.py. -/
namespace Go.Proofs.YtikgokpbhldlnaaGreatDoor
open Go Go.Ab
theorem tsize_of {P : Program} {t : TypeId} {i : TypeInfo} {d : TypeDesc} {sz : Nat} {b : Bool} (h1 : ∀ w, (typeInfo t).run P w = .ok i w) (h2 : ∀ w, (underlying t).run P w = .ok d w) (hs : i.size = sz)
    (hb : (match d with | .struct _ | .array _ _ => true | _ => false) = b) : TSize P t sz b :=
  ⟨fun w => by unfold sizeOf; rw [run_ok (h1 w), hs]; rfl, fun w => by
    unfold isAgg; rw [run_ok (h2 w), ← hb]; cases d <;> rfl⟩
theorem fieldAt_of {P : Program} {s : TypeId} {fs : Array Field} {i off : Nat} (ft sz : Nat) {agg : Bool} (hs : ∀ w, (underlying s).run P w = .ok (.struct fs) w) (hf : (fs[i]?).map (fun f => (f.type, f.offset)) = some (ft, off)) [hz : TSize P ft sz agg] (h0 : sz ≠ 0) : FieldAt P s i off :=
  ⟨fun b o w => by
    obtain ⟨f, h1, h2⟩ := Option.map_eq_some_iff.1 hf
    simp only [Prod.mk.injEq] at h2
    unfold Instr.fieldAt
    rw [run_ok (hs w)]
    simp only [h1]
    rw [run_ok (a := (⟨b, o, none⟩ : Addr)) (w' := w) rfl]
    have : (fieldPlace ⟨b, o, none⟩ f).run P w = .ok ⟨b, o + off, none⟩ w := by
      unfold fieldPlace
      rw [h2.1, run_ok (hz.size w), if_neg h0, Addr.add_eq, h2.2]; rfl
    rw [run_ok this]; rfl⟩
instance : NotIface Tryz.prog 1 := ⟨_, Tryz.underlying1, nofun⟩
instance : TSize Tryz.prog 1 1 false := tsize_of Tryz.typeInfo1 Tryz.runUnderlying1 rfl rfl
instance : TZero Tryz.prog 1 (.nilFunc) := ⟨Tryz.zeroValue1⟩
instance : TBytes Tryz.prog 1 8 := ⟨fun w => ⟨_, Tryz.typeInfo1 w, rfl⟩⟩
instance : UInt Tryz.prog 2 .i64 := ⟨Tryz.underlying2⟩
instance : NotIface Tryz.prog 2 := ⟨_, Tryz.underlying2, nofun⟩
instance : TSize Tryz.prog 2 1 false := tsize_of Tryz.typeInfo2 Tryz.runUnderlying2 rfl rfl
instance : TZero Tryz.prog 2 (.int .i64 0) := ⟨Tryz.zeroValue2⟩
instance : TBytes Tryz.prog 2 8 := ⟨fun w => ⟨_, Tryz.typeInfo2 w, rfl⟩⟩
instance : UInt Tryz.prog 3 .i64 := ⟨Tryz.underlying3⟩
instance : NotIface Tryz.prog 3 := ⟨_, Tryz.underlying3, nofun⟩
instance : TSize Tryz.prog 3 1 false := tsize_of Tryz.typeInfo3 Tryz.runUnderlying3 rfl rfl
instance : TZero Tryz.prog 3 (.int .i64 0) := ⟨Tryz.zeroValue3⟩
instance : TBytes Tryz.prog 3 8 := ⟨fun w => ⟨_, Tryz.typeInfo3 w, rfl⟩⟩
instance : UBool Tryz.prog 4 := ⟨Tryz.underlying4⟩
instance : NotIface Tryz.prog 4 := ⟨_, Tryz.underlying4, nofun⟩
instance : TSize Tryz.prog 4 1 false := tsize_of Tryz.typeInfo4 Tryz.runUnderlying4 rfl rfl
instance : TZero Tryz.prog 4 (.bool false) := ⟨Tryz.zeroValue4⟩
instance : TBytes Tryz.prog 4 1 := ⟨fun w => ⟨_, Tryz.typeInfo4 w, rfl⟩⟩
instance : UInt Tryz.prog 5 .u8 := ⟨Tryz.underlying5⟩
instance : NotIface Tryz.prog 5 := ⟨_, Tryz.underlying5, nofun⟩
instance : TSize Tryz.prog 5 1 false := tsize_of Tryz.typeInfo5 Tryz.runUnderlying5 rfl rfl
instance : TZero Tryz.prog 5 (.int .u8 0) := ⟨Tryz.zeroValue5⟩
instance : TBytes Tryz.prog 5 1 := ⟨fun w => ⟨_, Tryz.typeInfo5 w, rfl⟩⟩
instance : UStr Tryz.prog 9 := ⟨Tryz.underlying9⟩
instance : NotIface Tryz.prog 9 := ⟨_, Tryz.underlying9, nofun⟩
instance : TSize Tryz.prog 9 1 false := tsize_of Tryz.typeInfo9 Tryz.runUnderlying9 rfl rfl
instance : TZero Tryz.prog 9 (.string ⟨#[]⟩) := ⟨Tryz.zeroValue9⟩
instance : TBytes Tryz.prog 9 16 := ⟨fun w => ⟨_, Tryz.typeInfo9 w, rfl⟩⟩
instance : UInt Tryz.prog 12 .u64 := ⟨Tryz.underlying12⟩
instance : NotIface Tryz.prog 12 := ⟨_, Tryz.underlying12, nofun⟩
instance : TSize Tryz.prog 12 1 false := tsize_of Tryz.typeInfo12 Tryz.runUnderlying12 rfl rfl
instance : TZero Tryz.prog 12 (.int .u64 0) := ⟨Tryz.zeroValue12⟩
instance : TBytes Tryz.prog 12 8 := ⟨fun w => ⟨_, Tryz.typeInfo12 w, rfl⟩⟩
instance : NotIface Tryz.prog 13 := ⟨_, Tryz.underlying13, nofun⟩
instance : TSize Tryz.prog 13 2 true := tsize_of Tryz.typeInfo13 Tryz.runUnderlying13 rfl rfl
instance : TZero Tryz.prog 13 (.agg #[.string ⟨#[]⟩, .int .u64 0]) := ⟨Tryz.zeroValue13⟩
instance : TBytes Tryz.prog 13 24 := ⟨fun w => ⟨_, Tryz.typeInfo13 w, rfl⟩⟩
instance : NotIface Tryz.prog 19 := ⟨_, Tryz.underlying19, nofun⟩
instance : TSize Tryz.prog 19 1 true := tsize_of Tryz.typeInfo19 Tryz.runUnderlying19 rfl rfl
instance : TZero Tryz.prog 19 (.agg #[.pointer none]) := ⟨Tryz.zeroValue19⟩
instance : TBytes Tryz.prog 19 8 := ⟨fun w => ⟨_, Tryz.typeInfo19 w, rfl⟩⟩
instance : TSize Tryz.prog 20 1 false := tsize_of Tryz.typeInfo20 Tryz.runUnderlying20 rfl rfl
instance : TZero Tryz.prog 20 (.nilIface) := ⟨Tryz.zeroValue20⟩
instance : TBytes Tryz.prog 20 16 := ⟨fun w => ⟨_, Tryz.typeInfo20 w, rfl⟩⟩
instance : UInt Tryz.prog 21 .i32 := ⟨Tryz.underlying21⟩
instance : NotIface Tryz.prog 21 := ⟨_, Tryz.underlying21, nofun⟩
instance : TSize Tryz.prog 21 1 false := tsize_of Tryz.typeInfo21 Tryz.runUnderlying21 rfl rfl
instance : TZero Tryz.prog 21 (.int .i32 0) := ⟨Tryz.zeroValue21⟩
instance : TBytes Tryz.prog 21 4 := ⟨fun w => ⟨_, Tryz.typeInfo21 w, rfl⟩⟩
instance : USlice Tryz.prog 22 36 := ⟨Tryz.underlying22⟩
instance : NotIface Tryz.prog 22 := ⟨_, Tryz.underlying22, nofun⟩
instance : TSize Tryz.prog 22 1 false := tsize_of Tryz.typeInfo22 Tryz.runUnderlying22 rfl rfl
instance : TZero Tryz.prog 22 (.slice none 0 0) := ⟨Tryz.zeroValue22⟩
instance : TBytes Tryz.prog 22 24 := ⟨fun w => ⟨_, Tryz.typeInfo22 w, rfl⟩⟩
instance : NotIface Tryz.prog 23 := ⟨_, Tryz.underlying23, nofun⟩
instance : TSize Tryz.prog 23 1 true := tsize_of Tryz.typeInfo23 Tryz.runUnderlying23 rfl rfl
instance : TZero Tryz.prog 23 (.agg #[.slice none 0 0]) := ⟨Tryz.zeroValue23⟩
instance : TBytes Tryz.prog 23 24 := ⟨fun w => ⟨_, Tryz.typeInfo23 w, rfl⟩⟩
instance : NotIface Tryz.prog 24 := ⟨_, Tryz.underlying24, nofun⟩
instance : TSize Tryz.prog 24 1 true := tsize_of Tryz.typeInfo24 Tryz.runUnderlying24 rfl rfl
instance : TZero Tryz.prog 24 (.agg #[.slice none 0 0]) := ⟨Tryz.zeroValue24⟩
instance : TBytes Tryz.prog 24 24 := ⟨fun w => ⟨_, Tryz.typeInfo24 w, rfl⟩⟩
instance : NotIface Tryz.prog 25 := ⟨_, Tryz.underlying25, nofun⟩
instance : TSize Tryz.prog 25 1 false := tsize_of Tryz.typeInfo25 Tryz.runUnderlying25 rfl rfl
instance : TZero Tryz.prog 25 (.nilFunc) := ⟨Tryz.zeroValue25⟩
instance : TBytes Tryz.prog 25 8 := ⟨fun w => ⟨_, Tryz.typeInfo25 w, rfl⟩⟩
instance : UInt Tryz.prog 26 .i64 := ⟨Tryz.underlying26⟩
instance : NotIface Tryz.prog 26 := ⟨_, Tryz.underlying26, nofun⟩
instance : TSize Tryz.prog 26 1 false := tsize_of Tryz.typeInfo26 Tryz.runUnderlying26 rfl rfl
instance : TZero Tryz.prog 26 (.int .i64 0) := ⟨Tryz.zeroValue26⟩
instance : TBytes Tryz.prog 26 8 := ⟨fun w => ⟨_, Tryz.typeInfo26 w, rfl⟩⟩
instance : NotIface Tryz.prog 28 := ⟨_, Tryz.underlying28, nofun⟩
instance : TSize Tryz.prog 28 1 false := tsize_of Tryz.typeInfo28 Tryz.runUnderlying28 rfl rfl
instance : TZero Tryz.prog 28 (.nilFunc) := ⟨Tryz.zeroValue28⟩
instance : TBytes Tryz.prog 28 8 := ⟨fun w => ⟨_, Tryz.typeInfo28 w, rfl⟩⟩
instance : NotIface Tryz.prog 29 := ⟨_, Tryz.underlying29, nofun⟩
instance : TSize Tryz.prog 29 1 false := tsize_of Tryz.typeInfo29 Tryz.runUnderlying29 rfl rfl
instance : TZero Tryz.prog 29 (.nilFunc) := ⟨Tryz.zeroValue29⟩
instance : TBytes Tryz.prog 29 8 := ⟨fun w => ⟨_, Tryz.typeInfo29 w, rfl⟩⟩
instance : USlice Tryz.prog 30 34 := ⟨Tryz.underlying30⟩
instance : NotIface Tryz.prog 30 := ⟨_, Tryz.underlying30, nofun⟩
instance : TSize Tryz.prog 30 1 false := tsize_of Tryz.typeInfo30 Tryz.runUnderlying30 rfl rfl
instance : TZero Tryz.prog 30 (.slice none 0 0) := ⟨Tryz.zeroValue30⟩
instance : TBytes Tryz.prog 30 24 := ⟨fun w => ⟨_, Tryz.typeInfo30 w, rfl⟩⟩
instance : NotIface Tryz.prog 32 := ⟨_, Tryz.underlying32, nofun⟩
instance : TSize Tryz.prog 32 1 false := tsize_of Tryz.typeInfo32 Tryz.runUnderlying32 rfl rfl
instance : TZero Tryz.prog 32 (.nilFunc) := ⟨Tryz.zeroValue32⟩
instance : TBytes Tryz.prog 32 8 := ⟨fun w => ⟨_, Tryz.typeInfo32 w, rfl⟩⟩
instance : NotIface Tryz.prog 33 := ⟨_, Tryz.underlying33, nofun⟩
instance : TSize Tryz.prog 33 1 false := tsize_of Tryz.typeInfo33 Tryz.runUnderlying33 rfl rfl
instance : TZero Tryz.prog 33 (.nilFunc) := ⟨Tryz.zeroValue33⟩
instance : TBytes Tryz.prog 33 8 := ⟨fun w => ⟨_, Tryz.typeInfo33 w, rfl⟩⟩
instance : USlice Tryz.prog 34 3 := ⟨Tryz.underlying34⟩
instance : NotIface Tryz.prog 34 := ⟨_, Tryz.underlying34, nofun⟩
instance : TSize Tryz.prog 34 1 false := tsize_of Tryz.typeInfo34 Tryz.runUnderlying34 rfl rfl
instance : TZero Tryz.prog 34 (.slice none 0 0) := ⟨Tryz.zeroValue34⟩
instance : TBytes Tryz.prog 34 24 := ⟨fun w => ⟨_, Tryz.typeInfo34 w, rfl⟩⟩
instance : NotIface Tryz.prog 35 := ⟨_, Tryz.underlying35, nofun⟩
instance : TSize Tryz.prog 35 4 true := tsize_of Tryz.typeInfo35 Tryz.runUnderlying35 rfl rfl
instance : TZero Tryz.prog 35 (.agg #[.int .i64 0, .string ⟨#[]⟩, .int .i64 0, .slice none 0 0]) := ⟨Tryz.zeroValue35⟩
instance : TBytes Tryz.prog 35 56 := ⟨fun w => ⟨_, Tryz.typeInfo35 w, rfl⟩⟩
instance : NotIface Tryz.prog 36 := ⟨_, Tryz.underlying36, nofun⟩
instance : TSize Tryz.prog 36 4 true := tsize_of Tryz.typeInfo36 Tryz.runUnderlying36 rfl rfl
instance : TZero Tryz.prog 36 (.agg #[.int .i64 0, .string ⟨#[]⟩, .int .i64 0, .slice none 0 0]) := ⟨Tryz.zeroValue36⟩
instance : TBytes Tryz.prog 36 56 := ⟨fun w => ⟨_, Tryz.typeInfo36 w, rfl⟩⟩
instance : NotIface Tryz.prog 37 := ⟨_, Tryz.underlying37, nofun⟩
instance : TSize Tryz.prog 37 1 false := tsize_of Tryz.typeInfo37 Tryz.runUnderlying37 rfl rfl
instance : TZero Tryz.prog 37 (.nilFunc) := ⟨Tryz.zeroValue37⟩
instance : TBytes Tryz.prog 37 8 := ⟨fun w => ⟨_, Tryz.typeInfo37 w, rfl⟩⟩
instance : NotIface Tryz.prog 38 := ⟨_, Tryz.underlying38, nofun⟩
instance : TSize Tryz.prog 38 1 false := tsize_of Tryz.typeInfo38 Tryz.runUnderlying38 rfl rfl
instance : TZero Tryz.prog 38 (.nilFunc) := ⟨Tryz.zeroValue38⟩
instance : TBytes Tryz.prog 38 8 := ⟨fun w => ⟨_, Tryz.typeInfo38 w, rfl⟩⟩
instance : NotIface Tryz.prog 39 := ⟨_, Tryz.underlying39, nofun⟩
instance : TSize Tryz.prog 39 1 false := tsize_of Tryz.typeInfo39 Tryz.runUnderlying39 rfl rfl
instance : TZero Tryz.prog 39 (.nilFunc) := ⟨Tryz.zeroValue39⟩
instance : TBytes Tryz.prog 39 8 := ⟨fun w => ⟨_, Tryz.typeInfo39 w, rfl⟩⟩
instance : NotIface Tryz.prog 40 := ⟨_, Tryz.underlying40, nofun⟩
instance : TSize Tryz.prog 40 1 false := tsize_of Tryz.typeInfo40 Tryz.runUnderlying40 rfl rfl
instance : TZero Tryz.prog 40 (.nilFunc) := ⟨Tryz.zeroValue40⟩
instance : TBytes Tryz.prog 40 8 := ⟨fun w => ⟨_, Tryz.typeInfo40 w, rfl⟩⟩
instance : NotIface Tryz.prog 42 := ⟨_, Tryz.underlying42, nofun⟩
instance : TSize Tryz.prog 42 1 false := tsize_of Tryz.typeInfo42 Tryz.runUnderlying42 rfl rfl
instance : TZero Tryz.prog 42 (.nilFunc) := ⟨Tryz.zeroValue42⟩
instance : TBytes Tryz.prog 42 8 := ⟨fun w => ⟨_, Tryz.typeInfo42 w, rfl⟩⟩
instance : NotIface Tryz.prog 43 := ⟨_, Tryz.underlying43, nofun⟩
instance : TSize Tryz.prog 43 1 false := tsize_of Tryz.typeInfo43 Tryz.runUnderlying43 rfl rfl
instance : TZero Tryz.prog 43 (.nilFunc) := ⟨Tryz.zeroValue43⟩
instance : TBytes Tryz.prog 43 8 := ⟨fun w => ⟨_, Tryz.typeInfo43 w, rfl⟩⟩
instance : USlice Tryz.prog 44 48 := ⟨Tryz.underlying44⟩
instance : NotIface Tryz.prog 44 := ⟨_, Tryz.underlying44, nofun⟩
instance : TSize Tryz.prog 44 1 false := tsize_of Tryz.typeInfo44 Tryz.runUnderlying44 rfl rfl
instance : TZero Tryz.prog 44 (.slice none 0 0) := ⟨Tryz.zeroValue44⟩
instance : TBytes Tryz.prog 44 24 := ⟨fun w => ⟨_, Tryz.typeInfo44 w, rfl⟩⟩
instance : NotIface Tryz.prog 46 := ⟨_, Tryz.underlying46, nofun⟩
instance : TSize Tryz.prog 46 1 false := tsize_of Tryz.typeInfo46 Tryz.runUnderlying46 rfl rfl
instance : TZero Tryz.prog 46 (.nilFunc) := ⟨Tryz.zeroValue46⟩
instance : TBytes Tryz.prog 46 8 := ⟨fun w => ⟨_, Tryz.typeInfo46 w, rfl⟩⟩
instance : NotIface Tryz.prog 47 := ⟨_, Tryz.underlying47, nofun⟩
instance : TSize Tryz.prog 47 4 true := tsize_of Tryz.typeInfo47 Tryz.runUnderlying47 rfl rfl
instance : TZero Tryz.prog 47 (.agg #[.int .i64 0, .string ⟨#[]⟩, .int .i64 0, .int .i64 0]) := ⟨Tryz.zeroValue47⟩
instance : TBytes Tryz.prog 47 40 := ⟨fun w => ⟨_, Tryz.typeInfo47 w, rfl⟩⟩
instance : NotIface Tryz.prog 48 := ⟨_, Tryz.underlying48, nofun⟩
instance : TSize Tryz.prog 48 4 true := tsize_of Tryz.typeInfo48 Tryz.runUnderlying48 rfl rfl
instance : TZero Tryz.prog 48 (.agg #[.int .i64 0, .string ⟨#[]⟩, .int .i64 0, .int .i64 0]) := ⟨Tryz.zeroValue48⟩
instance : TBytes Tryz.prog 48 40 := ⟨fun w => ⟨_, Tryz.typeInfo48 w, rfl⟩⟩
instance : NotIface Tryz.prog 49 := ⟨_, Tryz.underlying49, nofun⟩
instance : TSize Tryz.prog 49 1 false := tsize_of Tryz.typeInfo49 Tryz.runUnderlying49 rfl rfl
instance : TZero Tryz.prog 49 (.nilFunc) := ⟨Tryz.zeroValue49⟩
instance : TBytes Tryz.prog 49 8 := ⟨fun w => ⟨_, Tryz.typeInfo49 w, rfl⟩⟩
instance : NotIface Tryz.prog 51 := ⟨_, Tryz.underlying51, nofun⟩
instance : TSize Tryz.prog 51 1 false := tsize_of Tryz.typeInfo51 Tryz.runUnderlying51 rfl rfl
instance : TZero Tryz.prog 51 (.nilFunc) := ⟨Tryz.zeroValue51⟩
instance : TBytes Tryz.prog 51 8 := ⟨fun w => ⟨_, Tryz.typeInfo51 w, rfl⟩⟩
instance : NotIface Tryz.prog 52 := ⟨_, Tryz.underlying52, nofun⟩
instance : TSize Tryz.prog 52 1 false := tsize_of Tryz.typeInfo52 Tryz.runUnderlying52 rfl rfl
instance : TZero Tryz.prog 52 (.nilFunc) := ⟨Tryz.zeroValue52⟩
instance : TBytes Tryz.prog 52 8 := ⟨fun w => ⟨_, Tryz.typeInfo52 w, rfl⟩⟩
instance : NotIface Tryz.prog 53 := ⟨_, Tryz.underlying53, nofun⟩
instance : TSize Tryz.prog 53 1 false := tsize_of Tryz.typeInfo53 Tryz.runUnderlying53 rfl rfl
instance : TZero Tryz.prog 53 (.nilFunc) := ⟨Tryz.zeroValue53⟩
instance : TBytes Tryz.prog 53 8 := ⟨fun w => ⟨_, Tryz.typeInfo53 w, rfl⟩⟩
instance : NotIface Tryz.prog 54 := ⟨_, Tryz.underlying54, nofun⟩
instance : TSize Tryz.prog 54 1 false := tsize_of Tryz.typeInfo54 Tryz.runUnderlying54 rfl rfl
instance : TZero Tryz.prog 54 (.nilFunc) := ⟨Tryz.zeroValue54⟩
instance : TBytes Tryz.prog 54 8 := ⟨fun w => ⟨_, Tryz.typeInfo54 w, rfl⟩⟩
instance : NotIface Tryz.prog 55 := ⟨_, Tryz.underlying55, nofun⟩
instance : TSize Tryz.prog 55 1 false := tsize_of Tryz.typeInfo55 Tryz.runUnderlying55 rfl rfl
instance : TZero Tryz.prog 55 (.nilFunc) := ⟨Tryz.zeroValue55⟩
instance : TBytes Tryz.prog 55 8 := ⟨fun w => ⟨_, Tryz.typeInfo55 w, rfl⟩⟩
instance : NotIface Tryz.prog 56 := ⟨_, Tryz.underlying56, nofun⟩
instance : TSize Tryz.prog 56 1 false := tsize_of Tryz.typeInfo56 Tryz.runUnderlying56 rfl rfl
instance : TZero Tryz.prog 56 (.nilFunc) := ⟨Tryz.zeroValue56⟩
instance : TBytes Tryz.prog 56 8 := ⟨fun w => ⟨_, Tryz.typeInfo56 w, rfl⟩⟩
instance : NotIface Tryz.prog 57 := ⟨_, Tryz.underlying57, nofun⟩
instance : TSize Tryz.prog 57 1 false := tsize_of Tryz.typeInfo57 Tryz.runUnderlying57 rfl rfl
instance : TZero Tryz.prog 57 (.nilFunc) := ⟨Tryz.zeroValue57⟩
instance : TBytes Tryz.prog 57 8 := ⟨fun w => ⟨_, Tryz.typeInfo57 w, rfl⟩⟩
instance : NotIface Tryz.prog 58 := ⟨_, Tryz.underlying58, nofun⟩
instance : TSize Tryz.prog 58 1 false := tsize_of Tryz.typeInfo58 Tryz.runUnderlying58 rfl rfl
instance : TZero Tryz.prog 58 (.nilFunc) := ⟨Tryz.zeroValue58⟩
instance : TBytes Tryz.prog 58 8 := ⟨fun w => ⟨_, Tryz.typeInfo58 w, rfl⟩⟩
instance : NotIface Tryz.prog 59 := ⟨_, Tryz.underlying59, nofun⟩
instance : TSize Tryz.prog 59 1 false := tsize_of Tryz.typeInfo59 Tryz.runUnderlying59 rfl rfl
instance : TZero Tryz.prog 59 (.pointer none) := ⟨Tryz.zeroValue59⟩
instance : TBytes Tryz.prog 59 8 := ⟨fun w => ⟨_, Tryz.typeInfo59 w, rfl⟩⟩
instance : NotIface Tryz.prog 60 := ⟨_, Tryz.underlying60, nofun⟩
instance : TSize Tryz.prog 60 2 true := tsize_of Tryz.typeInfo60 Tryz.runUnderlying60 rfl rfl
instance : TZero Tryz.prog 60 (.agg #[.slice none 0 0, .slice none 0 0]) := ⟨Tryz.zeroValue60⟩
instance : TBytes Tryz.prog 60 48 := ⟨fun w => ⟨_, Tryz.typeInfo60 w, rfl⟩⟩
instance : NotIface Tryz.prog 61 := ⟨_, Tryz.underlying61, nofun⟩
instance : TSize Tryz.prog 61 2 true := tsize_of Tryz.typeInfo61 Tryz.runUnderlying61 rfl rfl
instance : TZero Tryz.prog 61 (.agg #[.slice none 0 0, .slice none 0 0]) := ⟨Tryz.zeroValue61⟩
instance : TBytes Tryz.prog 61 48 := ⟨fun w => ⟨_, Tryz.typeInfo61 w, rfl⟩⟩
instance : NotIface Tryz.prog 62 := ⟨_, Tryz.underlying62, nofun⟩
instance : TSize Tryz.prog 62 1 false := tsize_of Tryz.typeInfo62 Tryz.runUnderlying62 rfl rfl
instance : TZero Tryz.prog 62 (.nilFunc) := ⟨Tryz.zeroValue62⟩
instance : TBytes Tryz.prog 62 8 := ⟨fun w => ⟨_, Tryz.typeInfo62 w, rfl⟩⟩
instance : NotIface Tryz.prog 63 := ⟨_, Tryz.underlying63, nofun⟩
instance : TSize Tryz.prog 63 1 false := tsize_of Tryz.typeInfo63 Tryz.runUnderlying63 rfl rfl
instance : TZero Tryz.prog 63 (.pointer none) := ⟨Tryz.zeroValue63⟩
instance : TBytes Tryz.prog 63 8 := ⟨fun w => ⟨_, Tryz.typeInfo63 w, rfl⟩⟩
instance : USlice Tryz.prog 64 5 := ⟨Tryz.underlying64⟩
instance : NotIface Tryz.prog 64 := ⟨_, Tryz.underlying64, nofun⟩
instance : TSize Tryz.prog 64 1 false := tsize_of Tryz.typeInfo64 Tryz.runUnderlying64 rfl rfl
instance : TZero Tryz.prog 64 (.slice none 0 0) := ⟨Tryz.zeroValue64⟩
instance : TBytes Tryz.prog 64 24 := ⟨fun w => ⟨_, Tryz.typeInfo64 w, rfl⟩⟩
instance : NotIface Tryz.prog 65 := ⟨_, Tryz.underlying65, nofun⟩
instance : TSize Tryz.prog 65 3 true := tsize_of Tryz.typeInfo65 Tryz.runUnderlying65 rfl rfl
instance : TZero Tryz.prog 65 (.agg #[.slice none 0 0, .slice none 0 0, .bool false]) := ⟨Tryz.zeroValue65⟩
instance : TBytes Tryz.prog 65 56 := ⟨fun w => ⟨_, Tryz.typeInfo65 w, rfl⟩⟩
instance : NotIface Tryz.prog 66 := ⟨_, Tryz.underlying66, nofun⟩
instance : TSize Tryz.prog 66 3 true := tsize_of Tryz.typeInfo66 Tryz.runUnderlying66 rfl rfl
instance : TZero Tryz.prog 66 (.agg #[.slice none 0 0, .slice none 0 0, .bool false]) := ⟨Tryz.zeroValue66⟩
instance : TBytes Tryz.prog 66 56 := ⟨fun w => ⟨_, Tryz.typeInfo66 w, rfl⟩⟩
instance : NotIface Tryz.prog 67 := ⟨_, Tryz.underlying67, nofun⟩
instance : TSize Tryz.prog 67 1 false := tsize_of Tryz.typeInfo67 Tryz.runUnderlying67 rfl rfl
instance : TZero Tryz.prog 67 (.nilFunc) := ⟨Tryz.zeroValue67⟩
instance : TBytes Tryz.prog 67 8 := ⟨fun w => ⟨_, Tryz.typeInfo67 w, rfl⟩⟩
instance : NotIface Tryz.prog 68 := ⟨_, Tryz.underlying68, nofun⟩
instance : TSize Tryz.prog 68 2 true := tsize_of Tryz.typeInfo68 Tryz.runUnderlying68 rfl rfl
instance : TZero Tryz.prog 68 (.agg #[.int .i64 0, .int .i64 0]) := ⟨Tryz.zeroValue68⟩
instance : TBytes Tryz.prog 68 16 := ⟨fun w => ⟨_, Tryz.typeInfo68 w, rfl⟩⟩
instance : NotIface Tryz.prog 69 := ⟨_, Tryz.underlying69, nofun⟩
instance : TSize Tryz.prog 69 2 true := tsize_of Tryz.typeInfo69 Tryz.runUnderlying69 rfl rfl
instance : TZero Tryz.prog 69 (.agg #[.int .i64 0, .int .i64 0]) := ⟨Tryz.zeroValue69⟩
instance : TBytes Tryz.prog 69 16 := ⟨fun w => ⟨_, Tryz.typeInfo69 w, rfl⟩⟩
instance : NotIface Tryz.prog 70 := ⟨_, Tryz.underlying70, nofun⟩
instance : TSize Tryz.prog 70 1 false := tsize_of Tryz.typeInfo70 Tryz.runUnderlying70 rfl rfl
instance : TZero Tryz.prog 70 (.pointer none) := ⟨Tryz.zeroValue70⟩
instance : TBytes Tryz.prog 70 8 := ⟨fun w => ⟨_, Tryz.typeInfo70 w, rfl⟩⟩
instance : NotIface Tryz.prog 71 := ⟨_, Tryz.underlying71, nofun⟩
instance : TSize Tryz.prog 71 4 true := tsize_of Tryz.typeInfo71 Tryz.runUnderlying71 rfl rfl
instance : TZero Tryz.prog 71 (.agg #[.slice none 0 0, .slice none 0 0, .int .i64 0, .int .i64 0]) := ⟨Tryz.zeroValue71⟩
instance : TBytes Tryz.prog 71 64 := ⟨fun w => ⟨_, Tryz.typeInfo71 w, rfl⟩⟩
instance : NotIface Tryz.prog 72 := ⟨_, Tryz.underlying72, nofun⟩
instance : TSize Tryz.prog 72 4 true := tsize_of Tryz.typeInfo72 Tryz.runUnderlying72 rfl rfl
instance : TZero Tryz.prog 72 (.agg #[.slice none 0 0, .slice none 0 0, .int .i64 0, .int .i64 0]) := ⟨Tryz.zeroValue72⟩
instance : TBytes Tryz.prog 72 64 := ⟨fun w => ⟨_, Tryz.typeInfo72 w, rfl⟩⟩
instance : NotIface Tryz.prog 73 := ⟨_, Tryz.underlying73, nofun⟩
instance : TSize Tryz.prog 73 1 false := tsize_of Tryz.typeInfo73 Tryz.runUnderlying73 rfl rfl
instance : TZero Tryz.prog 73 (.nilFunc) := ⟨Tryz.zeroValue73⟩
instance : TBytes Tryz.prog 73 8 := ⟨fun w => ⟨_, Tryz.typeInfo73 w, rfl⟩⟩
instance : NotIface Tryz.prog 74 := ⟨_, Tryz.underlying74, nofun⟩
instance : TSize Tryz.prog 74 1 false := tsize_of Tryz.typeInfo74 Tryz.runUnderlying74 rfl rfl
instance : TZero Tryz.prog 74 (.nilFunc) := ⟨Tryz.zeroValue74⟩
instance : TBytes Tryz.prog 74 8 := ⟨fun w => ⟨_, Tryz.typeInfo74 w, rfl⟩⟩
instance : NotIface Tryz.prog 75 := ⟨_, Tryz.underlying75, nofun⟩
instance : TSize Tryz.prog 75 1 false := tsize_of Tryz.typeInfo75 Tryz.runUnderlying75 rfl rfl
instance : TZero Tryz.prog 75 (.nilFunc) := ⟨Tryz.zeroValue75⟩
instance : TBytes Tryz.prog 75 8 := ⟨fun w => ⟨_, Tryz.typeInfo75 w, rfl⟩⟩
instance : NotIface Tryz.prog 76 := ⟨_, Tryz.underlying76, nofun⟩
instance : TSize Tryz.prog 76 1 false := tsize_of Tryz.typeInfo76 Tryz.runUnderlying76 rfl rfl
instance : TZero Tryz.prog 76 (.nilFunc) := ⟨Tryz.zeroValue76⟩
instance : TBytes Tryz.prog 76 8 := ⟨fun w => ⟨_, Tryz.typeInfo76 w, rfl⟩⟩
instance : NotIface Tryz.prog 77 := ⟨_, Tryz.underlying77, nofun⟩
instance : TSize Tryz.prog 77 1 false := tsize_of Tryz.typeInfo77 Tryz.runUnderlying77 rfl rfl
instance : TZero Tryz.prog 77 (.nilFunc) := ⟨Tryz.zeroValue77⟩
instance : TBytes Tryz.prog 77 8 := ⟨fun w => ⟨_, Tryz.typeInfo77 w, rfl⟩⟩
instance : UInt Tryz.prog 78 .i64 := ⟨Tryz.underlying78⟩
instance : NotIface Tryz.prog 78 := ⟨_, Tryz.underlying78, nofun⟩
instance : TSize Tryz.prog 78 1 false := tsize_of Tryz.typeInfo78 Tryz.runUnderlying78 rfl rfl
instance : TZero Tryz.prog 78 (.int .i64 0) := ⟨Tryz.zeroValue78⟩
instance : TBytes Tryz.prog 78 8 := ⟨fun w => ⟨_, Tryz.typeInfo78 w, rfl⟩⟩
instance : NotIface Tryz.prog 79 := ⟨_, Tryz.underlying79, nofun⟩
instance : TSize Tryz.prog 79 1 false := tsize_of Tryz.typeInfo79 Tryz.runUnderlying79 rfl rfl
instance : TZero Tryz.prog 79 (.pointer none) := ⟨Tryz.zeroValue79⟩
instance : TBytes Tryz.prog 79 8 := ⟨fun w => ⟨_, Tryz.typeInfo79 w, rfl⟩⟩
instance : NotIface Tryz.prog 80 := ⟨_, Tryz.underlying80, nofun⟩
instance : TSize Tryz.prog 80 3 true := tsize_of Tryz.typeInfo80 Tryz.runUnderlying80 rfl rfl
instance : TZero Tryz.prog 80 (.agg #[.string ⟨#[]⟩, .int .i64 0, .slice none 0 0]) := ⟨Tryz.zeroValue80⟩
instance : TBytes Tryz.prog 80 48 := ⟨fun w => ⟨_, Tryz.typeInfo80 w, rfl⟩⟩
instance : NotIface Tryz.prog 81 := ⟨_, Tryz.underlying81, nofun⟩
instance : TSize Tryz.prog 81 3 true := tsize_of Tryz.typeInfo81 Tryz.runUnderlying81 rfl rfl
instance : TZero Tryz.prog 81 (.agg #[.string ⟨#[]⟩, .int .i64 0, .slice none 0 0]) := ⟨Tryz.zeroValue81⟩
instance : TBytes Tryz.prog 81 48 := ⟨fun w => ⟨_, Tryz.typeInfo81 w, rfl⟩⟩
instance : NotIface Tryz.prog 82 := ⟨_, Tryz.underlying82, nofun⟩
instance : TSize Tryz.prog 82 1 false := tsize_of Tryz.typeInfo82 Tryz.runUnderlying82 rfl rfl
instance : TZero Tryz.prog 82 (.pointer none) := ⟨Tryz.zeroValue82⟩
instance : TBytes Tryz.prog 82 8 := ⟨fun w => ⟨_, Tryz.typeInfo82 w, rfl⟩⟩
instance : NotIface Tryz.prog 83 := ⟨_, Tryz.underlying83, nofun⟩
instance : TSize Tryz.prog 83 6 true := tsize_of Tryz.typeInfo83 Tryz.runUnderlying83 rfl rfl
instance : TZero Tryz.prog 83 (.agg #[.slice none 0 0, .int .i64 0, .int .i64 0, .slice none 0 0, .int .i64 0, .int .i64 0]) := ⟨Tryz.zeroValue83⟩
instance : TBytes Tryz.prog 83 80 := ⟨fun w => ⟨_, Tryz.typeInfo83 w, rfl⟩⟩
instance : NotIface Tryz.prog 84 := ⟨_, Tryz.underlying84, nofun⟩
instance : TSize Tryz.prog 84 6 true := tsize_of Tryz.typeInfo84 Tryz.runUnderlying84 rfl rfl
instance : TZero Tryz.prog 84 (.agg #[.slice none 0 0, .int .i64 0, .int .i64 0, .slice none 0 0, .int .i64 0, .int .i64 0]) := ⟨Tryz.zeroValue84⟩
instance : TBytes Tryz.prog 84 80 := ⟨fun w => ⟨_, Tryz.typeInfo84 w, rfl⟩⟩
instance : NotIface Tryz.prog 85 := ⟨_, Tryz.underlying85, nofun⟩
instance : TSize Tryz.prog 85 1 false := tsize_of Tryz.typeInfo85 Tryz.runUnderlying85 rfl rfl
instance : TZero Tryz.prog 85 (.pointer none) := ⟨Tryz.zeroValue85⟩
instance : TBytes Tryz.prog 85 8 := ⟨fun w => ⟨_, Tryz.typeInfo85 w, rfl⟩⟩
instance : NotIface Tryz.prog 86 := ⟨_, Tryz.underlying86, nofun⟩
instance : TSize Tryz.prog 86 2 true := tsize_of Tryz.typeInfo86 Tryz.runUnderlying86 rfl rfl
instance : TZero Tryz.prog 86 (.agg #[.pointer none, .slice none 0 0]) := ⟨Tryz.zeroValue86⟩
instance : TBytes Tryz.prog 86 32 := ⟨fun w => ⟨_, Tryz.typeInfo86 w, rfl⟩⟩
instance : NotIface Tryz.prog 87 := ⟨_, Tryz.underlying87, nofun⟩
instance : TSize Tryz.prog 87 2 true := tsize_of Tryz.typeInfo87 Tryz.runUnderlying87 rfl rfl
instance : TZero Tryz.prog 87 (.agg #[.pointer none, .slice none 0 0]) := ⟨Tryz.zeroValue87⟩
instance : TBytes Tryz.prog 87 32 := ⟨fun w => ⟨_, Tryz.typeInfo87 w, rfl⟩⟩
instance : NotIface Tryz.prog 89 := ⟨_, Tryz.underlying89, nofun⟩
instance : TSize Tryz.prog 89 1 false := tsize_of Tryz.typeInfo89 Tryz.runUnderlying89 rfl rfl
instance : TZero Tryz.prog 89 (.nilFunc) := ⟨Tryz.zeroValue89⟩
instance : TBytes Tryz.prog 89 8 := ⟨fun w => ⟨_, Tryz.typeInfo89 w, rfl⟩⟩
instance : TSize Tryz.prog 90 1 false := tsize_of Tryz.typeInfo90 Tryz.runUnderlying90 rfl rfl
instance : TZero Tryz.prog 90 (.nilIface) := ⟨Tryz.zeroValue90⟩
instance : TBytes Tryz.prog 90 16 := ⟨fun w => ⟨_, Tryz.typeInfo90 w, rfl⟩⟩
instance : TSize Tryz.prog 91 1 false := tsize_of Tryz.typeInfo91 Tryz.runUnderlying91 rfl rfl
instance : TZero Tryz.prog 91 (.nilIface) := ⟨Tryz.zeroValue91⟩
instance : TBytes Tryz.prog 91 16 := ⟨fun w => ⟨_, Tryz.typeInfo91 w, rfl⟩⟩
instance : NotIface Tryz.prog 92 := ⟨_, Tryz.underlying92, nofun⟩
instance : TSize Tryz.prog 92 1 false := tsize_of Tryz.typeInfo92 Tryz.runUnderlying92 rfl rfl
instance : TZero Tryz.prog 92 (.nilFunc) := ⟨Tryz.zeroValue92⟩
instance : TBytes Tryz.prog 92 8 := ⟨fun w => ⟨_, Tryz.typeInfo92 w, rfl⟩⟩
instance : NotIface Tryz.prog 94 := ⟨_, Tryz.underlying94, nofun⟩
instance : TSize Tryz.prog 94 1 false := tsize_of Tryz.typeInfo94 Tryz.runUnderlying94 rfl rfl
instance : TZero Tryz.prog 94 (.nilFunc) := ⟨Tryz.zeroValue94⟩
instance : TBytes Tryz.prog 94 8 := ⟨fun w => ⟨_, Tryz.typeInfo94 w, rfl⟩⟩
instance : NotIface Tryz.prog 95 := ⟨_, Tryz.underlying95, nofun⟩
instance : TSize Tryz.prog 95 1 false := tsize_of Tryz.typeInfo95 Tryz.runUnderlying95 rfl rfl
instance : TZero Tryz.prog 95 (.nilFunc) := ⟨Tryz.zeroValue95⟩
instance : TBytes Tryz.prog 95 8 := ⟨fun w => ⟨_, Tryz.typeInfo95 w, rfl⟩⟩
instance : NotIface Tryz.prog 96 := ⟨_, Tryz.underlying96, nofun⟩
instance : TSize Tryz.prog 96 1 false := tsize_of Tryz.typeInfo96 Tryz.runUnderlying96 rfl rfl
instance : TZero Tryz.prog 96 (.nilFunc) := ⟨Tryz.zeroValue96⟩
instance : TBytes Tryz.prog 96 8 := ⟨fun w => ⟨_, Tryz.typeInfo96 w, rfl⟩⟩
instance : NotIface Tryz.prog 97 := ⟨_, Tryz.underlying97, nofun⟩
instance : TSize Tryz.prog 97 1 false := tsize_of Tryz.typeInfo97 Tryz.runUnderlying97 rfl rfl
instance : TZero Tryz.prog 97 (.nilFunc) := ⟨Tryz.zeroValue97⟩
instance : TBytes Tryz.prog 97 8 := ⟨fun w => ⟨_, Tryz.typeInfo97 w, rfl⟩⟩
instance : NotIface Tryz.prog 98 := ⟨_, Tryz.underlying98, nofun⟩
instance : TSize Tryz.prog 98 1 false := tsize_of Tryz.typeInfo98 Tryz.runUnderlying98 rfl rfl
instance : TZero Tryz.prog 98 (.nilFunc) := ⟨Tryz.zeroValue98⟩
instance : TBytes Tryz.prog 98 8 := ⟨fun w => ⟨_, Tryz.typeInfo98 w, rfl⟩⟩
instance : NotIface Tryz.prog 99 := ⟨_, Tryz.underlying99, nofun⟩
instance : TSize Tryz.prog 99 1 false := tsize_of Tryz.typeInfo99 Tryz.runUnderlying99 rfl rfl
instance : TZero Tryz.prog 99 (.nilFunc) := ⟨Tryz.zeroValue99⟩
instance : TBytes Tryz.prog 99 8 := ⟨fun w => ⟨_, Tryz.typeInfo99 w, rfl⟩⟩
instance : NotIface Tryz.prog 100 := ⟨_, Tryz.underlying100, nofun⟩
instance : TSize Tryz.prog 100 1 false := tsize_of Tryz.typeInfo100 Tryz.runUnderlying100 rfl rfl
instance : TZero Tryz.prog 100 (.nilFunc) := ⟨Tryz.zeroValue100⟩
instance : TBytes Tryz.prog 100 8 := ⟨fun w => ⟨_, Tryz.typeInfo100 w, rfl⟩⟩
instance : NotIface Tryz.prog 101 := ⟨_, Tryz.underlying101, nofun⟩
instance : TSize Tryz.prog 101 1 false := tsize_of Tryz.typeInfo101 Tryz.runUnderlying101 rfl rfl
instance : TZero Tryz.prog 101 (.nilFunc) := ⟨Tryz.zeroValue101⟩
instance : TBytes Tryz.prog 101 8 := ⟨fun w => ⟨_, Tryz.typeInfo101 w, rfl⟩⟩
instance : NotIface Tryz.prog 102 := ⟨_, Tryz.underlying102, nofun⟩
instance : TSize Tryz.prog 102 1 false := tsize_of Tryz.typeInfo102 Tryz.runUnderlying102 rfl rfl
instance : TZero Tryz.prog 102 (.nilFunc) := ⟨Tryz.zeroValue102⟩
instance : TBytes Tryz.prog 102 8 := ⟨fun w => ⟨_, Tryz.typeInfo102 w, rfl⟩⟩
instance : USlice Tryz.prog 103 9 := ⟨Tryz.underlying103⟩
instance : NotIface Tryz.prog 103 := ⟨_, Tryz.underlying103, nofun⟩
instance : TSize Tryz.prog 103 1 false := tsize_of Tryz.typeInfo103 Tryz.runUnderlying103 rfl rfl
instance : TZero Tryz.prog 103 (.slice none 0 0) := ⟨Tryz.zeroValue103⟩
instance : TBytes Tryz.prog 103 24 := ⟨fun w => ⟨_, Tryz.typeInfo103 w, rfl⟩⟩
instance : NotIface Tryz.prog 104 := ⟨_, Tryz.underlying104, nofun⟩
instance : TSize Tryz.prog 104 1 false := tsize_of Tryz.typeInfo104 Tryz.runUnderlying104 rfl rfl
instance : TZero Tryz.prog 104 (.nilFunc) := ⟨Tryz.zeroValue104⟩
instance : TBytes Tryz.prog 104 8 := ⟨fun w => ⟨_, Tryz.typeInfo104 w, rfl⟩⟩
instance : NotIface Tryz.prog 105 := ⟨_, Tryz.underlying105, nofun⟩
instance : TSize Tryz.prog 105 1 false := tsize_of Tryz.typeInfo105 Tryz.runUnderlying105 rfl rfl
instance : TZero Tryz.prog 105 (.nilFunc) := ⟨Tryz.zeroValue105⟩
instance : TBytes Tryz.prog 105 8 := ⟨fun w => ⟨_, Tryz.typeInfo105 w, rfl⟩⟩
instance : NotIface Tryz.prog 106 := ⟨_, Tryz.underlying106, nofun⟩
instance : TSize Tryz.prog 106 1 false := tsize_of Tryz.typeInfo106 Tryz.runUnderlying106 rfl rfl
instance : TZero Tryz.prog 106 (.nilFunc) := ⟨Tryz.zeroValue106⟩
instance : TBytes Tryz.prog 106 8 := ⟨fun w => ⟨_, Tryz.typeInfo106 w, rfl⟩⟩
instance : NotIface Tryz.prog 107 := ⟨_, Tryz.underlying107, nofun⟩
instance : TSize Tryz.prog 107 1 false := tsize_of Tryz.typeInfo107 Tryz.runUnderlying107 rfl rfl
instance : TZero Tryz.prog 107 (.nilFunc) := ⟨Tryz.zeroValue107⟩
instance : TBytes Tryz.prog 107 8 := ⟨fun w => ⟨_, Tryz.typeInfo107 w, rfl⟩⟩
instance : NotIface Tryz.prog 108 := ⟨_, Tryz.underlying108, nofun⟩
instance : TSize Tryz.prog 108 1 false := tsize_of Tryz.typeInfo108 Tryz.runUnderlying108 rfl rfl
instance : TZero Tryz.prog 108 (.nilFunc) := ⟨Tryz.zeroValue108⟩
instance : TBytes Tryz.prog 108 8 := ⟨fun w => ⟨_, Tryz.typeInfo108 w, rfl⟩⟩
instance : NotIface Tryz.prog 109 := ⟨_, Tryz.underlying109, nofun⟩
instance : TSize Tryz.prog 109 1 false := tsize_of Tryz.typeInfo109 Tryz.runUnderlying109 rfl rfl
instance : TZero Tryz.prog 109 (.nilFunc) := ⟨Tryz.zeroValue109⟩
instance : TBytes Tryz.prog 109 8 := ⟨fun w => ⟨_, Tryz.typeInfo109 w, rfl⟩⟩
instance : NotIface Tryz.prog 110 := ⟨_, Tryz.underlying110, nofun⟩
instance : TSize Tryz.prog 110 1 false := tsize_of Tryz.typeInfo110 Tryz.runUnderlying110 rfl rfl
instance : TZero Tryz.prog 110 (.nilFunc) := ⟨Tryz.zeroValue110⟩
instance : TBytes Tryz.prog 110 8 := ⟨fun w => ⟨_, Tryz.typeInfo110 w, rfl⟩⟩
instance : NotIface Tryz.prog 111 := ⟨_, Tryz.underlying111, nofun⟩
instance : TSize Tryz.prog 111 1 false := tsize_of Tryz.typeInfo111 Tryz.runUnderlying111 rfl rfl
instance : TZero Tryz.prog 111 (.nilFunc) := ⟨Tryz.zeroValue111⟩
instance : TBytes Tryz.prog 111 8 := ⟨fun w => ⟨_, Tryz.typeInfo111 w, rfl⟩⟩
instance : NotIface Tryz.prog 112 := ⟨_, Tryz.underlying112, nofun⟩
instance : TSize Tryz.prog 112 1 false := tsize_of Tryz.typeInfo112 Tryz.runUnderlying112 rfl rfl
instance : TZero Tryz.prog 112 (.nilFunc) := ⟨Tryz.zeroValue112⟩
instance : TBytes Tryz.prog 112 8 := ⟨fun w => ⟨_, Tryz.typeInfo112 w, rfl⟩⟩
instance : NotIface Tryz.prog 113 := ⟨_, Tryz.underlying113, nofun⟩
instance : TSize Tryz.prog 113 1 false := tsize_of Tryz.typeInfo113 Tryz.runUnderlying113 rfl rfl
instance : TZero Tryz.prog 113 (.nilFunc) := ⟨Tryz.zeroValue113⟩
instance : TBytes Tryz.prog 113 8 := ⟨fun w => ⟨_, Tryz.typeInfo113 w, rfl⟩⟩
instance : NotIface Tryz.prog 114 := ⟨_, Tryz.underlying114, nofun⟩
instance : TSize Tryz.prog 114 1 false := tsize_of Tryz.typeInfo114 Tryz.runUnderlying114 rfl rfl
instance : TZero Tryz.prog 114 (.nilFunc) := ⟨Tryz.zeroValue114⟩
instance : TBytes Tryz.prog 114 8 := ⟨fun w => ⟨_, Tryz.typeInfo114 w, rfl⟩⟩
instance : NotIface Tryz.prog 115 := ⟨_, Tryz.underlying115, nofun⟩
instance : TSize Tryz.prog 115 1 false := tsize_of Tryz.typeInfo115 Tryz.runUnderlying115 rfl rfl
instance : TZero Tryz.prog 115 (.nilFunc) := ⟨Tryz.zeroValue115⟩
instance : TBytes Tryz.prog 115 8 := ⟨fun w => ⟨_, Tryz.typeInfo115 w, rfl⟩⟩
instance : USlice Tryz.prog 116 118 := ⟨Tryz.underlying116⟩
instance : NotIface Tryz.prog 116 := ⟨_, Tryz.underlying116, nofun⟩
instance : TSize Tryz.prog 116 1 false := tsize_of Tryz.typeInfo116 Tryz.runUnderlying116 rfl rfl
instance : TZero Tryz.prog 116 (.slice none 0 0) := ⟨Tryz.zeroValue116⟩
instance : TBytes Tryz.prog 116 24 := ⟨fun w => ⟨_, Tryz.typeInfo116 w, rfl⟩⟩
instance : NotIface Tryz.prog 117 := ⟨_, Tryz.underlying117, nofun⟩
instance : TSize Tryz.prog 117 3 true := tsize_of Tryz.typeInfo117 Tryz.runUnderlying117 rfl rfl
instance : TZero Tryz.prog 117 (.agg #[.string ⟨#[]⟩, .int .i64 0, .int .i64 0]) := ⟨Tryz.zeroValue117⟩
instance : TBytes Tryz.prog 117 32 := ⟨fun w => ⟨_, Tryz.typeInfo117 w, rfl⟩⟩
instance : NotIface Tryz.prog 118 := ⟨_, Tryz.underlying118, nofun⟩
instance : TSize Tryz.prog 118 3 true := tsize_of Tryz.typeInfo118 Tryz.runUnderlying118 rfl rfl
instance : TZero Tryz.prog 118 (.agg #[.string ⟨#[]⟩, .int .i64 0, .int .i64 0]) := ⟨Tryz.zeroValue118⟩
instance : TBytes Tryz.prog 118 32 := ⟨fun w => ⟨_, Tryz.typeInfo118 w, rfl⟩⟩
instance : NotIface Tryz.prog 119 := ⟨_, Tryz.underlying119, nofun⟩
instance : TSize Tryz.prog 119 1 false := tsize_of Tryz.typeInfo119 Tryz.runUnderlying119 rfl rfl
instance : TZero Tryz.prog 119 (.nilFunc) := ⟨Tryz.zeroValue119⟩
instance : TBytes Tryz.prog 119 8 := ⟨fun w => ⟨_, Tryz.typeInfo119 w, rfl⟩⟩
instance : NotIface Tryz.prog 120 := ⟨_, Tryz.underlying120, nofun⟩
instance : TSize Tryz.prog 120 1 false := tsize_of Tryz.typeInfo120 Tryz.runUnderlying120 rfl rfl
instance : TZero Tryz.prog 120 (.nilFunc) := ⟨Tryz.zeroValue120⟩
instance : TBytes Tryz.prog 120 8 := ⟨fun w => ⟨_, Tryz.typeInfo120 w, rfl⟩⟩
instance : NotIface Tryz.prog 121 := ⟨_, Tryz.underlying121, nofun⟩
instance : TSize Tryz.prog 121 1 false := tsize_of Tryz.typeInfo121 Tryz.runUnderlying121 rfl rfl
instance : TZero Tryz.prog 121 (.nilFunc) := ⟨Tryz.zeroValue121⟩
instance : TBytes Tryz.prog 121 8 := ⟨fun w => ⟨_, Tryz.typeInfo121 w, rfl⟩⟩
instance : NotIface Tryz.prog 122 := ⟨_, Tryz.underlying122, nofun⟩
instance : TSize Tryz.prog 122 1 false := tsize_of Tryz.typeInfo122 Tryz.runUnderlying122 rfl rfl
instance : TZero Tryz.prog 122 (.nilFunc) := ⟨Tryz.zeroValue122⟩
instance : TBytes Tryz.prog 122 8 := ⟨fun w => ⟨_, Tryz.typeInfo122 w, rfl⟩⟩
instance : NotIface Tryz.prog 123 := ⟨_, Tryz.underlying123, nofun⟩
instance : TSize Tryz.prog 123 1 false := tsize_of Tryz.typeInfo123 Tryz.runUnderlying123 rfl rfl
instance : TZero Tryz.prog 123 (.nilFunc) := ⟨Tryz.zeroValue123⟩
instance : TBytes Tryz.prog 123 8 := ⟨fun w => ⟨_, Tryz.typeInfo123 w, rfl⟩⟩
instance : NotIface Tryz.prog 125 := ⟨_, Tryz.underlying125, nofun⟩
instance : TSize Tryz.prog 125 1 false := tsize_of Tryz.typeInfo125 Tryz.runUnderlying125 rfl rfl
instance : TZero Tryz.prog 125 (.nilFunc) := ⟨Tryz.zeroValue125⟩
instance : TBytes Tryz.prog 125 8 := ⟨fun w => ⟨_, Tryz.typeInfo125 w, rfl⟩⟩
instance : NotIface Tryz.prog 126 := ⟨_, Tryz.underlying126, nofun⟩
instance : TSize Tryz.prog 126 1 false := tsize_of Tryz.typeInfo126 Tryz.runUnderlying126 rfl rfl
instance : TZero Tryz.prog 126 (.nilFunc) := ⟨Tryz.zeroValue126⟩
instance : TBytes Tryz.prog 126 8 := ⟨fun w => ⟨_, Tryz.typeInfo126 w, rfl⟩⟩
instance : NotIface Tryz.prog 127 := ⟨_, Tryz.underlying127, nofun⟩
instance : TSize Tryz.prog 127 1 false := tsize_of Tryz.typeInfo127 Tryz.runUnderlying127 rfl rfl
instance : TZero Tryz.prog 127 (.nilFunc) := ⟨Tryz.zeroValue127⟩
instance : TBytes Tryz.prog 127 8 := ⟨fun w => ⟨_, Tryz.typeInfo127 w, rfl⟩⟩
instance : NotIface Tryz.prog 129 := ⟨_, Tryz.underlying129, nofun⟩
instance : TSize Tryz.prog 129 1 false := tsize_of Tryz.typeInfo129 Tryz.runUnderlying129 rfl rfl
instance : TZero Tryz.prog 129 (.nilFunc) := ⟨Tryz.zeroValue129⟩
instance : TBytes Tryz.prog 129 8 := ⟨fun w => ⟨_, Tryz.typeInfo129 w, rfl⟩⟩
instance : NotIface Tryz.prog 130 := ⟨_, Tryz.underlying130, nofun⟩
instance : TSize Tryz.prog 130 1 false := tsize_of Tryz.typeInfo130 Tryz.runUnderlying130 rfl rfl
instance : TZero Tryz.prog 130 (.nilFunc) := ⟨Tryz.zeroValue130⟩
instance : TBytes Tryz.prog 130 8 := ⟨fun w => ⟨_, Tryz.typeInfo130 w, rfl⟩⟩
instance : NotIface Tryz.prog 131 := ⟨_, Tryz.underlying131, nofun⟩
instance : TSize Tryz.prog 131 1 false := tsize_of Tryz.typeInfo131 Tryz.runUnderlying131 rfl rfl
instance : TZero Tryz.prog 131 (.nilFunc) := ⟨Tryz.zeroValue131⟩
instance : TBytes Tryz.prog 131 8 := ⟨fun w => ⟨_, Tryz.typeInfo131 w, rfl⟩⟩
instance : NotIface Tryz.prog 132 := ⟨_, Tryz.underlying132, nofun⟩
instance : TSize Tryz.prog 132 1 false := tsize_of Tryz.typeInfo132 Tryz.runUnderlying132 rfl rfl
instance : TZero Tryz.prog 132 (.nilFunc) := ⟨Tryz.zeroValue132⟩
instance : TBytes Tryz.prog 132 8 := ⟨fun w => ⟨_, Tryz.typeInfo132 w, rfl⟩⟩
instance : NotIface Tryz.prog 133 := ⟨_, Tryz.underlying133, nofun⟩
instance : TSize Tryz.prog 133 1 false := tsize_of Tryz.typeInfo133 Tryz.runUnderlying133 rfl rfl
instance : TZero Tryz.prog 133 (.nilFunc) := ⟨Tryz.zeroValue133⟩
instance : TBytes Tryz.prog 133 8 := ⟨fun w => ⟨_, Tryz.typeInfo133 w, rfl⟩⟩
instance : NotIface Tryz.prog 134 := ⟨_, Tryz.underlying134, nofun⟩
instance : TSize Tryz.prog 134 1 false := tsize_of Tryz.typeInfo134 Tryz.runUnderlying134 rfl rfl
instance : TZero Tryz.prog 134 (.nilFunc) := ⟨Tryz.zeroValue134⟩
instance : TBytes Tryz.prog 134 8 := ⟨fun w => ⟨_, Tryz.typeInfo134 w, rfl⟩⟩
instance : NotIface Tryz.prog 135 := ⟨_, Tryz.underlying135, nofun⟩
instance : TSize Tryz.prog 135 1 false := tsize_of Tryz.typeInfo135 Tryz.runUnderlying135 rfl rfl
instance : TZero Tryz.prog 135 (.pointer none) := ⟨Tryz.zeroValue135⟩
instance : TBytes Tryz.prog 135 8 := ⟨fun w => ⟨_, Tryz.typeInfo135 w, rfl⟩⟩
instance : NotIface Tryz.prog 136 := ⟨_, Tryz.underlying136, nofun⟩
instance : TSize Tryz.prog 136 1 false := tsize_of Tryz.typeInfo136 Tryz.runUnderlying136 rfl rfl
instance : TZero Tryz.prog 136 (.nilFunc) := ⟨Tryz.zeroValue136⟩
instance : TBytes Tryz.prog 136 8 := ⟨fun w => ⟨_, Tryz.typeInfo136 w, rfl⟩⟩
instance : NotIface Tryz.prog 137 := ⟨_, Tryz.underlying137, nofun⟩
instance : TSize Tryz.prog 137 1 false := tsize_of Tryz.typeInfo137 Tryz.runUnderlying137 rfl rfl
instance : TZero Tryz.prog 137 (.nilFunc) := ⟨Tryz.zeroValue137⟩
instance : TBytes Tryz.prog 137 8 := ⟨fun w => ⟨_, Tryz.typeInfo137 w, rfl⟩⟩
instance : NotIface Tryz.prog 138 := ⟨_, Tryz.underlying138, nofun⟩
instance : TSize Tryz.prog 138 1 false := tsize_of Tryz.typeInfo138 Tryz.runUnderlying138 rfl rfl
instance : TZero Tryz.prog 138 (.nilFunc) := ⟨Tryz.zeroValue138⟩
instance : TBytes Tryz.prog 138 8 := ⟨fun w => ⟨_, Tryz.typeInfo138 w, rfl⟩⟩
instance : NotIface Tryz.prog 140 := ⟨_, Tryz.underlying140, nofun⟩
instance : TSize Tryz.prog 140 1 false := tsize_of Tryz.typeInfo140 Tryz.runUnderlying140 rfl rfl
instance : TZero Tryz.prog 140 (.nilFunc) := ⟨Tryz.zeroValue140⟩
instance : TBytes Tryz.prog 140 8 := ⟨fun w => ⟨_, Tryz.typeInfo140 w, rfl⟩⟩
instance : NotIface Tryz.prog 141 := ⟨_, Tryz.underlying141, nofun⟩
instance : TSize Tryz.prog 141 1 false := tsize_of Tryz.typeInfo141 Tryz.runUnderlying141 rfl rfl
instance : TZero Tryz.prog 141 (.nilFunc) := ⟨Tryz.zeroValue141⟩
instance : TBytes Tryz.prog 141 8 := ⟨fun w => ⟨_, Tryz.typeInfo141 w, rfl⟩⟩
instance : NotIface Tryz.prog 142 := ⟨_, Tryz.underlying142, nofun⟩
instance : TSize Tryz.prog 142 1 false := tsize_of Tryz.typeInfo142 Tryz.runUnderlying142 rfl rfl
instance : TZero Tryz.prog 142 (.nilFunc) := ⟨Tryz.zeroValue142⟩
instance : TBytes Tryz.prog 142 8 := ⟨fun w => ⟨_, Tryz.typeInfo142 w, rfl⟩⟩
instance : NotIface Tryz.prog 143 := ⟨_, Tryz.underlying143, nofun⟩
instance : TSize Tryz.prog 143 1 false := tsize_of Tryz.typeInfo143 Tryz.runUnderlying143 rfl rfl
instance : TZero Tryz.prog 143 (.nilFunc) := ⟨Tryz.zeroValue143⟩
instance : TBytes Tryz.prog 143 8 := ⟨fun w => ⟨_, Tryz.typeInfo143 w, rfl⟩⟩
instance : NotIface Tryz.prog 144 := ⟨_, Tryz.underlying144, nofun⟩
instance : TSize Tryz.prog 144 1 false := tsize_of Tryz.typeInfo144 Tryz.runUnderlying144 rfl rfl
instance : TZero Tryz.prog 144 (.nilFunc) := ⟨Tryz.zeroValue144⟩
instance : TBytes Tryz.prog 144 8 := ⟨fun w => ⟨_, Tryz.typeInfo144 w, rfl⟩⟩
instance : UInt Tryz.prog 145 .u64 := ⟨Tryz.underlying145⟩
instance : NotIface Tryz.prog 145 := ⟨_, Tryz.underlying145, nofun⟩
instance : TSize Tryz.prog 145 1 false := tsize_of Tryz.typeInfo145 Tryz.runUnderlying145 rfl rfl
instance : TZero Tryz.prog 145 (.int .u64 0) := ⟨Tryz.zeroValue145⟩
instance : TBytes Tryz.prog 145 8 := ⟨fun w => ⟨_, Tryz.typeInfo145 w, rfl⟩⟩
instance : NotIface Tryz.prog 147 := ⟨_, Tryz.underlying147, nofun⟩
instance : TSize Tryz.prog 147 1 false := tsize_of Tryz.typeInfo147 Tryz.runUnderlying147 rfl rfl
instance : TZero Tryz.prog 147 (.nilFunc) := ⟨Tryz.zeroValue147⟩
instance : TBytes Tryz.prog 147 8 := ⟨fun w => ⟨_, Tryz.typeInfo147 w, rfl⟩⟩
instance : NotIface Tryz.prog 148 := ⟨_, Tryz.underlying148, nofun⟩
instance : TSize Tryz.prog 148 1 false := tsize_of Tryz.typeInfo148 Tryz.runUnderlying148 rfl rfl
instance : TZero Tryz.prog 148 (.nilFunc) := ⟨Tryz.zeroValue148⟩
instance : TBytes Tryz.prog 148 8 := ⟨fun w => ⟨_, Tryz.typeInfo148 w, rfl⟩⟩
instance : NotIface Tryz.prog 149 := ⟨_, Tryz.underlying149, nofun⟩
instance : TSize Tryz.prog 149 1 false := tsize_of Tryz.typeInfo149 Tryz.runUnderlying149 rfl rfl
instance : TZero Tryz.prog 149 (.nilFunc) := ⟨Tryz.zeroValue149⟩
instance : TBytes Tryz.prog 149 8 := ⟨fun w => ⟨_, Tryz.typeInfo149 w, rfl⟩⟩
instance : NotIface Tryz.prog 150 := ⟨_, Tryz.underlying150, nofun⟩
instance : TSize Tryz.prog 150 1 false := tsize_of Tryz.typeInfo150 Tryz.runUnderlying150 rfl rfl
instance : TZero Tryz.prog 150 (.nilFunc) := ⟨Tryz.zeroValue150⟩
instance : TBytes Tryz.prog 150 8 := ⟨fun w => ⟨_, Tryz.typeInfo150 w, rfl⟩⟩
instance : NotIface Tryz.prog 152 := ⟨_, Tryz.underlying152, nofun⟩
instance : TSize Tryz.prog 152 1 false := tsize_of Tryz.typeInfo152 Tryz.runUnderlying152 rfl rfl
instance : TZero Tryz.prog 152 (.nilFunc) := ⟨Tryz.zeroValue152⟩
instance : TBytes Tryz.prog 152 8 := ⟨fun w => ⟨_, Tryz.typeInfo152 w, rfl⟩⟩
instance : NotIface Tryz.prog 153 := ⟨_, Tryz.underlying153, nofun⟩
instance : TSize Tryz.prog 153 1 false := tsize_of Tryz.typeInfo153 Tryz.runUnderlying153 rfl rfl
instance : TZero Tryz.prog 153 (.nilFunc) := ⟨Tryz.zeroValue153⟩
instance : TBytes Tryz.prog 153 8 := ⟨fun w => ⟨_, Tryz.typeInfo153 w, rfl⟩⟩
instance : NotIface Tryz.prog 154 := ⟨_, Tryz.underlying154, nofun⟩
instance : TSize Tryz.prog 154 1 false := tsize_of Tryz.typeInfo154 Tryz.runUnderlying154 rfl rfl
instance : TZero Tryz.prog 154 (.nilFunc) := ⟨Tryz.zeroValue154⟩
instance : TBytes Tryz.prog 154 8 := ⟨fun w => ⟨_, Tryz.typeInfo154 w, rfl⟩⟩
instance : NotIface Tryz.prog 155 := ⟨_, Tryz.underlying155, nofun⟩
instance : TSize Tryz.prog 155 1 false := tsize_of Tryz.typeInfo155 Tryz.runUnderlying155 rfl rfl
instance : TZero Tryz.prog 155 (.nilFunc) := ⟨Tryz.zeroValue155⟩
instance : TBytes Tryz.prog 155 8 := ⟨fun w => ⟨_, Tryz.typeInfo155 w, rfl⟩⟩
instance : NotIface Tryz.prog 157 := ⟨_, Tryz.underlying157, nofun⟩
instance : TSize Tryz.prog 157 1 false := tsize_of Tryz.typeInfo157 Tryz.runUnderlying157 rfl rfl
instance : TZero Tryz.prog 157 (.nilFunc) := ⟨Tryz.zeroValue157⟩
instance : TBytes Tryz.prog 157 8 := ⟨fun w => ⟨_, Tryz.typeInfo157 w, rfl⟩⟩
instance : NotIface Tryz.prog 158 := ⟨_, Tryz.underlying158, nofun⟩
instance : TSize Tryz.prog 158 1 false := tsize_of Tryz.typeInfo158 Tryz.runUnderlying158 rfl rfl
instance : TZero Tryz.prog 158 (.nilFunc) := ⟨Tryz.zeroValue158⟩
instance : TBytes Tryz.prog 158 8 := ⟨fun w => ⟨_, Tryz.typeInfo158 w, rfl⟩⟩
instance : NotIface Tryz.prog 159 := ⟨_, Tryz.underlying159, nofun⟩
instance : TSize Tryz.prog 159 1 false := tsize_of Tryz.typeInfo159 Tryz.runUnderlying159 rfl rfl
instance : TZero Tryz.prog 159 (.nilFunc) := ⟨Tryz.zeroValue159⟩
instance : TBytes Tryz.prog 159 8 := ⟨fun w => ⟨_, Tryz.typeInfo159 w, rfl⟩⟩
instance : NotIface Tryz.prog 160 := ⟨_, Tryz.underlying160, nofun⟩
instance : TSize Tryz.prog 160 1 false := tsize_of Tryz.typeInfo160 Tryz.runUnderlying160 rfl rfl
instance : TZero Tryz.prog 160 (.nilFunc) := ⟨Tryz.zeroValue160⟩
instance : TBytes Tryz.prog 160 8 := ⟨fun w => ⟨_, Tryz.typeInfo160 w, rfl⟩⟩
instance : NotIface Tryz.prog 161 := ⟨_, Tryz.underlying161, nofun⟩
instance : TSize Tryz.prog 161 1 false := tsize_of Tryz.typeInfo161 Tryz.runUnderlying161 rfl rfl
instance : TZero Tryz.prog 161 (.nilFunc) := ⟨Tryz.zeroValue161⟩
instance : TBytes Tryz.prog 161 8 := ⟨fun w => ⟨_, Tryz.typeInfo161 w, rfl⟩⟩
instance : NotIface Tryz.prog 162 := ⟨_, Tryz.underlying162, nofun⟩
instance : TSize Tryz.prog 162 1 false := tsize_of Tryz.typeInfo162 Tryz.runUnderlying162 rfl rfl
instance : TZero Tryz.prog 162 (.nilFunc) := ⟨Tryz.zeroValue162⟩
instance : TBytes Tryz.prog 162 8 := ⟨fun w => ⟨_, Tryz.typeInfo162 w, rfl⟩⟩
instance : UInt Tryz.prog 163 .u32 := ⟨Tryz.underlying163⟩
instance : NotIface Tryz.prog 163 := ⟨_, Tryz.underlying163, nofun⟩
instance : TSize Tryz.prog 163 1 false := tsize_of Tryz.typeInfo163 Tryz.runUnderlying163 rfl rfl
instance : TZero Tryz.prog 163 (.int .u32 0) := ⟨Tryz.zeroValue163⟩
instance : TBytes Tryz.prog 163 4 := ⟨fun w => ⟨_, Tryz.typeInfo163 w, rfl⟩⟩
instance : NotIface Tryz.prog 165 := ⟨_, Tryz.underlying165, nofun⟩
instance : TSize Tryz.prog 165 1 false := tsize_of Tryz.typeInfo165 Tryz.runUnderlying165 rfl rfl
instance : TZero Tryz.prog 165 (.nilFunc) := ⟨Tryz.zeroValue165⟩
instance : TBytes Tryz.prog 165 8 := ⟨fun w => ⟨_, Tryz.typeInfo165 w, rfl⟩⟩
instance : UInt Tryz.prog 166 .u64 := ⟨Tryz.underlying166⟩
instance : NotIface Tryz.prog 166 := ⟨_, Tryz.underlying166, nofun⟩
instance : TSize Tryz.prog 166 1 false := tsize_of Tryz.typeInfo166 Tryz.runUnderlying166 rfl rfl
instance : TZero Tryz.prog 166 (.int .u64 0) := ⟨Tryz.zeroValue166⟩
instance : TBytes Tryz.prog 166 8 := ⟨fun w => ⟨_, Tryz.typeInfo166 w, rfl⟩⟩
instance : NotIface Tryz.prog 168 := ⟨_, Tryz.underlying168, nofun⟩
instance : TSize Tryz.prog 168 1 false := tsize_of Tryz.typeInfo168 Tryz.runUnderlying168 rfl rfl
instance : TZero Tryz.prog 168 (.nilFunc) := ⟨Tryz.zeroValue168⟩
instance : TBytes Tryz.prog 168 8 := ⟨fun w => ⟨_, Tryz.typeInfo168 w, rfl⟩⟩
instance : UInt Tryz.prog 169 .i64 := ⟨Tryz.underlying169⟩
instance : NotIface Tryz.prog 169 := ⟨_, Tryz.underlying169, nofun⟩
instance : TSize Tryz.prog 169 1 false := tsize_of Tryz.typeInfo169 Tryz.runUnderlying169 rfl rfl
instance : TZero Tryz.prog 169 (.int .i64 0) := ⟨Tryz.zeroValue169⟩
instance : TBytes Tryz.prog 169 8 := ⟨fun w => ⟨_, Tryz.typeInfo169 w, rfl⟩⟩
instance : NotIface Tryz.prog 171 := ⟨_, Tryz.underlying171, nofun⟩
instance : TSize Tryz.prog 171 1 false := tsize_of Tryz.typeInfo171 Tryz.runUnderlying171 rfl rfl
instance : TZero Tryz.prog 171 (.nilFunc) := ⟨Tryz.zeroValue171⟩
instance : TBytes Tryz.prog 171 8 := ⟨fun w => ⟨_, Tryz.typeInfo171 w, rfl⟩⟩
instance : NotIface Tryz.prog 172 := ⟨_, Tryz.underlying172, nofun⟩
instance : TSize Tryz.prog 172 1 false := tsize_of Tryz.typeInfo172 Tryz.runUnderlying172 rfl rfl
instance : TZero Tryz.prog 172 (.pointer none) := ⟨Tryz.zeroValue172⟩
instance : TBytes Tryz.prog 172 8 := ⟨fun w => ⟨_, Tryz.typeInfo172 w, rfl⟩⟩
instance : NotIface Tryz.prog 173 := ⟨_, Tryz.underlying173, nofun⟩
instance : TSize Tryz.prog 173 1 false := tsize_of Tryz.typeInfo173 Tryz.runUnderlying173 rfl rfl
instance : TZero Tryz.prog 173 (.nilFunc) := ⟨Tryz.zeroValue173⟩
instance : TBytes Tryz.prog 173 8 := ⟨fun w => ⟨_, Tryz.typeInfo173 w, rfl⟩⟩
instance : NotIface Tryz.prog 174 := ⟨_, Tryz.underlying174, nofun⟩
instance : TSize Tryz.prog 174 1 false := tsize_of Tryz.typeInfo174 Tryz.runUnderlying174 rfl rfl
instance : TZero Tryz.prog 174 (.nilFunc) := ⟨Tryz.zeroValue174⟩
instance : TBytes Tryz.prog 174 8 := ⟨fun w => ⟨_, Tryz.typeInfo174 w, rfl⟩⟩
instance : NotIface Tryz.prog 176 := ⟨_, Tryz.underlying176, nofun⟩
instance : TSize Tryz.prog 176 1 false := tsize_of Tryz.typeInfo176 Tryz.runUnderlying176 rfl rfl
instance : TZero Tryz.prog 176 (.nilFunc) := ⟨Tryz.zeroValue176⟩
instance : TBytes Tryz.prog 176 8 := ⟨fun w => ⟨_, Tryz.typeInfo176 w, rfl⟩⟩
instance : NotIface Tryz.prog 177 := ⟨_, Tryz.underlying177, nofun⟩
instance : TSize Tryz.prog 177 1 false := tsize_of Tryz.typeInfo177 Tryz.runUnderlying177 rfl rfl
instance : TZero Tryz.prog 177 (.nilFunc) := ⟨Tryz.zeroValue177⟩
instance : TBytes Tryz.prog 177 8 := ⟨fun w => ⟨_, Tryz.typeInfo177 w, rfl⟩⟩
instance : NotIface Tryz.prog 178 := ⟨_, Tryz.underlying178, nofun⟩
instance : TSize Tryz.prog 178 1 false := tsize_of Tryz.typeInfo178 Tryz.runUnderlying178 rfl rfl
instance : TZero Tryz.prog 178 (.nilFunc) := ⟨Tryz.zeroValue178⟩
instance : TBytes Tryz.prog 178 8 := ⟨fun w => ⟨_, Tryz.typeInfo178 w, rfl⟩⟩
instance : NotIface Tryz.prog 179 := ⟨_, Tryz.underlying179, nofun⟩
instance : TSize Tryz.prog 179 1 false := tsize_of Tryz.typeInfo179 Tryz.runUnderlying179 rfl rfl
instance : TZero Tryz.prog 179 (.nilFunc) := ⟨Tryz.zeroValue179⟩
instance : TBytes Tryz.prog 179 8 := ⟨fun w => ⟨_, Tryz.typeInfo179 w, rfl⟩⟩
instance : NotIface Tryz.prog 181 := ⟨_, Tryz.underlying181, nofun⟩
instance : TSize Tryz.prog 181 1 false := tsize_of Tryz.typeInfo181 Tryz.runUnderlying181 rfl rfl
instance : TZero Tryz.prog 181 (.nilFunc) := ⟨Tryz.zeroValue181⟩
instance : TBytes Tryz.prog 181 8 := ⟨fun w => ⟨_, Tryz.typeInfo181 w, rfl⟩⟩
instance : NotIface Tryz.prog 182 := ⟨_, Tryz.underlying182, nofun⟩
instance : TSize Tryz.prog 182 1 false := tsize_of Tryz.typeInfo182 Tryz.runUnderlying182 rfl rfl
instance : TZero Tryz.prog 182 (.nilFunc) := ⟨Tryz.zeroValue182⟩
instance : TBytes Tryz.prog 182 8 := ⟨fun w => ⟨_, Tryz.typeInfo182 w, rfl⟩⟩
instance : NotIface Tryz.prog 183 := ⟨_, Tryz.underlying183, nofun⟩
instance : TSize Tryz.prog 183 1 false := tsize_of Tryz.typeInfo183 Tryz.runUnderlying183 rfl rfl
instance : TZero Tryz.prog 183 (.nilFunc) := ⟨Tryz.zeroValue183⟩
instance : TBytes Tryz.prog 183 8 := ⟨fun w => ⟨_, Tryz.typeInfo183 w, rfl⟩⟩
instance : NotIface Tryz.prog 184 := ⟨_, Tryz.underlying184, nofun⟩
instance : TSize Tryz.prog 184 3 true := tsize_of Tryz.typeInfo184 Tryz.runUnderlying184 rfl rfl
instance : TZero Tryz.prog 184 (.agg #[.string ⟨#[]⟩, .string ⟨#[]⟩, .nilIface]) := ⟨Tryz.zeroValue184⟩
instance : TBytes Tryz.prog 184 48 := ⟨fun w => ⟨_, Tryz.typeInfo184 w, rfl⟩⟩
instance : NotIface Tryz.prog 185 := ⟨_, Tryz.underlying185, nofun⟩
instance : TSize Tryz.prog 185 3 true := tsize_of Tryz.typeInfo185 Tryz.runUnderlying185 rfl rfl
instance : TZero Tryz.prog 185 (.agg #[.string ⟨#[]⟩, .string ⟨#[]⟩, .nilIface]) := ⟨Tryz.zeroValue185⟩
instance : TBytes Tryz.prog 185 48 := ⟨fun w => ⟨_, Tryz.typeInfo185 w, rfl⟩⟩
instance : NotIface Tryz.prog 186 := ⟨_, Tryz.underlying186, nofun⟩
instance : TSize Tryz.prog 186 1 false := tsize_of Tryz.typeInfo186 Tryz.runUnderlying186 rfl rfl
instance : TZero Tryz.prog 186 (.nilFunc) := ⟨Tryz.zeroValue186⟩
instance : TBytes Tryz.prog 186 8 := ⟨fun w => ⟨_, Tryz.typeInfo186 w, rfl⟩⟩
instance : NotIface Tryz.prog 187 := ⟨_, Tryz.underlying187, nofun⟩
instance : TSize Tryz.prog 187 1 false := tsize_of Tryz.typeInfo187 Tryz.runUnderlying187 rfl rfl
instance : TZero Tryz.prog 187 (.nilFunc) := ⟨Tryz.zeroValue187⟩
instance : TBytes Tryz.prog 187 8 := ⟨fun w => ⟨_, Tryz.typeInfo187 w, rfl⟩⟩
instance : NotIface Tryz.prog 188 := ⟨_, Tryz.underlying188, nofun⟩
instance : TSize Tryz.prog 188 1 false := tsize_of Tryz.typeInfo188 Tryz.runUnderlying188 rfl rfl
instance : TZero Tryz.prog 188 (.nilFunc) := ⟨Tryz.zeroValue188⟩
instance : TBytes Tryz.prog 188 8 := ⟨fun w => ⟨_, Tryz.typeInfo188 w, rfl⟩⟩
instance : NotIface Tryz.prog 189 := ⟨_, Tryz.underlying189, nofun⟩
instance : TSize Tryz.prog 189 5 true := tsize_of Tryz.typeInfo189 Tryz.runUnderlying189 rfl rfl
instance : TZero Tryz.prog 189 (.agg #[.int .i64 0, .int .i64 0, .int .i64 0, .int .i64 0, .int .i64 0]) := ⟨Tryz.zeroValue189⟩
instance : TBytes Tryz.prog 189 40 := ⟨fun w => ⟨_, Tryz.typeInfo189 w, rfl⟩⟩
instance : NotIface Tryz.prog 190 := ⟨_, Tryz.underlying190, nofun⟩
instance : TSize Tryz.prog 190 1 false := tsize_of Tryz.typeInfo190 Tryz.runUnderlying190 rfl rfl
instance : TZero Tryz.prog 190 (.nilFunc) := ⟨Tryz.zeroValue190⟩
instance : TBytes Tryz.prog 190 8 := ⟨fun w => ⟨_, Tryz.typeInfo190 w, rfl⟩⟩
instance : NotIface Tryz.prog 191 := ⟨_, Tryz.underlying191, nofun⟩
instance : TSize Tryz.prog 191 24 true := tsize_of Tryz.typeInfo191 Tryz.runUnderlying191 rfl rfl
instance : TZero Tryz.prog 191 (.agg #[.int .u8 0, .int .u8 0, .int .u8 0, .int .u8 0, .int .u8 0, .int .u8 0, .int .u8 0, .int .u8 0, .int .u8 0, .int .u8 0, .int .u8 0, .int .u8 0, .int .u8 0, .int .u8 0, .int .u8 0, .int .u8 0, .int .u8 0, .int .u8 0, .int .u8 0, .int .u8 0, .int .u8 0, .int .u8 0, .int .u8 0, .int .u8 0]) := ⟨Tryz.zeroValue191⟩
instance : TBytes Tryz.prog 191 24 := ⟨fun w => ⟨_, Tryz.typeInfo191 w, rfl⟩⟩
instance : NotIface Tryz.prog 192 := ⟨_, Tryz.underlying192, nofun⟩
instance : TSize Tryz.prog 192 1 false := tsize_of Tryz.typeInfo192 Tryz.runUnderlying192 rfl rfl
instance : TZero Tryz.prog 192 (.nilFunc) := ⟨Tryz.zeroValue192⟩
instance : TBytes Tryz.prog 192 8 := ⟨fun w => ⟨_, Tryz.typeInfo192 w, rfl⟩⟩
instance : NotIface Tryz.prog 193 := ⟨_, Tryz.underlying193, nofun⟩
instance : TSize Tryz.prog 193 1 false := tsize_of Tryz.typeInfo193 Tryz.runUnderlying193 rfl rfl
instance : TZero Tryz.prog 193 (.nilFunc) := ⟨Tryz.zeroValue193⟩
instance : TBytes Tryz.prog 193 8 := ⟨fun w => ⟨_, Tryz.typeInfo193 w, rfl⟩⟩
instance : NotIface Tryz.prog 195 := ⟨_, Tryz.underlying195, nofun⟩
instance : TSize Tryz.prog 195 1 false := tsize_of Tryz.typeInfo195 Tryz.runUnderlying195 rfl rfl
instance : TZero Tryz.prog 195 (.nilFunc) := ⟨Tryz.zeroValue195⟩
instance : TBytes Tryz.prog 195 8 := ⟨fun w => ⟨_, Tryz.typeInfo195 w, rfl⟩⟩
instance : NotIface Tryz.prog 196 := ⟨_, Tryz.underlying196, nofun⟩
instance : TSize Tryz.prog 196 1 false := tsize_of Tryz.typeInfo196 Tryz.runUnderlying196 rfl rfl
instance : TZero Tryz.prog 196 (.pointer none) := ⟨Tryz.zeroValue196⟩
instance : TBytes Tryz.prog 196 8 := ⟨fun w => ⟨_, Tryz.typeInfo196 w, rfl⟩⟩
instance : NotIface Tryz.prog 197 := ⟨_, Tryz.underlying197, nofun⟩
instance : TSize Tryz.prog 197 1 true := tsize_of Tryz.typeInfo197 Tryz.runUnderlying197 rfl rfl
instance : TZero Tryz.prog 197 (.agg #[.string ⟨#[]⟩]) := ⟨Tryz.zeroValue197⟩
instance : TBytes Tryz.prog 197 16 := ⟨fun w => ⟨_, Tryz.typeInfo197 w, rfl⟩⟩
instance : NotIface Tryz.prog 198 := ⟨_, Tryz.underlying198, nofun⟩
instance : TSize Tryz.prog 198 1 true := tsize_of Tryz.typeInfo198 Tryz.runUnderlying198 rfl rfl
instance : TZero Tryz.prog 198 (.agg #[.string ⟨#[]⟩]) := ⟨Tryz.zeroValue198⟩
instance : TBytes Tryz.prog 198 16 := ⟨fun w => ⟨_, Tryz.typeInfo198 w, rfl⟩⟩
instance : NotIface Tryz.prog 199 := ⟨_, Tryz.underlying199, nofun⟩
instance : TSize Tryz.prog 199 1 false := tsize_of Tryz.typeInfo199 Tryz.runUnderlying199 rfl rfl
instance : TZero Tryz.prog 199 (.nilFunc) := ⟨Tryz.zeroValue199⟩
instance : TBytes Tryz.prog 199 8 := ⟨fun w => ⟨_, Tryz.typeInfo199 w, rfl⟩⟩
instance : NotIface Tryz.prog 200 := ⟨_, Tryz.underlying200, nofun⟩
instance : TSize Tryz.prog 200 20 true := tsize_of Tryz.typeInfo200 Tryz.runUnderlying200 rfl rfl
instance : TZero Tryz.prog 200 (.agg #[.int .u64 0, .int .u64 0, .int .u64 0, .int .u64 0, .int .u64 0, .int .u64 0, .int .u64 0, .int .u64 0, .int .u64 0, .int .u64 0, .int .u64 0, .int .u64 0, .int .u64 0, .int .u64 0, .int .u64 0, .int .u64 0, .int .u64 0, .int .u64 0, .int .u64 0, .int .u64 0]) := ⟨Tryz.zeroValue200⟩
instance : TBytes Tryz.prog 200 160 := ⟨fun w => ⟨_, Tryz.typeInfo200 w, rfl⟩⟩
instance : NotIface Tryz.prog 201 := ⟨_, Tryz.underlying201, nofun⟩
instance : TSize Tryz.prog 201 65 true := tsize_of Tryz.typeInfo201 Tryz.runUnderlying201 rfl rfl
instance : TBytes Tryz.prog 201 65 := ⟨fun w => ⟨_, Tryz.typeInfo201 w, rfl⟩⟩
instance : NotIface Tryz.prog 202 := ⟨_, Tryz.underlying202, nofun⟩
instance : TSize Tryz.prog 202 1 false := tsize_of Tryz.typeInfo202 Tryz.runUnderlying202 rfl rfl
instance : TZero Tryz.prog 202 (.nilFunc) := ⟨Tryz.zeroValue202⟩
instance : TBytes Tryz.prog 202 8 := ⟨fun w => ⟨_, Tryz.typeInfo202 w, rfl⟩⟩
instance : NotIface Tryz.prog 203 := ⟨_, Tryz.underlying203, nofun⟩
instance : TSize Tryz.prog 203 1 false := tsize_of Tryz.typeInfo203 Tryz.runUnderlying203 rfl rfl
instance : TZero Tryz.prog 203 (.nilFunc) := ⟨Tryz.zeroValue203⟩
instance : TBytes Tryz.prog 203 8 := ⟨fun w => ⟨_, Tryz.typeInfo203 w, rfl⟩⟩
instance : NotIface Tryz.prog 204 := ⟨_, Tryz.underlying204, nofun⟩
instance : TSize Tryz.prog 204 32 true := tsize_of Tryz.typeInfo204 Tryz.runUnderlying204 rfl rfl
instance : TZero Tryz.prog 204 (.agg #[.int .u8 0, .int .u8 0, .int .u8 0, .int .u8 0, .int .u8 0, .int .u8 0, .int .u8 0, .int .u8 0, .int .u8 0, .int .u8 0, .int .u8 0, .int .u8 0, .int .u8 0, .int .u8 0, .int .u8 0, .int .u8 0, .int .u8 0, .int .u8 0, .int .u8 0, .int .u8 0, .int .u8 0, .int .u8 0, .int .u8 0, .int .u8 0, .int .u8 0, .int .u8 0, .int .u8 0, .int .u8 0, .int .u8 0, .int .u8 0, .int .u8 0, .int .u8 0]) := ⟨Tryz.zeroValue204⟩
instance : TBytes Tryz.prog 204 32 := ⟨fun w => ⟨_, Tryz.typeInfo204 w, rfl⟩⟩
instance : NotIface Tryz.prog 205 := ⟨_, Tryz.underlying205, nofun⟩
instance : TSize Tryz.prog 205 64 true := tsize_of Tryz.typeInfo205 Tryz.runUnderlying205 rfl rfl
instance : TZero Tryz.prog 205 (.agg #[.int .u8 0, .int .u8 0, .int .u8 0, .int .u8 0, .int .u8 0, .int .u8 0, .int .u8 0, .int .u8 0, .int .u8 0, .int .u8 0, .int .u8 0, .int .u8 0, .int .u8 0, .int .u8 0, .int .u8 0, .int .u8 0, .int .u8 0, .int .u8 0, .int .u8 0, .int .u8 0, .int .u8 0, .int .u8 0, .int .u8 0, .int .u8 0, .int .u8 0, .int .u8 0, .int .u8 0, .int .u8 0, .int .u8 0, .int .u8 0, .int .u8 0, .int .u8 0, .int .u8 0, .int .u8 0, .int .u8 0, .int .u8 0, .int .u8 0, .int .u8 0, .int .u8 0, .int .u8 0, .int .u8 0, .int .u8 0, .int .u8 0, .int .u8 0, .int .u8 0, .int .u8 0, .int .u8 0, .int .u8 0, .int .u8 0, .int .u8 0, .int .u8 0, .int .u8 0, .int .u8 0, .int .u8 0, .int .u8 0, .int .u8 0, .int .u8 0, .int .u8 0, .int .u8 0, .int .u8 0, .int .u8 0, .int .u8 0, .int .u8 0, .int .u8 0]) := ⟨Tryz.zeroValue205⟩
instance : TBytes Tryz.prog 205 64 := ⟨fun w => ⟨_, Tryz.typeInfo205 w, rfl⟩⟩
instance : NotIface Tryz.prog 213 := ⟨_, Tryz.underlying213, nofun⟩
instance : TSize Tryz.prog 213 1 false := tsize_of Tryz.typeInfo213 Tryz.runUnderlying213 rfl rfl
instance : TZero Tryz.prog 213 (.nilFunc) := ⟨Tryz.zeroValue213⟩
instance : TBytes Tryz.prog 213 8 := ⟨fun w => ⟨_, Tryz.typeInfo213 w, rfl⟩⟩
instance : FieldAt Tryz.prog 13 0 0 := fieldAt_of 9 1 Tryz.runUnderlying13 rfl nofun
instance : FieldAt Tryz.prog 13 1 1 := fieldAt_of 12 1 Tryz.runUnderlying13 rfl nofun
instance : TStruct Tryz.prog 13 [(0, 1), (1, 1)] [.string ⟨#[]⟩, .int .u64 0] := tstruct_of (fun t => match t with | 9 => 1 | 12 => 1 | _ => 0) Tryz.zeroValue13 rfl Tryz.runUnderlying13 (fun f hf w => by simp only [List.mem_cons, List.not_mem_nil, or_false] at hf; rcases hf with rfl | rfl <;> exact TSize.size w) rfl
instance : FieldAt Tryz.prog 23 0 0 := fieldAt_of 22 1 Tryz.runUnderlying23 rfl nofun
instance : TStruct Tryz.prog 23 [(0, 1)] [.slice none 0 0] := tstruct_of (fun t => match t with | 22 => 1 | _ => 0) Tryz.zeroValue23 rfl Tryz.runUnderlying23 (fun f hf w => by simp only [List.mem_cons, List.not_mem_nil, or_false] at hf; rcases hf with rfl <;> exact TSize.size w) rfl
instance : FieldAt Tryz.prog 24 0 0 := fieldAt_of 22 1 Tryz.runUnderlying24 rfl nofun
instance : TStruct Tryz.prog 24 [(0, 1)] [.slice none 0 0] := tstruct_of (fun t => match t with | 22 => 1 | _ => 0) Tryz.zeroValue24 rfl Tryz.runUnderlying24 (fun f hf w => by simp only [List.mem_cons, List.not_mem_nil, or_false] at hf; rcases hf with rfl <;> exact TSize.size w) rfl
instance : FieldAt Tryz.prog 35 0 0 := fieldAt_of 3 1 Tryz.runUnderlying35 rfl nofun
instance : FieldAt Tryz.prog 35 1 1 := fieldAt_of 9 1 Tryz.runUnderlying35 rfl nofun
instance : FieldAt Tryz.prog 35 2 2 := fieldAt_of 3 1 Tryz.runUnderlying35 rfl nofun
instance : FieldAt Tryz.prog 35 3 3 := fieldAt_of 34 1 Tryz.runUnderlying35 rfl nofun
instance : TStruct Tryz.prog 35 [(0, 1), (1, 1), (2, 1), (3, 1)] [.int .i64 0, .string ⟨#[]⟩, .int .i64 0, .slice none 0 0] := tstruct_of (fun t => match t with | 3 => 1 | 9 => 1 | 34 => 1 | _ => 0) Tryz.zeroValue35 rfl Tryz.runUnderlying35 (fun f hf w => by simp only [List.mem_cons, List.not_mem_nil, or_false] at hf; rcases hf with rfl | rfl | rfl | rfl <;> exact TSize.size w) rfl
instance : FieldAt Tryz.prog 36 0 0 := fieldAt_of 3 1 Tryz.runUnderlying36 rfl nofun
instance : FieldAt Tryz.prog 36 1 1 := fieldAt_of 9 1 Tryz.runUnderlying36 rfl nofun
instance : FieldAt Tryz.prog 36 2 2 := fieldAt_of 3 1 Tryz.runUnderlying36 rfl nofun
instance : FieldAt Tryz.prog 36 3 3 := fieldAt_of 34 1 Tryz.runUnderlying36 rfl nofun
instance : TStruct Tryz.prog 36 [(0, 1), (1, 1), (2, 1), (3, 1)] [.int .i64 0, .string ⟨#[]⟩, .int .i64 0, .slice none 0 0] := tstruct_of (fun t => match t with | 3 => 1 | 9 => 1 | 34 => 1 | _ => 0) Tryz.zeroValue36 rfl Tryz.runUnderlying36 (fun f hf w => by simp only [List.mem_cons, List.not_mem_nil, or_false] at hf; rcases hf with rfl | rfl | rfl | rfl <;> exact TSize.size w) rfl
instance : FieldAt Tryz.prog 47 0 0 := fieldAt_of 3 1 Tryz.runUnderlying47 rfl nofun
instance : FieldAt Tryz.prog 47 1 1 := fieldAt_of 9 1 Tryz.runUnderlying47 rfl nofun
instance : FieldAt Tryz.prog 47 2 2 := fieldAt_of 3 1 Tryz.runUnderlying47 rfl nofun
instance : FieldAt Tryz.prog 47 3 3 := fieldAt_of 3 1 Tryz.runUnderlying47 rfl nofun
instance : TStruct Tryz.prog 47 [(0, 1), (1, 1), (2, 1), (3, 1)] [.int .i64 0, .string ⟨#[]⟩, .int .i64 0, .int .i64 0] := tstruct_of (fun t => match t with | 3 => 1 | 9 => 1 | _ => 0) Tryz.zeroValue47 rfl Tryz.runUnderlying47 (fun f hf w => by simp only [List.mem_cons, List.not_mem_nil, or_false] at hf; rcases hf with rfl | rfl | rfl | rfl <;> exact TSize.size w) rfl
instance : FieldAt Tryz.prog 48 0 0 := fieldAt_of 3 1 Tryz.runUnderlying48 rfl nofun
instance : FieldAt Tryz.prog 48 1 1 := fieldAt_of 9 1 Tryz.runUnderlying48 rfl nofun
instance : FieldAt Tryz.prog 48 2 2 := fieldAt_of 3 1 Tryz.runUnderlying48 rfl nofun
instance : FieldAt Tryz.prog 48 3 3 := fieldAt_of 3 1 Tryz.runUnderlying48 rfl nofun
instance : TStruct Tryz.prog 48 [(0, 1), (1, 1), (2, 1), (3, 1)] [.int .i64 0, .string ⟨#[]⟩, .int .i64 0, .int .i64 0] := tstruct_of (fun t => match t with | 3 => 1 | 9 => 1 | _ => 0) Tryz.zeroValue48 rfl Tryz.runUnderlying48 (fun f hf w => by simp only [List.mem_cons, List.not_mem_nil, or_false] at hf; rcases hf with rfl | rfl | rfl | rfl <;> exact TSize.size w) rfl
instance : FieldAt Tryz.prog 60 0 0 := fieldAt_of 24 1 Tryz.runUnderlying60 rfl nofun
instance : FieldAt Tryz.prog 60 1 1 := fieldAt_of 44 1 Tryz.runUnderlying60 rfl nofun
instance : TStruct Tryz.prog 60 [(0, 1), (1, 1)] [.slice none 0 0, .slice none 0 0] := tstruct_of (fun t => match t with | 24 => 1 | 44 => 1 | _ => 0) Tryz.zeroValue60 rfl Tryz.runUnderlying60 (fun f hf w => by simp only [List.mem_cons, List.not_mem_nil, or_false] at hf; rcases hf with rfl | rfl <;> exact TSize.size w) rfl
instance : FieldAt Tryz.prog 61 0 0 := fieldAt_of 24 1 Tryz.runUnderlying61 rfl nofun
instance : FieldAt Tryz.prog 61 1 1 := fieldAt_of 44 1 Tryz.runUnderlying61 rfl nofun
instance : TStruct Tryz.prog 61 [(0, 1), (1, 1)] [.slice none 0 0, .slice none 0 0] := tstruct_of (fun t => match t with | 24 => 1 | 44 => 1 | _ => 0) Tryz.zeroValue61 rfl Tryz.runUnderlying61 (fun f hf w => by simp only [List.mem_cons, List.not_mem_nil, or_false] at hf; rcases hf with rfl | rfl <;> exact TSize.size w) rfl
instance : FieldAt Tryz.prog 65 0 0 := fieldAt_of 24 1 Tryz.runUnderlying65 rfl nofun
instance : FieldAt Tryz.prog 65 1 1 := fieldAt_of 64 1 Tryz.runUnderlying65 rfl nofun
instance : FieldAt Tryz.prog 65 2 2 := fieldAt_of 4 1 Tryz.runUnderlying65 rfl nofun
instance : TStruct Tryz.prog 65 [(0, 1), (1, 1), (2, 1)] [.slice none 0 0, .slice none 0 0, .bool false] := tstruct_of (fun t => match t with | 4 => 1 | 24 => 1 | 64 => 1 | _ => 0) Tryz.zeroValue65 rfl Tryz.runUnderlying65 (fun f hf w => by simp only [List.mem_cons, List.not_mem_nil, or_false] at hf; rcases hf with rfl | rfl | rfl <;> exact TSize.size w) rfl
instance : FieldAt Tryz.prog 66 0 0 := fieldAt_of 24 1 Tryz.runUnderlying66 rfl nofun
instance : FieldAt Tryz.prog 66 1 1 := fieldAt_of 64 1 Tryz.runUnderlying66 rfl nofun
instance : FieldAt Tryz.prog 66 2 2 := fieldAt_of 4 1 Tryz.runUnderlying66 rfl nofun
instance : TStruct Tryz.prog 66 [(0, 1), (1, 1), (2, 1)] [.slice none 0 0, .slice none 0 0, .bool false] := tstruct_of (fun t => match t with | 4 => 1 | 24 => 1 | 64 => 1 | _ => 0) Tryz.zeroValue66 rfl Tryz.runUnderlying66 (fun f hf w => by simp only [List.mem_cons, List.not_mem_nil, or_false] at hf; rcases hf with rfl | rfl | rfl <;> exact TSize.size w) rfl
instance : FieldAt Tryz.prog 68 0 0 := fieldAt_of 3 1 Tryz.runUnderlying68 rfl nofun
instance : FieldAt Tryz.prog 68 1 1 := fieldAt_of 26 1 Tryz.runUnderlying68 rfl nofun
instance : TStruct Tryz.prog 68 [(0, 1), (1, 1)] [.int .i64 0, .int .i64 0] := tstruct_of (fun t => match t with | 3 => 1 | 26 => 1 | _ => 0) Tryz.zeroValue68 rfl Tryz.runUnderlying68 (fun f hf w => by simp only [List.mem_cons, List.not_mem_nil, or_false] at hf; rcases hf with rfl | rfl <;> exact TSize.size w) rfl
instance : FieldAt Tryz.prog 69 0 0 := fieldAt_of 3 1 Tryz.runUnderlying69 rfl nofun
instance : FieldAt Tryz.prog 69 1 1 := fieldAt_of 26 1 Tryz.runUnderlying69 rfl nofun
instance : TStruct Tryz.prog 69 [(0, 1), (1, 1)] [.int .i64 0, .int .i64 0] := tstruct_of (fun t => match t with | 3 => 1 | 26 => 1 | _ => 0) Tryz.zeroValue69 rfl Tryz.runUnderlying69 (fun f hf w => by simp only [List.mem_cons, List.not_mem_nil, or_false] at hf; rcases hf with rfl | rfl <;> exact TSize.size w) rfl
instance : FieldAt Tryz.prog 71 0 0 := fieldAt_of 24 1 Tryz.runUnderlying71 rfl nofun
instance : FieldAt Tryz.prog 71 1 1 := fieldAt_of 44 1 Tryz.runUnderlying71 rfl nofun
instance : FieldAt Tryz.prog 71 2 2 := fieldAt_of 3 1 Tryz.runUnderlying71 rfl nofun
instance : FieldAt Tryz.prog 71 3 3 := fieldAt_of 3 1 Tryz.runUnderlying71 rfl nofun
instance : TStruct Tryz.prog 71 [(0, 1), (1, 1), (2, 1), (3, 1)] [.slice none 0 0, .slice none 0 0, .int .i64 0, .int .i64 0] := tstruct_of (fun t => match t with | 3 => 1 | 24 => 1 | 44 => 1 | _ => 0) Tryz.zeroValue71 rfl Tryz.runUnderlying71 (fun f hf w => by simp only [List.mem_cons, List.not_mem_nil, or_false] at hf; rcases hf with rfl | rfl | rfl | rfl <;> exact TSize.size w) rfl
instance : FieldAt Tryz.prog 72 0 0 := fieldAt_of 24 1 Tryz.runUnderlying72 rfl nofun
instance : FieldAt Tryz.prog 72 1 1 := fieldAt_of 44 1 Tryz.runUnderlying72 rfl nofun
instance : FieldAt Tryz.prog 72 2 2 := fieldAt_of 3 1 Tryz.runUnderlying72 rfl nofun
instance : FieldAt Tryz.prog 72 3 3 := fieldAt_of 3 1 Tryz.runUnderlying72 rfl nofun
instance : TStruct Tryz.prog 72 [(0, 1), (1, 1), (2, 1), (3, 1)] [.slice none 0 0, .slice none 0 0, .int .i64 0, .int .i64 0] := tstruct_of (fun t => match t with | 3 => 1 | 24 => 1 | 44 => 1 | _ => 0) Tryz.zeroValue72 rfl Tryz.runUnderlying72 (fun f hf w => by simp only [List.mem_cons, List.not_mem_nil, or_false] at hf; rcases hf with rfl | rfl | rfl | rfl <;> exact TSize.size w) rfl
instance : FieldAt Tryz.prog 80 0 0 := fieldAt_of 9 1 Tryz.runUnderlying80 rfl nofun
instance : FieldAt Tryz.prog 80 1 1 := fieldAt_of 3 1 Tryz.runUnderlying80 rfl nofun
instance : FieldAt Tryz.prog 80 2 2 := fieldAt_of 44 1 Tryz.runUnderlying80 rfl nofun
instance : TStruct Tryz.prog 80 [(0, 1), (1, 1), (2, 1)] [.string ⟨#[]⟩, .int .i64 0, .slice none 0 0] := tstruct_of (fun t => match t with | 3 => 1 | 9 => 1 | 44 => 1 | _ => 0) Tryz.zeroValue80 rfl Tryz.runUnderlying80 (fun f hf w => by simp only [List.mem_cons, List.not_mem_nil, or_false] at hf; rcases hf with rfl | rfl | rfl <;> exact TSize.size w) rfl
instance : FieldAt Tryz.prog 81 0 0 := fieldAt_of 9 1 Tryz.runUnderlying81 rfl nofun
instance : FieldAt Tryz.prog 81 1 1 := fieldAt_of 3 1 Tryz.runUnderlying81 rfl nofun
instance : FieldAt Tryz.prog 81 2 2 := fieldAt_of 44 1 Tryz.runUnderlying81 rfl nofun
instance : TStruct Tryz.prog 81 [(0, 1), (1, 1), (2, 1)] [.string ⟨#[]⟩, .int .i64 0, .slice none 0 0] := tstruct_of (fun t => match t with | 3 => 1 | 9 => 1 | 44 => 1 | _ => 0) Tryz.zeroValue81 rfl Tryz.runUnderlying81 (fun f hf w => by simp only [List.mem_cons, List.not_mem_nil, or_false] at hf; rcases hf with rfl | rfl | rfl <;> exact TSize.size w) rfl
instance : FieldAt Tryz.prog 83 0 0 := fieldAt_of 44 1 Tryz.runUnderlying83 rfl nofun
instance : FieldAt Tryz.prog 83 1 1 := fieldAt_of 3 1 Tryz.runUnderlying83 rfl nofun
instance : FieldAt Tryz.prog 83 2 2 := fieldAt_of 3 1 Tryz.runUnderlying83 rfl nofun
instance : FieldAt Tryz.prog 83 3 3 := fieldAt_of 22 1 Tryz.runUnderlying83 rfl nofun
instance : FieldAt Tryz.prog 83 4 4 := fieldAt_of 26 1 Tryz.runUnderlying83 rfl nofun
instance : FieldAt Tryz.prog 83 5 5 := fieldAt_of 3 1 Tryz.runUnderlying83 rfl nofun
instance : TStruct Tryz.prog 83 [(0, 1), (1, 1), (2, 1), (3, 1), (4, 1), (5, 1)] [.slice none 0 0, .int .i64 0, .int .i64 0, .slice none 0 0, .int .i64 0, .int .i64 0] := tstruct_of (fun t => match t with | 3 => 1 | 22 => 1 | 26 => 1 | 44 => 1 | _ => 0) Tryz.zeroValue83 rfl Tryz.runUnderlying83 (fun f hf w => by simp only [List.mem_cons, List.not_mem_nil, or_false] at hf; rcases hf with rfl | rfl | rfl | rfl | rfl | rfl <;> exact TSize.size w) rfl
instance : FieldAt Tryz.prog 84 0 0 := fieldAt_of 44 1 Tryz.runUnderlying84 rfl nofun
instance : FieldAt Tryz.prog 84 1 1 := fieldAt_of 3 1 Tryz.runUnderlying84 rfl nofun
instance : FieldAt Tryz.prog 84 2 2 := fieldAt_of 3 1 Tryz.runUnderlying84 rfl nofun
instance : FieldAt Tryz.prog 84 3 3 := fieldAt_of 22 1 Tryz.runUnderlying84 rfl nofun
instance : FieldAt Tryz.prog 84 4 4 := fieldAt_of 26 1 Tryz.runUnderlying84 rfl nofun
instance : FieldAt Tryz.prog 84 5 5 := fieldAt_of 3 1 Tryz.runUnderlying84 rfl nofun
instance : TStruct Tryz.prog 84 [(0, 1), (1, 1), (2, 1), (3, 1), (4, 1), (5, 1)] [.slice none 0 0, .int .i64 0, .int .i64 0, .slice none 0 0, .int .i64 0, .int .i64 0] := tstruct_of (fun t => match t with | 3 => 1 | 22 => 1 | 26 => 1 | 44 => 1 | _ => 0) Tryz.zeroValue84 rfl Tryz.runUnderlying84 (fun f hf w => by simp only [List.mem_cons, List.not_mem_nil, or_false] at hf; rcases hf with rfl | rfl | rfl | rfl | rfl | rfl <;> exact TSize.size w) rfl
instance : FieldAt Tryz.prog 86 0 0 := fieldAt_of 85 1 Tryz.runUnderlying86 rfl nofun
instance : FieldAt Tryz.prog 86 1 1 := fieldAt_of 64 1 Tryz.runUnderlying86 rfl nofun
instance : TStruct Tryz.prog 86 [(0, 1), (1, 1)] [.pointer none, .slice none 0 0] := tstruct_of (fun t => match t with | 64 => 1 | 85 => 1 | _ => 0) Tryz.zeroValue86 rfl Tryz.runUnderlying86 (fun f hf w => by simp only [List.mem_cons, List.not_mem_nil, or_false] at hf; rcases hf with rfl | rfl <;> exact TSize.size w) rfl
instance : FieldAt Tryz.prog 87 0 0 := fieldAt_of 85 1 Tryz.runUnderlying87 rfl nofun
instance : FieldAt Tryz.prog 87 1 1 := fieldAt_of 64 1 Tryz.runUnderlying87 rfl nofun
instance : TStruct Tryz.prog 87 [(0, 1), (1, 1)] [.pointer none, .slice none 0 0] := tstruct_of (fun t => match t with | 64 => 1 | 85 => 1 | _ => 0) Tryz.zeroValue87 rfl Tryz.runUnderlying87 (fun f hf w => by simp only [List.mem_cons, List.not_mem_nil, or_false] at hf; rcases hf with rfl | rfl <;> exact TSize.size w) rfl
instance : FieldAt Tryz.prog 117 0 0 := fieldAt_of 9 1 Tryz.runUnderlying117 rfl nofun
instance : FieldAt Tryz.prog 117 1 1 := fieldAt_of 3 1 Tryz.runUnderlying117 rfl nofun
instance : FieldAt Tryz.prog 117 2 2 := fieldAt_of 3 1 Tryz.runUnderlying117 rfl nofun
instance : TStruct Tryz.prog 117 [(0, 1), (1, 1), (2, 1)] [.string ⟨#[]⟩, .int .i64 0, .int .i64 0] := tstruct_of (fun t => match t with | 3 => 1 | 9 => 1 | _ => 0) Tryz.zeroValue117 rfl Tryz.runUnderlying117 (fun f hf w => by simp only [List.mem_cons, List.not_mem_nil, or_false] at hf; rcases hf with rfl | rfl | rfl <;> exact TSize.size w) rfl
instance : FieldAt Tryz.prog 118 0 0 := fieldAt_of 9 1 Tryz.runUnderlying118 rfl nofun
instance : FieldAt Tryz.prog 118 1 1 := fieldAt_of 3 1 Tryz.runUnderlying118 rfl nofun
instance : FieldAt Tryz.prog 118 2 2 := fieldAt_of 3 1 Tryz.runUnderlying118 rfl nofun
instance : TStruct Tryz.prog 118 [(0, 1), (1, 1), (2, 1)] [.string ⟨#[]⟩, .int .i64 0, .int .i64 0] := tstruct_of (fun t => match t with | 3 => 1 | 9 => 1 | _ => 0) Tryz.zeroValue118 rfl Tryz.runUnderlying118 (fun f hf w => by simp only [List.mem_cons, List.not_mem_nil, or_false] at hf; rcases hf with rfl | rfl | rfl <;> exact TSize.size w) rfl
instance : FieldAt Tryz.prog 184 0 0 := fieldAt_of 9 1 Tryz.runUnderlying184 rfl nofun
instance : FieldAt Tryz.prog 184 1 1 := fieldAt_of 9 1 Tryz.runUnderlying184 rfl nofun
instance : FieldAt Tryz.prog 184 2 2 := fieldAt_of 91 1 Tryz.runUnderlying184 rfl nofun
instance : TStruct Tryz.prog 184 [(0, 1), (1, 1), (2, 1)] [.string ⟨#[]⟩, .string ⟨#[]⟩, .nilIface] := tstruct_of (fun t => match t with | 9 => 1 | 91 => 1 | _ => 0) Tryz.zeroValue184 rfl Tryz.runUnderlying184 (fun f hf w => by simp only [List.mem_cons, List.not_mem_nil, or_false] at hf; rcases hf with rfl | rfl | rfl <;> exact TSize.size w) rfl
instance : FieldAt Tryz.prog 185 0 0 := fieldAt_of 9 1 Tryz.runUnderlying185 rfl nofun
instance : FieldAt Tryz.prog 185 1 1 := fieldAt_of 9 1 Tryz.runUnderlying185 rfl nofun
instance : FieldAt Tryz.prog 185 2 2 := fieldAt_of 91 1 Tryz.runUnderlying185 rfl nofun
instance : TStruct Tryz.prog 185 [(0, 1), (1, 1), (2, 1)] [.string ⟨#[]⟩, .string ⟨#[]⟩, .nilIface] := tstruct_of (fun t => match t with | 9 => 1 | 91 => 1 | _ => 0) Tryz.zeroValue185 rfl Tryz.runUnderlying185 (fun f hf w => by simp only [List.mem_cons, List.not_mem_nil, or_false] at hf; rcases hf with rfl | rfl | rfl <;> exact TSize.size w) rfl
instance : FieldAt Tryz.prog 197 0 0 := fieldAt_of 9 1 Tryz.runUnderlying197 rfl nofun
instance : TStruct Tryz.prog 197 [(0, 1)] [.string ⟨#[]⟩] := tstruct_of (fun t => match t with | 9 => 1 | _ => 0) Tryz.zeroValue197 rfl Tryz.runUnderlying197 (fun f hf w => by simp only [List.mem_cons, List.not_mem_nil, or_false] at hf; rcases hf with rfl <;> exact TSize.size w) rfl
instance : FieldAt Tryz.prog 198 0 0 := fieldAt_of 9 1 Tryz.runUnderlying198 rfl nofun
instance : TStruct Tryz.prog 198 [(0, 1)] [.string ⟨#[]⟩] := tstruct_of (fun t => match t with | 9 => 1 | _ => 0) Tryz.zeroValue198 rfl Tryz.runUnderlying198 (fun f hf w => by simp only [List.mem_cons, List.not_mem_nil, or_false] at hf; rcases hf with rfl <;> exact TSize.size w) rfl
end Go.Proofs.YtikgokpbhldlnaaGreatDoor
end
