/-
  DERIVED. GIVEN WITH THE SEED: THE CARDS: each row of YtikgokpbhldlnaaGreatDoorRows.lean that lists a variable, with what it lists TIED to the program's text (the seventh form; the later family's looks); each row that meets fmt, with fmt's text TOLD by the authors' own Lean function (tested against real Go, not proved from fmt's source: count such statements apart). THE CARD IS WHAT COUNTS. Prove the row's statement (the work); the ties are given (YtikgokpbhldlnaaGreatDoorTie.lean); close each card by the builder's one call (the guide's Derived/Test/ToyasCard.lean, 'card_holds'). Laid BY PROGRAM, IN A SANDBOX (cutbox-door.mjs). By AI agents, Wed Nov 11 2026. No macro, syntax, notation, axiom, sorry.
-/
import Derived.Test.YtikgokpbhldlnaaGreatDoorRows
import GoSem.ClaimSeven
namespace Go.Proofs.YtikgokpbhldlnaaGreatDoor
namespace Rows

/-- THE TIED CARD OF 'loiterlaw09.ShowTexts'. -/
def showTextsCard : Claim7 := { stood := { row := showTextsRow, standIns := [], harness := (true, "3f30bc521a2ee91709d1acded7611c7471dfa235a0b6df25967af4c46309bb08"), looks := true }, kinds := [], alts := [], laidByText := true, laidKinds := [.data, .data, .data], laidTests := true, laidLooks := .later }
def ShowTextsCardSaid : Prop := Claim7.holds Tryz.pinned (.plain (OpenSpec.ofChange showTextsSpec)) showTextsCard

/-- THE TIED CARD OF 'loiterlaw09.ShowKeeps'. -/
def showKeepsCard : Claim7 := { stood := { row := showKeepsRow, standIns := [], harness := (true, "3f30bc521a2ee91709d1acded7611c7471dfa235a0b6df25967af4c46309bb08"), looks := true }, kinds := [], alts := [], laidByText := true, laidKinds := [.data, .data, .data], laidTests := true, laidLooks := .later }
def ShowKeepsCardSaid : Prop := Claim7.holds Tryz.pinned (.plain (OpenSpec.ofChange showKeepsSpec)) showKeepsCard

/-- THE TIED CARD OF 'loiterlaw09.ShowParts'. -/
def showPartsCard : Claim7 := { stood := { row := showPartsRow, standIns := [], harness := (true, "3f30bc521a2ee91709d1acded7611c7471dfa235a0b6df25967af4c46309bb08"), looks := true }, kinds := [], alts := [], laidByText := true, laidKinds := [.data, .data, .data], laidTests := true, laidLooks := .later }
def ShowPartsCardSaid : Prop := Claim7.holds Tryz.pinned (.plain (OpenSpec.ofChange showPartsSpec)) showPartsCard

/-- THE TIED CARD OF 'loiterlaw08.ParseSound'. -/
def parseSoundCard : Claim7 := { stood := { row := parseSoundRow, standIns := [], harness := (true, "3f30bc521a2ee91709d1acded7611c7471dfa235a0b6df25967af4c46309bb08"), looks := true }, kinds := [], alts := [], laidByText := true, laidKinds := [.data, .data, .data, .sentinel, .sentinel], laidTests := true, laidLooks := .later }
def ParseSoundCardSaid : Prop := Claim7.holds Tryz.pinned (.plain (OpenSpec.ofChange parseSoundSpec)) parseSoundCard

/-- THE TIED CARD OF 'loiterlaw08.ParseChecks'. -/
def parseChecksCard : Claim7 := { stood := { row := parseChecksRow, standIns := [], harness := (true, "3f30bc521a2ee91709d1acded7611c7471dfa235a0b6df25967af4c46309bb08"), looks := true }, kinds := [], alts := [], laidByText := true, laidKinds := [.data, .data, .data, .sentinel, .sentinel], laidTests := true, laidLooks := .later }
def ParseChecksCardSaid : Prop := Claim7.holds Tryz.pinned (.plain (OpenSpec.ofChange parseChecksSpec)) parseChecksCard

/-- THE TIED CARD OF 'loiterlaw08.ParseKeeps'. -/
def parseKeepsCard : Claim7 := { stood := { row := parseKeepsRow, standIns := [], harness := (true, "3f30bc521a2ee91709d1acded7611c7471dfa235a0b6df25967af4c46309bb08"), looks := true }, kinds := [], alts := [], laidByText := true, laidKinds := [.data, .data, .data, .sentinel, .sentinel], laidTests := true, laidLooks := .later }
def ParseKeepsCardSaid : Prop := Claim7.holds Tryz.pinned (.plain (OpenSpec.ofChange parseKeepsSpec)) parseKeepsCard

/-- THE TIED CARD OF 'loiterlaw09.ShowBack'. -/
def showBackCard : Claim7 := { stood := { row := showBackRow, standIns := [], harness := (true, "3f30bc521a2ee91709d1acded7611c7471dfa235a0b6df25967af4c46309bb08"), looks := true }, kinds := [], alts := [], laidByText := true, laidKinds := [.data, .data, .data, .sentinel, .sentinel], laidTests := true, laidLooks := .later }
def ShowBackCardSaid : Prop := Claim7.holds Tryz.pinned (.plain (OpenSpec.ofChange showBackSpec)) showBackCard

/-- THE TIED CARD OF 'loiterlaw09.ShowRead'. -/
def showReadCard : Claim7 := { stood := { row := showReadRow, standIns := [], harness := (true, "3f30bc521a2ee91709d1acded7611c7471dfa235a0b6df25967af4c46309bb08"), looks := true }, kinds := [], alts := [], laidByText := true, laidKinds := [.data, .data, .data, .sentinel, .sentinel], laidTests := true, laidLooks := .later }
def ShowReadCardSaid : Prop := Claim7.holds Tryz.pinned (.plain (OpenSpec.ofChange showReadSpec)) showReadCard

/-- THE SECOND FORM's CARD OF 'loiterlaw09.ShowTexts'. -/
def showTextsUptoCard : Claim7 := { stood := { row := showTextsUptoRow, standIns := [], harness := (true, "3f30bc521a2ee91709d1acded7611c7471dfa235a0b6df25967af4c46309bb08"), looks := true }, kinds := [], alts := [], laidByText := true, laidKinds := [.data, .data, .data], laidTests := true, laidLooks := .later }
def ShowTextsUptoCardSaid : Prop := Claim7.holds Tryz.pinned (.plain (OpenSpec.upto showTextsSpec)) showTextsUptoCard

/-- THE SECOND FORM's CARD OF 'loiterlaw09.ShowKeeps'. -/
def showKeepsUptoCard : Claim7 := { stood := { row := showKeepsUptoRow, standIns := [], harness := (true, "3f30bc521a2ee91709d1acded7611c7471dfa235a0b6df25967af4c46309bb08"), looks := true }, kinds := [], alts := [], laidByText := true, laidKinds := [.data, .data, .data], laidTests := true, laidLooks := .later }
def ShowKeepsUptoCardSaid : Prop := Claim7.holds Tryz.pinned (.plain (OpenSpec.upto showKeepsSpec)) showKeepsUptoCard

/-- THE SECOND FORM's CARD OF 'loiterlaw09.ShowParts'. -/
def showPartsUptoCard : Claim7 := { stood := { row := showPartsUptoRow, standIns := [], harness := (true, "3f30bc521a2ee91709d1acded7611c7471dfa235a0b6df25967af4c46309bb08"), looks := true }, kinds := [], alts := [], laidByText := true, laidKinds := [.data, .data, .data], laidTests := true, laidLooks := .later }
def ShowPartsUptoCardSaid : Prop := Claim7.holds Tryz.pinned (.plain (OpenSpec.upto showPartsSpec)) showPartsUptoCard

/-- THE SECOND FORM's CARD OF 'loiterlaw08.ParseSound'. -/
def parseSoundUptoCard : Claim7 := { stood := { row := parseSoundUptoRow, standIns := [], harness := (true, "3f30bc521a2ee91709d1acded7611c7471dfa235a0b6df25967af4c46309bb08"), looks := true }, kinds := [], alts := [], laidByText := true, laidKinds := [.data, .data, .data, .sentinel, .sentinel], laidTests := true, laidLooks := .later }
def ParseSoundUptoCardSaid : Prop := Claim7.holds Tryz.pinned (.plain (OpenSpec.upto parseSoundSpec)) parseSoundUptoCard

/-- THE SECOND FORM's CARD OF 'loiterlaw08.ParseChecks'. -/
def parseChecksUptoCard : Claim7 := { stood := { row := parseChecksUptoRow, standIns := [], harness := (true, "3f30bc521a2ee91709d1acded7611c7471dfa235a0b6df25967af4c46309bb08"), looks := true }, kinds := [], alts := [], laidByText := true, laidKinds := [.data, .data, .data, .sentinel, .sentinel], laidTests := true, laidLooks := .later }
def ParseChecksUptoCardSaid : Prop := Claim7.holds Tryz.pinned (.plain (OpenSpec.upto parseChecksSpec)) parseChecksUptoCard

/-- THE SECOND FORM's CARD OF 'loiterlaw08.ParseKeeps'. -/
def parseKeepsUptoCard : Claim7 := { stood := { row := parseKeepsUptoRow, standIns := [], harness := (true, "3f30bc521a2ee91709d1acded7611c7471dfa235a0b6df25967af4c46309bb08"), looks := true }, kinds := [], alts := [], laidByText := true, laidKinds := [.data, .data, .data, .sentinel, .sentinel], laidTests := true, laidLooks := .later }
def ParseKeepsUptoCardSaid : Prop := Claim7.holds Tryz.pinned (.plain (OpenSpec.upto parseKeepsSpec)) parseKeepsUptoCard

/-- THE SECOND FORM's CARD OF 'loiterlaw09.ShowBack'. -/
def showBackUptoCard : Claim7 := { stood := { row := showBackUptoRow, standIns := [], harness := (true, "3f30bc521a2ee91709d1acded7611c7471dfa235a0b6df25967af4c46309bb08"), looks := true }, kinds := [], alts := [], laidByText := true, laidKinds := [.data, .data, .data, .sentinel, .sentinel], laidTests := true, laidLooks := .later }
def ShowBackUptoCardSaid : Prop := Claim7.holds Tryz.pinned (.plain (OpenSpec.upto showBackSpec)) showBackUptoCard

/-- THE SECOND FORM's CARD OF 'loiterlaw09.ShowRead'. -/
def showReadUptoCard : Claim7 := { stood := { row := showReadUptoRow, standIns := [], harness := (true, "3f30bc521a2ee91709d1acded7611c7471dfa235a0b6df25967af4c46309bb08"), looks := true }, kinds := [], alts := [], laidByText := true, laidKinds := [.data, .data, .data, .sentinel, .sentinel], laidTests := true, laidLooks := .later }
def ShowReadUptoCardSaid : Prop := Claim7.holds Tryz.pinned (.plain (OpenSpec.upto showReadSpec)) showReadUptoCard
end Rows
end Go.Proofs.YtikgokpbhldlnaaGreatDoor
