/-
  DERIVED. GIVEN WITH THE SEED: THE CARDS: each row of YtknchhnibjfocaaDoorRows.lean that lists a variable, with what it lists TIED to the program's text (the seventh form; the later family's looks); each row that meets fmt, with fmt's text TOLD by the authors' own Lean function (tested against real Go, not proved from fmt's source: count such statements apart). THE CARD IS WHAT COUNTS. Prove the row's statement (the work); the ties are given (YtknchhnibjfocaaDoorTie.lean); close each card by the builder's one call (the guide's Derived/Test/ToyasCard.lean, 'card_holds'). Laid BY PROGRAM, IN A SANDBOX (cutbox-door.mjs). By AI agents, Wed Nov 11 2026. No macro, syntax, notation, axiom, sorry.
-/
import Derived.Test.YtknchhnibjfocaaDoorRows
import GoSem.ClaimSeven
namespace Go.Proofs.YtknchhnibjfocaaDoor
namespace Rows

/-- THE TIED CARD OF 'drydocklaw21.ActLines'. -/
def actLinesCard : Claim7 := { stood := { row := actLinesRow, standIns := [], harness := (true, "2ae9b15e5f6260fbb582519ad4fceee8af77b84bac2669da7d43b65465ba7fd0"), looks := true }, kinds := [], alts := [], laidByText := true, laidKinds := [.data, .data, .data, .data, .sentinel, .sentinel, .pinned], laidTests := true, laidLooks := .later }
def ActLinesCardSaid : Prop := Claim7.holds Tryd.pinned (.plain (OpenSpec.ofChange actLinesSpec)) actLinesCard

/-- THE TIED CARD OF 'drydocklaw21.ActReads'. -/
def actReadsCard : Claim7 := { stood := { row := actReadsRow, standIns := [], harness := (true, "2ae9b15e5f6260fbb582519ad4fceee8af77b84bac2669da7d43b65465ba7fd0"), looks := true }, kinds := [], alts := [], laidByText := true, laidKinds := [.data, .data, .data, .data, .sentinel, .sentinel, .pinned], laidTests := true, laidLooks := .later }
def ActReadsCardSaid : Prop := Claim7.holds Tryd.pinned (.plain (OpenSpec.ofChange actReadsSpec)) actReadsCard

/-- THE TIED CARD OF 'drydocklaw21.ActWords'. -/
def actWordsCard : Claim7 := { stood := { row := actWordsRow, standIns := [], harness := (true, "2ae9b15e5f6260fbb582519ad4fceee8af77b84bac2669da7d43b65465ba7fd0"), looks := true }, kinds := [], alts := [], laidByText := true, laidKinds := [.data, .data, .data, .data, .sentinel, .sentinel, .pinned], laidTests := true, laidLooks := .later }
def ActWordsCardSaid : Prop := Claim7.holds Tryd.pinned (.plain (OpenSpec.ofChange actWordsSpec)) actWordsCard

/-- THE TIED CARD OF 'drydocklaw21.ActScripts'. -/
def actScriptsCard : Claim7 := { stood := { row := actScriptsRow, standIns := [], harness := (true, "2ae9b15e5f6260fbb582519ad4fceee8af77b84bac2669da7d43b65465ba7fd0"), looks := true }, kinds := [], alts := [], laidByText := true, laidKinds := [.data, .data, .data, .data, .sentinel, .sentinel, .pinned], laidTests := true, laidLooks := .later }
def ActScriptsCardSaid : Prop := Claim7.holds Tryd.pinned (.plain (OpenSpec.ofChange actScriptsSpec)) actScriptsCard

/-- THE TIED CARD OF 'drydocklaw21.ActTexts'. -/
def actTextsCard : Claim7 := { stood := { row := actTextsRow, standIns := [], harness := (true, "2ae9b15e5f6260fbb582519ad4fceee8af77b84bac2669da7d43b65465ba7fd0"), looks := true }, kinds := [], alts := [], laidByText := true, laidKinds := [.data, .data, .data, .data, .sentinel, .sentinel, .pinned], laidTests := true, laidLooks := .later }
def ActTextsCardSaid : Prop := Claim7.holds Tryd.pinned (.plain (OpenSpec.ofChange actTextsSpec)) actTextsCard

/-- THE TIED CARD OF 'drydocklaw21.ActBack'. -/
def actBackCard : Claim7 := { stood := { row := actBackRow, standIns := [], harness := (true, "2ae9b15e5f6260fbb582519ad4fceee8af77b84bac2669da7d43b65465ba7fd0"), looks := true }, kinds := [], alts := [], laidByText := true, laidKinds := [.data, .data, .data, .data, .sentinel, .sentinel, .pinned], laidTests := true, laidLooks := .later }
def ActBackCardSaid : Prop := Claim7.holds Tryd.pinned (.plain (OpenSpec.ofChange actBackSpec)) actBackCard

/-- THE SECOND FORM's CARD OF 'drydocklaw21.ActLines'. -/
def actLinesUptoCard : Claim7 := { stood := { row := actLinesUptoRow, standIns := [], harness := (true, "2ae9b15e5f6260fbb582519ad4fceee8af77b84bac2669da7d43b65465ba7fd0"), looks := true }, kinds := [], alts := [], laidByText := true, laidKinds := [.data, .data, .data, .data, .sentinel, .sentinel, .pinned], laidTests := true, laidLooks := .later }
def ActLinesUptoCardSaid : Prop := Claim7.holds Tryd.pinned (.plain (OpenSpec.upto actLinesSpec)) actLinesUptoCard

/-- THE SECOND FORM's CARD OF 'drydocklaw21.ActReads'. -/
def actReadsUptoCard : Claim7 := { stood := { row := actReadsUptoRow, standIns := [], harness := (true, "2ae9b15e5f6260fbb582519ad4fceee8af77b84bac2669da7d43b65465ba7fd0"), looks := true }, kinds := [], alts := [], laidByText := true, laidKinds := [.data, .data, .data, .data, .sentinel, .sentinel, .pinned], laidTests := true, laidLooks := .later }
def ActReadsUptoCardSaid : Prop := Claim7.holds Tryd.pinned (.plain (OpenSpec.upto actReadsSpec)) actReadsUptoCard

/-- THE SECOND FORM's CARD OF 'drydocklaw21.ActWords'. -/
def actWordsUptoCard : Claim7 := { stood := { row := actWordsUptoRow, standIns := [], harness := (true, "2ae9b15e5f6260fbb582519ad4fceee8af77b84bac2669da7d43b65465ba7fd0"), looks := true }, kinds := [], alts := [], laidByText := true, laidKinds := [.data, .data, .data, .data, .sentinel, .sentinel, .pinned], laidTests := true, laidLooks := .later }
def ActWordsUptoCardSaid : Prop := Claim7.holds Tryd.pinned (.plain (OpenSpec.upto actWordsSpec)) actWordsUptoCard

/-- THE SECOND FORM's CARD OF 'drydocklaw21.ActScripts'. -/
def actScriptsUptoCard : Claim7 := { stood := { row := actScriptsUptoRow, standIns := [], harness := (true, "2ae9b15e5f6260fbb582519ad4fceee8af77b84bac2669da7d43b65465ba7fd0"), looks := true }, kinds := [], alts := [], laidByText := true, laidKinds := [.data, .data, .data, .data, .sentinel, .sentinel, .pinned], laidTests := true, laidLooks := .later }
def ActScriptsUptoCardSaid : Prop := Claim7.holds Tryd.pinned (.plain (OpenSpec.upto actScriptsSpec)) actScriptsUptoCard

/-- THE SECOND FORM's CARD OF 'drydocklaw21.ActTexts'. -/
def actTextsUptoCard : Claim7 := { stood := { row := actTextsUptoRow, standIns := [], harness := (true, "2ae9b15e5f6260fbb582519ad4fceee8af77b84bac2669da7d43b65465ba7fd0"), looks := true }, kinds := [], alts := [], laidByText := true, laidKinds := [.data, .data, .data, .data, .sentinel, .sentinel, .pinned], laidTests := true, laidLooks := .later }
def ActTextsUptoCardSaid : Prop := Claim7.holds Tryd.pinned (.plain (OpenSpec.upto actTextsSpec)) actTextsUptoCard

/-- THE SECOND FORM's CARD OF 'drydocklaw21.ActBack'. -/
def actBackUptoCard : Claim7 := { stood := { row := actBackUptoRow, standIns := [], harness := (true, "2ae9b15e5f6260fbb582519ad4fceee8af77b84bac2669da7d43b65465ba7fd0"), looks := true }, kinds := [], alts := [], laidByText := true, laidKinds := [.data, .data, .data, .data, .sentinel, .sentinel, .pinned], laidTests := true, laidLooks := .later }
def ActBackUptoCardSaid : Prop := Claim7.holds Tryd.pinned (.plain (OpenSpec.upto actBackSpec)) actBackUptoCard
end Rows
end Go.Proofs.YtknchhnibjfocaaDoor
