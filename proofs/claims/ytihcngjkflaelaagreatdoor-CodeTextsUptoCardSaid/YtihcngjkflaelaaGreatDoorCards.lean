/-
  DERIVED. GIVEN WITH THE SEED: THE CARDS: each row of YtihcngjkflaelaaGreatDoorRows.lean that lists a variable, with what it lists TIED to the program's text (the seventh form; the later family's looks); each row that meets fmt, with fmt's text TOLD by the authors' own Lean function (tested against real Go, not proved from fmt's source: count such statements apart). THE CARD IS WHAT COUNTS. Prove the row's statement (the work); the ties are given (YtihcngjkflaelaaGreatDoorTie.lean); close each card by the builder's one call (the guide's Derived/Test/ToyasCard.lean, 'card_holds'). Laid BY PROGRAM, IN A SANDBOX (cutbox-door.mjs). By AI agents, Wed Nov 11 2026. No macro, syntax, notation, axiom, sorry.
-/
import Derived.Test.YtihcngjkflaelaaGreatDoorRows
import GoSem.ClaimSeven
namespace Go.Proofs.YtihcngjkflaelaaGreatDoor
namespace Rows

/-- THE TIED CARD OF 'interleavelaw09.CodeText'. -/
def codeTextCard : Claim7 := { stood := { row := codeTextRow, standIns := [], harness := (true, "d6dba33e0d12699b1239fd612fd1b69c3fec8c3867efdb3bf6b56f7f0d848fe8"), looks := false }, kinds := [], alts := [], laidByText := true, laidKinds := [.data, .data, .data], laidTests := true, laidLooks := .later }
def CodeTextCardSaid : Prop := Claim7.holds Tryz.pinned (.plain (OpenSpec.ofChange codeTextSpec)) codeTextCard

/-- THE TIED CARD OF 'interleavelaw09.CodeTexts'. -/
def codeTextsCard : Claim7 := { stood := { row := codeTextsRow, standIns := [], harness := (true, "d6dba33e0d12699b1239fd612fd1b69c3fec8c3867efdb3bf6b56f7f0d848fe8"), looks := false }, kinds := [], alts := [], laidByText := true, laidKinds := [.data, .data, .data], laidTests := true, laidLooks := .later }
def CodeTextsCardSaid : Prop := Claim7.holds Tryz.pinned (.plain (OpenSpec.ofChange codeTextsSpec)) codeTextsCard

/-- THE SECOND FORM's CARD OF 'interleavelaw09.CodeText'. -/
def codeTextUptoCard : Claim7 := { stood := { row := codeTextUptoRow, standIns := [], harness := (true, "d6dba33e0d12699b1239fd612fd1b69c3fec8c3867efdb3bf6b56f7f0d848fe8"), looks := false }, kinds := [], alts := [], laidByText := true, laidKinds := [.data, .data, .data], laidTests := true, laidLooks := .later }
def CodeTextUptoCardSaid : Prop := Claim7.holds Tryz.pinned (.plain (OpenSpec.upto codeTextSpec)) codeTextUptoCard

/-- THE SECOND FORM's CARD OF 'interleavelaw09.CodeTexts'. -/
def codeTextsUptoCard : Claim7 := { stood := { row := codeTextsUptoRow, standIns := [], harness := (true, "d6dba33e0d12699b1239fd612fd1b69c3fec8c3867efdb3bf6b56f7f0d848fe8"), looks := false }, kinds := [], alts := [], laidByText := true, laidKinds := [.data, .data, .data], laidTests := true, laidLooks := .later }
def CodeTextsUptoCardSaid : Prop := Claim7.holds Tryz.pinned (.plain (OpenSpec.upto codeTextsSpec)) codeTextsUptoCard
end Rows
end Go.Proofs.YtihcngjkflaelaaGreatDoor
