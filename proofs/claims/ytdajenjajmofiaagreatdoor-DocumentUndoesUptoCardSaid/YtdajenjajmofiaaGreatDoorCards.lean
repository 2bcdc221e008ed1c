/-
  DERIVED. GIVEN WITH THE SEED: THE CARDS: each row of YtdajenjajmofiaaGreatDoorRows.lean that lists a variable, with what it lists TIED to the program's text (the seventh form; the later family's looks); each row that meets fmt, with fmt's text TOLD by the authors' own Lean function (tested against real Go, not proved from fmt's source: count such statements apart). THE CARD IS WHAT COUNTS. Prove the row's statement (the work); the ties are given (YtdajenjajmofiaaGreatDoorTie.lean); close each card by the builder's one call (the guide's Derived/Test/ToyasCard.lean, 'card_holds'). Laid BY PROGRAM, IN A SANDBOX (cutbox-door.mjs). By AI agents, Wed Nov 11 2026. No macro, syntax, notation, axiom, sorry.
-/
import Derived.Test.YtdajenjajmofiaaGreatDoorRows
import GoSem.ClaimSeven
namespace Go.Proofs.YtdajenjajmofiaaGreatDoor
namespace Rows

/-- THE TIED CARD OF 'erratalaw20.DocumentUndoes'. -/
def documentUndoesCard : Claim7 := { stood := { row := documentUndoesRow, standIns := [], harness := (true, "b5b9a64d4d873df4376693ea429d623ca6d1e7cd81aa817da9f229c2c5dd5c70"), looks := true }, kinds := [], alts := [], laidByText := true, laidKinds := [.data, .pinned], laidTests := true, laidLooks := .later }
def DocumentUndoesCardSaid : Prop := Claim7.holds Tryz.pinned (.plain (OpenSpec.ofChange documentUndoesSpec)) documentUndoesCard

/-- THE TIED CARD OF 'erratalaw21.ScriptForms'. -/
def scriptFormsCard : Claim7 := { stood := { row := scriptFormsRow, standIns := [], harness := (true, "b5b9a64d4d873df4376693ea429d623ca6d1e7cd81aa817da9f229c2c5dd5c70"), looks := true }, kinds := [], alts := [], laidByText := true, laidKinds := [.data, .data, .data, .data, .sentinel, .sentinel, .pinned], laidTests := true, laidLooks := .later }
def ScriptFormsCardSaid : Prop := Claim7.holds Tryz.pinned (.plain (OpenSpec.ofChange scriptFormsSpec)) scriptFormsCard

/-- THE SECOND FORM's CARD OF 'erratalaw20.DocumentUndoes'. -/
def documentUndoesUptoCard : Claim7 := { stood := { row := documentUndoesUptoRow, standIns := [], harness := (true, "b5b9a64d4d873df4376693ea429d623ca6d1e7cd81aa817da9f229c2c5dd5c70"), looks := true }, kinds := [], alts := [], laidByText := true, laidKinds := [.data, .pinned], laidTests := true, laidLooks := .later }
def DocumentUndoesUptoCardSaid : Prop := Claim7.holds Tryz.pinned (.plain (OpenSpec.upto documentUndoesSpec)) documentUndoesUptoCard

/-- THE SECOND FORM's CARD OF 'erratalaw21.ScriptForms'. -/
def scriptFormsUptoCard : Claim7 := { stood := { row := scriptFormsUptoRow, standIns := [], harness := (true, "b5b9a64d4d873df4376693ea429d623ca6d1e7cd81aa817da9f229c2c5dd5c70"), looks := true }, kinds := [], alts := [], laidByText := true, laidKinds := [.data, .data, .data, .data, .sentinel, .sentinel, .pinned], laidTests := true, laidLooks := .later }
def ScriptFormsUptoCardSaid : Prop := Claim7.holds Tryz.pinned (.plain (OpenSpec.upto scriptFormsSpec)) scriptFormsUptoCard
end Rows
end Go.Proofs.YtdajenjajmofiaaGreatDoor
