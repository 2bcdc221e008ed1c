/- A part of our logic over the resolved code, or of a proof in it. -/
import Derived.Test.YtdajenjajmofiaaGreatDoorWDone1
set_option linter.unusedSimpArgs false
set_option linter.unusedVariables false
set_option maxRecDepth 100000
namespace Go.Proofs.YtdajenjajmofiaaGreatDoor.documentUndoes
open Go Go.Fsl Go.ChangeShapes Go.WideShapes Go.ChangeAt Go.RowKit Go.ChangeMaps Go.Proofs.YtdajenjajmofiaaGreatDoor
/-- Cells laid anew. -/
def relay (l : List Nat) : Obj → Obj
  | .cells _ t frozen => .cells (l.map fun n : Nat => Value.int .u8 n).toArray t frozen
  | o => o
/-- A WORLD FOR THE WITNESS. -/
noncomputable def laidWorld (os : Os) : World :=
  { World.holding Tryz.prog os ⟨#[], #[], []⟩ with heap := ((World.holding Tryz.prog os ⟨#[], #[], []⟩).heap.modify 3 (relay Go.Pinned.utf8FirstZ)).modify 4 (relay g4n) }
abbrev witArgs : Array Value := #[.string .empty, .slice none 0 0]
theorem laid_met (os : Os) : laidMet Tryz.prog Rows.documentUndoesUptoRow.laid ((laidWorld os).forCall (fun _ _ => 0) ⟨#[], witArgs, []⟩).memory :=
  laidMet_of_run' 8 (by kernel_rfl) (by kernel_rfl)
theorem reads (os : Os) {H : Type} (enc : TypeId × Value → H) : ∃ places, DataW.whole enc Tryz.prog ((laidWorld os).forCall (fun _ _ => 0) ⟨#[], witArgs, []⟩).memory Tryz.f3.params.toList Rows.documentUndoesSpec.vars false witArgs.toList 8 = some ([.lit (.string []), .nil], [], places) :=
  ⟨[], by kernel_rfl⟩

end Go.Proofs.YtdajenjajmofiaaGreatDoor.documentUndoes
