/- A part of our logic over the resolved code, or of a proof in it. -/
import Derived.Test.YtdajenjajmofiaaGreatDoorWDone2
set_option linter.unusedSimpArgs false
set_option linter.unusedVariables false
set_option maxRecDepth 100000
namespace Go.Proofs.YtdajenjajmofiaaGreatDoor.documentUndoes
open Go Go.Fsl Go.ChangeShapes Go.WideShapes Go.ChangeAt Go.RowKit Go.ChangeMaps Go.Proofs.YtdajenjajmofiaaGreatDoor

theorem liftedUpto (os : Os) (started : os.Started) (H : Type) (enc : TypeId × Value → H) (F : Stop.Interp) :
    ReturnsInHanded {} Tryz.checked os 3 .any ((Rows.OpenSpec.upto Rows.documentUndoesSpec).preRow enc Tryz.prog Tryz.f3 Rows.documentUndoesUptoRow.domain false Rows.documentUndoesUptoRow.laid) (((Rows.OpenSpec.upto Rows.documentUndoesSpec).at F).post enc Tryz.prog Tryz.f3 false true false false) := by
  obtain ⟨places, hx⟩ := reads os enc
  refine returnsInHanded_of_row (C := Tryz.checked) (s := Rows.OpenSpec.upto Rows.documentUndoesSpec) own started (by kernel_rfl) Tryz.func3
    (witness_row_at (enc := enc) (C := Tryz.checked) false (laidWorld os) witArgs rfl (by kernel_rfl) (by kernel_rfl) (by kernel_rfl)
      (OpenSpec.preRow_of_cond 8 hx (by kernel_rfl) (fun k hk => by cases hk; kernel_rfl) (by kernel_rfl) (laid_met os))) ?_
  intro W base args ds gs before hval hW _ hcond _ hL _ _
  exact contract H enc W base args ds gs before hval hW (of_decide_eq_true (hcond _ rfl)) hL

end Go.Proofs.YtdajenjajmofiaaGreatDoor.documentUndoes
