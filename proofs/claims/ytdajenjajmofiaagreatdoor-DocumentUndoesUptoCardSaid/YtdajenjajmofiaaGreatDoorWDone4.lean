/- The second card of 'DocumentUndoes' holds: of every text and every row of changes whose reading is of bulk at most 1048576 the law returns true and leaves its arguments as they were; the package-level rows utf8.first and utf8.acceptRanges hold what the program's text lays. -/
import Derived.Test.YtdajenjajmofiaaGreatDoorWDone3
set_option linter.unusedSimpArgs false
set_option linter.unusedVariables false
set_option maxRecDepth 100000
namespace Go.Proofs.YtdajenjajmofiaaGreatDoor.documentUndoes
open Go Go.Fsl Go.ChangeShapes Go.WideShapes Go.ChangeAt Go.RowKit Go.ChangeMaps Go.Proofs.YtdajenjajmofiaaGreatDoor
theorem saidUpto : Rows.DocumentUndoesUptoSaid :=
  OpenClaim.holds_of_cond 3 Tryz.f3 rfl rfl rfl rfl rfl rfl rfl ⟨rfl, rfl, rfl, rfl, rfl⟩ rfl rfl rfl rfl rfl (by kernel_rfl) Tryz.func3 (by kernel_rfl)
    (of_decide_eq_true (by kernel_rfl)) (by unfold Func.isWrapper; first | (rw [if_pos (by decide +kernel)]; kernel_rfl) | (rw [if_neg (by decide +kernel)]; exact ⟨rfl, rfl⟩))
    (fun os started H enc _ F => by rw [OpenClaim.pre_eq_preRow]; exact liftedUpto os started H enc F)

theorem plain (f : FuncId) (fn : Func) (hf : Tryz.pinned.checked.prog.funcNamed "errata/erratalaw20.DocumentUndoes" = some f) (hfn : Tryz.pinned.checked.prog.funcs[f]? = some fn) :
    true = Tryz.pinned.checked.prog.looks [] ∧ ∀ (j : Nat) t, fn.params[j]? = some t → Tryz.pinned.checked.prog.wantsStandIn t = false := by
  obtain rfl : f = 3 := Option.some.inj ((show Tryz.prog.funcNamed "errata/erratalaw20.DocumentUndoes" = some 3 by kernel_rfl).symm.trans hf) |>.symm
  obtain rfl : fn = Tryz.f3 := (Option.some.inj (Tryz.func3.symm.trans hfn)).symm
  refine ⟨by kernel_rfl, fun j t ht => ?_⟩
  rw [Tryz.params3] at ht
  have : t = 9 ∨ t = 22 := by simpa using Array.mem_of_getElem? ht
  rcases this with rfl | rfl
  · exact (show Tryz.prog.wantsStandIn 9 = false by kernel_rfl)
  · exact (show Tryz.prog.wantsStandIn 22 = false by kernel_rfl)

end Go.Proofs.YtdajenjajmofiaaGreatDoor.documentUndoes
namespace Go.Proofs.YtdajenjajmofiaaGreatDoor
open Go
/-- ████ THE SECOND FORM's CARD ████ -/
theorem documentUndoesCardUpto : Rows.DocumentUndoesUptoCardSaid :=
  Claim7.holds_tied_plain_at .later [] _ _ _ _ documentUndoes.saidUpto (fun _ h => by cases h) (by kernel_rfl) (fun _ h => by cases h) documentUndoesUpto_row_tie rfl ⟨rfl, rfl⟩ (by kernel_rfl) rfl documentUndoes.plain (by kernel_rfl)
end Go.Proofs.YtdajenjajmofiaaGreatDoor
