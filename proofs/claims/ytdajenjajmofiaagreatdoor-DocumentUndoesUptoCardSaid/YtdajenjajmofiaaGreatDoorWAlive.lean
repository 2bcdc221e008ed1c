/- A part of our logic over the resolved code, or of a proof in it. -/
import Derived.Test.YtdajenjajmofiaaGreatDoorWUndo
import GoSem.PinnedTables
set_option linter.unusedSimpArgs false
set_option linter.unusedVariables false
namespace Go.Proofs.YtdajenjajmofiaaGreatDoor
open Go Go.Fsl

def u8s (l : List Nat) : List D := l.map fun n => .v (.int .u8 (n : Nat))
def g3 : List D := u8s Go.Pinned.utf8FirstZ
def g4n : List Nat := [128, 191, 160, 191, 128, 159, 144, 191, 128, 143, 0, 0, 0, 0, 0, 0, 0, 0, 0, 0, 0, 0, 0, 0, 0, 0, 0, 0, 0, 0, 0, 0]
def g4 : List D := u8s g4n
/-- The package-level rows, as the runner has them. -/
def A0 : T AO := (T.leaf.put 3 (.cells g3 0 none)).put 4 (.cells g4 0 none)
theorem u8s_plain (l : List Nat) : (u8s l).all plainL = true := by
  simp [u8s, List.all_eq_true, plainL, plainV, plain1]
/-- The package-level rows are there. -/
def Glb (H : Heap) : Prop := H 3 = some (.cells g3 (g3.length + 1) 0 none) ∧ H 4 = some (.cells g4 (g4.length + 1) 0 none)
theorem gh {H : Heap} (h : Glb H) : GH A0 8 H := by
  intro g o hg
  simp only [A0] at hg
  rw [T.get_put _ _ _ (by omega), T.get_put _ _ _ (by omega)] at hg
  split at hg
  · rename_i e
    cases hg
    exact ⟨g4, g4.length + 1, 0, none, rfl, u8s_plain _, by omega, by rw [e]; exact h.2⟩
  · split at hg
    · rename_i e
      cases hg
      exact ⟨g3, g3.length + 1, 0, none, rfl, u8s_plain _, by omega, by rw [e]; exact h.1⟩
    · cases hg
theorem tblOK : TblOK Tryz.prog 8 tbl := tblOK_i (by kernel_rfl) tbl_all
/-- The document's example, run by the kernel. -/
theorem alive_spec {I : CallSem} {H : Heap} {Q : D → Heap → Prop} (hG : Glb H) (hQ : Q (.b true) H) : CP I (.fn 5) [] H Q :=
  closed_run (k := 199) (L := 100000) tblOK (by omega) (by kernel_rfl) (gh hG) hQ
end Go.Proofs.YtdajenjajmofiaaGreatDoor
