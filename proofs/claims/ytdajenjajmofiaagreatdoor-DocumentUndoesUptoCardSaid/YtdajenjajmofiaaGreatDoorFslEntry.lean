/- A part of our logic over the resolved code, or of a proof in it. -/
import Derived.Test.YtdajenjajmofiaaGreatDoorFslSound15
import Derived.ChangeSame
set_option linter.unusedSimpArgs false
set_option linter.unusedVariables false
namespace Go.Fsl
variable {P : Program}

abbrev noH : Heap := fun _ => none
/-- Every cell that there is. -/
def allF (w : World) : Fz := fun b i => ∃ v, w.cell? ⟨b, i, none⟩ = some v
theorem rel_all (w : World) : Rel P (allF w) w noH := ⟨fun _ _ h => (by cases h), fun _ _ h => ⟨h, fun _ e => (by cases e)⟩⟩

/-- A CONTRACT IN THE LOGIC IS ONE IN THE MACHINE. -/
theorem Call.run (hm : P.follows .mixedOrders = true) {I : CallSem} (hI : ∀ c args H Q, I c args H Q → M P c args H Q) {f : FuncId} {ds : List D} {Q : D → Heap → Prop} (h : Call P I (.fn f) ds noH Q)
    {w : World} {vs : List Value} (hv : VRs (allF w) w ds vs) : Calls P f vs.toArray w (Post P (allF w) w noH Q) :=
  callsIn_wide.1 (Call.sound hm hI h (allF w) w vs (rel_all w) hv).2

/-- Rows that are only read, and nothing else. -/
def RoH (H : Heap) : Prop := ∀ b o, H b = some o → Ro o
/-- With package-level rows: what they hold is there in w. -/
theorem rel_ro {w : World} {H : Heap} (h : ∀ b o, H b = some o → ∃ cs arr e fr, o = .cells cs (cs.length + 1) 0 none ∧ w.heap[b]? = some (.cells arr e fr) ∧ arr.toList.map D.v = cs) : Rel P (allF w) w H ∧ RoH H := by
  refine ⟨⟨fun b o hb => ?_, fun b i hf => ⟨hf, fun o hb => ?_⟩⟩, fun b o hb => ?_⟩
  · obtain ⟨cs, arr, e, fr, rfl, h1, h2⟩ := h b o hb
    have hl : arr.size = cs.length := by rw [← h2]; simp
    refine ⟨arr, TyIn.any e, fr.1, fr.2, h1, by omega, Nat.zero_le _, fun i hi hi' => by omega, fun i => (arr[i]?).getD undef, fun i hi => ?_⟩
    have hi' : i < arr.size := by omega
    refine ⟨by simp [hi'], ?_⟩
    subst h2
    simp only [List.getElem_map, Array.getElem_toList, hi', Array.getElem?_eq_getElem, Option.getD_some]
    exact .v _
  · obtain ⟨cs, arr, e, fr, rfl, h1, h2⟩ := h b o hb
    obtain ⟨v, hv⟩ := hf
    refine ⟨_, _, _, _, rfl, ?_⟩
    rw [cell_of (fr := fr) h1] at hv
    have := (Array.getElem?_eq_some_iff.1 hv).1
    have hl : arr.size = cs.length := by rw [← h2]; simp
    omega
  · obtain ⟨cs, arr, e, fr, rfl, _, _⟩ := h b o hb
    exact ⟨_, _, _, _, rfl, Nat.lt_succ_self _⟩
theorem Call.runH (hm : P.follows .mixedOrders = true) {I : CallSem} (hI : ∀ c args H Q, I c args H Q → M P c args H Q) {f : FuncId} {ds : List D} {H : Heap} {Q : D → Heap → Prop} (h : Call P I (.fn f) ds H Q)
    {w : World} {vs : List Value} (hR : Rel P (allF w) w H) (hv : VRs (allF w) w ds vs) : Calls P f vs.toArray w (Post P (allF w) w H Q) :=
  callsIn_wide.1 (Call.sound hm hI h (allF w) w vs hR hv).2

/-- What was there is as it was. -/
theorem Step.same {F F' : Fz} {w w' : World} {H H' : Heap} (hr : RoH H) (s : Step F w H F' w' H') {b : Nat} (hb : b < w.heap.size) : w'.heap[b]? = w.heap[b]? := by
  cases h : H b with
  | none => exact s.rest b hb h
  | some o => exact (s.ro b o hb h (hr b o h)).1
theorem Step.kept {F F' : Fz} {w w' : World} {H H' : Heap} (hr : RoH H) (s : Step F w H F' w' H') (may : MemPlace → Prop) : w.keptBut w' may := by
  refine ⟨s.quiet.1, s.quiet.2, fun i hi => ?_⟩
  rw [s.same hr hi]
  cases h : w.heap[i]? with
  | none => rfl
  | some o => cases o <;> first | exact ⟨rfl, rfl, rfl, fun _ _ => rfl⟩ | exact .inr ⟨rfl, rfl⟩ | rfl
theorem Step.frozen {F F' : Fz} {w w' : World} {H H' : Heap} (hr : RoH H) (s : Step F w H F' w' H') {b i : Nat} (hb : b < w.heap.size) : w'.frozen? ⟨b, i, none⟩ = w.frozen? ⟨b, i, none⟩ :=
  frozen_congr (s.same hr hb)
theorem RoH.no : RoH noH := fun _ _ h => nomatch h

end Go.Fsl
