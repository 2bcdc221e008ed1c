/- A part of our logic over the resolved code, or of a proof in it. -/
import Derived.Test.YtdajenjajmofiaaGreatDoorFslEv9
set_option linter.unusedSimpArgs false
set_option linter.unusedVariables false
namespace Go.Fsl
variable {P : Program}

/-- A row that is owned is frozen: from now on it is a tree. -/
theorem Ghost.freeze (P : Program) {pre post : List D} {H : Heap} {b n c sz frz room : Nat} {cs : List D} {ty : Option TypeId} {xs : List (List D)} (hb : H b = some (.cells cs frz room ty)) (hfr : frz ≤ cs.length)
    (hxs : xs.flatten = cs) (hn : xs.length = n) (hsz : ∀ x ∈ xs, x.length = sz) (hc : n ≤ c) :
    Ghost P (pre ++ [.v (.slice (some ⟨b, 0, none⟩) n c)] ++ post) H (pre ++ [.fz sz xs] ++ post) (H.era b) := by
  refine ⟨fun q hq => by simp only [Heap.era]; split <;> first | rfl | exact hq, fun F w vs hR hv => ?_⟩
  obtain ⟨arr, e, lo, hi, g1, g2, g3, g4, u, g5⟩ := hR.own b _ hb
  refine ⟨fun q i => F q i ∨ (q = b ∧ i < cs.length), ?_, ?_, ?_⟩
  · exact { sub := fun q i h => .inl h, keep := KeepF.refl F w, size := Nat.le_refl _, rest := fun _ _ _ => rfl, dom := fun q _ hq => by simp only [Heap.era]; split <;> first | rfl | exact hq,
            newF := fun q i h => by
              rcases h with h | ⟨rfl, _⟩
              · exact .inl h
              · exact .inr (.inr (by rw [hb]; simp)),
            quiet := ⟨rfl, rfl⟩,
            ro := fun q o _ hq hr => by
              have hne : q ≠ b := by rintro rfl; rw [hb] at hq; cases hq; obtain ⟨_, _, _, _, e1, e2⟩ := hr; cases e1; omega
              exact ⟨rfl, .inl (by simp only [Heap.era, if_neg hne]; exact hq)⟩ }
  · refine ⟨fun q o hq => ?_, fun q i hf => ?_⟩
    · have hne : q ≠ b := by rintro rfl; simp [Heap.era] at hq
      have hq' : H q = some o := by simpa [Heap.era, hne] using hq
      exact (hR.own q o hq').mono (fun _ _ h => .inl h) (KeepF.refl F w) rfl
    · rcases hf with hf | ⟨rfl, hi⟩
      · refine ⟨(hR.fz q i hf).1, fun o hq => ?_⟩
        have hne : q ≠ b := by rintro rfl; simp [Heap.era] at hq
        have hq' : H q = some o := by simpa [Heap.era, hne] using hq
        exact (hR.fz q i hf).2 o hq'
      · refine ⟨⟨u i, by rw [cell_of g1]; exact (g5 i hi).1⟩, fun o hq => by simp [Heap.era] at hq⟩
  · have hmono : ∀ {d v}, VR F w d v → VR (fun q i => F q i ∨ (q = b ∧ i < cs.length)) w d v := fun h => h.mono (fun _ _ h => .inl h) (fun _ _ _ _ h => h)
    have hlen := hv.1
    refine ⟨by simpa using hlen, fun i hi hi' => ?_⟩
    have hi2 : i < (pre ++ [D.v (.slice (some ⟨b, 0, none⟩) n c)] ++ post).length := by simpa using hi
    have := hv.2 i hi2 hi'
    by_cases h1 : i < pre.length
    · rw [List.getElem_append_left (by simp; omega), List.getElem_append_left h1] at this ⊢
      exact hmono this
    · by_cases h2 : i = pre.length
      · subst h2
        rw [List.getElem_append_left (by simp), List.getElem_append_right (Nat.le_refl _)] at this ⊢
        simp only [Nat.sub_self, List.getElem_cons_zero] at this ⊢
        generalize vs[pre.length] = v at this
        cases this
        cases xs with
        | nil => subst hn; exact .nil sz _ c
        | cons x xs =>
          subst hn
          refine .fz u hsz hc (fun j hj => .inr ⟨rfl, by rw [hxs] at hj; omega⟩) (fun j hj => ?_) (fun j hj => ?_)
          · rw [Nat.zero_add, cell_of g1]
            exact (g5 j (by rw [← hxs]; exact hj)).1
          · have hj' : j < cs.length := by rw [← hxs]; exact hj
            have := hmono (g5 j hj').2
            simp only [hxs]
            exact this
      · rw [List.getElem_append_right (by simp; omega)] at this ⊢
        simpa using hmono this
theorem Ghost.freeze_nil (P : Program) {pre post : List D} {H : Heap} (sz : Nat) : Ghost P (pre ++ [.nils] ++ post) H (pre ++ [.fz sz []] ++ post) H := by
  refine ⟨fun _ h => h, fun F w vs hR hv => ⟨F, Step.refl F w H, hR, ?_⟩⟩
  have hlen := hv.1
  refine ⟨by simpa using hlen, fun i hi hi' => ?_⟩
  have hi2 : i < (pre ++ [D.nils] ++ post).length := by simpa using hi
  have := hv.2 i hi2 hi'
  by_cases h1 : i < pre.length
  · rw [List.getElem_append_left (by simp; omega), List.getElem_append_left h1] at this ⊢
    exact this
  · by_cases h2 : i = pre.length
    · subst h2
      rw [List.getElem_append_left (by simp), List.getElem_append_right (Nat.le_refl _)] at this ⊢
      simp only [Nat.sub_self, List.getElem_cons_zero] at this ⊢
      generalize vs[pre.length] = v at this
      cases this
      exact .nil sz _ _
    · rw [List.getElem_append_right (by simp; omega)] at this ⊢
      simpa using this
end Go.Fsl
