/- A part of our logic over the resolved code, or of a proof in it. -/
import Derived.Test.YtdajenjajmofiaaGreatDoorFslCall
import Derived.Deep.AppendSrc
import Derived.Laws.Rows
set_option linter.unusedSimpArgs false
set_option linter.unusedVariables false
namespace Go.Fsl

def TR (F : Fz) (w : World) (n : Nat) (τ : Tmps) (tmps : Array Value) : Prop :=
  tmps.size = n ∧ ∀ t, t < n → VR F w (τ t) (tmps.getD t undef)

theorem TR.mono {F F' : Fz} {w w' : World} {n : Nat} {τ : Tmps} {tmps : Array Value} (h : TR F w n τ tmps) (hF : SubF F F') (hk : KeepF F w w') : TR F' w' n τ tmps :=
  ⟨h.1, fun t ht => (h.2 t ht).mono hF hk⟩

theorem VR.undef (F : Fz) (w : World) : VR F w .undef Go.undef := .tup [] rfl (fun i h => absurd h (by simp))

theorem TR.put {F : Fz} {w : World} {n : Nat} {τ : Tmps} {tmps : Array Value} (h : TR F w n τ tmps) (t : Nat) {d : D} {v : Value} (hd : VR F w d v) :
    TR F w n (τ.put t d) (tmps.setIfInBounds t v) := by
  refine ⟨by simp [h.1], fun s hs => ?_⟩
  by_cases e : s = t
  · subst e
    rw [Tmps.put_same]
    have : (tmps.setIfInBounds s v).getD s Go.undef = v := by
      have hs' : s < tmps.size := by rw [h.1]; exact hs
      simp [Array.getD_eq_getD_getElem?, hs']
    rw [this]; exact hd
  · rw [Tmps.put_other _ _ e]
    have : (tmps.setIfInBounds t v).getD s Go.undef = tmps.getD s Go.undef := by
      simp only [Array.getD_eq_getD_getElem?, Array.getElem?_setIfInBounds]
      simp [Ne.symm e]
    rw [this]; exact h.2 s hs

theorem leafV_vr {F : Fz} {w : World} : ∀ {v : Value} {d : D}, leafV v = some d → VR F w d v := by
  intro v d h
  cases v with
  | func fn first caps =>
    cases fn with
    | func f =>
      simp only [leafV] at h
      split at h
      · rename_i he
        simp only [Bool.and_eq_true, Array.isEmpty_iff] at he
        obtain ⟨rfl, rfl⟩ := he
        cases h
        exact .fn [] rfl (fun i h => absurd h (by simp))
      · cases h
    | _ => cases h
  | agg cs => cases h
  | tuple cs => cases h
  | _ => cases h; exact .v _

theorem mapM_some {α β : Type} {f : α → Option β} : ∀ {l : List α} {r : List β}, l.mapM f = some r → l.length = r.length ∧ ∀ i (h : i < l.length) (h' : i < r.length), f l[i] = some r[i]
  | [], r, h => by
    simp at h
    subst h
    exact ⟨rfl, fun i h => absurd h (by simp)⟩
  | a :: l, r, h => by
    rw [List.mapM_cons] at h
    cases ha : f a with
    | none => rw [ha] at h; cases h
    | some b =>
      rw [ha] at h
      cases hl : l.mapM f with
      | none => rw [hl] at h; cases h
      | some bs =>
        rw [hl] at h
        cases h
        obtain ⟨h1, h2⟩ := mapM_some hl
        refine ⟨by simp [h1], fun i hi hi' => ?_⟩
        cases i with
        | zero => exact ha
        | succ i => exact h2 i (by simpa using hi) (by simpa using hi')

theorem ofV_vr {F : Fz} {w : World} {v : Value} {d : D} (h : ofV v = some d) : VR F w d v := by
  cases v with
  | agg cs =>
    simp only [ofV, Option.map_eq_some_iff] at h
    obtain ⟨ds, hd, rfl⟩ := h
    obtain ⟨h1, h2⟩ := mapM_some hd
    have := VR.agg (F := F) (w := w) (cs := ds) cs.toList h1 (fun i h h' => leafV_vr (h2 i h' h))
    simpa using this
  | tuple cs =>
    simp only [ofV] at h
    split at h
    · rename_i he
      simp only [Array.isEmpty_iff] at he
      subst he
      cases h
      exact VR.undef F w
    · cases h
  | _ => exact leafV_vr h

theorem ev_vr {F : Fz} {w : World} {n : Nat} {τ : Tmps} {a : Act} (h : TR F w n τ a.tmps) {x : Operand} {r : RO} (hr : rO x = some r) (ho : okO n r = true) :
    VR F w (r.ev τ) (a.eval x) := by
  cases x with
  | tmp t =>
    simp only [rO] at hr
    cases hr
    exact h.2 t (by simpa [okO] using ho)
  | const v =>
    simp only [rO, Option.map_eq_some_iff] at hr
    obtain ⟨d, hd, rfl⟩ := hr
    exact ofV_vr hd
  | global g =>
    simp only [rO] at hr
    cases hr
    exact .v _
  | func f =>
    simp only [rO] at hr
    cases hr
    exact .fn [] rfl (fun i h => absurd h (by simp))

theorem evs_vr {F : Fz} {w : World} {n : Nat} {τ : Tmps} {a : Act} (h : TR F w n τ a.tmps) {xs : List Operand} {rs : List RO} (hr : rOs xs = some rs) (ho : okOs n rs = true) :
    VRs F w (rs.map (·.ev τ)) (xs.map a.eval) := by
  obtain ⟨h1, h2⟩ := mapM_some hr
  refine ⟨by simp [h1], fun i hi hi' => ?_⟩
  simp only [List.getElem_map]
  have hi1 : i < rs.length := by simpa using hi
  have hi2 : i < xs.length := by simpa using hi'
  exact ev_vr h (h2 i hi2 hi1) (List.all_eq_true.1 ho _ (List.getElem_mem hi1))

theorem VRs.mono {F F' : Fz} {w w' : World} {ds : List D} {vs : List Value} (h : VRs F w ds vs) (hF : SubF F F') (hk : KeepF F w w') : VRs F' w' ds vs :=
  ⟨h.1, fun i a b => (h.2 i a b).mono hF hk⟩
theorem VRs.append {F : Fz} {w : World} {ds es : List D} {vs us : List Value} (h : VRs F w ds vs) (k : VRs F w es us) : VRs F w (ds ++ es) (vs ++ us) := by
  refine ⟨by simp [h.1, k.1], fun i hi hi' => ?_⟩
  by_cases hlt : i < ds.length
  · have hlt' : i < vs.length := by rw [h.1]; exact hlt
    rw [List.getElem_append_left hlt, List.getElem_append_left hlt']
    exact h.2 i hlt hlt'
  · have h1 : ds.length ≤ i := by omega
    have h2 : vs.length ≤ i := by rw [h.1]; exact h1
    rw [List.getElem_append_right h1, List.getElem_append_right h2]
    have hi0 : i < ds.length + es.length := by simpa using hi
    have := k.2 (i - ds.length) (by omega) (by rw [k.1]; omega)
    simpa only [h.1] using this
theorem VRs.nil (F : Fz) (w : World) : VRs F w [] [] := ⟨rfl, fun i h => absurd h (by simp)⟩
theorem VRs.cons {F : Fz} {w : World} {d : D} {v : Value} {ds : List D} {vs : List Value} (h : VR F w d v) (k : VRs F w ds vs) : VRs F w (d :: ds) (v :: vs) := by
  refine ⟨by simp [k.1], fun i hi hi' => ?_⟩
  cases i with
  | zero => exact h
  | succ i => exact k.2 i (by simpa using hi) (by simpa using hi')
theorem VRs.one {F : Fz} {w : World} {d : D} {v : Value} (h : VR F w d v) : VRs F w [d] [v] := (VRs.nil F w).cons h
theorem VRs.head {F : Fz} {w : World} {d : D} {v : Value} (h : VRs F w [d] [v]) : VR F w d v := h.2 0 (by simp) (by simp)

/-! ### values -/
theorem VR.cells {F : Fz} {w : World} {d : D} {v : Value} (h : VR F w d v) {ds : List D} (hd : d.cells = some ds) (h1 : ds.all D.one = true) :
    VRs F w ds v.cells.toList ∧ ∀ u ∈ v.cells.toList, u.oneCell' = true := by
  have key : ∀ {e : D} {u : Value}, VR F w e u → e.one = true → u.oneCell' = true := by
    intro e u he ho
    cases he with
    | v => cases u <;> first | rfl | (simp [D.one, oneV] at ho)
    | nil => rfl
    | fz => rfl
    | fpt => rfl
    | fn => rfl
    | agg => simp [D.one] at ho
    | tup => simp [D.one] at ho
  have hall : ∀ e ∈ ds, e.one = true := List.all_eq_true.1 h1
  have main : VRs F w ds v.cells.toList := by
    cases h with
    | agg u hl hr =>
      simp only [D.cells] at hd
      cases hd
      exact ⟨by simp [Value.cells, hl], fun i h h' => by simpa [Value.cells] using hr i h (by rw [hl]; exact h)⟩
    | tup u hl hr => simp [D.cells] at hd
    | v =>
      simp only [D.cells] at hd
      split at hd
      · rename_i ho
        cases hd
        have hc : v.cells = #[v] := by cases v <;> first | rfl | (simp [oneV] at ho)
        rw [hc]
        exact VRs.one (.v v)
      · cases hd
    | nil sz A c => simp only [D.cells] at hd; cases hd; exact VRs.one (.nil sz A c)
    | fz u a a' b c e => simp only [D.cells] at hd; cases hd; exact VRs.one (.fz u a a' b c e)
    | fpt u a b c => simp only [D.cells] at hd; cases hd; exact VRs.one (.fpt u a b c)
    | fn u a b => simp only [D.cells] at hd; cases hd; exact VRs.one (.fn u a b)
  refine ⟨main, fun u hu => ?_⟩
  obtain ⟨i, hi, rfl⟩ := List.mem_iff_getElem.1 hu
  have hi' : i < ds.length := by rw [← main.1]; exact hi
  exact key (main.2 i hi' hi) (hall _ (List.getElem_mem hi'))

theorem VR.intD {F : Fz} {w : World} {d : D} {v : Value} (h : VR F w d v) {n : Int} (hd : intD d = some n) : ∃ k, v = .int k n := by
  cases h with
  | v => cases v <;> simp_all [Fsl.intD]
  | _ => simp [Fsl.intD] at hd

end Go.Fsl
