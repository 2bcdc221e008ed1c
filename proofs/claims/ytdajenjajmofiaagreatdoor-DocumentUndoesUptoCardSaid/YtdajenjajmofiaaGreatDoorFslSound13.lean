/- A part of our logic over the resolved code, or of a proof in it. -/
import Derived.Test.YtdajenjajmofiaaGreatDoorFslSound12
set_option linter.unusedSimpArgs false
set_option linter.unusedVariables false
namespace Go.Fsl
variable {P : Program} {F : Fz} {w w' : World} {H : Heap} {n : Nat} {τ : Tmps} {a : Act} {K : D → Heap → Prop} {o : Oper} {ro : Option Nat} {base : Nat}

/-- The marks of ranges over functions, among an activation's deferred calls. -/
def Mk (base : Nat) (w : World) (H : Heap) : List Deferred → Prop
  | [] => True
  | d :: ds => (∃ r, d = { target := .collected r, args := #[] } ∧ base ≤ r ∧ w.heap[r]? = some (.deferred (some [])) ∧ H r = none ∧ ∀ e ∈ ds, e.target ≠ .collected r) ∧ Mk base w H ds

theorem Mk.turn {H' : Heap} : ∀ {ds : List Deferred}, Mk base w H ds → (∀ r, Deferred.target ⟨.collected r, #[]⟩ ∈ ds.map (·.target) → w.heap[r]? = some (.deferred (some [])) → H r = none → w'.heap[r]? = some (.deferred (some [])) ∧ H' r = none) → Mk base w' H' ds
  | [], _, _ => trivial
  | d :: ds, ⟨⟨r, h1, h2, h3, h4, h5⟩, h6⟩, h => by
    subst h1
    obtain ⟨q1, q2⟩ := h r (by simp) h3 h4
    exact ⟨⟨r, rfl, h2, q1, q2, h5⟩, h6.turn fun r' hr' => h r' (by simp only [List.map_cons, List.mem_cons]; exact .inr hr')⟩

theorem Mk.step {F' : Fz} {H' : Heap} {ds : List Deferred} (h : Mk base w H ds) (s : Step F w H F' w' H') : Mk base w' H' ds :=
  h.turn fun r _ h1 h2 => by
    have hlt := (Array.getElem?_eq_some_iff.1 h1).1
    exact ⟨by rw [s.rest r hlt h2]; exact h1, s.dom r hlt h2⟩

theorem Mk.notIn {ds : List Deferred} {r : Nat} (h : Mk base w H ds) (hr : w.heap.size ≤ r) : ∀ e ∈ ds, e.target ≠ .collected r := by
  induction ds with
  | nil => intro e he; cases he
  | cons d ds ih =>
    obtain ⟨⟨r', h1, h2, h3, h4, h5⟩, h6⟩ := h
    intro e he hq
    rcases List.mem_cons.1 he with rfl | he
    · subst h1
      simp only [Target.collected.injEq] at hq
      subst hq
      have := (Array.getElem?_eq_some_iff.1 h3).1
      omega
    · exact ih h6 e he hq

/-- An object that nobody owns, and that is no row of cells, is turned. -/
theorem Rel.other (hR : Rel P F w H) {b : Nat} {x y : Obj} (hb : H b = none) (hx : w.heap[b]? = some x) (hn : ∀ c e f, x ≠ .cells c e f) (hw : w'.heap = w.heap.setIfInBounds b y) :
    Rel P F w' H ∧ KeepF F w w' := by
  have hnF : ∀ i, ¬ F b i := fun i hf => by
    obtain ⟨v, hv⟩ := (hR.fz b i hf).1
    simp only [World.cell?, hx] at hv
    cases x <;> first | exact hn _ _ _ rfl | cases hv
  have hoth : ∀ c, c ≠ b → w'.heap[c]? = w.heap[c]? := fun c hc => by rw [hw]; exact Array.getElem?_setIfInBounds_ne (Ne.symm hc)
  have hk : KeepF F w w' := by
    intro c i v hf hv
    have hc : c ≠ b := by rintro rfl; exact hnF i hf
    exact (cell_congr (hoth c hc)).trans hv
  refine ⟨⟨fun c p hc => (hR.own c p hc).mono (SubF.refl F) hk (hoth c (by rintro rfl; rw [hb] at hc; cases hc)), fun c i hf => ⟨?_, (hR.fz c i hf).2⟩⟩, hk⟩
  obtain ⟨v, hv⟩ := (hR.fz c i hf).1
  exact ⟨v, hk c i v hf hv⟩

theorem Step.other {F0 : Fz} {w0 : World} {H0 : Heap} (s : Step F0 w0 H0 F w H) {b : Nat} {y : Obj} (hb : w0.heap.size ≤ b) (hw : w'.heap = w.heap.setIfInBounds b y) (hk : KeepF F w w') (hq : Quiet w w' := by exact ⟨rfl, rfl⟩) : Step F0 w0 H0 F w' H where
  quiet := ⟨hq.1.trans s.quiet.1, hq.2.trans s.quiet.2⟩
  sub := s.sub
  keep := s.keep.trans s.sub hk
  size := by rw [hw]; simpa using s.size
  rest := fun c hc hn => by
    rw [hw, Array.getElem?_setIfInBounds_ne (by omega)]
    exact s.rest c hc hn
  dom := s.dom
  newF := s.newF
  ro := fun c o hc ho hr => by
    obtain ⟨e1, e2⟩ := s.ro c o hc ho hr
    exact ⟨by rw [hw, Array.getElem?_setIfInBounds_ne (by omega)]; exact e1, e2⟩

/-- A new object that nobody owns. -/
theorem Rel.pushOther (hR : Rel P F w H) {x : Obj} (hw : w'.heap = w.heap.push x) (hq : Quiet w w' := by exact ⟨rfl, rfl⟩) : Rel P F w' H ∧ Step F w H F w' H := by
  have hold : ∀ b, b < w.heap.size → w'.heap[b]? = w.heap[b]? := fun b hb => by rw [hw, Array.getElem?_push_lt hb, Array.getElem?_eq_getElem hb]
  have hk : KeepF F w w' := by
    intro b i v hf hv
    have hlt := World.block_lt_of_cell? w _ hv
    exact (cell_congr (hold b hlt)).trans hv
  refine ⟨⟨fun b p hb => (hR.own b p hb).mono (SubF.refl F) hk (hold b (hR.lt hb)), fun b i hf => ⟨?_, (hR.fz b i hf).2⟩⟩, ⟨SubF.refl F, hk, by rw [hw]; simp, fun b hb _ => hold b hb, fun b _ hn => hn, fun b i hf => .inl hf, hq, fun b o hlt ho _ => ⟨hold b hlt, .inl ho⟩⟩⟩
  obtain ⟨v, hv⟩ := (hR.fz b i hf).1
  exact ⟨v, hk b i v hf hv⟩

def X.exit : X → Exit
  | .n => .normal
  | .x id => .exit id
  | .r => .ret

/-- How a piece of code ends. -/
def CP (P : Program) (n base : Nat) (F : Fz) (w : World) (H : Heap) (Q : X → Tmps → Heap → Prop) (e : Exit) (a' : Act) (w' : World) : Prop :=
  ∃ x τ' H' F', e = X.exit x ∧ Step F w H F' w' H' ∧ Rel P F' w' H' ∧ TR F' w' n τ' a'.tmps ∧ Mk base w' H' a'.defers ∧ Q x τ' H'

theorem CP.pre {F0 : Fz} {w0 : World} {H0 : Heap} {Q : X → Tmps → Heap → Prop} (s : Step F0 w0 H0 F w H) {e : Exit} {a' : Act} (h : CP P n base F w H Q e a' w') : CP P n base F0 w0 H0 Q e a' w' := by
  obtain ⟨x, τ', H', F', h1, h2, h3⟩ := h
  exact ⟨x, τ', H', F', h1, s.trans h2, h3⟩

/-! ### a region, in its order -/
theorem guard_in (hT : TR F w n τ a.tmps) {ops : Array Oper} {r : ROper} (hr : rOper P ops o = some r) (hok : okGuard n r.guard = true) :
    Region.wanted o (yielded ops a.tmps) = wanted τ r.guard := by
  simp only [rOper] at hr
  cases hg : o.guard with
  | none =>
    simp only [hg] at hr
    cases hr
    simp [Region.wanted, hg, wanted]
  | some jb =>
    obtain ⟨j, b⟩ := jb
    simp only [hg] at hr
    split at hr
    · rename_i t ht
      cases hr
      have hlt : t < n := by simpa [okGuard] using hok
      have hv := hT.2 t hlt
      have hsz : t < a.tmps.size := by rw [hT.1]; exact hlt
      have hget : a.tmps.getD t undef = a.tmps[t] := by simp [Array.getD_eq_getD_getElem?, hsz]
      rw [hget] at hv
      simp only [Region.wanted, hg, wanted, yielded, ht, Option.bind_some, Array.getElem?_eq_getElem hsz]
      generalize a.tmps[t] = v at hv
      generalize τ t = d at hv
      cases hv with
      | v =>
        cases v <;> simp
      | _ => simp
    · cases hr

theorem rOper_op {ops : Array Oper} {r : ROper} (hr : rOper P ops o = some r) : rOpD P o = r.op ∧ r.dst = o.dst ∧ r.re = [] := by
  simp only [rOper] at hr
  split at hr
  · cases hr; exact ⟨rfl, rfl, rfl⟩
  · split at hr
    · cases hr; exact ⟨rfl, rfl, rfl⟩
    · cases hr

theorem TR.putO (hT : TR F w n τ a.tmps) (t : Option Tmp) {d : D} {v : Value} (hd : VR F w d v) : TR F w n (τ.putO t d) (a.put t v).tmps := by
  cases t with
  | none => exact hT
  | some t => exact hT.put t hd

theorem put_defers (t : Option Tmp) (v : Value) : (a.put t v).defers = a.defers := by
  cases t <;> rfl

theorem ops_in {ops : Array Oper} {Q : Tmps → Heap → Prop} : ∀ (l : List Oper) (rl : List ROper), l.mapM (rOper P ops) = some rl → rl.all (okOper n) = true →
    ∀ (F : Fz) (w : World) (H : Heap) (τ : Tmps) (a : Act) (Q' : Exit → Act → World → Prop), Rel P F w H → TR F w n τ a.tmps → Mk base w H a.defers → opsW P (M P) rl τ H Q →
    (∀ e a' w', CP P n base F w H (fun x τ' H' => x = .n ∧ Q τ' H') e a' w' → Q' e a' w') → wpListIn (FO ro) 0 P ops Q' l a w
  | [], rl, hl, _, F, w, H, τ, a, Q', hR, hT, hM, h, hq => by
    simp at hl
    subst hl
    exact hq _ _ _ ⟨.n, τ, H, F, rfl, Step.refl F w H, hR, hT, hM, rfl, h⟩
  | o :: l, rl, hl, hok, F, w, H, τ, a, Q', hR, hT, hM, h, hq => by
    rw [List.mapM_cons] at hl
    simp only [Option.bind_eq_bind, Option.bind_eq_some_iff, Option.pure_def, Option.some.injEq] at hl
    obtain ⟨r, hr, rl, hl, rfl⟩ := hl
    simp only [List.all_cons, Bool.and_eq_true] at hok
    obtain ⟨hok1, hok2⟩ := hok
    simp only [okOper, Bool.and_eq_true] at hok1
    obtain ⟨h1, h2, h3⟩ := rOper_op hr
    simp only [wpListIn, guard_in hT hr hok1.1.2]
    simp only [opsW] at h
    by_cases hw : wanted τ r.guard = true
    · rw [if_pos hw] at h ⊢
      refine op_in hR hT h1 hok1.2 h (fun v w' d H' F' hs hR' hv hk => ?_)
      refine ops_in l rl hl hok2 F' w' H' _ _ Q' hR' ((hT.mono hs.sub hs.keep).putO o.dst hv) (by rw [put_defers]; exact hM.step hs) (by rw [← h2]; exact hk.2) (fun e a' w'' hc => hq _ _ _ (hc.pre hs))
    · rw [if_neg hw] at h
      have hw' : wanted τ r.guard = false := by simpa using hw
      rw [if_neg (by rw [hw']; simp)]
      refine ⟨fun _ _ => trivial, ?_⟩
      exact ops_in l rl hl hok2 F w H _ _ Q' hR (hT.putO o.dst (VR.undef F w)) (by rw [put_defers]; exact hM) (by rw [← h2]; exact h) hq

end Go.Fsl
