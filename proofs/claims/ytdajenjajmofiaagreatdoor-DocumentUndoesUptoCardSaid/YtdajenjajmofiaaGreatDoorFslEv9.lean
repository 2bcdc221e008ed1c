/- A part of our logic over the resolved code, or of a proof in it. -/
import Derived.Test.YtdajenjajmofiaaGreatDoorFslEv8
import Derived.Test.YtdajenjajmofiaaGreatDoorFslEntry
set_option linter.unusedSimpArgs false
set_option linter.unusedVariables false
namespace Go.Fsl
variable {P : Program} {C : CallSem} {S : Sl} {G : Nat} {H0 H : Heap}

theorem Ghost.drop (P : Program) (ds : List D) {H H1 : Heap} (h : HSub H1 H) : Ghost P ds H ds H1 :=
  ⟨fun b hb => (by
    cases e : H1 b with
    | none => rfl
    | some o => rw [h b o e] at hb; cases hb),
   fun F w _ hR hv => ⟨F, Step.subH F w h, hR.sub h, hv⟩⟩

/-- The package-level rows that a closed run may read. -/
def GH (A0 : T AO) (G : Nat) (H : Heap) : Prop :=
  ∀ g o, A0.get g = some o → ∃ cs frz room ty, o = .cells cs 0 none ∧ cs.all plainL = true ∧ g < G ∧ H g = some (.cells cs frz room ty)

def Sl0 (A0 : T AO) : Sl where
  blk a := a
  base _ := 0
  sz _ := 0
  room _ := 0
  len a := match A0.get a with
    | some (.cells cs _ _) => cs.length
    | _ => 0
  cap _ := 0
  lp _ := noLp

theorem HR0 {A0 : T AO} (hG : G ≤ 4000000000) (h : GH A0 G H) : HR (Sl0 A0) G ⟨A0, G⟩ H H where
  hG := Nat.le_refl _
  big := hG
  glob := fun g _ => ⟨rfl, rfl⟩
  live := fun a o ha => by obtain ⟨_, _, _, _, _, _, h1, _⟩ := h a o ha; exact h1
  inj := fun a b _ _ _ _ e => e
  obj := fun a o ha => by
    obtain ⟨cs, frz, room, ty, rfl, h1, h2, h3⟩ := h a o ha
    refine ⟨_, h3, ?_⟩
    refine ⟨.leaves h1, fun hh => absurd h2 (by omega), fun hh => absurd hh (by omega), rfl, ?_, Nat.zero_le _, fun _ hh => (nomatch hh), fun _ => rfl⟩
    simp only [Sl0, ha]
  out := fun a o ha hh => by obtain ⟨_, _, _, _, _, _, h1, _⟩ := h a o ha; exact absurd h1 (by omega)
  sub := HSub.refl H

def isTrue' : D → Bool
  | .v (.bool t) => t
  | _ => false
def allTrue : Outs (D × St) → Bool
  | none => false
  | some l => l.all fun p => isTrue' p.1
theorem isTrue_eq {d : D} (h : isTrue' d = true) : d = .b true := by
  unfold isTrue' at h
  split at h
  · rw [h]
  · cases h

/-- A CLOSED RUN THAT SAYS true IN THE RUNNER SAYS true. -/
theorem closed_run {I : CallSem} {A0 : T AO} {tbl : T RFn} {L k f : Nat} (ht : TblOK P G tbl) (hG : G ≤ 4000000000) (hrun : allTrue (ex G L tbl (k + 1) (.fn f) [] ⟨A0, G⟩) = true)
    (hg : GH A0 G H) {Q : D → Heap → Prop} (hQ : Q (.b true) H) : Call P I (.fn f) [] H Q := by
  cases hx : ex G L tbl (k + 1) (.fn f) [] ⟨A0, G⟩ with
  | none => rw [hx] at hrun; cases hrun
  | some outs =>
    rw [hx] at hrun
    simp only [allTrue, List.all_eq_true] at hrun
    simp only [ex] at hx
    cases hf : tbl.get f with
    | none => rw [hf] at hx; cases hx
    | some fn =>
      rw [hf] at hx
      obtain ⟨t1, t2, t3, fd, t4, t5⟩ := ht f fn hf
      simp only [bled, bltd, cond_eq_ite, Bool.and_eq_true, decide_eq_true_eq] at hx
      have hq := ite_some hx; clear hx
      obtain ⟨⟨hle, hlt⟩, hx⟩ := hq
      obtain ⟨l, hl, hall⟩ := bindO_some hx
      have hR := HR0 (H := H) hG hg
      refine call_fn t4 t5 (body_sound (ex_sound (I := I) (L := L) ht k) t1 t2 t3 hle hlt hl hR .nil fun p hp => ?_)
      obtain ⟨x, τp, stp⟩ := p
      obtain ⟨bs, hb, hsub⟩ := hall _ hp
      have key : ∀ d, bs = [(d, stp)] → ∀ S' H' d', On (Sl0 A0) G S' stp.N → HR S' G stp H H' → RD S' stp.N d d' → ∃ r' H1, Ghost P [d'] H' [r'] H1 ∧ Q r' H1 := by
        rintro d rfl S' H' d' hon hR' hd'
        have hd := isTrue_eq (hrun (d, stp) (hsub _ (List.mem_singleton.2 rfl)))
        simp only at hd
        subst hd
        rw [hd'.bool]
        exact ⟨_, _, Ghost.drop P _ hR'.sub, hQ⟩
      cases x with
      | x id => cases hb
      | n =>
        dsimp only at hb
        split at hb
        · rename_i d hd; cases hb; exact ⟨.inl rfl, d, hd, key d rfl⟩
        · cases hb
      | r =>
        dsimp only at hb
        split at hb
        · rename_i d hd; cases hb; exact ⟨.inr rfl, d, hd, key d rfl⟩
        · cases hb

/-! ### The table's facts, node by node -/
def T.All {α : Type} (p : Nat → α → Prop) : T α → (Nat → Nat) → Prop
  | .leaf, _ => True
  | .node l v r, g => (∀ x, v = some x → p (g 0) x) ∧ l.All p (fun k => g (2 * k + 1)) ∧ r.All p (fun k => g (2 * k + 2))
theorem T.All.get {α : Type} {p : Nat → α → Prop} : ∀ {t : T α} {g : Nat → Nat}, t.All p g → ∀ {k : Nat} {x : α}, t.get k = some x → p (g k) x
  | .leaf, _, _, _, _, h => by cases h
  | .node l v r, g, ⟨h1, h2, h3⟩, k, x, h => by
    rw [T.get_node] at h
    split at h
    · rename_i e; subst e; exact h1 x h
    · split at h
      · have := T.All.get h2 h
        have e : 2 * (k / 2) + 1 = k := by omega
        rwa [e] at this
      · have := T.All.get h3 h
        have e : 2 * (k / 2 - 1) + 2 = k := by omega
        rwa [e] at this
theorem some_i {p : Nat → RFn → Prop} {i j : Nat} {x : RFn} (h : p i x) (e : Nat.beq i j = true) : ∀ y, some x = some y → p j y := by
  intro y hy
  cases hy
  rw [← Nat.eq_of_beq_eq_true e]; exact h
theorem none_i {p : Nat → RFn → Prop} {j : Nat} : ∀ y, none = some y → p j y := fun _ h => nomatch h
def fnOK (G : Nat) (fn : RFn) : Bool := okCodeC G fn.body && okCode fn.n fn.body && fn.res.all (okRRes fn.n)
def T.allOK (G : Nat) : T RFn → Bool
  | .leaf => true
  | .node l v r => (match v with | none => true | some fn => fnOK G fn) && l.allOK G && r.allOK G
theorem T.allOK_get {G : Nat} : ∀ {t : T RFn}, t.allOK G = true → ∀ {k : Nat} {x : RFn}, t.get k = some x → fnOK G x = true
  | .leaf, _, _, _, h => by cases h
  | .node l v r, h0, k, x, h => by
    simp only [T.allOK, Bool.and_eq_true] at h0
    rw [T.get_node] at h
    split at h
    · rw [h] at h0; exact h0.1.1
    · split at h
      · exact T.allOK_get h0.1.2 h
      · exact T.allOK_get h0.2 h
/-- Of a function: it is there, and it is resolved so. -/
def IsFn (P : Program) (f : Nat) (fn : RFn) : Prop := ∃ fd, P.funcs[f]? = some fd ∧ rFn P fd = some fn
theorem tblOK_i {tbl : T RFn} (h1 : tbl.allOK G = true) (h2 : tbl.All (IsFn P) (fun k => k)) : TblOK P G tbl := fun f fn hf => by
  have h3 := T.allOK_get h1 hf
  simp only [fnOK, Bool.and_eq_true] at h3
  exact ⟨h3.1.1, h3.1.2, h3.2, h2.get hf⟩
end Go.Fsl
