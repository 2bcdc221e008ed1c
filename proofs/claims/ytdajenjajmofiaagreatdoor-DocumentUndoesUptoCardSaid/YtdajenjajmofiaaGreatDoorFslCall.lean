/- A part of our logic over the resolved code, or of a proof in it. -/
import Derived.Test.YtdajenjajmofiaaGreatDoorFslWp
set_option linter.unusedSimpArgs false
set_option linter.unusedVariables false
namespace Go.Fsl

def Le (C C' : CallSem) : Prop := ∀ c a H Q Q', C c a H Q → (∀ r H', Q r H' → Q' r H') → C' c a H Q'

theorem opW_mono {P : Program} {C C' : CallSem} (hC : Le C C') {o : ROp} {τ : Tmps} {H : Heap} {K K' : D → Heap → Prop}
    (hK : ∀ d H', K d H' → K' d H') (h : opW P C o τ H K) : opW P C' o τ H K' := by
  cases o with
  | call c args =>
    cases c with
    | fn f => obtain ⟨ds, H1, g, h⟩ := h; exact ⟨ds, H1, g, hC _ _ _ _ _ h hK⟩
    | val x =>
      revert h
      simp only [opW]
      repeat' split
      · rintro ⟨ds, H1, g, h⟩; exact ⟨ds, H1, g, hC _ _ _ _ _ h hK⟩
      · rintro ⟨h1, h2, h⟩; exact ⟨h1, h2, hC _ _ _ _ _ h hK⟩
      · exact id
  | append sz bytes z e a x =>
    revert h
    simp only [opW]
    split
    · rintro ⟨h1, h2, h⟩
      refine ⟨h1, h2, ?_⟩
      revert h
      split
      · exact fun ⟨a, b⟩ => ⟨fun h => hK _ _ (a h), fun h => ⟨(b h).1, fun x y p q => hK _ _ ((b h).2 x y p q)⟩⟩
      · split
        · exact fun ⟨a, b, c, c', d, e⟩ => ⟨a, b, c, fun h h' => hK _ _ (c' h h'), fun h h' => ⟨(d h h').1, hK _ _ (d h h').2⟩, fun h x y p q => hK _ _ (e h x y p q)⟩
        · exact id
      · exact id
    · exact id
  | next str it =>
    cases str <;> (revert h; simp only [opW]; repeat' split) <;> first
      | exact id
      | exact hK _ _
      | exact fun ⟨a, b, c, d⟩ => ⟨a, b, fun e h1 h2 => hK _ _ (c e h1 h2), fun h => hK _ _ (d h)⟩
  | lookup kd z ok m k =>
    obtain ⟨h1, h⟩ := h
    refine ⟨h1, ?_⟩
    revert h
    repeat' split
    all_goals first | exact hK _ _ | exact id
  | cvbs x =>
    obtain ⟨h1, h⟩ := h
    refine ⟨h1, ?_⟩
    revert h
    repeat' split
    all_goals first | exact fun ⟨a, b, h⟩ => ⟨a, b, hK _ _ h⟩ | exact id
  | mapupd kd m k x =>
    obtain ⟨h1, h⟩ := h
    refine ⟨h1, ?_⟩
    revert h
    repeat' split
    all_goals first | exact hK _ _ | exact id
  | _ =>
    revert h
    simp only [opW]
    repeat' split
    all_goals first
      | exact id
      | exact hK _ _
      | exact fun h b hb => hK _ _ (h b hb)
      | exact fun ⟨a, h⟩ => ⟨a, hK _ _ h⟩
      | exact fun ⟨a, b, h⟩ => ⟨a, b, hK _ _ h⟩
      | exact fun ⟨a, b, c, h⟩ => ⟨a, b, c, hK _ _ h⟩
      | exact fun ⟨a, b, c, d, h⟩ => ⟨a, b, c, d, hK _ _ h⟩
      | exact fun ⟨a, b, c, d, e, h⟩ => ⟨a, b, c, d, e, hK _ _ h⟩
      | exact fun ⟨a, b, c, d, e, f, h⟩ => ⟨a, b, c, d, e, f, hK _ _ h⟩
      | exact fun ⟨a, b, c, d, e, f, g, h⟩ => ⟨a, b, c, d, e, f, g, hK _ _ h⟩
      | exact fun h b c hb hc => hK _ _ (h b c hb hc)
      | exact fun ⟨a, h⟩ => ⟨a, fun b hb => hK _ _ (h b hb)⟩
      | exact fun ⟨a, h⟩ => ⟨hK _ _ a, fun e => hK _ _ (h e)⟩
      | exact fun ⟨a, b, c, d, e, h⟩ => ⟨a, b, c, d, e, fun b hb => hK _ _ (h b hb)⟩

theorem opsW_mono {P : Program} {C C' : CallSem} (hC : Le C C') : ∀ {os : List ROper} {τ : Tmps} {H : Heap} {Q Q' : Tmps → Heap → Prop},
    (∀ τ' H', Q τ' H' → Q' τ' H') → opsW P C os τ H Q → opsW P C' os τ H Q' := by
  intro os
  induction os with
  | nil => exact fun hQ h => hQ _ _ h
  | cons o os ih =>
    intro τ H Q Q' hQ h
    simp only [opsW] at h ⊢
    split
    · rename_i hw
      rw [if_pos hw] at h
      exact opW_mono hC (fun d H' h => ⟨fun r hr hw => opW_mono hC (fun _ _ h => h) (h.1 r hr hw), ih hQ h.2⟩) h
    · rename_i hw
      rw [if_neg hw] at h
      exact ih hQ h

theorem wp_mono {P : Program} {C C' : CallSem} (hC : Le C C') {ro : Option Nat} {n : Nat} : ∀ {c : RCode} {τ : Tmps} {H : Heap} {Q Q' : X → Tmps → Heap → Prop},
    (∀ x τ' H', Q x τ' H' → Q' x τ' H') → wp P C ro n c τ H Q → wp P C' ro n c τ H Q' := by
  intro c
  induction c with
  | skip => exact fun hQ h => hQ _ _ _ h
  | reg ops => exact fun hQ h => opsW_mono hC (fun _ _ h => hQ _ _ _ h) h
  | seq a b iha ihb =>
    intro τ H Q Q' hQ h
    refine iha (fun x τ' H' h => ?_) h
    cases x with
    | n => exact ihb hQ h
    | x id => exact hQ _ _ _ h
    | r => exact hQ _ _ _ h
  | cond c a b iha ihb =>
    intro τ H Q Q' hQ h
    revert h
    simp only [wp]
    split
    · split
      · exact iha hQ
      · exact ihb hQ
    · exact id
  | block id b ih =>
    intro τ H Q Q' hQ h
    refine ih (fun x τ' H' h => ?_) h
    cases x with
    | n => exact hQ _ _ _ h
    | x id' =>
      revert h
      dsimp only
      split
      · exact hQ _ _ _
      · exact hQ _ _ _
    | r => exact hQ _ _ _ h
  | loop b ih =>
    rintro τ H Q Q' hQ ⟨I, k, h0, h⟩
    refine ⟨I, k, h0, fun k τ H hi => ih (fun x τ' H' h => ?_) (h k τ H hi)⟩
    cases x with
    | n => exact h
    | x id' => exact hQ _ _ _ h
    | r => exact hQ _ _ _ h
  | rangef f ps asg body _ _ =>
    intro τ H Q Q' hQ h
    revert h
    simp only [wp]
    split
    · rintro ⟨h0, h⟩
      refine ⟨h0, fun l hl => hC _ _ _ _ _ (h l hl) fun r H' => ?_⟩
      rintro ⟨st, pend, τ', n', ps', asg', body', h1, h2, h3⟩
      exact ⟨st, pend, τ', n', ps', asg', body', h1, h2, hQ _ _ _ h3⟩
    · exact id
  | exit id => exact fun hQ h => hQ _ _ _ h
  | scope b ih => exact fun hQ h => ih hQ h
  | ret => exact fun hQ h => hQ _ _ _ h
  | dead => exact fun _ h => h.elim

/-! ### Functions -/
inductive RRes where
  | t (t : Nat)
  | c (a : Nat) (agg : Bool) (n : Nat)
structure RFn where
  n : Nat
  res : List RRes
  body : RCode

def resOne (τ : Tmps) (H : Heap) : RRes → Option D
  | .t t => some (τ t)
  | .c a g n => match τ a with
    | .v (.pointer (some ⟨b, off, none⟩)) => match H b with
      | some (.cells cs _ _ _) => rd g n off cs
      | _ => none
    | _ => none
def resD (τ : Tmps) (H : Heap) (rs : List RRes) : Option D :=
  match rs with
  | [r] => resOne τ H r
  | rs => (rs.mapM (resOne τ H)).map .tup

def rRes (P : Program) : ResultVar → Option RRes
  | .tmp t => some (.t t)
  | .cell a t => do
    let g ← aggT P t
    pure (.c a g (← szT P t))
def rFn (P : Program) (f : Func) : Option RFn := do
  let b ← f.body
  if f.name == "runtime.NumGoroutine" then none else
  pure { n := f.ntmps, res := ← f.results.toList.mapM (rRes P), body := ← rCode P b }

def initT (args : List D) : Tmps := fun t => args.getD t .undef
def putPs (τ : Tmps) : List Nat → List D → Tmps
  | p :: ps, d :: ds => putPs (τ.put p d) ps ds
  | _, _ => τ

def okRRes (n : Nat) : RRes → Bool
  | .t t => t < n
  | .c a _ _ => a < n

variable (P : Program)
def bodyW (C : CallSem) (fn : RFn) (args : List D) (H : Heap) (Q : D → Heap → Prop) : Prop :=
  args.length ≤ fn.n ∧ okCode fn.n fn.body = true ∧ fn.res.all (okRRes fn.n) = true ∧
    wp P C none fn.n fn.body (initT args) H fun x τ H' => (x = .n ∨ x = .r) ∧ ∃ r, resD τ H' fn.res = some r ∧
      ∃ r' H1, Ghost P [r] H' [r'] H1 ∧ Q r' H1

def yldW (C : CallSem) (l : Nat) (args : List D) (H : Heap) (K : D → Heap → Prop) : Prop :=
  ∃ pend τ n ps asg body, H l = some (.loop .ready pend τ n ps asg body) ∧ args.length = ps.length ∧
    wp P C (some l) n asg (putPs τ ps args) H fun x τ1 H1 => x = .n ∧ H1 l = some (.loop .ready pend τ n ps asg body) ∧
      wp P C (some l) n body τ1 (H1.ins l (.loop .busy pend τ n ps asg body)) fun x _ H2 => H2 l = some (.loop .busy pend τ n ps asg body) ∧
        K (.b (x == .n)) (H2.ins l (.loop (if x = .n then .ready else .done) (if x = .n then none else some x) τ n ps asg body))

structure Good (C : CallSem) : Prop where
  mono : Le C C
  frame : ∀ c a H Q b o, C c a H Q → H b = none → C c a (H.ins b o) fun r H' => ∃ H'', H'' b = none ∧ H' = H''.ins b o ∧ Q r H''

structure Closed (I C : CallSem) : Prop where
  fn : ∀ f fd fn args H Q, P.funcs[f]? = some fd → rFn P fd = some fn → bodyW P C fn args H Q → C (.fn f) args H Q
  yld : ∀ l args H K, yldW P C l args H K → C (.yld l) args H K
  intr : ∀ c args H Q, I c args H Q → C c args H Q

def Call (I : CallSem) : CallSem := fun c args H Q => ∀ C, Good C → Closed P I C → C c args H Q

theorem Call.le (I C : CallSem) (hg : Good C) (hc : Closed P I C) : Le (Call P I) C := fun c a H _ _ h hq => hg.mono c a H _ _ (h C hg hc) hq
theorem Call.mono (I : CallSem) : Le (Call P I) (Call P I) := fun c a H Q Q' h hq C hg hc => hg.mono c a H Q Q' (h C hg hc) hq

theorem Call.good (I : CallSem) : Good (Call P I) :=
  ⟨Call.mono P I, fun c a H Q b o h hb C hg hc => hg.frame c a H Q b o (h C hg hc) hb⟩

theorem bodyW_mono {C C' : CallSem} (hC : Le C C') {fn : RFn} {args : List D} {H : Heap} {Q : D → Heap → Prop} (h : bodyW P C fn args H Q) : bodyW P C' fn args H Q :=
  ⟨h.1, h.2.1, h.2.2.1, wp_mono hC (fun _ _ _ h => h) h.2.2.2⟩
theorem yldW_mono {C C' : CallSem} (hC : Le C C') {l : Nat} {args : List D} {H : Heap} {K : D → Heap → Prop} (h : yldW P C l args H K) : yldW P C' l args H K := by
  obtain ⟨pend, τ, n, ps, asg, body, h1, h2, h3⟩ := h
  exact ⟨pend, τ, n, ps, asg, body, h1, h2, wp_mono hC (fun x τ1 H1 h => ⟨h.1, h.2.1, wp_mono hC (fun _ _ _ h => h) h.2.2⟩) h3⟩

theorem Call.closed (I : CallSem) : Closed P I (Call P I) where
  fn := fun f fd fn args H Q h1 h2 h C hg hc => hc.fn f fd fn args H Q h1 h2 (bodyW_mono P (Call.le P I C hg hc) h)
  yld := fun l args H K h C hg hc => hc.yld l args H K (yldW_mono P (Call.le P I C hg hc) h)
  intr := fun c args H Q h _ _ hc => hc.intr c args H Q h

end Go.Fsl
