/- A part of our logic over the resolved code, or of a proof in it. -/
import Derived.Test.YtdajenjajmofiaaGreatDoorFslSound11
import Derived.Sort.LoopGhostIn
import Derived.TacticsIn
import Derived.RangeFuncLeaves
import Derived.Scope
set_option linter.unusedSimpArgs false
set_option linter.unusedVariables false
namespace Go.Fsl
variable {P : Program} {F : Fz} {w : World} {H : Heap} {n : Nat} {τ : Tmps} {a : Act} {K : D → Heap → Prop} {o : Oper} {ro : Option Nat}

def FO (ro : Option Nat) : Fence := { Fence.wide with round := ro }

/-- How a call ends. -/
def Post (P : Program) (F : Fz) (w : World) (H : Heap) (K : D → Heap → Prop) : Ending → World → Prop
  | .returned v, w' => ∃ d H' F', Step F w H F' w' H' ∧ Rel P F' w' H' ∧ VR F' w' d v ∧ K d H'
  | _, _ => False

/-- What a call is, in the machine. -/
def M (P : Program) : CallSem
  | .fn f, ds, H, Q => ∀ F w vs, Rel P F w H → VRs F w ds vs →
      (∃ fd, P.funcs[f]? = some fd ∧ fd.body.isSome = true ∧ (fd.name == "runtime.NumGoroutine") = false) ∧ CallsIn Fence.wide 0 P f vs.toArray w (Post P F w H Q)
  | .yld l, ds, H, Q => ∀ F w vs, Rel P F w H → VRs F w ds vs →
      ∃ fn tmps assign body, (Instr.yield l vs.toArray).run P w = .ok (.round l fn tmps assign body) w ∧ RoundIn Fence.wide 0 P l fn tmps assign body w (Post P F w H Q)

theorem Post.mono {K K' : D → Heap → Prop} (h : ∀ d H', K d H' → K' d H') {e : Ending} {w' : World} (hp : Post P F w H K e w') : Post P F w H K' e w' := by
  cases e with
  | returned v => obtain ⟨d, H', F', a, b, c, k⟩ := hp; exact ⟨d, H', F', a, b, c, h _ _ k⟩
  | _ => exact hp.elim

theorem Post.pre {F0 : Fz} {w0 : World} {H0 : Heap} (s : Step F0 w0 H0 F w H) {e : Ending} {w' : World} (hp : Post P F w H K e w') : Post P F0 w0 H0 K e w' := by
  cases e with
  | returned v => obtain ⟨d, H', F', a, b, c, k⟩ := hp; exact ⟨d, H', F', s.trans a, b, c, k⟩
  | _ => exact hp.elim

theorem M.good (P : Program) : Good (M P) where
  mono := by
    intro c ds H Q Q' h hq
    cases c with
    | fn f =>
      intro F w vs hR hv
      obtain ⟨h1, h2⟩ := h F w vs hR hv
      exact ⟨h1, CallsIn.mono h2 fun e w' hp => hp.mono hq⟩
    | yld l =>
      intro F w vs hR hv
      obtain ⟨fn, tmps, assign, body, h1, h2⟩ := h F w vs hR hv
      exact ⟨fn, tmps, assign, body, h1, RoundIn.mono h2 fun e w' hp => hp.mono hq⟩
  frame := by
    intro c ds H Q b o h hb
    have fr : ∀ {F : Fz} {w : World}, Rel P F w (H.ins b o) → ∀ {e w'}, Post P F w H Q e w' → Post P F w (H.ins b o) (fun r H' => ∃ H'', H'' b = none ∧ H' = H''.ins b o ∧ Q r H'') e w' := by
      intro F w hR e w' hp
      cases e with
      | returned v =>
        obtain ⟨d, H', F', s1, s2, s3, k⟩ := hp
        obtain ⟨q1, q2⟩ := hR.framed hb s1 s2
        exact ⟨d, H'.ins b o, F', s1.framed hb (hR.lt (Heap.ins_same _ _ _)), q2, s3, H', q1, rfl, k⟩
      | _ => exact hp.elim
    cases c with
    | fn f =>
      intro F w vs hR hv
      obtain ⟨h1, h2⟩ := h F w vs (hR.sub (HSub.ins o hb)) hv
      exact ⟨h1, CallsIn.mono h2 fun e w' hp => fr hR hp⟩
    | yld l =>
      intro F w vs hR hv
      obtain ⟨fn, tmps, assign, body, h1, h2⟩ := h F w vs (hR.sub (HSub.ins o hb)) hv
      exact ⟨fn, tmps, assign, body, h1, RoundIn.mono h2 fun e w' hp => fr hR hp⟩

theorem run_callFunc {f : FuncId} {fd : Func} (hf : P.funcs[f]? = some fd) (hb : fd.body.isSome = true) (hn : (fd.name == "runtime.NumGoroutine") = false) (args : Array Value) (w : World) :
    (callFunc f args).run P w = .ok (.enter f args) w := by
  have h1 : fd.body ≠ none := by intro hq; simp [hq] at hb
  have h2 : ¬ (fd.name = "runtime.NumGoroutine") := by simpa using hn
  simp [callFunc, hf, h1, h2]

/-! ### operations in the machine -/
theorem wpIn_of {next : Act → World → Prop} {Q : Exit → Act → World → Prop} (hnd : ∀ c, o.op ≠ .defer c) {x : Result Next} (hx : (execOp a.eval o).run P w = x) (h : o.uponIn (FO ro) 0 P a next Q x) :
    o.wpIn (FO ro) 0 P a w next Q := by
  refine ⟨fun _ _ => trivial, ?_⟩
  rw [Oper.semAt_eq _ _ _ hnd, hx]
  exact h

theorem rOp_nodefer {r : ROp} (hr : rOp P o = some r) : ∀ c, o.op ≠ .defer c := by
  intro c hc
  simp [rOp, hc] at hr

theorem rEq_notCall {op : BinOp} {neg : Bool} {t : TypeId} {x y : Operand} {r : ROp} (hr : rEq P op neg t x y = some r) : isCall r = false := by
  simp only [rEq] at hr
  repeat' split at hr
  all_goals first
    | (cases hr; done)
    | (simp only [Option.map_eq_some_iff] at hr; obtain ⟨_, _, rfl⟩ := hr; rfl)
    | (simp only [Option.bind_eq_bind, Option.bind_eq_some_iff, Option.pure_def, Option.some.injEq] at hr; obtain ⟨_, _, _, _, rfl⟩ := hr; rfl)

theorem rOp_notCall {r : ROp} (hn : ∀ c, o.op ≠ .call c) (hr : rOp P o = some r) : isCall r = false := by
  cases ho : o.op
  case call => exact absurd ho (hn _)
  case binOp op t x y t' =>
    cases op
    case eql => simp only [rOp, ho] at hr; exact rEq_notCall hr
    case neq => simp only [rOp, ho] at hr; exact rEq_notCall hr
    all_goals (simp only [rOp, ho, Option.bind_eq_bind, Option.bind_eq_some_iff, Option.pure_def, Option.some.injEq] at hr; obtain ⟨_, _, _, _, rfl⟩ := hr; rfl)
  case makeInterface t x =>
    simp only [rOp, ho] at hr
    cases hu : P.underlying t with
    | none => rw [hu] at hr; cases hr
    | some d => rw [hu] at hr; cases d <;> first | (cases hr; done) | (simp only [Option.map_eq_some_iff] at hr; obtain ⟨_, _, rfl⟩ := hr; rfl)
  case makeFunc f first caps => cases f <;> (simp only [rOp, ho] at hr; try split at hr) <;> first | (cases hr; done) | (simp only [Option.map_eq_some_iff] at hr; obtain ⟨_, _, rfl⟩ := hr; rfl)
  case makeMap t r => cases r <;> (simp only [rOp, ho] at hr; try split at hr) <;> first | (cases hr; done) | (cases hr; rfl)
  all_goals
    simp only [rOp, ho] at hr
    repeat' first
      | (cases hr; done)
      | (cases hr; rfl)
      | split at hr
      | (simp only [Option.map_eq_some_iff] at hr; obtain ⟨_, _, hr⟩ := hr; subst hr; rfl)
      | (simp only [Option.bind_eq_bind, Option.bind_eq_some_iff, Option.pure_def, Option.some.injEq] at hr; obtain ⟨_, _, hr⟩ := hr)
      | (obtain ⟨_, _, hr⟩ := hr)
      | (subst hr; rfl)

theorem VRs.of_fn {f : FuncId} {caps : List D} {v : Value} (h : VR F w (.fn f caps) v) : ∃ u : List Value, v = .func (.func f) #[] u.toArray ∧ VRs F w caps u := by
  cases h with
  | fn u hl hr => exact ⟨u, rfl, hl, fun i h h' => hr i h h'⟩

theorem enter_of {f : FuncId} {ds : List D} {H1 : Heap} {dv : List D} {vs : List Value} (hR : Rel P F w H) (hv : VRs F w dv vs) (hg : Ghost P dv H ds H1) (hm : M P (.fn f) ds H1 K) :
    (callFunc f vs.toArray).run P w = .ok (.enter f vs.toArray) w ∧ CallsIn Fence.wide 0 P f vs.toArray w (Post P F w H K) := by
  obtain ⟨F', s, hR', hv'⟩ := hg.2 F w vs hR hv
  obtain ⟨⟨fd, h1, h2, h3⟩, h4⟩ := hm F' w vs hR' hv'
  exact ⟨run_callFunc h1 h2 h3 _ w, CallsIn.mono h4 fun e w' hp => hp.pre s⟩

theorem call_in (hR : Rel P F w H) (hT : TR F w n τ a.tmps) {c : RCal} {rs : List RO} (hr : rOp P o = some (.call c rs)) (hok : okOp n (.call c rs) = true) (h : opW P (M P) (.call c rs) τ H K)
    {next : Act → World → Prop} {Q : Exit → Act → World → Prop} (hnext : ∀ v w' d H' F', Step F w H F' w' H' → Rel P F' w' H' → VR F' w' d v → K d H' → next (a.put o.dst v) w') :
    o.wpIn (FO ro) 0 P a w next Q := by
  have hnd := rOp_nodefer hr
  -- how the call ends
  have fin : ∀ {f : FuncId} {args : Array Value}, (execOp a.eval o).run P w = .ok (.enter f args) w → CallsIn Fence.wide 0 P f args w (Post P F w H K) → o.wpIn (FO ro) 0 P a w next Q := by
    intro f args he hc
    refine wpIn_of hnd he ?_
    rw [Oper.uponIn_enter]
    refine ⟨fun h => by simp [FO, Fence.wide] at h, ?_⟩
    refine CallsIn.mono (F := FO ro) hc fun e w' hp => ?_
    cases e with
    | returned v => obtain ⟨d, H', F', s1, s2, s3, k⟩ := hp; exact hnext _ _ _ _ _ s1 s2 s3 k
    | _ => exact hp.elim
  have finR : ∀ {l : Nat} {f : FuncId} {tmps : Array Value} {as bd : Code}, (execOp a.eval o).run P w = .ok (.round l f tmps as bd) w → RoundIn Fence.wide 0 P l f tmps as bd w (Post P F w H K) → o.wpIn (FO ro) 0 P a w next Q := by
    intro l f tmps as bd he hc
    refine wpIn_of hnd he ?_
    rw [Oper.uponIn_round]
    refine ⟨fun h => by simp [FO, Fence.wide] at h, ?_⟩
    refine RoundIn.mono (F := FO ro) hc fun e w' hp => ?_
    cases e with
    | returned v => obtain ⟨d, H', F', s1, s2, s3, k⟩ := hp; exact hnext _ _ _ _ _ s1 s2 s3 k
    | _ => exact hp.elim
  cases ho : o.op with
  | call cl =>
    obtain ⟨callee, args, ats⟩ := cl
    cases callee with
    | value x =>
      have hval : (∃ f, x = .func f ∧ c = .fn f ∧ rOs args.toList = some rs) ∨ (∃ rx, c = .val rx ∧ rO x = some rx ∧ rOs args.toList = some rs) := by
        cases x with
        | func f =>
          simp only [rOp, ho] at hr
          split at hr
          · simp only [Option.map_eq_some_iff] at hr
            obtain ⟨xs, h1, h2⟩ := hr
            cases h2
          · simp only [Option.map_eq_some_iff] at hr
            obtain ⟨xs, h1, h2⟩ := hr
            cases h2
            exact .inl ⟨f, rfl, rfl, h1⟩
        | _ =>
          simp only [rOp, ho, Option.bind_eq_bind, Option.bind_eq_some_iff, Option.pure_def, Option.some.injEq] at hr
          obtain ⟨rx, h1, xs, h2, h3⟩ := hr
          cases h3
          exact .inr ⟨rx, rfl, h1, h2⟩
      have hmap : (args.toList.map a.eval).toArray = args.map a.eval := by simp [← Array.toList_map]
      rcases hval with ⟨f, rfl, rfl, h1⟩ | ⟨rx, rfl, h0, h1⟩
      · have hv := evs_vr hT h1 hok
        obtain ⟨ds, H1, hg, hm⟩ := h
        obtain ⟨e1, e2⟩ := enter_of hR hv hg hm
        rw [hmap] at e1 e2
        refine fin ?_ e2
        simp only [execOp, ho, resolve, Act.eval, Deferred.ofValue]
        simpa [invoke, Act.eval] using e1
      · simp only [okOp, Bool.and_eq_true] at hok
        have hv := evs_vr hT h1 hok.2
        have hx := ev_vr hT h0 hok.1
        simp only [opW] at h
        split at h
        · rename_i f caps hd
          rw [hd] at hx
          obtain ⟨u, hu, hu'⟩ := VRs.of_fn hx
          obtain ⟨ds, H1, hg, hm⟩ := h
          obtain ⟨e1, e2⟩ := enter_of hR (hv.append hu') hg hm
          have hmap2 : (args.toList.map a.eval ++ u).toArray = args.map a.eval ++ u.toArray := by rw [← hmap]; simp
          rw [hmap2] at e1 e2
          refine fin ?_ e2
          simp only [execOp, ho, resolve, hu, Deferred.ofValue]
          simpa [invoke] using e1
        · rename_i l first caps hd
          obtain ⟨rfl, rfl, hm⟩ := h
          rw [hd] at hx
          generalize hvx : a.eval x = vx at *
          cases hx
          obtain ⟨fn, tmps, as, bd, e1, e2⟩ := hm F w _ hR hv
          rw [hmap] at e1
          refine finR ?_ e2
          simp only [execOp, ho, resolve, hvx, Deferred.ofValue]
          simpa [invoke] using e1
        · exact h.elim
    | invoke => simp [rOp, ho] at hr
    | builtin b =>
      have := hr
      simp only [rOp, ho] at this
      repeat' split at this
      all_goals first
        | (cases this; done)
        | (simp only [Option.map_eq_some_iff] at this; obtain ⟨_, _, h2⟩ := this; cases h2; done)
        | (simp only [Option.bind_eq_bind, Option.bind_eq_some_iff, Option.pure_def, Option.some.injEq] at this; obtain ⟨_, _, _, _, h3⟩ := this; cases h3; done)
        | (simp only [Option.bind_eq_bind, Option.bind_eq_some_iff, Option.pure_def] at this; obtain ⟨_, _, _, _, _, _, h2⟩ := this; split at h2 <;> first | (cases h2; done) | (simp only [Option.bind_eq_some_iff, Option.some.injEq] at h2; obtain ⟨_, _, _, _, h3⟩ := h2; cases h3; done))
  | _ => exact absurd (rOp_notCall (fun c => by rw [ho]; simp) hr) (by simp [isCall])

theorem op_in (hR : Rel P F w H) (hT : TR F w n τ a.tmps) {r : ROp} (hr : rOpD P o = r) (hok : okOp n r = true) (h : opW P (M P) r τ H K)
    {next : Act → World → Prop} {Q : Exit → Act → World → Prop} (hnext : ∀ v w' d H' F', Step F w H F' w' H' → Rel P F' w' H' → VR F' w' d v → K d H' → next (a.put o.dst v) w') :
    o.wpIn (FO ro) 0 P a w next Q := by
  have hr : rOp P o = some r := by
    simp only [rOpD] at hr
    cases hq : rOp P o with
    | none =>
      rw [hq] at hr
      subst hr
      exact h.elim
    | some r' => rw [hq] at hr; rw [← hr]; rfl
  cases hc : isCall r with
  | true =>
    cases r with
    | call c rs => exact call_in hR hT hr hok h hnext
    | _ => simp [isCall] at hc
  | false =>
    obtain ⟨nx, v, d, w', H', F', h1, h2, h3, h4, h5, h6⟩ := op_does hR hT hr hok hc h
    refine wpIn_of (rOp_nodefer hr) h1 ?_
    rcases h2 with rfl | ⟨rfl, rfl⟩
    · exact hnext v w' d H' F' h3 h4 h5 h6
    · exact hnext undef w' d H' F' h3 h4 h5 h6

end Go.Fsl
